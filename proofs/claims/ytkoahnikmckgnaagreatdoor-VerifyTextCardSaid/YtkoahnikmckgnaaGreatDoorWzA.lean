/- The program's interpreter: tables of types, functions, methods, structs that are compared; what is known beside. -/
import Derived.Test.YtkoahnikmckgnaaGreatDoorWzEnv
import Derived.Test.YtkoahnikmckgnaaGreatDoorWsM
import Derived.KernelRfl
set_option linter.unusedSimpArgs false
set_option linter.unusedVariables false
namespace Go.Proofs.YtkoahnikmckgnaaGreatDoor.Ws
open Go Go.Proofs Go.RowKit
noncomputable section
set_option maxRecDepth 100000

def rd : String := "Read"
def mtF (t : Nat) (n : String) : Option FuncId :=
  match decEq n rd with
  | isTrue _ => match Nat.beq t 183 with
    | true => some 576
    | false => match Nat.beq t 186 with
      | true => some 577
      | false => match Nat.beq t 233 with
        | true => some 578
        | false => none
  | isFalse _ => none
theorem mt183 : ∀ v w, (method (Tryz.prog.types.size + Made.depth) 183 v rd).run Tryz.prog w = .ok (576, v) w := fun v w => by kernel_rfl
theorem mt186 : ∀ v w, (method (Tryz.prog.types.size + Made.depth) 186 v rd).run Tryz.prog w = .ok (577, v) w := fun v w => by kernel_rfl
theorem mt233 : ∀ v w, (method (Tryz.prog.types.size + Made.depth) 233 v rd).run Tryz.prog w = .ok (578, v) w := fun v w => by kernel_rfl
theorem mtF_ok : ∀ t n f v w, mtF t n = some f → (method (Tryz.prog.types.size + Made.depth) t v n).run Tryz.prog w = .ok (f, v) w := by
  intro t n f v w h
  unfold mtF at h
  split at h
  · rename_i hn _
    subst hn
    split at h
    · rename_i e; rw [nbeq_iff.1 e]; cases h; exact mt183 v w
    · split at h
      · rename_i e; rw [nbeq_iff.1 e]; cases h; exact mt186 v w
      · split at h
        · rename_i e; rw [nbeq_iff.1 e]; cases h; exact mt233 v w
        · cases h
  · cases h

/-- structs that are compared cell by cell -/
def seqT : T (List Nat) := ((((T.e.put (some [0, 2, 1, 0, 0]) 548).put (some [0, 0, 1]) 137).put (some [2, 0, 0, 0, 1, 0, 0]) 135).put (some [0, 0, 0, 0]) 69)
def seqF (t : Nat) : Bool := match seqT.get t with
  | some _ => true
  | none => false
def layF (t : Nat) : List Nat := match seqT.get t with
  | some l => l
  | none => []

theorem seq_cases {t : Nat} (h : seqF t = true) : t = 548 ∧ layF t = [0, 2, 1, 0, 0] ∨ t = 137 ∧ layF t = [0, 0, 1] ∨ t = 135 ∧ layF t = [2, 0, 0, 0, 1, 0, 0] ∨ t = 69 ∧ layF t = [0, 0, 0, 0] := by
  have key : seqT.get t = if t = 69 then some [0, 0, 0, 0] else if t = 135 then some [2, 0, 0, 0, 1, 0, 0] else if t = 137 then some [0, 0, 1] else if t = 548 then some [0, 2, 1, 0, 0] else none := by
    unfold seqT
    simp only [T.get_put, T.get_nil]
  unfold seqF at h
  unfold layF
  rw [key] at h ⊢
  by_cases e1 : t = 69
  · subst e1; simp
  by_cases e2 : t = 135
  · subst e2; simp
  by_cases e3 : t = 137
  · subst e3; simp
  by_cases e4 : t = 548
  · subst e4; simp
  simp [e1, e2, e3, e4] at h

theorem fl548 : Flat Tryz.prog (Tryz.prog.fieldsOf 548).toList [0, 2, 1, 0, 0] 0 := by
  simp only [Program.fieldsOf, Tryz.underlying548]
  exact ⟨by decide, rfl, ⟨_, Tryz.underlying3, rfl⟩, by decide, rfl, ⟨_, Tryz.underlying9, rfl⟩, by decide, rfl, ⟨_, Tryz.underlying4, rfl⟩, by decide, rfl, ⟨_, Tryz.underlying3, rfl⟩, by decide, rfl, ⟨_, Tryz.underlying3, rfl⟩, trivial⟩
theorem fl137 : Flat Tryz.prog (Tryz.prog.fieldsOf 137).toList [0, 0, 1] 0 := by
  simp only [Program.fieldsOf, Tryz.underlying137]
  exact ⟨by decide, rfl, ⟨_, Tryz.underlying3, rfl⟩, by decide, rfl, ⟨_, Tryz.underlying3, rfl⟩, by decide, rfl, ⟨_, Tryz.underlying4, rfl⟩, trivial⟩
theorem fl135 : Flat Tryz.prog (Tryz.prog.fieldsOf 135).toList [2, 0, 0, 0, 1, 0, 0] 0 := by
  simp only [Program.fieldsOf, Tryz.underlying135]
  exact ⟨by decide, rfl, ⟨_, Tryz.underlying9, rfl⟩, by decide, rfl, ⟨_, Tryz.underlying3, rfl⟩, by decide, rfl, ⟨_, Tryz.underlying3, rfl⟩, by decide, rfl, ⟨_, Tryz.underlying3, rfl⟩, by decide, rfl, ⟨_, Tryz.underlying4, rfl⟩, by decide, rfl, ⟨_, Tryz.underlying3, rfl⟩, by decide, rfl, ⟨_, Tryz.underlying3, rfl⟩, trivial⟩
theorem fl67 : Flat Tryz.prog (Tryz.prog.fieldsOf 67).toList [0, 0, 0] 0 := by
  simp only [Program.fieldsOf, Tryz.underlying67]
  exact ⟨by decide, rfl, ⟨_, Tryz.underlying3, rfl⟩, by decide, rfl, ⟨_, Tryz.underlying3, rfl⟩, by decide, rfl, ⟨_, Tryz.underlying3, rfl⟩, trivial⟩

theorem part67 (xs : Array Value) (w : World) : (part 67 xs 1).run Tryz.prog w = .ok (.agg (xs.extract 1 4)) w := by
  simp [part, Tryz.isAgg67, Tryz.sizeOf67]

theorem eq69 (xs ys : Array Value) (b : Bool) (w : World) (h : shEq [0, 0, 0, 0] xs.toList ys.toList = some b) : (Op.equalIn 10000 69 (.agg xs) (.agg ys)).run Tryz.prog w = .ok b w := by
  obtain ⟨h1, h2, h3⟩ := shEq_inv h
  rw [run_equalIn_struct w 9999 69 xs ys (by rfl) Tryz.stoodInHeld69]
  obtain ⟨xs⟩ := xs
  obtain ⟨ys⟩ := ys
  simp only at h1 h2 h3
  obtain ⟨x, l, rfl, k1, h1⟩ := shOk_cons h1
  obtain ⟨y, m, rfl, k2, h2⟩ := shOk_cons h2
  have hl : l.length = 3 := by
    obtain ⟨_, l, rfl, _, h1⟩ := shOk_cons h1
    obtain ⟨_, l, rfl, _, h1⟩ := shOk_cons h1
    obtain ⟨_, l, rfl, _, h1⟩ := shOk_cons h1
    cases l with
    | nil => rfl
    | cons => simp [shOk] at h1
  have hm : m.length = 3 := by
    obtain ⟨_, m, rfl, _, h2⟩ := shOk_cons h2
    obtain ⟨_, m, rfl, _, h2⟩ := shOk_cons h2
    obtain ⟨_, m, rfl, _, h2⟩ := shOk_cons h2
    cases m with
    | nil => rfl
    | cons => simp [shOk] at h2
  have hx : (⟨x :: l⟩ : Array Value).extract 1 4 = ⟨l⟩ := by
    apply Array.ext'; simp [← hl]
  have hy : (⟨y :: m⟩ : Array Value).extract 1 4 = ⟨m⟩ := by
    apply Array.ext'; simp [← hm]
  have e : Tryz.prog.fieldsOf 69 = #[{ name := "Number", type := 3, offset := 0, embedded := false, tag := "", pkgPath := "", byteOffset := 0 }, { name := "Directory", type := 67, offset := 1, embedded := false, tag := "", pkgPath := "", byteOffset := 8 }] := by simp only [Program.fieldsOf, Tryz.underlying69]
  rw [e]
  simp only [rawValsEq] at h3
  have hpx : (part 3 (⟨x :: l⟩ : Array Value) 0).run Tryz.prog w = .ok x w := part_leaf Tryz.underlying3 (k := 0) rfl (by simp) w
  have hpy : (part 3 (⟨y :: m⟩ : Array Value) 0).run Tryz.prog w = .ok y w := part_leaf Tryz.underlying3 (k := 0) rfl (by simp) w
  have rest : ∀ b', rawValsEq l m = some b' → (Op.equalIn 9999 67 (.agg ⟨l⟩) (.agg ⟨m⟩)).run Tryz.prog w = .ok b' w := fun b' hb =>
    equalIn_flat 9997 (by rfl) Tryz.stoodInHeld67 fl67 (show shEq [0, 0, 0] l m = some b' by unfold shEq; rw [h1, h2]; exact hb) w
  simp only [Op.eqFields, Sem.run_bind, if_pos (show ("Number" : String) ≠ "_" by decide), if_pos (show ("Directory" : String) ≠ "_" by decide), hpx, hpy, Result.andThen_ok]
  split at h3
  · rename_i hq
    rw [equal_leaf Tryz.underlying3 (k := 0) rfl k1 k2 hq]
    simp only [Result.andThen_ok, Bool.not_true, Bool.false_eq_true, if_false, Sem.run_bind, part67, hx, hy]
    rw [rest _ h3]
    cases b <;> simp
  · rename_i hq
    rw [equal_leaf Tryz.underlying3 (k := 0) rfl k1 k2 hq]
    split at h3
    · cases h3; simp
    · cases h3
  · cases h3

theorem seqF_eq (t : Nat) (xs ys : Array Value) (b : Bool) (w : World) (hs : seqF t = true) (h : shEq (layF t) xs.toList ys.toList = some b) : (Op.equal t (.agg xs) (.agg ys)).run Tryz.prog w = .ok b w := by
  show (Op.equalIn 10000 t (.agg xs) (.agg ys)).run Tryz.prog w = .ok b w
  rcases seq_cases hs with ⟨rfl, hl⟩ | ⟨rfl, hl⟩ | ⟨rfl, hl⟩ | ⟨rfl, hl⟩ <;> rw [hl] at h
  · exact equalIn_flat 9998 (by rfl) Tryz.stoodInHeld548 fl548 h w
  · exact equalIn_flat 9998 (by rfl) Tryz.stoodInHeld137 fl137 h w
  · exact equalIn_flat 9998 (by rfl) Tryz.stoodInHeld135 fl135 h w
  · exact eq69 xs ys b w h

theorem seqF_guard (t : Nat) (hs : seqF t = true) : Tryz.prog.eqGuardType Tryz.prog.depth t = false := by
  rcases seq_cases hs with ⟨rfl, _⟩ | ⟨rfl, _⟩ | ⟨rfl, _⟩ | ⟨rfl, _⟩
  · exact Tryz.eqGuardType548
  · exact Tryz.eqGuardType137
  · exact Tryz.eqGuardType135
  · exact Tryz.eqGuardType69

theorem key69 (xs : Array Value) (e : Bool) (w : World) (hx : xs.size = 4) : (Instr.checkKey e 10000 69 (.agg xs)).run Tryz.prog w = .ok () w := by
  refine checkKey_struct (n := 9999) (fs := #[{ name := "Number", type := 3, offset := 0, embedded := false, tag := "", pkgPath := "", byteOffset := 0 }, { name := "Directory", type := 67, offset := 1, embedded := false, tag := "", pkgPath := "", byteOffset := 8 }]) Tryz.underlying69 fun f hf => ?_
  simp only [List.mem_cons, List.not_mem_nil, or_false] at hf
  rcases hf with rfl | rfl
  · exact ⟨xs[0]'(by omega), part_leaf Tryz.underlying3 (k := 0) rfl (Array.getElem?_eq_getElem (show 0 < xs.size by omega)) w, checkKey_leaf Tryz.underlying3 (k := 0) rfl e 9998 _ w⟩
  · refine ⟨_, part67 xs w, ?_⟩
    exact checkKey_flat (n := 9997) (ly := [0, 0, 0]) Tryz.underlying67 (by have := fl67; simpa only [Program.fieldsOf, Tryz.underlying67] using this) (by simp; omega)

theorem size_of {t : Nat} {d : TypeDesc} {i : TypeInfo} (h : tiT.get t = some (d, i)) : Tryz.prog.info? t = some i := (tiT_ok.at h).2

theorem seqF_key (t : Nat) (d : TypeDesc) (i : TypeInfo) (xs : Array Value) (e : Bool) (w : World) (hs : seqF t = true) (ht : tiT.get t = some (d, i)) (hx : xs.size = i.size) : (Instr.checkKey e 10000 t (.agg xs)).run Tryz.prog w = .ok () w := by
  have hi := size_of ht
  rcases seq_cases hs with ⟨rfl, _⟩ | ⟨rfl, _⟩ | ⟨rfl, _⟩ | ⟨rfl, _⟩
  · obtain rfl := Option.some.inj (Tryz.type548.symm.trans hi)
    exact checkKey_flat (n := 9998) (ly := [0, 2, 1, 0, 0]) Tryz.underlying548 (by have := fl548; simpa only [Program.fieldsOf, Tryz.underlying548] using this) hx
  · obtain rfl := Option.some.inj (Tryz.type137.symm.trans hi)
    exact checkKey_flat (n := 9998) (ly := [0, 0, 1]) Tryz.underlying137 (by have := fl137; simpa only [Program.fieldsOf, Tryz.underlying137] using this) hx
  · obtain rfl := Option.some.inj (Tryz.type135.symm.trans hi)
    exact checkKey_flat (n := 9998) (ly := [2, 0, 0, 0, 1, 0, 0]) Tryz.underlying135 (by have := fl135; simpa only [Program.fieldsOf, Tryz.underlying135] using this) hx
  · obtain rfl := Option.some.inj (Tryz.type69.symm.trans hi)
    exact key69 xs e w hx

def mkH3 (orc : Nat → List AV → Option Value) (tpl : Nat → List AV → Option (AV × List ABlk)) (hp : Nat → List AV → AH → Option (AV × AH)) : Env :=
  { ti := tiT.get, fn := fnT.get, mt := mtF, seq := seqF, lay := layF, orc := orc, tpl := tpl, hp := hp }
def mkE (orc : Nat → List AV → Option Value) (tpl : Nat → List AV → Option (AV × List ABlk)) : Env := mkH3 orc tpl fun _ _ _ => none

theorem mkH3_ok {W0 : World} {orc : Nat → List AV → Option Value} {tpl : Nat → List AV → Option (AV × List ABlk)} {hp : Nat → List AV → AH → Option (AV × AH)} (ho : OrcOk Tryz.prog W0 orc) (ht : TplOk Tryz.prog W0 tpl) (hh : HpOk Tryz.prog W0 hp) : (mkH3 orc tpl hp).Ok Tryz.prog W0 where
  ti := fun _ _ _ h => tiT_ok.at h
  fn := fun _ _ h => fnT_ok.at h
  mt := mtF_ok
  seqEq := seqF_eq
  seqGuard := seqF_guard
  seqKey := seqF_key
  orc := ho
  tpl := ht
  hp := hh
  mixed := by kernel_rfl
theorem mkE_ok {W0 : World} {orc : Nat → List AV → Option Value} {tpl : Nat → List AV → Option (AV × List ABlk)} (ho : OrcOk Tryz.prog W0 orc) (ht : TplOk Tryz.prog W0 tpl) : (mkE orc tpl).Ok Tryz.prog W0 := mkH3_ok ho ht HpOk.none

def E0 : Env := mkE (fun _ _ => none) (fun _ _ => none)
theorem E0_ok (W0 : World) : E0.Ok Tryz.prog W0 := mkE_ok OrcOk.none TplOk.none

end
end Go.Proofs.YtkoahnikmckgnaaGreatDoor.Ws
