/- Tables. -/
import Derived.Test.YtkoahnikmckgnaaGreatDoorWsL
import Derived.Laws.StructEq
set_option linter.unusedSimpArgs false
set_option linter.unusedVariables false
namespace Go.Proofs.YtkoahnikmckgnaaGreatDoor.Ws
open Go Go.RowKit

def AllT {α : Type} (q : Nat → α → Prop) : T α → Nat → Nat → Prop
  | .e, _, _ => True
  | .n l v r, a, b => (∀ x, v = some x → q a x) ∧ AllT q l (a + b) (2 * b) ∧ AllT q r (a + 2 * b) (2 * b)

theorem AllT.get {α : Type} {q : Nat → α → Prop} : ∀ {t : T α} {a b : Nat}, AllT q t a b → ∀ {k : Nat} {x : α}, t.get k = some x → q (a + b * k) x
  | .e, _, _, _, k, x, h => by rw [T.get_e] at h; cases h
  | .n l v r, a, b, ⟨h0, h1, h2⟩, 0, x, h => by simpa [T.get_zero] using h0 x (by simpa [T.get_zero] using h)
  | .n l v r, a, b, ⟨h0, h1, h2⟩, p + 1, x, h => by
    rcases Nat.mod_two_eq_zero_or_one p with hp | hp
    · simp only [T.get_succ, hp] at h
      have := AllT.get h1 h
      have e : a + b + 2 * b * (p / 2) = a + b * (p + 1) := by
        have hp2 : p = 2 * (p / 2) := by omega
        generalize p / 2 = m at *
        subst hp2
        rw [Nat.mul_add, Nat.mul_one, Nat.mul_assoc, Nat.mul_left_comm 2 b m]
        omega
      rwa [e] at this
    · simp only [T.get_succ, hp] at h
      have := AllT.get h2 h
      have e : a + 2 * b + 2 * b * (p / 2) = a + b * (p + 1) := by
        have hp2 : p = 2 * (p / 2) + 1 := by omega
        generalize p / 2 = m at *
        subst hp2
        rw [Nat.mul_add, Nat.mul_add, Nat.mul_one, Nat.mul_assoc, Nat.mul_left_comm 2 b m]
        omega
      rwa [e] at this

theorem AllT.at {α : Type} {q : Nat → α → Prop} {t : T α} (h : AllT q t 0 1) {k : Nat} {x : α} (hk : t.get k = some x) : q k x := by
  have := h.get hk
  rwa [Nat.zero_add, Nat.one_mul] at this

theorem one {α : Type} {q : α → Prop} {y : α} (h : q y) : ∀ x, some y = some x → q x := fun _ e => Option.some.inj e ▸ h
theorem nope {α : Type} {q : α → Prop} : ∀ x, (none : Option α) = some x → q x := fun _ e => nomatch e

def okRaw (p : Value → Bool) : Option (AV × AH) → Bool
  | some (.raw r, _) => p r
  | _ => false

theorem okRaw_spec {p : Value → Bool} {o : Option (AV × AH)} (h : okRaw p o = true) : ∃ r H, o = some (.raw r, H) ∧ p r = true := by
  unfold okRaw at h
  split at h
  · exact ⟨_, _, rfl, h⟩
  · cases h

end Go.Proofs.YtkoahnikmckgnaaGreatDoor.Ws

/- Structs that are compared or looked up by their cells. -/
namespace Go.Proofs.YtkoahnikmckgnaaGreatDoor.Ws
open Go Go.RowKit

def leafD : Nat → TypeDesc → Bool
  | 0, .int _ => true
  | 1, .bool => true
  | 2, .string => true
  | _, _ => false

/-- fields that are leaves, one after the other from a place on -/
def Flat (P : Program) : List Field → List Nat → Nat → Prop
  | [], [], _ => True
  | f :: fs, k :: ly, o => f.name ≠ "_" ∧ f.offset = o ∧ (∃ d, P.underlying f.type = some d ∧ leafD k d = true) ∧ Flat P fs ly (o + 1)
  | _, _, _ => False

theorem leaf_agg {P : Program} {t : TypeId} {d : TypeDesc} {k : Nat} (hu : P.underlying t = some d) (hl : leafD k d = true) (w : World) : (isAgg t).run P w = .ok false w := by
  rw [run_isAgg' hu]
  unfold leafD at hl
  split at hl <;> first | rfl | cases hl

theorem part_leaf {P : Program} {t : TypeId} {d : TypeDesc} {k : Nat} (hu : P.underlying t = some d) (hl : leafD k d = true) {xs : Array Value} {o : Nat} {v : Value} (hx : xs[o]? = some v) (w : World) :
    (part t xs o).run P w = .ok v w := by
  simp [part, leaf_agg hu hl, hx]

theorem shOk_cons {k : Nat} {ly : List Nat} {xs : List Value} (h : shOk (k :: ly) xs = true) : ∃ v l, xs = v :: l ∧ leafKind v = k ∧ shOk ly l = true := by
  cases xs with
  | nil => simp [shOk] at h
  | cons v l =>
    simp only [shOk] at h
    split at h
    · rename_i hk
      exact ⟨v, l, rfl, (nbeq_iff.1 hk).symm, h⟩
    · cases h

theorem drop_cons {α : Type} {l : List α} {o : Nat} {v : α} {r : List α} (h : l.drop o = v :: r) : l[o]? = some v ∧ l.drop (o + 1) = r := by
  constructor
  · rw [← List.head?_drop, h]; rfl
  · rw [← List.tail_drop, h]; rfl

theorem equal_leaf {P : Program} {t : TypeId} {d : TypeDesc} {k : Nat} (hu : P.underlying t = some d) (hl : leafD k d = true) {x y : Value} (hx : leafKind x = k) (hy : leafKind y = k) {b : Bool} (h : rawEq x y = some b) (n : Nat) (w : World) :
    (Op.equalIn (n + 1) t x y).run P w = .ok b w := by
  cases x with
  | bool b1 => cases y with
    | bool b2 =>
      simp only [leafKind] at hx
      subst hx
      cases h
      cases d <;> simp [leafD] at hl
      rw [run_equalIn_bool w n t b1 b2 hu]
    | _ => cases h
  | string s1 => cases y with
    | string s2 =>
      simp only [leafKind] at hx
      subst hx
      cases h
      cases d <;> simp [leafD] at hl
      rw [run_equalIn_string w n t s1 s2 hu, ← beq_toListBytes]
    | _ => cases h
  | int k1 n1 => cases y with
    | int k2 n2 =>
      simp only [leafKind] at hx
      subst hx
      cases d <;> simp [leafD] at hl
      simp only [rawEq] at h
      split at h
      · rename_i hk
        cases beqF_true hk
        cases h
        rw [run_equalIn_int w n t k1 _ n1 n2 hu]
      · cases h
    | _ => cases h
  | _ => cases h

theorem eqFields_flat {P : Program} {w : World} {n : Nat} {xs ys : Array Value} : ∀ (fs : List Field) (ly : List Nat) (o : Nat) (b : Bool), Flat P fs ly o → shOk ly (xs.toList.drop o) = true → shOk ly (ys.toList.drop o) = true →
    rawValsEq (xs.toList.drop o) (ys.toList.drop o) = some b → (Op.eqFields (n + 1) xs ys fs).run P w = .ok b w
  | [], [], o, b, _, h1, h2, h => by
    have e1 : xs.toList.drop o = [] := by cases hx : xs.toList.drop o with | nil => rfl | cons => rw [hx] at h1; simp [shOk] at h1
    have e2 : ys.toList.drop o = [] := by cases hx : ys.toList.drop o with | nil => rfl | cons => rw [hx] at h2; simp [shOk] at h2
    rw [e1, e2] at h
    cases h
    simp [Op.eqFields]
  | f :: fs, k :: ly, o, b, hf, h1, h2, h => by
    obtain ⟨hn, ho, ⟨d, hu, hl⟩, hf⟩ := hf
    obtain ⟨x, l, e1, k1, h1⟩ := shOk_cons h1
    obtain ⟨y, m, e2, k2, h2⟩ := shOk_cons h2
    obtain ⟨x1, x2⟩ := drop_cons e1
    obtain ⟨y1, y2⟩ := drop_cons e2
    rw [e1, e2] at h
    simp only [rawValsEq] at h
    have hpx : (part f.type xs f.offset).run P w = .ok x w := part_leaf hu hl (by rw [ho]; simpa using x1) w
    have hpy : (part f.type ys f.offset).run P w = .ok y w := part_leaf hu hl (by rw [ho]; simpa using y1) w
    simp only [Op.eqFields, if_pos hn, Sem.run_bind, hpx, hpy, Result.andThen_ok]
    split at h
    · rename_i hq
      rw [equal_leaf hu hl k1 k2 hq]
      simp only [Result.andThen_ok, Bool.not_true, Bool.false_eq_true, if_false]
      exact eqFields_flat fs ly (o + 1) b hf (by rw [x2]; exact h1) (by rw [y2]; exact h2) (by rw [x2, y2]; exact h)
    · rename_i hq
      rw [equal_leaf hu hl k1 k2 hq]
      split at h
      · cases h; simp
      · cases h
    · cases h
  | [], _ :: _, _, _, hf, _, _, _ => hf.elim
  | _ :: _, [], _, _, hf, _, _, _ => hf.elim

theorem shEq_inv {ly : List Nat} {xs ys : List Value} {b : Bool} (h : shEq ly xs ys = some b) : shOk ly xs = true ∧ shOk ly ys = true ∧ rawValsEq xs ys = some b := by
  unfold shEq at h
  split at h
  · rename_i h1 h2; exact ⟨h1, h2, h⟩
  · cases h

theorem equalIn_flat {P : Program} {t : TypeId} (n : Nat) (hu : P.underlying t = some (.struct (P.fieldsOf t))) (hs : P.stoodInHeld t = false) {ly : List Nat} (hf : Flat P (P.fieldsOf t).toList ly 0) {xs ys : Array Value} {b : Bool} (h : shEq ly xs.toList ys.toList = some b) (w : World) :
    (Op.equalIn (n + 2) t (.agg xs) (.agg ys)).run P w = .ok b w := by
  obtain ⟨h1, h2, h3⟩ := shEq_inv h
  rw [run_equalIn_struct w (n + 1) t xs ys hu hs]
  exact eqFields_flat _ ly 0 b hf (by simpa using h1) (by simpa using h2) (by simpa using h3)

theorem checkKey_leaf {P : Program} {t : TypeId} {d : TypeDesc} {k : Nat} (hu : P.underlying t = some d) (hl : leafD k d = true) (e : Bool) (n : Nat) (v : Value) (w : World) : (Instr.checkKey e (n + 1) t v).run P w = .ok () w := by
  unfold leafD at hl
  split at hl <;> first
    | (cases hl; done)
    | (cases v <;> simp [Instr.checkKey, run_underlying hu])

theorem checkFields {P : Program} {w : World} {e : Bool} {n : Nat} {xs : Array Value} : ∀ (fs : List Field), (∀ f ∈ fs, ∃ v, (part f.type xs f.offset).run P w = .ok v w ∧ (Instr.checkKey e n f.type v).run P w = .ok () w) →
    (forIn fs PUnit.unit (fun (f : Field) (_ : PUnit) => do
      if f.name ≠ "_" then Instr.checkKey e n f.type (← part f.type xs f.offset)
      pure (ForInStep.yield PUnit.unit)) : Sem PUnit).run P w = .ok PUnit.unit w
  | [], _ => by simp
  | f :: fs, h => by
    obtain ⟨v, h1, h2⟩ := h f (by simp)
    simp only [List.forIn_cons, Sem.run_bind]
    by_cases hn : f.name ≠ "_"
    · simp [hn, h1, h2]
      simpa using checkFields fs fun g hg => h g (by simp [hg])
    · simp [hn]
      simpa using checkFields fs fun g hg => h g (by simp [hg])

theorem checkKey_struct {P : Program} {w : World} {e : Bool} {n : Nat} {t : TypeId} {fs : Array Field} {xs : Array Value} (hu : P.underlying t = some (.struct fs)) (h : ∀ f ∈ fs.toList, ∃ v, (part f.type xs f.offset).run P w = .ok v w ∧ (Instr.checkKey e n f.type v).run P w = .ok () w) :
    (Instr.checkKey e (n + 1) t (.agg xs)).run P w = .ok () w := by
  have := checkFields (P := P) (w := w) (e := e) (n := n) (xs := xs) fs.toList h
  simp only [Instr.checkKey, Sem.run_bind, run_underlying hu, Result.andThen_ok]
  rw [← Array.forIn_toList]
  simp at this ⊢
  rw [this]
  rfl

theorem flat_at {P : Program} : ∀ (fs : List Field) (ly : List Nat) (o : Nat), Flat P fs ly o → ∀ f ∈ fs, f.offset < o + fs.length ∧ ∃ d k, P.underlying f.type = some d ∧ leafD k d = true
  | [], _, _, _, f, h => by cases h
  | g :: fs, [], _, hf, f, h => hf.elim
  | g :: fs, k :: ly, o, hf, f, h => by
    obtain ⟨hn, ho, ⟨d, hu, hl⟩, hf⟩ := hf
    rcases List.mem_cons.1 h with rfl | h
    · exact ⟨by simp [ho], d, k, hu, hl⟩
    · obtain ⟨h1, h2⟩ := flat_at fs ly (o + 1) hf f h
      exact ⟨by simp only [List.length_cons]; omega, h2⟩

theorem checkKey_flat {P : Program} {w : World} {e : Bool} {n : Nat} {t : TypeId} {fs : Array Field} {xs : Array Value} (hu : P.underlying t = some (.struct fs)) {ly : List Nat} (hf : Flat P fs.toList ly 0) (hs : xs.size = fs.size) :
    (Instr.checkKey e (n + 2) t (.agg xs)).run P w = .ok () w := by
  refine checkKey_struct hu fun f hm => ?_
  obtain ⟨h1, d, k, h2, h3⟩ := flat_at _ ly 0 hf f hm
  have h1 : f.offset < xs.size := by rw [hs]; simpa using h1
  exact ⟨xs[f.offset], part_leaf h2 h3 (Array.getElem?_eq_getElem h1) w, checkKey_leaf h2 h3 e n _ w⟩

end Go.Proofs.YtkoahnikmckgnaaGreatDoor.Ws

/- Tables of known calls. -/
namespace Go.Proofs.YtkoahnikmckgnaaGreatDoor.Ws
open Go Go.RowKit
noncomputable section

def rawsEq : List Value → List AV → Bool
  | [], [] => true
  | v :: l, .raw u :: m => match vsame v u with
    | true => rawsEq l m
    | false => false
  | _, _ => false

theorem rawsEq_inv {L : LM} : ∀ {vs : List Value} {args : List AV} {xs : List Value}, rawsEq vs args = true → VRs L args xs → xs = vs
  | [], [], xs, _, hv => by cases hv; rfl
  | v :: l, a :: m, xs, h, hv => by
    cases hv with
    | cons h1 h2 =>
      cases a with
      | raw u =>
        simp only [rawsEq] at h
        split at h
        · rename_i hs
          rw [h1.raw_inv, ← vsame_eq hs, rawsEq_inv h h2]
        · cases h
      | _ => simp [rawsEq] at h
  | [], _ :: _, _, h, _ => by simp [rawsEq] at h
  | _ :: _, [], _, h, _ => by simp [rawsEq] at h

/-- known calls of a function: arguments and results -/
abbrev Known := List (List Value × Value)

def lookA : Known → List AV → Option Value
  | [], _ => none
  | (vs, r) :: l, args => match rawsEq vs args with
    | true => some r
    | false => lookA l args

/-- the call returns this, and nothing that was there changes -/
def OrcAt (P : Program) (f : Nat) (vs : List Value) (r : Value) (w : World) : Prop :=
  (callFunc f vs.toArray).run P w = .ok (.value r) w ∨
  ((callFunc f vs.toArray).run P w = .ok (.enter f vs.toArray) w ∧ Calls P f vs.toArray w fun e w' => e = .returned r ∧ Below w.heap.size w w')

/-- what a table says is so in all worlds above W0 -/
def OrcOk (P : Program) (W0 : World) (orc : Nat → List AV → Option Value) : Prop :=
  ∀ f args r, orc f args = some r → ∀ L vs w, VRs L args vs → Below W0.heap.size W0 w → OrcAt P f vs r w

theorem lookA_ok {P : Program} {w : World} {f : Nat} {L : LM} {args : List AV} {vs : List Value} {r : Value} (hv : VRs L args vs) : ∀ {l : Known}, lookA l args = some r → (∀ p ∈ l, OrcAt P f p.1 p.2 w) → OrcAt P f vs r w
  | [], h, _ => by cases h
  | (us, x) :: l, h, hk => by
    simp only [lookA] at h
    split at h
    · rename_i hs
      cases h
      rw [rawsEq_inv hs hv]
      exact hk (us, r) (by simp)
    · exact lookA_ok hv h fun p hp => hk p (by simp [hp])

/-- one function's known calls before what else is known -/
def orcAdd (f : Nat) (l : Known) (orc : Nat → List AV → Option Value) : Nat → List AV → Option Value := fun g args =>
  match Nat.beq g f with
  | true => lookA l args
  | false => orc g args

theorem OrcOk.add {P : Program} {W0 : World} {orc : Nat → List AV → Option Value} (h : OrcOk P W0 orc) {f : Nat} {l : Known} (hl : ∀ w, Below W0.heap.size W0 w → ∀ p ∈ l, OrcAt P f p.1 p.2 w) : OrcOk P W0 (orcAdd f l orc) := by
  intro g args r hg L vs w hv hw
  unfold orcAdd at hg
  split at hg
  · rename_i e
    have := nbeq_iff.1 e
    subst this
    exact lookA_ok hv hg (hl w hw)
  · exact h g args r hg L vs w hv hw

theorem OrcOk.none {P : Program} {W0 : World} : OrcOk P W0 fun _ _ => Option.none := fun _ _ _ h => nomatch h

/-- what templates say -/
def TplOk (P : Program) (W0 : World) (tpl : Nat → List AV → Option (AV × List ABlk)) : Prop :=
  ∀ f args v bs, tpl f args = some (v, bs) → ∀ L vs w, VRs L args vs → Below W0.heap.size W0 w →
    (callFunc f vs.toArray).run P w = .ok (.enter f vs.toArray) w ∧ Calls P f vs.toArray w fun e w' => ∃ x L0, e = .returned x ∧ (∀ id, ¬ LM.r L0 id) ∧ HR w L0 ⟨blkT 0 bs .e, bs.length⟩ w' ∧ HD L0 ⟨blkT 0 bs .e, bs.length⟩ ∧ VR L0 v x

theorem TplOk.none {P : Program} {W0 : World} : TplOk P W0 fun _ _ => Option.none := fun _ _ _ _ h => nomatch h

def tplAdd (f : Nat) (us : List Value) (v : AV) (bs : List ABlk) (tpl : Nat → List AV → Option (AV × List ABlk)) : Nat → List AV → Option (AV × List ABlk) := fun g args =>
  match Nat.beq g f with
  | true => match rawsEq us args with
    | true => some (v, bs)
    | false => tpl g args
  | false => tpl g args

theorem TplOk.add {P : Program} {W0 : World} {E : Env} (hE : E.Ok P W0) (fuel : Nat) {f : FuncId} {us : List Value} {v : AV} {bs : List ABlk} (h : makes v bs (runFn E (aexec E fuel) f (us.map .raw) AH.zero) = true)
    {tpl : Nat → List AV → Option (AV × List ABlk)} (ht : TplOk P W0 tpl) : TplOk P W0 (tplAdd f us v bs tpl) := by
  intro g args v' bs' hg L vs w hv hw
  unfold tplAdd at hg
  split at hg
  · rename_i e
    split at hg
    · rename_i hs
      cases hg
      have := nbeq_iff.1 e
      subst this
      rw [rawsEq_inv hs hv]
      exact ground_makes (hE.up hw) fuel h
    · exact ht g args v' bs' hg L vs w hv hw
  · exact ht g args v' bs' hg L vs w hv hw

/-- a known call by evaluation -/
theorem orcAt_of {P : Program} {W0 : World} {E : Env} (hE : E.Ok P W0) (fuel : Nat) {f : FuncId} {vs : List Value} {r : Value} (h : runsTo r (runFn E (aexec E fuel) f (vs.map .raw) AH.zero) = true) {w : World} (hw : Below W0.heap.size W0 w) : OrcAt P f vs r w :=
  .inr (ground_call (hE.up hw) fuel h)

end
end Go.Proofs.YtkoahnikmckgnaaGreatDoor.Ws
