/- The operations that only read. -/
import Derived.Test.YtkoahnikmckgnaaGreatDoorWsC
import Derived.Laws.Slices
set_option linter.unusedSimpArgs false
set_option linter.unusedVariables false
namespace Go.Proofs.YtkoahnikmckgnaaGreatDoor.Ws
open Go Go.RowKit

noncomputable def blkT : Nat → List ABlk → T ABlk → T ABlk
  | _, [], t => t
  | i, b :: bs, t => blkT (i + 1) bs (t.put (some b) i)

structure Env.Ok (E : Env) (P : Program) (W0 : World) : Prop where
  ti : ∀ t d i, E.ti t = some (d, i) → P.underlying t = some d ∧ P.info? t = some i
  fn : ∀ f F, E.fn f = some F → P.funcs[f]? = some F ∧ ∀ (args : Array Value) (w : World), (callFunc f args).run P w = .ok (.enter f args) w
  mt : ∀ t n f v w, E.mt t n = some f → (method (P.types.size + Made.depth) t v n).run P w = .ok (f, v) w
  seqEq : ∀ t (xs ys : Array Value) b w, E.seq t = true → shEq (E.lay t) xs.toList ys.toList = some b → (Op.equal t (.agg xs) (.agg ys)).run P w = .ok b w
  seqGuard : ∀ t, E.seq t = true → P.eqGuardType P.depth t = false
  seqKey : ∀ t d i (xs : Array Value) e w, E.seq t = true → E.ti t = some (d, i) → xs.size = i.size → (Instr.checkKey e 10000 t (.agg xs)).run P w = .ok () w
  orc : ∀ f args r, E.orc f args = some r → ∀ L vs w, VRs L args vs → Below W0.heap.size W0 w →
    (callFunc f vs.toArray).run P w = .ok (.value r) w ∨
    ((callFunc f vs.toArray).run P w = .ok (.enter f vs.toArray) w ∧ Calls P f vs.toArray w fun e w' => e = .returned r ∧ Below w.heap.size w w')
  tpl : ∀ f args v bs, E.tpl f args = some (v, bs) → ∀ L vs w, VRs L args vs → Below W0.heap.size W0 w →
    (callFunc f vs.toArray).run P w = .ok (.enter f vs.toArray) w ∧ Calls P f vs.toArray w fun e w' => ∃ x L0, e = .returned x ∧ (∀ id, ¬ L0.r id) ∧ HR w L0 ⟨blkT 0 bs .e, bs.length⟩ w' ∧ HD L0 ⟨blkT 0 bs .e, bs.length⟩ ∧ VR L0 v x
  hp : ∀ f args H v H', E.hp f args H = some (v, H') → ∀ W1, Below W0.heap.size W0 W1 → ∀ L w vs, VRs L args vs → HR W1 L H w → HD L H →
    (callFunc f vs.toArray).run P w = .ok (.enter f vs.toArray) w ∧ Calls P f vs.toArray w fun e w' => ∃ x L', e = .returned x ∧ LE L L' ∧ HR W1 L' H' w' ∧ HD L' H' ∧ VR L' v x
  mixed : P.follows .mixedOrders = true

section
variable {P : Program} {W0 : World} {E : Env} {L : LM} {H : AH} {w : World}

theorem VR.ptr_inv {id off : Nat} {x : Value} (h : VR L (.ptr id off) x) : ∃ l, L id = some l ∧ x = .pointer (some ⟨l.b, l.o + off, none⟩) := by
  cases h with | ptr h => exact ⟨_, h, rfl⟩
theorem VR.slc_inv {id off len cap : Nat} {x : Value} (h : VR L (.slc id off len cap) x) : ∃ l, L id = some l ∧ x = .slice (some ⟨l.b, l.o + off, none⟩) len cap := by
  cases h with | slc h => exact ⟨_, h, rfl⟩
theorem VR.slu_inv {id off len sz : Nat} {x : Value} (h : VR L (.slu id off len sz) x) :
    ∃ l cap, L id = some l ∧ 0 < sz ∧ off + cap * sz = l.e ∧ len ≤ cap ∧ x = .slice (some ⟨l.b, l.o + off, none⟩) len cap := by
  cases h with | slu h a b c => exact ⟨_, _, h, a, b, c, rfl⟩
theorem VR.emp_inv {x : Value} (h : VR L .emp x) : ∃ a cap, x = .slice (some a) 0 cap := by
  cases h with | emp a c => exact ⟨_, _, rfl⟩
theorem VR.raw_inv {v x : Value} (h : VR L (.raw v) x) : x = v := by
  cases h with | raw => rfl
theorem VR.map_inv {id : Nat} {x : Value} (h : VR L (.map id) x) : ∃ l, L id = some l ∧ x = .map (some l.b) := by
  cases h with | map h => exact ⟨_, h, rfl⟩

theorem natOf_inv {v : AV} {n : Nat} {x : Value} (h : natOf v = some n) (hv : VR L v x) : ∃ k, x = .int k n := by
  unfold natOf at h
  split at h
  · cases h; exact ⟨_, hv.raw_inv⟩
  · cases h

theorem load_run (hE : E.Ok P W0) (hr : HR W0 L H w) {t : TypeId} {a v : AV} {x : Value} (h : aload E H t a = some v) (ha : VR L a x) :
    ∃ y, (Instr.loadAt t x).run P w = .ok y w ∧ VR L v y := by
  unfold aload at h
  split at h
  · rename_i id off
    obtain ⟨l, hl, rfl⟩ := ha.ptr_inv
    split at h
    · rename_i d i ht
      obtain ⟨hd, hi⟩ := hE.ti _ _ _ ht
      split at h
      · rename_i hag
        split at h
        · rename_i vs hv
          cases h
          obtain ⟨xs, h1, h2, h3, h4⟩ := loadB_spec hr hl hv
          refine ⟨.agg xs.toArray, ?_, .agg (by simpa using h1)⟩
          have hc := run_loadCells_list (P := P) w ⟨l.b, l.o + off, none⟩ xs (fun j x hx => by rw [addr_add]; exact h4 j x hx)
          rw [h2] at hc
          simp [Instr.loadAt, Instr.sureAddr, loadVar, run_isAgg' hd, hag, run_size' hi, hc]
        · cases h
      · rename_i hag
        split at h
        · rename_i u hv
          cases h
          obtain ⟨xs, h1, h2, h3, h4⟩ := loadB_spec hr hl hv
          cases h1 with
          | cons hx hn =>
            rename_i y ys
            have h5 := h4 0 y (by simp)
            refine ⟨y, ?_, hx⟩
            simp at h5
            simp [Instr.loadAt, Instr.sureAddr, loadVar, run_isAgg' hd, hag, h5]
        · cases h
    · cases h
  · cases h

theorem fieldSize_inv (hE : E.Ok P W0) {t : TypeId} {n : Nat} (h : fieldSize E t = some n) : ∃ i, P.info? t = some i ∧ i.size = n := by
  unfold fieldSize at h
  split at h
  · rename_i d i ht
    cases h
    exact ⟨i, (hE.ti _ _ _ ht).2, rfl⟩
  · cases h

theorem fieldAddr_run (hE : E.Ok P W0) {t : TypeId} {a v : AV} {f : Nat} {x : Value} (h : afieldAddr E t a f = some v) (ha : VR L a x) :
    ∃ y, (Instr.fieldAt t x f).run P w = .ok y w ∧ VR L v y := by
  unfold afieldAddr at h
  split at h
  · rename_i fields i id off ht
    obtain ⟨hd, hi⟩ := hE.ti _ _ _ ht
    obtain ⟨l, hl, rfl⟩ := ha.ptr_inv
    split at h
    · rename_i fd hf
      split at h
      · rename_i m hm
        cases h
        obtain ⟨fi, hfi, hsz⟩ := fieldSize_inv hE hm
        refine ⟨_, ?_, VR.ptr hl⟩
        simp [Instr.fieldAt, run_under' hd, hf, Instr.sureAddr, fieldPlace, run_size' hfi, hsz, addr_add, Nat.add_assoc]
      · cases h
    · cases h
  · cases h

theorem indexAddr_run (hE : E.Ok P W0) {t : TypeId} {a ix v : AV} {x y : Value} (h : aindexAddr E t a ix = some v) (ha : VR L a x) (hi : VR L ix y) :
    ∃ z, (Instr.indexAt t x y).run P w = .ok z w ∧ VR L v z := by
  unfold aindexAddr at h
  split at h
  · rename_i d ti i ht hn
    obtain ⟨hd, _⟩ := hE.ti _ _ _ ht
    obtain ⟨k, rfl⟩ := natOf_inv hn hi
    split at h
    · rename_i n elem id off
      obtain ⟨l, hl, rfl⟩ := ha.ptr_inv
      split at h
      · rename_i s h1 h2
        cases h
        obtain ⟨ei, hei, hsz⟩ := fieldSize_inv hE h2
        have hlt : i < n := by simpa [Nat.blt_eq] using h1
        refine ⟨_, ?_, VR.ptr hl⟩
        simp [Instr.indexAt, asIntOf, run_under' hd, Instr.sureAddr, hlt, run_size' hei, hsz, addr_add, Nat.add_assoc]
      · cases h
    · rename_i elem id off len cap
      obtain ⟨l, hl, rfl⟩ := ha.slc_inv
      split at h
      · rename_i s h1 h2
        cases h
        obtain ⟨ei, hei, hsz⟩ := fieldSize_inv hE h2
        have hlt : i < len := by simpa [Nat.blt_eq] using h1
        refine ⟨_, ?_, VR.ptr hl⟩
        simp [Instr.indexAt, asIntOf, run_under' hd, hlt, run_size' hei, hsz, addr_add, Nat.add_assoc]
      · cases h
    · rename_i elem id off len cap
      obtain ⟨l, cap, hl, _, _, _, rfl⟩ := ha.slu_inv
      split at h
      · rename_i s h1 h2
        cases h
        obtain ⟨ei, hei, hsz⟩ := fieldSize_inv hE h2
        have hlt : i < len := by simpa [Nat.blt_eq] using h1
        refine ⟨_, ?_, VR.ptr hl⟩
        simp [Instr.indexAt, asIntOf, run_under' hd, hlt, run_size' hei, hsz, addr_add, Nat.add_assoc]
      · cases h
    · cases h
  · cases h

theorem part_run (hE : E.Ok P W0) {t : TypeId} {cs : List AV} {off : Nat} {v : AV} {xs : Array Value} (h : apart E t cs off = some v) (hc : VRs L cs xs.toList) :
    ∃ y, (part t xs off).run P w = .ok y w ∧ VR L v y := by
  unfold apart at h
  split at h
  · rename_i d i ht
    obtain ⟨hd, hi⟩ := hE.ti _ _ _ ht
    split at h
    · rename_i hag
      split at h
      · cases h
        refine ⟨.agg (xs.extract off (off + i.size)), ?_, .agg ?_⟩
        · simp [part, run_isAgg' hd, hag, run_size' hi]
        · simpa [List.drop_take] using (hc.drop off).take i.size
      · cases h
    · rename_i hag
      obtain ⟨y, hy, hv⟩ := hc.get off v h
      refine ⟨y, ?_, hv⟩
      have : xs[off]? = some y := by simpa using hy
      simp [part, run_isAgg' hd, hag, this]
  · cases h

theorem field_run (hE : E.Ok P W0) {t : TypeId} {a v : AV} {f : Nat} {x : Value} (h : afield E t a f = some v) (ha : VR L a x) :
    ∃ y, (Instr.field t x f).run P w = .ok y w ∧ VR L v y := by
  unfold afield at h
  split at h
  · rename_i fields i cs ht hc
    obtain ⟨hd, _⟩ := hE.ti _ _ _ ht
    obtain ⟨xs, rfl, hxs⟩ := ha.aggOf hc
    split at h
    · rename_i fd hf
      obtain ⟨y, hy, hv⟩ := part_run (w := w) hE h hxs
      exact ⟨y, by simp [Instr.field, run_under' hd, hf, asAgg, hy], hv⟩
    · cases h
  · cases h

theorem index_run (hE : E.Ok P W0) {t : TypeId} {a ix v : AV} {x y : Value} (h : aindex E t a ix = some v) (ha : VR L a x) (hi : VR L ix y) :
    ∃ z, (Instr.index t x y).run P w = .ok z w ∧ VR L v z := by
  unfold aindex at h
  split at h
  · rename_i d ti i ht hn
    obtain ⟨hd, _⟩ := hE.ti _ _ _ ht
    obtain ⟨k, rfl⟩ := natOf_inv hn hi
    split at h
    · rename_i s
      cases ha.raw_inv
      split at h
      · rename_i b hb
        cases h
        refine ⟨_, ?_, VR.raw _⟩
        have hb' : s[i]? = some b := by
          obtain ⟨hlt, he⟩ := List.getElem?_eq_some_iff.1 hb
          have hlt' : i < s.size := by simpa using hlt
          rw [show s[i]? = some s[i] from getElem?_pos s i hlt']
          congr 1
        simp [Instr.index, asIntOf, run_under' hd, hb']
      · cases h
    · rename_i n elem
      split at h
      · rename_i cs s hc h1 h2
        obtain ⟨xs, rfl, hxs⟩ := ha.aggOf hc
        have hlt : i < n := by simpa [Nat.blt_eq] using h1
        obtain ⟨ei, hei, hsz⟩ := fieldSize_inv hE h2
        obtain ⟨z, hz, hv⟩ := part_run (w := w) hE h hxs
        refine ⟨z, ?_, hv⟩
        simp [Instr.index, asIntOf, run_under' hd, hlt, run_size' hei, hsz, hz]
      · cases h
    · cases h
  · cases h

theorem extract_run {a v : AV} {i : Nat} {x : Value} (h : aextract a i = some v) (ha : VR L a x) :
    ∃ y, (Instr.extract x i).run P w = .ok y w ∧ VR L v y := by
  unfold aextract at h
  split at h
  · cases ha with
    | tup hs =>
      obtain ⟨y, hy, hv⟩ := hs.get i v h
      refine ⟨y, ?_, hv⟩
      simp only [Array.getElem?_toList] at hy
      simp [Instr.extract, hy]
  · rename_i vs
    cases ha.raw_inv
    split at h
    · rename_i u hu
      cases h
      exact ⟨u, by simp [Instr.extract, hu], .raw _⟩
    · cases h
  · cases h

theorem arrayAt_run (hE : E.Ok P W0) {t : TypeId} {a v : AV} {x : Value} (h : aarrayAt E t a = some v) (ha : VR L a x) :
    ∃ y, (Instr.arrayAt t x).run P w = .ok y w ∧ VR L v y := by
  unfold aarrayAt at h
  split at h
  · rename_i n e i id off len cap ht
    obtain ⟨hd, _⟩ := hE.ti _ _ _ ht
    obtain ⟨l, hl, rfl⟩ := ha.slc_inv
    split at h
    · rename_i hb
      cases h
      have hb := Nat.le_of_ble_eq_true hb
      refine ⟨_, ?_, VR.ptr hl⟩
      simp [Instr.arrayAt, run_under' hd, Nat.not_lt.2 hb]
    · cases h
  · rename_i n e i id off len sz ht
    obtain ⟨hd, _⟩ := hE.ti _ _ _ ht
    obtain ⟨l, cap, hl, _, _, _, rfl⟩ := ha.slu_inv
    split at h
    · rename_i hb
      cases h
      have hb := Nat.le_of_ble_eq_true hb
      refine ⟨_, ?_, VR.ptr hl⟩
      simp [Instr.arrayAt, run_under' hd, Nat.not_lt.2 hb]
    · cases h
  · cases h

end
end Go.Proofs.YtkoahnikmckgnaaGreatDoor.Ws

/- More operations that only read. -/
namespace Go.Proofs.YtkoahnikmckgnaaGreatDoor.Ws
open Go Go.RowKit

section
variable {P : Program} {W0 : World} {E : Env} {L : LM} {H : AH} {w : World}

/-- an optional operand -/
inductive OVR (L : LM) : Option AV → Option Value → Prop
  | none : OVR L .none .none
  | some {v : AV} {x : Value} (h : VR L v x) : OVR L (.some v) (.some x)

theorem run_bound {x : Value} {k : IntKind} {n y : Nat} {code : BoundsCode} (hx : x = .int k n) (h : n ≤ y) : (Instr.sliceBound x y code).run P w = .ok n w := by
  subst hx
  simp [Instr.sliceBound, asIntOf, h]

/-- the bounds of a slice expression: each given one as a number -/
theorem run_bounds (isSlice : Bool) {len cap l h m : Nat} {lo hi mx : Option AV} {lo' hi' mx' : Option Value} (hl : OVR L lo lo') (hh : OVR L hi hi') (hm : OVR L mx mx')
    (h1 : optNat 0 lo = some l) (h2 : optNat len hi = some h) (h3 : optNat cap mx = some m) (h4 : l ≤ h) (h5 : h ≤ m) (h6 : m ≤ cap) (h7 : hi' = none → mx' = none) :
    (Instr.sliceBounds isSlice len cap lo' hi' mx').run P w = .ok (l, h, m) w := by
  have h46 : h ≤ cap := Nat.le_trans h5 h6
  cases hm with
  | none =>
    simp only [optNat, Option.some.injEq] at h3
    subst h3
    cases hh with
    | none =>
      simp only [optNat, Option.some.injEq] at h2
      subst h2
      cases hl with
      | none => simp only [optNat, Option.some.injEq] at h1; subst h1; simp [Instr.sliceBounds]
      | some hv => obtain ⟨k, rfl⟩ := natOf_inv h1 hv; simp [Instr.sliceBounds, Instr.sliceBound, asIntOf, h4]
    | some hv =>
      obtain ⟨k, rfl⟩ := natOf_inv h2 hv
      cases hl with
      | none => simp only [optNat, Option.some.injEq] at h1; subst h1; simp [Instr.sliceBounds, Instr.sliceBound, asIntOf, h5]
      | some hv => obtain ⟨k, rfl⟩ := natOf_inv h1 hv; simp [Instr.sliceBounds, Instr.sliceBound, asIntOf, h4, h5]
  | some hv =>
    obtain ⟨k, rfl⟩ := natOf_inv h3 hv
    cases hh with
    | none => cases h7 rfl
    | some hv =>
      obtain ⟨k, rfl⟩ := natOf_inv h2 hv
      cases hl with
      | none => simp only [optNat, Option.some.injEq] at h1; subst h1; simp [Instr.sliceBounds, Instr.sliceBound, asIntOf, h5, h6]
      | some hv => obtain ⟨k, rfl⟩ := natOf_inv h1 hv; simp [Instr.sliceBounds, Instr.sliceBound, asIntOf, h4, h5, h6]

theorem blt_true {a b : Nat} (h : Nat.blt a b = true) : a < b := by simpa [Nat.blt_eq] using h
theorem ble_true {a b : Nat} (h : Nat.ble a b = true) : a ≤ b := Nat.le_of_ble_eq_true h
theorem beq_true {a b : Nat} (h : Nat.beq a b = true) : a = b := Nat.eq_of_beq_eq_true h

/-- 'max' is not given without 'high' (the translation gives no such text). -/
def maxFits (hi mx : Option AV) : Prop := hi = none → mx = none

theorem slice_run (hE : E.Ok P W0) {t : TypeId} {a v : AV} {lo hi mx : Option AV} {x : Value} {lo' hi' mx' : Option Value} (h : aslice E t a lo hi mx = some v)
    (ha : VR L a x) (hl : OVR L lo lo') (hh : OVR L hi hi') (hm : OVR L mx mx') (hf : hi' = none → mx' = none) :
    ∃ y, (Instr.sliceAt t x lo' hi' mx').run P w = .ok y w ∧ VR L v y := by
  unfold aslice at h
  simp only [exF_eq] at h
  split at h
  · rename_i d ti ht
    obtain ⟨hd, _⟩ := hE.ti _ _ _ ht
    split at h
    · -- a string
      rename_i s
      cases ha.raw_inv
      split at h
      · rename_i l hx h1 h2
        split at h
        · rename_i b1 b2
          cases h
          cases hm with
          | none =>
            have hb := run_bounds (P := P) (w := w) (cap := s.size) false hl hh (.none : OVR L none none) h1 h2 (by rfl) (ble_true b1) (ble_true b2) (Nat.le_refl _) (fun _ => rfl)
            refine ⟨_, ?_, .raw _⟩
            simp [Instr.sliceAt, run_under' hd, Instr.slice, hb]
        · cases h
      · cases h
    · -- nil
      rename_i elem
      cases ha.raw_inv
      split at h
      · rename_i s h1 h2 h3 hs
        cases h
        obtain ⟨ei, hei, hsz⟩ := fieldSize_inv hE hs
        have hb := run_bounds (P := P) (w := w) true hl hh hm h1 h2 h3 (Nat.le_refl _) (Nat.le_refl _) (Nat.le_refl _) hf
        refine ⟨_, ?_, .raw _⟩
        simp [Instr.sliceAt, run_under' hd, Instr.slice, hb, run_size' hei]
      · cases h
    · -- exact capacity
      rename_i elem id off len cap
      obtain ⟨l, hL, rfl⟩ := ha.slc_inv
      split at h
      · rename_i a b c s h1 h2 h3 hs
        obtain ⟨ei, hei, hsz⟩ := fieldSize_inv hE hs
        split at h
        · rename_i b1 b2 b3
          have hb := run_bounds (P := P) (w := w) true hl hh hm h1 h2 h3 (ble_true b1) (ble_true b2) (ble_true b3) hf
          split at h
          · rename_i hml
            cases h
            have hml := beq_true hml
            refine ⟨_, ?_, VR.slc hL⟩
            simp [Instr.sliceAt, run_under' hd, Instr.slice, hb, run_size' hei, hml]
          · rename_i hml
            cases h
            have hml : ¬ c = a := fun e => by subst e; simp at hml
            refine ⟨_, ?_, VR.slc hL⟩
            simp [Instr.sliceAt, run_under' hd, Instr.slice, hb, run_size' hei, hml, hsz, addr_add, Nat.add_assoc]
        · cases h
      · cases h
    · -- empty
      rename_i elem
      obtain ⟨a, cap, rfl⟩ := ha.emp_inv
      split at h
      · rename_i s h1 h2 hs
        cases h
        obtain ⟨ei, hei, hsz⟩ := fieldSize_inv hE hs
        cases hm with
        | none =>
          have hb := run_bounds (P := P) (w := w) (len := 0) (cap := cap) true hl hh (.none : OVR L none none) h1 h2 rfl (Nat.le_refl _) (Nat.zero_le _) (Nat.le_refl _) (fun _ => rfl)
          refine ⟨.slice (some a) 0 cap, ?_, .emp a cap⟩
          simp [Instr.sliceAt, run_under' hd, Instr.slice, hb, run_size' hei, Addr.add]
      · cases h
    · -- growing
      rename_i elem id off len sz
      obtain ⟨l, cap, hL, hs0, hcap, hle, rfl⟩ := ha.slu_inv
      split at h
      · rename_i a b s h1 h2 hs
        obtain ⟨ei, hei, hsz⟩ := fieldSize_inv hE hs
        split at h
        · cases hm with
          | none =>
            split at h
            · rename_i b1 b2 b3
              have b1 := ble_true b1
              have b2 := ble_true b2
              have b3 := beq_true b3
              have hb := run_bounds (P := P) (w := w) (cap := cap) true hl hh (.none : OVR L none none) h1 h2 rfl b1 (by omega) (Nat.le_refl _) (fun _ => rfl)
              split at h
              · rename_i c1
                cases h
                have c1 := beq_true c1
                subst c1
                refine ⟨.slice (some ⟨l.b, l.o + off, none⟩) b cap, ?_, VR.slu hL hs0 hcap (by omega)⟩
                simp [Instr.sliceAt, run_under' hd, Instr.slice, hb, run_size' hei, Addr.add]
              · rename_i c1 c2
                cases h
                have c2 := blt_true c2
                refine ⟨.slice (some ⟨l.b, l.o + (off + a * s), none⟩) (b - a) (cap - a), ?_, VR.slu hL hs0 ?_ (by omega)⟩
                · have : ¬ cap = a := by omega
                  simp [Instr.sliceAt, run_under' hd, Instr.slice, hb, run_size' hei, this, hsz, addr_add, Nat.add_assoc]
                · subst b3
                  rw [Nat.add_assoc, ← Nat.add_mul, show a + (cap - a) = cap by omega]
                  exact hcap
              · rename_i c1 c2
                cases h
                have c2 : ¬ a < len := fun e => by rw [← Nat.blt_eq] at e; rw [e] at c2; cases c2
                have : a = b := by omega
                subst this
                by_cases hc : cap = a
                · refine ⟨.slice (some ⟨l.b, l.o + off, none⟩) 0 0, ?_, VR.emp _ _⟩
                  subst hc
                  simp [Instr.sliceAt, run_under' hd, Instr.slice, hb, run_size' hei]
                · refine ⟨.slice (some ((⟨l.b, l.o + off, none⟩ : Addr).add (a * s))) 0 (cap - a), ?_, VR.emp _ _⟩
                  simp [Instr.sliceAt, run_under' hd, Instr.slice, hb, run_size' hei, hc, hsz]
            · cases h
        · rename_i m
          cases hm with
          | some hv =>
            split at h
            · rename_i c hc
              split at h
              · rename_i b1 b2 b3 b4
                have b1 := ble_true b1
                have b2 := ble_true b2
                have b3 := ble_true b3
                have hb := run_bounds (P := P) (w := w) (cap := cap) true hl hh (.some hv) h1 h2 hc b1 b2 (by omega) hf
                split at h
                · rename_i hml
                  cases h
                  have hml := beq_true hml
                  refine ⟨_, ?_, VR.slc hL⟩
                  simp [Instr.sliceAt, run_under' hd, Instr.slice, hb, run_size' hei, hml]
                · rename_i hml
                  cases h
                  have hml : ¬ c = a := fun e => by subst e; simp at hml
                  refine ⟨_, ?_, VR.slc hL⟩
                  simp [Instr.sliceAt, run_under' hd, Instr.slice, hb, run_size' hei, hml, hsz, addr_add, Nat.add_assoc]
              · cases h
            · cases h
      · cases h
    · -- an array behind a pointer
      rename_i n elem id off
      obtain ⟨l, hL, rfl⟩ := ha.ptr_inv
      split at h
      · rename_i a b c s h1 h2 h3 hs
        obtain ⟨ei, hei, hsz⟩ := fieldSize_inv hE hs
        split at h
        · rename_i b1 b2 b3
          have hb := run_bounds (P := P) (w := w) false hl hh hm h1 h2 h3 (ble_true b1) (ble_true b2) (ble_true b3) hf
          split at h
          · rename_i hml
            cases h
            have hml := beq_true hml
            refine ⟨_, ?_, VR.slc hL⟩
            simp [Instr.sliceAt, run_under' hd, Instr.sureAddr, hb, run_size' hei, hml]
          · rename_i hml
            cases h
            have hml : ¬ c = a := fun e => by subst e; simp at hml
            refine ⟨_, ?_, VR.slc hL⟩
            simp [Instr.sliceAt, run_under' hd, Instr.sureAddr, hb, run_size' hei, hml, hsz, addr_add, Nat.add_assoc]
        · cases h
      · cases h
    · cases h
  · cases h


end
end Go.Proofs.YtkoahnikmckgnaaGreatDoor.Ws
