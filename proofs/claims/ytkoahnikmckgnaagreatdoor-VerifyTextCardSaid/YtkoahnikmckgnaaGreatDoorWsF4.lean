/- Structs, look-ups, lengths. -/
import Derived.Test.YtkoahnikmckgnaaGreatDoorWsF3
import Derived.Laws.Tables
set_option linter.unusedSimpArgs false
set_option linter.unusedVariables false
namespace Go.Proofs.YtkoahnikmckgnaaGreatDoor.Ws
open Go Go.RowKit

theorem VRs.of_get {L : LM} : ∀ {l : List AV} {xs : List Value}, l.length = xs.length → (∀ (i : Nat) (v : AV) (x : Value), l[i]? = some v → xs[i]? = some x → VR L v x) → VRs L l xs
  | [], [], _, _ => .nil
  | v :: l, x :: xs, hl, h => .cons (h 0 v x (by simp) (by simp)) (VRs.of_get (by simpa using hl) fun i u y hu hy => h (i + 1) u y (by simpa using hu) (by simpa using hy))

theorem VRs.get' {L : LM} {l : List AV} {xs : List Value} (h : VRs L l xs) {i : Nat} {v : AV} {x : Value} (hv : l[i]? = some v) (hx : xs[i]? = some x) : VR L v x := by
  obtain ⟨y, hy, hr⟩ := h.get i v hv
  rw [hx] at hy; cases hy; exact hr

theorem putAt_spec : ∀ {cs : List AV} {off : Nat} {l r : List AV}, putAt cs off l = some r → off + l.length ≤ cs.length ∧ r.length = cs.length ∧ ∀ i, r[i]? = if off ≤ i ∧ i < off + l.length then l[i - off]? else cs[i]?
  | cs, 0, [], r, h => by
    simp [putAt] at h; subst h
    exact ⟨by simp, rfl, fun i => by rw [if_neg (by simp)]⟩
  | c :: cs, 0, v :: l, r, h => by
    simp only [putAt] at h
    cases hr : putAt cs 0 l with
    | none => rw [hr] at h; cases h
    | some r' =>
      rw [hr] at h; cases h
      obtain ⟨h1, h2, h3⟩ := putAt_spec hr
      refine ⟨by simp at h1 ⊢; omega, by simp [h2], fun i => ?_⟩
      cases i with
      | zero => simp
      | succ i =>
        have := h3 i
        simp only [List.getElem?_cons_succ, this, List.length_cons]
        by_cases e : i < l.length
        · rw [if_pos ⟨by omega, by omega⟩, if_pos ⟨by omega, by omega⟩]; simp
        · rw [if_neg (by omega), if_neg (by omega)]
  | [], 0, _ :: _, r, h => by simp [putAt] at h
  | [], _ + 1, l, r, h => by cases l <;> simp [putAt] at h
  | c :: cs, off + 1, l, r, h => by
    cases hr : putAt cs off l with
    | none => cases l <;> simp [putAt, hr] at h
    | some r' =>
      have hrr : r = c :: r' := by cases l <;> simp [putAt, hr] at h <;> exact h.symm
      subst hrr
      obtain ⟨h1, h2, h3⟩ := putAt_spec hr
      refine ⟨by simp; omega, by simp [h2], fun i => ?_⟩
      cases i with
      | zero => simp
      | succ i =>
        have := h3 i
        simp only [List.getElem?_cons_succ, this]
        by_cases e : off ≤ i ∧ i < off + l.length
        · rw [if_pos e, if_pos (by omega)]; congr 1; omega
        · rw [if_neg e, if_neg (by omega)]

theorem foldl_set (off : Nat) : ∀ (ys : List Value) (k : Nat) (xs : Array Value), off + k + ys.length ≤ xs.size →
    ((ys.zipIdx k).foldl (fun (cs : Array Value) (p : Value × Nat) => cs.setIfInBounds (off + p.2) p.1) xs).size = xs.size ∧
    ∀ i, ((ys.zipIdx k).foldl (fun (cs : Array Value) (p : Value × Nat) => cs.setIfInBounds (off + p.2) p.1) xs)[i]? = if off + k ≤ i ∧ i < off + k + ys.length then ys[i - off - k]? else xs[i]?
  | [], k, xs, _ => ⟨rfl, fun i => by rw [if_neg (by simp)]; rfl⟩
  | y :: ys, k, xs, h => by
    simp only [List.zipIdx_cons, List.foldl_cons]
    simp only [List.length_cons] at h
    obtain ⟨h1, h2⟩ := foldl_set off ys (k + 1) (xs.setIfInBounds (off + k) y) (by simp; omega)
    refine ⟨by rw [h1]; simp, fun i => ?_⟩
    rw [h2 i]
    by_cases e1 : i = off + k
    · subst e1
      rw [if_neg (by omega), if_pos (by simp)]
      rw [Array.getElem?_setIfInBounds_self_of_lt (by omega)]
      have : off + k - off - k = 0 := by omega
      rw [this]; rfl
    · by_cases e2 : off + k ≤ i ∧ i < off + k + (ys.length + 1)
      · rw [if_pos (by omega), if_pos (by simpa using e2)]
        rw [show i - off - k = (i - off - (k + 1)) + 1 by omega]
        rfl
      · rw [if_neg (by omega), if_neg (by simpa using e2), Array.getElem?_setIfInBounds_ne (by omega)]

/-- parts, side by side -/
inductive PR (L : LM) : List (Nat × AV) → List (Nat × Value) → Prop
  | nil : PR L [] []
  | cons {i : Nat} {v : AV} {x : Value} {l : List (Nat × AV)} {xs : List (Nat × Value)} (h : VR L v x) (hs : PR L l xs) : PR L ((i, v) :: l) ((i, x) :: xs)

theorem VRs.put {L : LM} {cs l r : List AV} {off : Nat} {xs : Array Value} {ys : List Value} (h : VRs L cs xs.toList) (hl : VRs L l ys) (hp : putAt cs off l = some r) :
    off + ys.length ≤ xs.size ∧ VRs L r ((ys.zipIdx 0).foldl (fun (cs : Array Value) (p : Value × Nat) => cs.setIfInBounds (off + p.2) p.1) xs).toList := by
  obtain ⟨p1, p2, p3⟩ := putAt_spec hp
  have e1 := h.length
  have e2 := hl.length
  have e3 : cs.length = xs.size := by simpa using e1
  obtain ⟨f1, f2⟩ := foldl_set off ys 0 xs (by omega)
  refine ⟨by omega, VRs.of_get (by simp [p2, e3, f1]) fun i v x hv hx => ?_⟩
  rw [p3] at hv
  rw [Array.getElem?_toList, f2] at hx
  by_cases e : off ≤ i ∧ i < off + l.length
  · rw [if_pos e] at hv
    rw [if_pos (by omega)] at hx
    exact hl.get' hv (by simpa using hx)
  · rw [if_neg e] at hv
    rw [if_neg (by omega)] at hx
    exact h.get' hv (by simpa using hx)

theorem fill_run {L : LM} {place : Nat → Option (Nat × Nat)} : ∀ {parts : List (Nat × AV)} {parts' : List (Nat × Value)} {cs l : List AV} {xs : Array Value}, PR L parts parts' → VRs L cs xs.toList → fillA place cs parts = some l →
    ∃ ys, Instr.fill place xs parts' = some ys ∧ VRs L l ys.toList
  | [], [], cs, l, xs, _, h, hf => by
    simp [fillA] at hf; subst hf
    exact ⟨xs, rfl, h⟩
  | (i, v) :: parts, (j, x) :: parts', cs, l, xs, hp, h, hf => by
    cases hp with
    | cons hv hs =>
      simp only [fillA] at hf
      split at hf
      · rename_i off size hpl
        split at hf
        · rename_i hb
          have hb := beq_true hb
          split at hf
          · rename_i cs' hput
            have hc := hv.cells
            obtain ⟨h1, h2⟩ := h.put hc hput
            obtain ⟨ys, h3, h4⟩ := fill_run hs h2 hf
            refine ⟨ys, ?_, h4⟩
            have hsz : x.cells.size = size := by
              have := hc.length
              simp at this; omega
            have hle : ¬ off + x.cells.size > xs.size := by simp at h1; omega
            have e1 : ¬ (x.cells.size ≠ size) := by omega
            simp only [Instr.fill, hpl]
            rw [if_neg (by simp [hsz]; omega)]
            rw [← h3]
            congr 1
            rw [← Array.foldl_toList]
            simp
          · cases hf
        · cases hf
      · cases hf

section
variable {P : Program} {W0 : World} {E : Env} {L : LM} {H : AH} {w : World}

theorem places_spec (hE : E.Ok P W0) : ∀ {fs : List Field} {ps : List (Nat × Nat)}, placesOf E fs = some ps → fs.mapM (fun f => (P.info? f.type).map fun i => (f.offset, i.size)) = some ps
  | [], ps, h => by simp [placesOf] at h; subst h; rfl
  | f :: fs, ps, h => by
    simp only [placesOf] at h
    split at h
    · rename_i s hs
      obtain ⟨i, hi, rfl⟩ := fieldSize_inv hE hs
      split at h
      · rename_i r hr
        cases h
        simp [List.mapM_cons, hi, places_spec hE hr]
      · cases h
    · cases h

theorem zeroCells_spec {i : TypeInfo} {z : List AV} (h : zeroCellsA i = some z) : ∃ v, i.zero = some v ∧ VRs L z v.cells.toList ∧ z = v.cells.toList.map .raw := by
  unfold zeroCellsA at h
  split at h
  · rename_i v hv
    cases h
    refine ⟨v, hv, (VR.raw v).cells, ?_⟩
    cases v <;> rfl
  · cases h

theorem build_run (hE : E.Ok P W0) {t : TypeId} {parts : List (Nat × AV)} {parts' : Array (Nat × Value)} {v : AV} (h : abuild E t parts = some v) (hp : PR L parts parts'.toList) :
    ∃ z, (Instr.build t parts').run P w = .ok z w ∧ VR L v z := by
  unfold abuild at h
  split at h
  · rename_i d i ht
    obtain ⟨hd, hi⟩ := hE.ti _ _ _ ht
    split at h
    · rename_i z hz
      obtain ⟨zv, hz1, hz2, _⟩ := zeroCells_spec (L := L) hz
      split at h
      · rename_i fields
        split at h
        · rename_i ps hps
          split at h
          · rename_i l hl
            cases h
            obtain ⟨ys, h1, h2⟩ := fill_run hp hz2 hl
            refine ⟨.agg ys, run_build w t parts' ys ?_, .agg h2⟩
            unfold Program.built
            simp only [hi, hd, hz1, places_spec hE hps]
            rw [← h1]
            congr 1
            funext k
            simp
          · cases h
        · cases h
      · rename_i n elem
        split at h
        · rename_i s hs
          obtain ⟨ei, hei, rfl⟩ := fieldSize_inv hE hs
          split at h
          · rename_i l hl
            cases h
            obtain ⟨ys, h1, h2⟩ := fill_run hp hz2 hl
            refine ⟨.agg ys, run_build w t parts' ys ?_, .agg h2⟩
            unfold Program.built
            simp only [hi, hd, hz1, hei]
            exact h1
          · cases h
        · cases h
      · cases h
    · cases h
  · cases h

end
end Go.Proofs.YtkoahnikmckgnaaGreatDoor.Ws

/- Maps; lengths. -/
namespace Go.Proofs.YtkoahnikmckgnaaGreatDoor.Ws
open Go Go.RowKit

section
variable {P : Program} {W0 : World} {E : Env} {L : LM} {H : AH} {w : World}

theorem MR.length {l : List (Value × AV)} : ∀ {es : List MapEntry}, MR L l es → l.length = es.length := by
  induction l with
  | nil => intro es h; cases h; rfl
  | cons p l ih => intro es h; cases h with | cons hk hv hs => simp [ih hs]

theorem bytes_beq (a b : ByteArray) : (a == b) = true ↔ a = b := by
  have h : (a == b) = (a.data == b.data) := by
    cases a; cases b; rfl
  rw [h, beq_iff_eq]
  cases a; cases b; simp

theorem rawEq_spec {a b : Value} {r : Bool} (h : rawEq a b = some r) : (r = true ↔ a = b) := by
  unfold rawEq at h
  split at h
  · split at h
    · rename_i hk
      cases h
      cases beqF_true hk
      simp
    · cases h
  · cases h; simp
  · cases h; rw [bytes_beq]; simp
  · cases h

theorem rawValsEq_true : ∀ {a b : List Value}, rawValsEq a b = some true → a = b
  | [], [], _ => rfl
  | x :: a, y :: b, h => by
    simp only [rawValsEq] at h
    split at h
    · rename_i hq
      rw [(rawEq_spec hq).1 rfl, rawValsEq_true h]
    · split at h
      · cases h
      · cases h
    · cases h
  | [], _ :: _, h => by simp [rawValsEq] at h
  | _ :: _, [], h => by simp [rawValsEq] at h

theorem shEq_raw {ly : List Nat} {a b : List Value} {r : Bool} (h : shEq ly a b = some r) : rawValsEq a b = some r := by
  unfold shEq at h
  split at h
  · exact h
  · cases h

theorem keyEq_true {ly : List Nat} {a b : Value} (h : keyEq ly a b = some true) : a = b := by
  unfold keyEq at h
  split at h
  · rename_i x y
    have := rawValsEq_true (shEq_raw h)
    rw [Array.toList_inj] at this
    rw [this]
  · exact (rawEq_spec h).1 rfl

/-- what a search found -/
def Found (ly : List Nat) (L : LM) (k : Value) (ents : List MapEntry) : Option AV → Option (Nat × Value) → Prop
  | none, none => True
  | some v, some (i, x) => VR L v x ∧ ∃ e, ents[i]? = some e ∧ e.val = x ∧ keyEq ly k e.key = some true ∧ ∀ (q : Nat) e', q < i → ents[q]? = some e' → keyEq ly k e'.key = some false
  | _, _ => False

theorem findNow_run {ly : List Nat} {kd : TypeDesc} {k : Value} (hk : match kd, k with | .int _, .int _ _ => True | .string, .string _ => True | .bool, .bool _ => True | _, _ => False) :
    ∀ (es : List (Value × AV)) (ents : List MapEntry) (off : Nat) (all : List MapEntry) (r : Option AV), (∀ i e, ents[i]? = some e → all[off + i]? = some e) → (∀ (q : Nat) e', q < off → all[q]? = some e' → keyEq ly k e'.key = some false) → MR L es ents → findA ly k es = some r →
      ∃ r', Instr.findNow kd k ents off = some r' ∧ Found ly L k all r r'
  | [], [], off, all, r, _, _, _, h => by simp [findA] at h; subst h; exact ⟨none, rfl, trivial⟩
  | (k', v) :: es, e :: ents, off, all, r, hall, hpre, hm, h => by
    cases hm with
    | cons hke hv hs =>
      subst hke
      simp only [findA] at h
      have hsn : ∀ b, keyEq ly k e.key = some b → Instr.sameNow kd k e.key = some b := by
        intro b hb
        cases kd <;> cases k <;> simp only at hk <;> cases hek : e.key <;> rw [hek] at hb <;> simp only [keyEq, rawEq] at hb <;> first
          | (cases hb; done)
          | (split at hb
             · rename_i hq
               cases beqF_true hq
               cases hb
               simp [Instr.sameNow]
             · cases hb)
          | (cases hb; simp [Instr.sameNow])
      split at h
      · rename_i hb
        cases h
        refine ⟨some (off, e.val), ?_, hv, e, by simpa using hall 0 e (by simp), rfl, hb, hpre⟩
        simp [Instr.findNow, hsn _ hb]
      · rename_i hb
        obtain ⟨r', h1, h2⟩ := findNow_run hk es ents (off + 1) all r (fun i e' he => by
          have := hall (i + 1) e' (by simpa using he)
          rwa [show off + (i + 1) = off + 1 + i by omega] at this) (fun q e' hq he => by
          by_cases hqo : q = off
          · subst hqo
            have := hall 0 e (by simp)
            rw [Nat.add_zero, he] at this
            cases this
            exact hb
          · exact hpre q e' (by omega) he) hs h
        refine ⟨r', ?_, h2⟩
        simp [Instr.findNow, hsn _ hb, h1]
      · cases h

theorem findAsking_run (hE : E.Ok P W0) {t : TypeId} (hs : E.seq t = true) {xs : Array Value} :
    ∀ (es : List (Value × AV)) (ents : List MapEntry) (off : Nat) (all : List MapEntry) (r : Option AV), (∀ i e, ents[i]? = some e → all[off + i]? = some e) → (∀ (q : Nat) e', q < off → all[q]? = some e' → keyEq (E.lay t) (.agg xs) e'.key = some false) → MR L es ents → findA (E.lay t) (.agg xs) es = some r →
      ∃ r', (Instr.findAsking t (.agg xs) ents off).run P w = .ok r' w ∧ Found (E.lay t) L (.agg xs) all r r'
  | [], [], off, all, r, _, _, _, h => by simp [findA] at h; subst h; exact ⟨none, rfl, trivial⟩
  | (k', v) :: es, e :: ents, off, all, r, hall, hpre, hm, h => by
    cases hm with
    | cons hke hv hs' =>
      subst hke
      simp only [findA] at h
      have hsn : ∀ b, keyEq (E.lay t) (.agg xs) e.key = some b → (Op.equal t (.agg xs) e.key).run P w = .ok b w := by
        intro b hb
        cases hek : e.key <;> rw [hek] at hb <;> simp only [keyEq, rawEq] at hb <;> first
          | (cases hb; done)
          | exact hE.seqEq t _ _ b w hs hb
      split at h
      · rename_i hb
        cases h
        refine ⟨some (off, e.val), ?_, hv, e, by simpa using hall 0 e (by simp), rfl, hb, hpre⟩
        simp [Instr.findAsking, hsn _ hb]
      · rename_i hb
        obtain ⟨r', h1, h2⟩ := findAsking_run hE hs es ents (off + 1) all r (fun i e' he => by
          have := hall (i + 1) e' (by simpa using he)
          rwa [show off + (i + 1) = off + 1 + i by omega] at this) (fun q e' hq he => by
          by_cases hqo : q = off
          · subst hqo
            have := hall 0 e (by simp)
            rw [Nat.add_zero, he] at this
            cases this
            exact hb
          · exact hpre q e' (by omega) he) hs' h
        refine ⟨r', ?_, h2⟩
        simp [Instr.findAsking, hsn _ hb, h1]
      · cases h

theorem findKey_run (hE : E.Ok P W0) {t : TypeId} {kd : TypeDesc} {ki : TypeInfo} {k : Value} (ht : E.ti t = some (kd, ki)) (hk : keyKind (E.seq t) ki.size kd k = true)
    {es : List (Value × AV)} {ents : List MapEntry} {r : Option AV} (hm : MR L es ents) (h : findA (E.lay t) k es = some r) : ∃ r', (Instr.findKey t k ents).run P w = .ok r' w ∧ Found (E.lay t) L k ents r r' := by
  obtain ⟨hd, hi⟩ := hE.ti _ _ _ ht
  unfold keyKind at hk
  split at hk
  · rename_i k1 k2 n
    obtain ⟨r', h1, h2⟩ := findNow_run (kd := .int k1) (k := .int k2 n) trivial es ents 0 ents r (fun i e he => by simpa using he) (fun q e' hq => by omega) hm h
    exact ⟨r', by simp [Instr.findKey, run_under' hd, h1], h2⟩
  · rename_i s
    obtain ⟨r', h1, h2⟩ := findNow_run (kd := .string) (k := .string s) trivial es ents 0 ents r (fun i e he => by simpa using he) (fun q e' hq => by omega) hm h
    exact ⟨r', by simp [Instr.findKey, run_under' hd, h1], h2⟩
  · rename_i s
    obtain ⟨r', h1, h2⟩ := findNow_run (kd := .bool) (k := .bool s) trivial es ents 0 ents r (fun i e he => by simpa using he) (fun q e' hq => by omega) hm h
    exact ⟨r', by simp [Instr.findKey, run_under' hd, h1], h2⟩
  · rename_i fs xs
    simp only [Bool.and_eq_true] at hk
    obtain ⟨r', h1, h2⟩ := findAsking_run (w := w) hE hk.1 es ents 0 ents r (fun i e he => by simpa using he) (fun q e' hq => by omega) hm h
    refine ⟨r', ?_, h2⟩
    cases ents with
    | nil =>
      simp [Instr.findAsking] at h1
      simp [Instr.findKey, run_under' hd, Instr.findNow, h1]
    | cons e ents =>
      have : Instr.findNow (.struct fs) (.agg xs) (e :: ents) 0 = none := by
        simp [Instr.findNow, Instr.sameNow]
      simp only [Instr.findKey, Sem.run_bind, run_under' hd, Result.andThen_ok, this]
      exact h1
  · cases hk

theorem checkKey_plain (n : Nat) {t : TypeId} {d : TypeDesc} {k : Value} {e : Bool} (hd : P.underlying t = some d) (hk : match d, k with | .int _, .int _ _ => True | .string, .string _ => True | .bool, .bool _ => True | _, _ => False) :
    (Instr.checkKey e (n + 1) t k).run P w = .ok () w := by
  cases d <;> cases k <;> simp only at hk <;> simp only [Instr.checkKey, Sem.run_bind, run_under' hd, Result.andThen_ok, Sem.run_pure]

theorem checkKey_run (hE : E.Ok P W0) {t : TypeId} {kd : TypeDesc} {ki : TypeInfo} {k : Value} (ht : E.ti t = some (kd, ki)) (hk : keyKind (E.seq t) ki.size kd k = true) (e : Bool) :
    (Instr.checkKey e 10000 t k).run P w = .ok () w := by
  obtain ⟨hd, hi⟩ := hE.ti _ _ _ ht
  unfold keyKind at hk
  split at hk
  · exact checkKey_plain 9999 hd trivial
  · exact checkKey_plain 9999 hd trivial
  · exact checkKey_plain 9999 hd trivial
  · rename_i fs xs
    simp only [Bool.and_eq_true] at hk
    exact hE.seqKey t _ _ xs e w hk.1 ht (beq_true hk.2)
  · cases hk

theorem keyOf_spec {v : AV} {k x : Value} (h : keyOf v = some k) (hv : VR L v x) : x = k := by
  unfold keyOf at h
  split at h
  · cases h; exact hv.raw_inv
  · split at h
    · rename_i l hl
      cases h
      cases hv with
      | agg hs =>
        have := allRaw_spec hl hs
        rw [← this]
    · cases h
  · cases h

theorem lookup_val (hE : E.Ok P W0) {t key elem : TypeId} {kd : TypeDesc} {ki ei : TypeInfo} {y : Value} (hd : P.underlying t = some (.map key elem)) (hei : P.info? elem = some ei)
    (hkt : E.ti key = some (kd, ki)) (hkk : keyKind (E.seq key) ki.size kd y = true) {x : Value} {es : List (Value × AV)} {ents : Array MapEntry} (hm : MR L es ents.toList)
    (hx : (x = .map none ∧ ents = #[]) ∨ ∃ b clock, x = .map (some b) ∧ w.heap[b]? = some (.map ents clock)) {r : Option AV} (hf : findA (E.lay key) y es = some r) {ok : Bool} {v : AV} (hv : lookupRes ei ok r = some v) :
    ∃ z, (Instr.lookup t x y ok).run P w = .ok z w ∧ VR L v z := by
  have hc := checkKey_run (w := w) hE hkt hkk ents.isEmpty
  obtain ⟨r', h1, h2⟩ := findKey_run (w := w) hE hkt hkk hm hf
  have hgo : ∀ z, (match r' with | some (_, u) => z = (if ok then .tuple #[u, .bool true] else u) | none => ∃ zz, ei.zero = some zz ∧ z = (if ok then .tuple #[zz, .bool false] else zz)) →
      (Instr.lookup t x y ok).run P w = .ok z w := by
    intro z hz
    rcases hx with ⟨rfl, rfl⟩ | ⟨b, clock, rfl, hb⟩
    · cases r' with
      | none =>
        obtain ⟨zz, hzz, rfl⟩ := hz
        simp only [Instr.lookup, Sem.run_bind, run_under' hd, Result.andThen_ok, Sem.run_pure, hc, h1, run_zero' hei hzz]
      | some p =>
        obtain ⟨i, u⟩ := p
        subst hz
        simp only [Instr.lookup, Sem.run_bind, run_under' hd, Result.andThen_ok, Sem.run_pure, hc, h1]
    · have hg : (getObj b).run P w = .ok (.map ents clock) w := by simp [getObj, Sem.run, hb]
      cases r' with
      | none =>
        obtain ⟨zz, hzz, rfl⟩ := hz
        simp only [Instr.lookup, Sem.run_bind, run_under' hd, Result.andThen_ok, Sem.run_pure, hg, hc, h1, run_zero' hei hzz]
      | some p =>
        obtain ⟨i, u⟩ := p
        subst hz
        simp only [Instr.lookup, Sem.run_bind, run_under' hd, Result.andThen_ok, Sem.run_pure, hg, hc, h1]
  cases r with
  | some u =>
    cases r' with
    | none => exact h2.elim
    | some p =>
      obtain ⟨i, z⟩ := p
      obtain ⟨h3, _⟩ := h2
      cases ok
      · simp only [lookupRes, Option.some.injEq] at hv; subst hv
        exact ⟨z, hgo z (by simp), h3⟩
      · simp only [lookupRes, Option.some.injEq] at hv; subst hv
        exact ⟨.tuple #[z, .bool true], hgo _ (by simp), .tup (.cons h3 (.cons (.raw _) .nil))⟩
  | none =>
    cases r' with
    | some p => exact h2.elim
    | none =>
      simp only [lookupRes] at hv
      split at hv
      · rename_i zz hzz
        cases ok
        · simp only [Option.some.injEq] at hv; subst hv
          exact ⟨zz, hgo _ ⟨zz, hzz, by simp⟩, .raw _⟩
        · simp only [Option.some.injEq] at hv; subst hv
          exact ⟨.tuple #[zz, .bool false], hgo _ ⟨zz, hzz, by simp⟩, .tup (.cons (.raw _) (.cons (.raw _) .nil))⟩
      · cases hv

theorem lookup_run (hE : E.Ok P W0) (hr : HR W0 L H w) {t : TypeId} {a ix v : AV} {ok : Bool} {x y : Value} (h : alookup E H t a ix ok = some v) (ha : VR L a x) (hi : VR L ix y) :
    ∃ z, (Instr.lookup t x y ok).run P w = .ok z w ∧ VR L v z := by
  unfold alookup at h
  split at h
  · rename_i key elem ti k ht hk
    have := keyOf_spec hk hi
    subst this
    obtain ⟨hd, _⟩ := hE.ti _ _ _ ht
    split at h
    · rename_i kd ki ed ei hkt het
      obtain ⟨_, hei⟩ := hE.ti _ _ _ het
      split at h
      · rename_i hkk
        split at h
        · rename_i es hes
          split at h
          · rename_i r hf
            unfold entriesOf at hes
            split at hes
            · cases ha.raw_inv
              cases hes
              exact lookup_val hE hd hei hkt hkk (ents := #[]) .nil (.inl ⟨rfl, rfl⟩) hf h
            · rename_i id
              obtain ⟨l, hl, rfl⟩ := ha.map_inv
              split at hes
              · rename_i es' hg
                cases hes
                obtain ⟨ents, clock, h1, h2⟩ := hr.blk _ _ _ hg hl
                exact lookup_val hE hd hei hkt hkk h2 (.inr ⟨_, _, rfl, h1⟩) hf h
              · cases hes
            · cases hes
          · cases h
        · cases h
      · cases h
    · cases h
  · cases h

end
end Go.Proofs.YtkoahnikmckgnaaGreatDoor.Ws
