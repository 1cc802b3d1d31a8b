/- A region whose order is drawn: what holds all along. -/
import Derived.Test.YtkoahnikmckgnaaGreatDoorWsK
set_option linter.unusedSimpArgs false
set_option linter.unusedVariables false
namespace Go.Proofs.YtkoahnikmckgnaaGreatDoor.Ws
open Go Go.RowKit

def Ls (ls : Array Bool) (i : Nat) : Prop := ls.getD i false = true

theorem ls_set {ls : Array Bool} {i j : Nat} (hi : i < ls.size) : Ls (ls.setIfInBounds i true) j ↔ j = i ∨ Ls ls j := by
  unfold Ls
  by_cases e : j = i
  · subst e
    simp [hi]
  · have := getD_set_ne (listed := ls) false (i := i) (j := j) (fun h => e h.symm)
    rw [this]
    simp [e]

section
variable {P : Program} {W0 : World} {E : Env} {nt : Nat} {ops : Array Oper} {ps : List POp}

/-- what holds of the frame -/
structure AInv (nt : Nat) (ops : Array Oper) (a0 : Act) (tm : T AV) (L : LM) (ls : Array Bool) (a : Act) : Prop where
  size : a.tmps.size = nt
  dfr : a.defers = a0.defers
  nls : ls.size = ops.size
  closed : ∀ i o, ops[i]? = some o → Ls ls i → ∀ j ∈ edgesOf o, Ls ls j
  vals : ∀ i o, ops[i]? = some o → Ls ls i → ∃ u, tm.get (nt + i) = some u ∧ ∀ d, o.dst = some d → ∃ x, a.tmps[d]? = some x ∧ VR L u x
  init : ∀ t : Nat, (∀ i o, ops[i]? = some o → o.dst = some t → ¬ Ls ls i) → a.tmps[t]? = a0.tmps[t]?

theorem toL {i : Nat} {o : Oper} (h : ops[i]? = some o) : ops.toList[i]? = some o := by simpa using h
theorem ofL {i : Nat} {o : Oper} (h : ops.toList[i]? = some o) : ops[i]? = some o := by simpa using h

theorem AInv.list {a0 : Act} {tm tm1 : T AV} {L L1 : LM} {ls : Array Bool} {a : Act} (h : AInv nt ops a0 tm L ls a) (hl : LF L L1) (ht : TS tm tm1) {i : Nat} {o : Oper} {p : POp} (ho : ops[i]? = some o) (k : POk nt ops.toList ps i o p)
    (hr : ∀ j ∈ edgesOf o, Ls ls j) {u : AV} (hu : tm1.get (nt + i) = some u) {x : Value} (hx : VR L1 u x) : AInv nt ops a0 tm1 L1 (ls.setIfInBounds i true) (a.put o.dst x) := by
  have hi : i < ls.size := by rw [h.nls]; exact (Array.getElem?_eq_some_iff.1 ho).1
  refine ⟨by rw [Act.put_size]; exact h.size, by rw [Act.put_defers']; exact h.dfr, by simp [h.nls], fun j oj hoj hj l hl' => ?_, fun j oj hoj hj => ?_, fun t ht' => ?_⟩
  · rw [ls_set hi] at hj ⊢
    rcases hj with rfl | hj
    · rw [ho] at hoj; cases hoj
      exact .inr (hr l hl')
    · exact .inr (h.closed j oj hoj hj l hl')
  · rw [ls_set hi] at hj
    by_cases e : j = i
    · subst e
      rw [ho] at hoj; cases hoj
      refine ⟨u, hu, fun d hd => ⟨x, ?_, hx⟩⟩
      have hlt : d < a.tmps.size := by rw [h.size]; exact (k.dst d hd).1
      simp only [Act.put, hd]
      rw [Array.getElem?_setIfInBounds_self_of_lt hlt]
    · obtain ⟨v, h1, h2⟩ := h.vals j oj hoj (hj.resolve_left e)
      refine ⟨v, ht _ _ h1, fun d hd => ?_⟩
      obtain ⟨y, h3, h4⟩ := h2 d hd
      refine ⟨y, ?_, h4.monoF hl⟩
      cases hdo : o.dst with
      | none => simpa [Act.put] using h3
      | some d' =>
        have hne : d' ≠ d := fun e' => e ((k.dst d' hdo).2 j oj (toL hoj) (e' ▸ hd)).symm
        simp only [Act.put]
        rw [Array.getElem?_setIfInBounds_ne hne]
        exact h3
  · have h1 := h.init t fun j oj hoj hd hj => ht' j oj hoj hd ((ls_set hi).2 (.inr hj))
    cases hdo : o.dst with
    | none => simpa [Act.put] using h1
    | some d' =>
      have hne : d' ≠ t := fun e' => ht' i o ho (e' ▸ hdo) ((ls_set hi).2 (.inl rfl))
      simp only [Act.put]
      rw [Array.getElem?_setIfInBounds_ne hne]
      exact h1

theorem writerOf_some {l : List Oper} {t j : Nat} (h : writerOf l t = some j) : ∃ o, l[j]? = some o ∧ o.dst = some t := by
  unfold writerOf at h
  rw [List.findIdx?_eq_some_iff_getElem] at h
  obtain ⟨h1, h2, _⟩ := h
  exact ⟨l[j], List.getElem?_eq_getElem h1, by simpa using h2⟩
theorem writerOf_none {l : List Oper} {t : Nat} (h : writerOf l t = none) {j : Nat} {o : Oper} (ho : l[j]? = some o) : o.dst ≠ some t := by
  unfold writerOf at h
  rw [List.findIdx?_eq_none_iff] at h
  have := h o (List.mem_of_getElem? ho)
  simpa using this

theorem AInv.ev {a0 : Act} {tm0 tm : T AV} {L0 L : LM} {ls : Array Bool} {a : Act} (h : AInv nt ops a0 tm L ls a) (h0 : TR L0 tm0 nt a0) (hl : LF L0 L) (htk : ∀ t, t < nt → tm.get t = tm0.get t) {i : Nat} {o : Oper} {p : POp} (ho : ops[i]? = some o)
    (hP : PlanOK nt ops.toList ps) (k : POk nt ops.toList ps i o p) (hu : ¬ Ls ls i) (hr : ∀ j ∈ edgesOf o, Ls ls j) {tm' : T AV} (ht : TS tm' tm) : ∀ x ∈ o.op.operands, ∀ v, aeval tm' (srcOf nt ops.toList o x) = some v → VR L v (a.eval x) := by
  intro x hx v hv
  have fromInit : ∀ t, x = .tmp t → tm'.get t = some v → (∀ i o, ops[i]? = some o → o.dst = some t → ¬ Ls ls i) → VR L v (a.eval x) := by
    intro t e h1 h2
    subst e
    have ht' := (k.opd t hx).1
    have h3 := ht _ _ h1
    rw [htk t ht'] at h3
    obtain ⟨y, h4, h5⟩ := h0.val t v h3
    have h6 := h.init t h2
    have : a.eval (.tmp t) = y := by simp [Act.eval, h6, h4]
    rw [this]
    exact h5.monoF hl
  cases x with
  | tmp t =>
    simp only [srcOf] at hv
    cases hw : writerOf ops.toList t with
    | none =>
      rw [hw] at hv
      exact fromInit t rfl hv fun j oj hoj hd => absurd hd (writerOf_none hw (toL hoj))
    | some j =>
      rw [hw] at hv
      obtain ⟨oj, hoj, hd⟩ := writerOf_some hw
      simp only at hv
      split at hv
      · rename_i hc
        have hj := hr j (by simpa using hc)
        obtain ⟨u, h1, h2⟩ := h.vals j oj (ofL hoj) hj
        have h3 := ht _ _ hv
        rw [h1] at h3
        cases h3
        obtain ⟨y, h4, h5⟩ := h2 t hd
        have : a.eval (.tmp t) = y := by simp [Act.eval, h4]
        rw [this]; exact h5
      · rename_i hc
        refine fromInit t rfl hv fun j' oj' hoj' hd' hj' => ?_
        have hlen : ops.toList.length = ps.length := hP.len.symm
        have hlt : j < ps.length := by rw [← hlen]; exact (List.getElem?_eq_some_iff.1 hoj).1
        have kj := hP.each j oj _ hoj (List.getElem?_eq_getElem hlt)
        have e : j = j' := (kj.dst t hd).2 j' oj' (toL hoj') hd'
        subst e
        rcases (k.opd t hx).2 j hw with e | e | ⟨oj2, e1, e2⟩
        · exact hu (e ▸ hj')
        · have e' : (edgesOf o).contains j = true := by simpa using e
          rw [hc] at e'; cases e'
        · exact hu (h.closed j oj2 (ofL e1) hj' i e2)
  | const c => cases hv; exact .raw _
  | global g => cases hv; exact .raw _
  | func f => cases hv; exact .raw _

theorem AInv.wanted {a0 : Act} {tm : T AV} {L : LM} {ls : Array Bool} {a : Act} (h : AInv nt ops a0 tm L ls a) {i : Nat} {o : Oper} {p : POp} (k : POk nt ops.toList ps i o p) (hr : ∀ j ∈ edgesOf o, Ls ls j) {tm' : T AV} (ht : TS tm' tm) {b : Bool} (hb : pwanted tm' p = some b) :
    Region.wanted o (yielded ops a.tmps) = b := by
  unfold pwanted at hb
  rw [k.guard] at hb
  unfold Region.wanted
  cases hg : o.guard with
  | none => rw [hg] at hb; cases hb; rfl
  | some gw =>
    obtain ⟨g, want⟩ := gw
    rw [hg] at hb
    simp only [Option.map_some] at hb ⊢
    obtain ⟨h1, og, d, h2, h3⟩ := k.grd g want hg
    obtain ⟨u, h4, h5⟩ := h.vals g og (ofL h2) (hr g h1)
    obtain ⟨x, h6, h7⟩ := h5 d h3
    split at hb
    · rename_i c hc
      have := ht _ _ hc
      rw [h4] at this
      cases this
      have := h7.raw_inv
      subst this
      cases hb
      have hy : yielded ops a.tmps g = some c := by simp [yielded, ofL h2, h3, h6]
      rw [hy]
      cases c <;> cases want <;> rfl
    · rename_i c hc
      have := ht _ _ hc
      rw [h4] at this
      cases this
      have := h7.raw_inv
      subst this
      cases hb
      have hy' : yielded ops a.tmps g = none := by simp [yielded, ofL h2, h3, h6]
      rw [hy']
      rfl
    · cases hb

end
end Go.Proofs.YtkoahnikmckgnaaGreatDoor.Ws

/- A region whose order is drawn: one operation. -/
namespace Go.Proofs.YtkoahnikmckgnaaGreatDoor.Ws
open Go Go.RowKit

theorem HR.same {W0 : World} {L L1 : LM} {H : AH} {w : World} (h : HR W0 L H w) (hf : L1.f = L.f) : HR W0 L1 H w := by
  have hl : LF L L1 := fun id l hi => by rw [hf]; exact hi
  refine ⟨fun id b l hb hi => (h.blk id b l hb (by rw [hf] at hi; exact hi)).monoF hl rfl, fun i j b b' l l' hb hb' hi hj e => h.inj i j b b' l l' hb hb' (by rw [hf] at hi; exact hi) (by rw [hf] at hj; exact hj) e,
    fun id l hi => h.lt id l (by rw [hf] at hi; exact hi), fun id l hi => h.base id l (by rw [hf] at hi; exact hi), h.below⟩

section
variable {P : Program} {W0 : World} {E : Env} {nt : Nat} {ops : Array Oper} {ps : List POp}

structure Inv (W0 : World) (E : Env) (nt : Nat) (ops : Array Oper) (ps : List POp) (L0 : LM) (a0 : Act) (tm0 : T AV)
    (s : Nat) (tm : T AV) (H : AH) (I : Nat → Option Nat) (L : LM) (ls : Array Bool) (a : Act) (w : World) : Prop where
  act : AInv nt ops a0 tm L ls a
  le : LE L0 L
  hr : HR W0 L H w
  hd : HD L H
  iok : IOk I H
  ir : ∀ i id, I i = some id → ¬ L.r id
  il : ∀ i id, I i = some id → ¬ Ls ls i → L id = none
  is : ∀ i id, I i = some id → Ls ls i → ∃ l, L id = some l
  ion : ∀ i id, I i = some id → ∃ p, ps[i]? = some p ∧ p.kind ≠ 3 ∧ p.lo ≤ s
  eff : ∀ i p, ps[i]? = some p → p.kind = 3 → (Ls ls i ↔ p.lo < s)
  quiet : ∀ i p, ps[i]? = some p → p.kind ≠ 3 → Ls ls i → p.lo ≤ s
  tmk : ∀ t, t < nt → tm.get t = tm0.get t
  pend : ∀ i p, ps[i]? = some p → p.kind ≠ 3 → ¬ Ls ls i → p.lo ≤ s → Pend E nt I tm H p i

variable {L0 : LM} {a0 : Act} {tm0 : T AV} {s : Nat} {tm : T AV} {H : AH} {I : Nat → Option Nat} {L : LM} {ls : Array Bool} {a : Act} {w : World}

theorem Inv.lo_le (h : Inv W0 E nt ops ps L0 a0 tm0 s tm H I L ls a w) {i : Nat} {o : Oper} {p : POp} (k : POk nt ops.toList ps i o p) (hr : ∀ j ∈ edgesOf o, Ls ls j) : p.lo ≤ s := by
  rcases k.lo with e | ⟨j, hj, q, hq, hle⟩
  · omega
  · have hj' := hr j hj
    unfold POp.rank at hle
    by_cases hk : q.kind = 3
    · rw [if_pos (nbeq_iff.2 hk)] at hle
      have := (h.eff j q hq hk).1 hj'
      omega
    · rw [if_neg (fun e => hk (nbeq_iff.1 e))] at hle
      have := h.quiet j q hq hk hj'
      omega

/-- one quiet operation is listed -/
theorem Inv.listQ (h : Inv W0 E nt ops ps L0 a0 tm0 s tm H I L ls a w) {i : Nat} {o : Oper} {p : POp} (ho : ops[i]? = some o) (hp : ps[i]? = some p) (k : POk nt ops.toList ps i o p) (hk : p.kind ≠ 3) (hr : ∀ j ∈ edgesOf o, Ls ls j)
    {L1 : LM} {w1 : World} {u : AV} {x : Value} (hl : LE L L1) (hr1 : HR W0 L1 H w1) (hd1 : HD L1 H) (hu : tm.get (nt + i) = some u) (hx : VR L1 u x)
    (hi1 : ∀ id, I i = some id → ∃ l, L1 id = some l) (hj1 : ∀ j id, j ≠ i → I j = some id → L id = none → L1 id = none) :
    Inv W0 E nt ops ps L0 a0 tm0 s tm H I L1 (ls.setIfInBounds i true) (a.put o.dst x) w1 := by
  have hi : i < ls.size := by rw [h.act.nls]; exact (Array.getElem?_eq_some_iff.1 ho).1
  refine ⟨h.act.list hl.1 (TS.refl _) ho k hr hu hx, h.le.trans hl, hr1, hd1, h.iok, fun j id hj => by rw [hl.2]; exact h.ir j id hj, fun j id hj hn => ?_, fun j id hj hn => ?_, h.ion, fun j q hq hqk => ?_, fun j q hq hqk hj => ?_, h.tmk, fun j q hq hqk hj hlo => ?_⟩
  · rw [ls_set hi] at hn
    exact hj1 j id (fun e => hn (.inl e)) hj (h.il j id hj (fun e => hn (.inr e)))
  · rw [ls_set hi] at hn
    rcases hn with rfl | hn
    · exact hi1 id hj
    · obtain ⟨l, hl'⟩ := h.is j id hj hn
      exact ⟨l, hl.1 _ _ hl'⟩
  · rw [ls_set hi]
    constructor
    · rintro (rfl | e)
      · rw [hp] at hq; cases hq; exact absurd hqk hk
      · exact (h.eff j q hq hqk).1 e
    · intro e; exact .inr ((h.eff j q hq hqk).2 e)
  · rw [ls_set hi] at hj
    rcases hj with rfl | e
    · rw [hp] at hq; cases hq; exact h.lo_le k hr
    · exact h.quiet j q hq hqk e
  · rw [ls_set hi] at hj
    exact h.pend j q hq hqk (fun e => hj (.inr e)) hlo

theorem quiet_goes (hE : E.Ok P W0) (hP : PlanOK nt ops.toList ps) (h0 : TR L0 tm0 nt a0) (h : Inv W0 E nt ops ps L0 a0 tm0 s tm H I L ls a w) {i : Nat} {o : Oper} {p : POp} (ho : ops[i]? = some o) (hp : ps[i]? = some p) (k : POk nt ops.toList ps i o p)
    (hk : p.kind ≠ 3) (hu : ¬ Ls ls i) (hr : ∀ j ∈ edgesOf o, Ls ls j) {Q : Exit → Act → World → Prop} {K : Act → World → Prop}
    (hK : ∀ a' w' L', Inv W0 E nt ops ps L0 a0 tm0 s tm H I L' (ls.setIfInBounds i true) a' w' → K a' w') : wpOp P ops Q i K a w := by
  have hev : ∀ {tm'}, TS tm' tm → ∀ x ∈ o.op.operands, ∀ v, aeval tm' (srcOf nt ops.toList o x) = some v → VR L v (a.eval x) :=
    fun ht => h.act.ev h0 h.le.1 h.tmk ho hP k hu hr ht
  unfold wpOp
  simp only [ho]
  have same : ∀ {u x}, tm.get (nt + i) = some u → VR L u x → I i = none → Inv W0 E nt ops ps L0 a0 tm0 s tm H I L (ls.setIfInBounds i true) (a.put o.dst x) w :=
    fun h1 h2 h3 => h.listQ ho hp k hk hr (LE.refl _) h.hr h.hd h1 h2 (fun id hid => by rw [h3] at hid; cases hid) (fun _ _ _ _ hj => hj)
  have hop := k.op
  cases h.pend i p hp hk hu (h.lo_le k hr) with
  | off ht hw h1 h2 =>
    rw [h.act.wanted k hr ht hw, if_neg (by simp)]
    exact hK _ _ _ (same h1 (.raw _) h2)
  | val ht hw h1 h2 h3 h4 h5 =>
    rename_i tm' H' H'' u
    rw [h.act.wanted k hr ht hw, if_pos rfl]
    rw [hop, aop_map srcOf_lit] at h5
    have hk1 : opKind o.op ≤ 1 := by rw [← k.kind]; exact h3
    have : ∃ H1 H2, HR W0 L H1 w ∧ aop E noCall (fun x => aeval tm' (srcOf nt ops.toList o x)) H1 o.op = some (u, H2) := by
      rcases h4 with h4 | h4
      · exact ⟨H, H, h.hr, aop_kind0 (by rw [← k.kind]; exact h4) h5 H⟩
      · exact ⟨H', H'', h.hr.sub h4, h5⟩
    obtain ⟨H1, H2, g1, g2⟩ := this
    obtain ⟨_, x, g3, g4⟩ := quiet_run hE g1 hk1 (hev ht) g2
    left
    unfold Oper.wp
    rw [g3]
    exact hK _ _ _ (same h1 g4 h2)
  | aval ht hw h1 h2 h3 h4 h5 h6 =>
    rename_i tm' H' u
    rw [h.act.wanted k hr ht hw, if_pos rfl]
    rw [hop, aalc_map] at h5
    obtain ⟨x, g3, g4⟩ := aalc_run hE (h.hr.sub h4) (hev ht) h5
    left
    unfold Oper.wp
    rw [g3]
    exact hK _ _ _ (same h1 g4 h2)
  | ablk ht hw h1 h2 h3 h4 h5 h6 h7 h8 h9 =>
    rename_i tm' H' u f b b' id
    rw [h.act.wanted k hr ht hw, if_pos rfl]
    rw [hop, aalc_map] at h5
    obtain ⟨x, w1, l, g3, g4, g5, g6, g7⟩ := aalc_run hE (h.hr.sub h4) (hev ht) h5
    have hid : L id = none := h.il i id h2 hu
    have hle : LE L (L.set id l) := LM.le_set hid
    left
    unfold Oper.wp
    rw [g3]
    refine hK _ _ _ (h.listQ ho hp k hk hr hle (h.hr.made g4 hid h8 g5 (g6.alike h9)) ⟨fun j hj => ?_, fun j hj => ?_⟩ h1 (h6 ▸ g7 _ hle _ LM.set_same) (fun id' hid' => ?_) (fun j id' hj hj' hn => ?_))
    · have := h.iok.lt i id h2
      rw [LM.set_at, if_neg (by omega)]
      exact h.hd.1 j hj
    · have := h.hd.2 j hj
      rw [LM.set_at, if_neg (fun e : j = id => h.ir i id h2 (e ▸ hj))]
      exact this
    · rw [h2] at hid'; cases hid'
      exact ⟨l, LM.set_same⟩
    · rw [LM.set_at, if_neg (fun e : id' = id => hj (h.iok.inj j i id (e ▸ hj') h2))]
      exact hn

/-- an operation that is not listed may wait on -/
theorem hi_ok (hP : PlanOK nt ops.toList ps) (hc : ∀ i o, ops[i]? = some o → Ls ls i → ∀ j ∈ edgesOf o, Ls ls j) {s : Nat} (hs : s ≤ effCount ps) (he : ∀ i p, ps[i]? = some p → p.kind = 3 → (Ls ls i ↔ p.lo < s)) :
    ∀ (n i : Nat) (p : POp), ps.length - i ≤ n → ps[i]? = some p → ¬ Ls ls i → p.kind ≠ 3 → s ≤ p.hi
  | 0, i, p, hn, hp, _, _ => by
    have := (List.getElem?_eq_some_iff.1 hp).1
    omega
  | n + 1, i, p, hn, hp, hu, hk => by
    have hlt := (List.getElem?_eq_some_iff.1 hp).1
    have hlen := hP.len
    have ho : ops.toList[i]? = some (ops.toList[i]'(by omega)) := List.getElem?_eq_getElem (by omega)
    have k := hP.each i _ p ho hp
    rcases k.hi with e | ⟨j, oj, q, h1, h2, h3, h4, h5⟩
    · omega
    · have hj : ¬ Ls ls j := fun hj => hu (hc j oj (ofL h1) hj i h3)
      by_cases hq : q.kind = 3
      · rw [if_pos hq] at h5
        have : ¬ q.lo < s := fun e => hj ((he j q h2 hq).2 e)
        omega
      · rw [if_neg hq] at h5
        have := hi_ok hP hc hs he n j q (by omega) h2 hj hq
        omega

theorem quietAt_mem {s : Nat} {p : POp} {i : Nat} : (p, i) ∈ quietAt ps s ↔ ps[i]? = some p ∧ p.kind ≠ 3 ∧ p.lo = s := by
  unfold quietAt
  rw [List.mem_filter, List.mem_zipIdx_iff_getElem?]
  simp only [Bool.and_eq_true, Bool.not_eq_true', nbeq_iff]
  constructor
  · rintro ⟨h1, h2, h3⟩
    exact ⟨h1, fun e => by simp [e] at h2, h3⟩
  · rintro ⟨h1, h2, h3⟩
    refine ⟨h1, ?_, h3⟩
    cases hb : Nat.beq p.kind 3
    · rfl
    · exact absurd (nbeq_iff.1 hb) h2

theorem recheckAt_mem {s : Nat} {p : POp} {i : Nat} (h1 : ps[i]? = some p) (h2 : p.kind = 1 ∨ p.kind = 2) (h3 : p.lo < s) (h4 : s ≤ p.hi) : (p, i) ∈ recheckAt ps s := by
  unfold recheckAt
  rw [List.mem_filter, List.mem_zipIdx_iff_getElem?]
  refine ⟨h1, ?_⟩
  simp only [Bool.and_eq_true, Bool.or_eq_true, nbeq_iff, blt_iff, ble_iff]
  exact ⟨⟨h2, h3⟩, h4⟩

theorem effAt_spec {s : Nat} {p : POp} {i : Nat} (h : effAt ps s = some (p, i)) : ps[i]? = some p ∧ p.kind = 3 ∧ p.lo = s := by
  unfold effAt at h
  have h1 := List.mem_of_find?_eq_some h
  have h2 := List.find?_some h
  rw [List.mem_zipIdx_iff_getElem?] at h1
  simp only [Bool.and_eq_true, nbeq_iff] at h2
  exact ⟨h1, h2.1, h2.2⟩

/-- one effect -/
theorem eff_goes (hE : E.Ok P W0) {call : CallA} (hc : CallOk P W0 call) (hP : PlanOK nt ops.toList ps) (h0 : TR L0 tm0 nt a0) (h : Inv W0 E nt ops ps L0 a0 tm0 s tm H I L ls a w) {i : Nat} {o : Oper} {p : POp} (ho : ops[i]? = some o) (hp : ps[i]? = some p)
    (k : POk nt ops.toList ps i o p) (hk : p.kind = 3) (hu : ¬ Ls ls i) (hr : ∀ j ∈ edgesOf o, Ls ls j) {left : Nat} (hm : left + s = effCount ps) {r : T AV × AH} (hst : stages E call nt ps left s tm H = some r)
    {Q : Exit → Act → World → Prop} {K : Act → World → Prop}
    (hK : ∀ a' w' tm' H' I' L' left', left' + (s + 1) = effCount ps → stages E call nt ps left' (s + 1) tm' H' = some r → Inv W0 E nt ops ps L0 a0 tm0 (s + 1) tm' H' I' L' (ls.setIfInBounds i true) a' w' → K a' w') : wpOp P ops Q i K a w := by
  have hlo : p.lo = s := by
    have h1 := h.lo_le k hr
    have h2 : ¬ p.lo < s := fun e => hu ((h.eff i p hp hk).2 e)
    omega
  have hlt := (k.eff hk).1
  cases left with
  | zero => omega
  | succ left =>
    simp only [stages] at hst
    split at hst
    · rename_i p' i' he
      obtain ⟨e1, e2, e3⟩ := effAt_spec he
      have hii : i = i' := (k.eff hk).2 i' p' e1 e2 (by omega)
      subst hii
      rw [hp] at e1
      cases e1
      split at hst
      · rename_i v H1 hx
        split at hst
        · rename_i hnone
          split at hst
          · rename_i hre
            split at hst
            · rename_i tm2 H2 hq
              have hi : i < ls.size := by rw [h.act.nls]; exact (Array.getElem?_eq_some_iff.1 ho).1
              -- behind the effect
              have hput : TS tm (tm.put (some v) (nt + i)) := TS.put hnone
              have hget : (tm.put (some v) (nt + i)).get (nt + i) = some v := by rw [T.get_put, if_pos rfl]
              have behind : ∀ x w' L', LF L L' → L'.r = L.r → HR W0 L' H1 w' → HD L' H1 → (∀ j id, I j = some id → ¬ Ls ls j → L' id = none ∧ id < H1.next) → VR L' v x → K (a.put o.dst x) w' := by
                intro x w' L' hlf hlr hr1 hd1 hpend hvx
                have hlt1 : ∀ j id, I j = some id → id < H1.next := by
                  intro j id hj
                  by_cases hjl : Ls ls j
                  · obtain ⟨l, hl⟩ := h.is j id hj hjl
                    have hl' := hlf _ _ hl
                    refine Nat.lt_of_not_le fun hle => ?_
                    rw [hd1.1 id hle] at hl'; cases hl'
                  · exact (hpend j id hj hjl).2
                have hiok : IOk I H1 := ⟨hlt1, h.iok.inj⟩
                obtain ⟨I2, a1⟩ := runQ_spec (quietAt ps (s + 1)) I _ H1 tm2 H2 hq hr1 hd1 hiok (fun q j hj => by
                    obtain ⟨b1, b2, b3⟩ := quietAt_mem.1 hj
                    have hjl := (List.getElem?_eq_some_iff.1 b1).1
                    have hoj : ops.toList[j]? = some (ops.toList[j]'(by rw [← hP.len]; exact hjl)) := List.getElem?_eq_getElem _
                    have := (hP.each j _ q hoj b1).kind
                    have := opKind_le (ops.toList[j]'(by rw [← hP.len]; exact hjl)).op
                    omega) (fun q j hj => by
                    obtain ⟨b1, b2, b3⟩ := quietAt_mem.1 hj
                    cases hI : I j with
                    | none => rfl
                    | some id =>
                      obtain ⟨q', c1, c2, c3⟩ := h.ion j id hI
                      rw [b1] at c1; cases c1; omega)
                have hact := (h.act.list hlf (hput.trans a1.ts) ho k hr (a1.ts _ _ hget) hvx)
                have heff : ∀ j q, ps[j]? = some q → q.kind = 3 → (Ls (ls.setIfInBounds i true) j ↔ q.lo < s + 1) := by
                  intro j q hq' hqk
                  rw [ls_set hi]
                  constructor
                  · rintro (rfl | e)
                    · rw [hp] at hq'; cases hq'; omega
                    · have := (h.eff j q hq' hqk).1 e; omega
                  · intro e
                    by_cases e2 : q.lo < s
                    · exact .inr ((h.eff j q hq' hqk).2 e2)
                    · exact .inl ((k.eff hk).2 j q hq' hqk (by omega)).symm
                have hi3 : I i = none := by
                  cases hI : I i with
                  | none => rfl
                  | some id =>
                    obtain ⟨q', c1, c2, c3⟩ := h.ion i id hI
                    rw [hp] at c1; cases c1; exact absurd hk c2
                refine hK (a.put o.dst x) w' tm2 H2 I2 L' left (by omega) hst ⟨hact, h.le.trans ⟨hlf, hlr⟩, a1.hr, a1.hd, a1.iok, fun j id hj => ?_, fun j id hj hn => ?_, fun j id hj hn => ?_, fun j id hj => ?_, heff, fun j q hq' hqk hj => ?_, fun t ht => ?_, fun j q hq' hqk hj hlo' => ?_⟩
                · rw [hlr]
                  rcases a1.new j id hj with e | e
                  · exact h.ir j id e
                  · intro hre'
                    have := (hd1.2 id (by rw [hlr]; exact hre')).2
                    omega
                · rcases a1.new j id hj with e | e
                  · exact (hpend j id e (fun hl => hn ((ls_set hi).2 (.inr hl)))).1
                  · exact hd1.1 id e
                · rw [ls_set hi] at hn
                  have hold : I j = some id := by
                    rcases a1.new j id hj with e | e
                    · exact e
                    · by_cases hmem : ∃ q, (q, j) ∈ quietAt ps (s + 1)
                      · obtain ⟨q, hmem⟩ := hmem
                        obtain ⟨b1, b2, b3⟩ := quietAt_mem.1 hmem
                        rcases hn with rfl | hn
                        · rw [hp] at b1; cases b1; exact absurd hk b2
                        · have := h.quiet j q b1 b2 hn; omega
                      · rw [← a1.out j (fun q hq' => hmem ⟨q, hq'⟩)]; exact hj
                  rcases hn with rfl | hn
                  · rw [hi3] at hold; cases hold
                  · obtain ⟨l, hl⟩ := h.is j id hold hn
                    exact ⟨l, hlf _ _ hl⟩
                · by_cases hmem : ∃ q, (q, j) ∈ quietAt ps (s + 1)
                  · obtain ⟨q, hmem⟩ := hmem
                    obtain ⟨b1, b2, b3⟩ := quietAt_mem.1 hmem
                    exact ⟨q, b1, b2, by omega⟩
                  · rw [a1.out j (fun q hq' => hmem ⟨q, hq'⟩)] at hj
                    obtain ⟨q, b1, b2, b3⟩ := h.ion j id hj
                    exact ⟨q, b1, b2, by omega⟩
                · rw [ls_set hi] at hj
                  rcases hj with rfl | hj
                  · rw [hp] at hq'; cases hq'; exact absurd hk hqk
                  · have := h.quiet j q hq' hqk hj; omega
                · rw [a1.low t ht, T.get_put, if_neg (by omega)]
                  exact h.tmk t ht
                · by_cases hnew : q.lo = s + 1
                  · exact a1.pend q j (quietAt_mem.2 ⟨hq', hqk, hnew⟩)
                  · have hjl : ¬ Ls ls j := fun hl => hj ((ls_set hi).2 (.inr hl))
                    have hpj := h.pend j q hq' hqk hjl (by omega)
                    have hout : I2 j = I j := a1.out j fun q' hq'' => by
                      obtain ⟨b1, b2, b3⟩ := quietAt_mem.1 hq''
                      rw [hq'] at b1; cases b1; exact hnew b3
                    have hjlt := (List.getElem?_eq_some_iff.1 hq').1
                    have hoj : ops.toList[j]? = some (ops.toList[j]'(by rw [← hP.len]; exact hjlt)) := List.getElem?_eq_getElem _
                    have hkj := (hP.each j _ q hoj hq').kind
                    have hle3 := opKind_le (ops.toList[j]'(by rw [← hP.len]; exact hjlt)).op
                    by_cases hk0 : q.kind = 0
                    · exact (hpj.keep (H2 := H1) hput hk0).mono a1.ts a1.sub hout
                    · have hhi := hi_ok hP (ls := ls.setIfInBounds i true) hact.closed (s := s + 1) (by omega) heff ps.length j q (by omega) hq' hj hqk
                      obtain ⟨u, c1, c2⟩ := recheck_spec _ hre q j (recheckAt_mem hq' (by omega) (by omega) hhi)
                      exact (hpj.again hput c1 c2).mono a1.ts a1.sub hout
              -- the effect
              unfold wpOp
              simp only [ho]
              unfold pexec at hx
              split at hx
              · rename_i hw
                rw [h.act.wanted k hr (TS.refl _) hw, if_pos rfl]
                left
                rw [k.op, aop_map srcOf_lit] at hx
                let R : LM := ⟨L.f, fun id => L.r id ∨ ∃ j, I j = some id ∧ ¬ Ls ls j⟩
                have hfR : LF L R := fun _ _ e => e
                have hrR : HR W0 R H w := h.hr.same rfl
                have hdR : HD R H := ⟨h.hd.1, fun id hid => by
                  rcases hid with hid | ⟨j, hj, hjl⟩
                  · exact h.hd.2 id hid
                  · exact ⟨h.il j id hj hjl, h.iok.lt j id hj⟩⟩
                refine op_goes hE hrR hdR hc (fun y hy u' hu' => (h.act.ev h0 h.le.1 h.tmk ho hP k hu hr (TS.refl _) y hy u' hu').monoF hfR) hx _ _ fun x w' L' g1 g2 g3 g4 => ?_
                refine behind x w' ⟨L'.f, L.r⟩ (fun id l e => g1.1 id l e) rfl (g2.same rfl) ⟨g3.1, fun id hid => g3.2 id (by rw [g1.2]; exact .inl hid)⟩ (fun j id hj hjl => g3.2 id (by rw [g1.2]; exact .inr ⟨j, hj, hjl⟩)) (VR.monoF (L := L') (L' := ⟨L'.f, L.r⟩) (fun id l (e : L'.f id = some l) => e) g4)
              · rename_i hw
                cases hx
                rw [h.act.wanted k hr (TS.refl _) hw, if_neg (by simp)]
                exact behind undef w L (LF.refl _) rfl h.hr h.hd (fun j id hj hjl => ⟨h.il j id hj hjl, h.iok.lt j id hj⟩) (.raw _)
              · cases hx
            · cases hst
          · cases hst
        · cases hst
      · cases hst
    · cases hst

end
end Go.Proofs.YtkoahnikmckgnaaGreatDoor.Ws

/- A region whose order is drawn. -/
namespace Go.Proofs.YtkoahnikmckgnaaGreatDoor.Ws
open Go Go.RowKit

theorem putDsts_spec {nt : Nat} {vals : T AV} : ∀ (l : List (Oper × Nat)) (tm tm' : T AV), putDsts nt vals l tm = some tm' → ∀ k v, tm'.get k = some v →
    (∃ o i, (o, i) ∈ l ∧ o.dst = some k ∧ vals.get (nt + i) = some v) ∨ ((∀ o i, (o, i) ∈ l → o.dst ≠ some k) ∧ tm.get k = some v)
  | [], tm, tm', h, k, v, hv => by cases h; exact .inr ⟨by simp, hv⟩
  | (o, i) :: l, tm, tm', h, k, v, hv => by
    simp only [putDsts] at h
    split at h
    · rename_i hd
      rcases putDsts_spec l tm tm' h k v hv with ⟨o', i', h1, h2⟩ | ⟨h1, h2⟩
      · exact .inl ⟨o', i', by simp [h1], h2⟩
      · refine .inr ⟨fun o' i' hm => ?_, h2⟩
        rcases List.mem_cons.1 hm with hm | hm
        · cases hm; rw [hd]; simp
        · exact h1 o' i' hm
    · rename_i d hd
      split at h
      · rename_i u hu
        rcases putDsts_spec l _ tm' h k v hv with ⟨o', i', h1, h2⟩ | ⟨h1, h2⟩
        · exact .inl ⟨o', i', by simp [h1], h2⟩
        · rw [T.get_put] at h2
          by_cases e : k = d
          · rw [if_pos e] at h2
            cases h2
            exact .inl ⟨o, i, by simp, by rw [hd, e], hu⟩
          · rw [if_neg e] at h2
            refine .inr ⟨fun o' i' hm => ?_, h2⟩
            rcases List.mem_cons.1 hm with hm | hm
            · cases hm; rw [hd]; intro e'; cases e'; exact e rfl
            · exact h1 o' i' hm
      · cases h

section
variable {P : Program} {W0 : World} {E : Env} {nt : Nat} {ops : Array Oper} {ps : List POp}
variable {L0 : LM} {a0 : Act} {tm0 : T AV}

theorem edges_ready {o : Oper} {ls : Array Bool} (h : ∀ e ∈ o.after, Region.binds .any e = true → ls.getD e.on false = true) : ∀ j ∈ edgesOf o, Ls ls j := by
  intro j hj
  unfold edgesOf at hj
  simp only [List.mem_map, List.mem_filter] at hj
  obtain ⟨e, ⟨h1, h2⟩, rfl⟩ := hj
  exact h e (by simpa using h1) h2

theorem ready_edges {o : Oper} {ls : Array Bool} (h : ∀ j ∈ edgesOf o, Ls ls j) : ∀ e ∈ o.after, Region.binds .any e = true → ls.getD e.on false = true := by
  intro e he hb
  apply h
  unfold edgesOf
  simp only [List.mem_map, List.mem_filter]
  exact ⟨e, ⟨by simpa using he, hb⟩, rfl⟩

theorem not_ls {ls : Array Bool} {i : Nat} (hi : i < ls.size) (h : ¬ Ls ls i) : ls.getD i true = false := by
  unfold Ls at h
  simp [hi] at h ⊢
  exact h

/-- nothing ready: all is listed -/
theorem all_listed (hP : PlanOK nt ops.toList ps) {ls : Array Bool} (hn : ls.size = ops.size) (h : Region.ready .any ops ls = []) : ∀ (n i : Nat), i < n → i < ops.size → Ls ls i
  | 0, i, h1, _ => by omega
  | n + 1, i, h1, h2 => by
    by_cases hl : Ls ls i
    · exact hl
    · exfalso
      have hlt : i < ps.length := by rw [hP.len]; simpa using h2
      have ho : ops[i]? = some ops[i] := Array.getElem?_eq_getElem h2
      have k := hP.each i _ _ (toL ho) (List.getElem?_eq_getElem hlt)
      have : i ∈ Region.ready .any ops ls := mem_ready.2 ⟨not_ls (by omega) hl, ops[i], ho, ready_edges fun j hj => by
        have := k.back j hj
        exact all_listed hP hn h n j (by omega) (by omega)⟩
      rw [h] at this
      cases this

theorem count_set (ls : Array Bool) {i : Nat} (hi : i < ls.size) (h : ls.getD i true = false) : (ls.setIfInBounds i true).toList.count false + 1 = ls.toList.count false := by
  have h1 : ls[i] = false := by simpa [hi] using h
  have h2 : i < ls.toList.length := by simpa using hi
  have h3 : ls.toList[i] = false := by simpa using h1
  rw [Array.toList_setIfInBounds, List.count_set h2]
  have hpos : 0 < ls.toList.count false := List.count_pos_iff.2 (h3 ▸ List.getElem_mem h2)
  simp only [h3, beq_self_eq_true, if_true, show (true == false) = false from rfl, Bool.false_eq_true, if_false]
  generalize ls.toList.count false = n at *
  omega

theorem any_ok (hE : E.Ok P W0) {call : CallA} (hc : CallOk P W0 call) (hP : PlanOK nt ops.toList ps) (h0 : TR L0 tm0 nt a0) {tmF : T AV} {HF : AH} {Q : Exit → Act → World → Prop}
    (hQ : ∀ a w L, AInv nt ops a0 tmF L (Array.replicate ops.size true) a → LE L0 L → HR W0 L HF w → HD L HF → (∀ t, t < nt → tmF.get t = tm0.get t) → Q .normal a w) :
    ∀ (fuel s left : Nat) (tm : T AV) (H : AH) (I : Nat → Option Nat) (L : LM) (ls : Array Bool) (a : Act) (w : World), Inv W0 E nt ops ps L0 a0 tm0 s tm H I L ls a w → left + s = effCount ps → stages E call nt ps left s tm H = some (tmF, HF) →
      ls.toList.count false ≤ fuel → wpAny P .any ops Q fuel ls a w := by
  have fin : ∀ (s left : Nat) (tm : T AV) (H : AH) (I : Nat → Option Nat) (L : LM) (ls : Array Bool) (a : Act) (w : World), Inv W0 E nt ops ps L0 a0 tm0 s tm H I L ls a w → left + s = effCount ps → stages E call nt ps left s tm H = some (tmF, HF) →
      Region.ready .any ops ls = [] → Q .normal a w := by
    intro s left tm H I L ls a w h hm hst hr
    have hall := fun i hi => all_listed hP h.act.nls hr (i + 1) i (by omega) hi
    have hls : ls = Array.replicate ops.size true := by
      apply Array.ext
      · simp [h.act.nls]
      · intro i h1 h2
        have := hall i (by rw [← h.act.nls]; exact h1)
        unfold Ls at this
        simp [h1] at this
        simp [this]
    cases left with
    | succ left =>
      exfalso
      simp only [stages] at hst
      split at hst
      · rename_i p i he
        obtain ⟨e1, e2, e3⟩ := effAt_spec he
        have hi : i < ops.size := by
          have := (List.getElem?_eq_some_iff.1 e1).1
          have := hP.len
          simp only [Array.length_toList] at this
          omega
        have := (h.eff i p e1 e2).1 (hall i hi)
        omega
      · cases hst
    | zero =>
      simp only [stages] at hst
      cases hst
      exact hQ a w L (hls ▸ h.act) h.le h.hr h.hd h.tmk
  intro fuel
  induction fuel with
  | zero =>
    intro s left tm H I L ls a w h hm hst hcnt
    have hr : Region.ready .any ops ls = [] := by
      cases hrr : Region.ready .any ops ls with
      | nil => rfl
      | cons i l =>
        exfalso
        have hi : i ∈ Region.ready .any ops ls := by rw [hrr]; simp
        obtain ⟨h1, o, ho, h2⟩ := mem_ready.1 hi
        have hlt : i < ls.size := by rw [h.act.nls]; exact (Array.getElem?_eq_some_iff.1 ho).1
        have := count_set ls hlt h1
        omega
    exact ⟨hr, fin s left tm H I L ls a w h hm hst hr⟩
  | succ fuel ih =>
    intro s left tm H I L ls a w h hm hst hcnt
    refine ⟨fin s left tm H I L ls a w h hm hst, fun i hi => ?_⟩
    obtain ⟨h1, o, ho, h2⟩ := mem_ready.1 hi
    have hlt : i < ls.size := by rw [h.act.nls]; exact (Array.getElem?_eq_some_iff.1 ho).1
    have hcs := count_set ls hlt h1
    have hu : ¬ Ls ls i := by
      unfold Ls
      simp [hlt] at h1 ⊢
      exact h1
    have hltp : i < ps.length := by rw [hP.len]; have := (Array.getElem?_eq_some_iff.1 ho).1; simpa using this
    have hp : ps[i]? = some ps[i] := List.getElem?_eq_getElem hltp
    have k := hP.each i o _ (toL ho) hp
    by_cases hk : ps[i].kind = 3
    · exact eff_goes hE hc hP h0 h ho hp k hk hu (edges_ready h2) hm hst fun a' w' tm' H' I' L' left' hm' hst' h' => ih (s + 1) left' tm' H' I' L' _ a' w' h' hm' hst' (by omega)
    · exact quiet_goes hE hP h0 h ho hp k hk hu (edges_ready h2) fun a' w' L' h' => ih s left tm H I L' _ a' w' h' hm hst (by omega)

theorem not_ls_rep {n i : Nat} : ¬ Ls (Array.replicate n false) i := by
  unfold Ls
  by_cases h : i < n
  · simp [h]
  · simp [h]

theorem ls_rep {n i : Nat} (h : i < n) : Ls (Array.replicate n true) i := by
  unfold Ls
  simp [h]

theorem region_drawn (hE : E.Ok P W0) {call : CallA} (hc : CallOk P W0 call) {id : Nat} {Q : Exit → Act → World → Prop} {L : LM} {s s' : St} {a : Act} {w : World}
    (hr : HR W0 L s.h w) (hd : HD L s.h) (ht : TR L s.tm nt a) (hP : PlanOK nt ops.toList ps) (h : adrawP E call nt ops.toList ps s = some s') (hq : ∀ a' w', Post W0 L nt a s' a' w' → Q .normal a' w') :
    (Code.region id ops true).wp P Q a w := by
  refine wp_region_any hE.mixed ?_
  unfold adrawP at h
  split at h
  · rename_i tm H hq0
    split at h
    · rename_i tm' H' hst
      split at h
      · rename_i tm'' hput
        cases h
        obtain ⟨I, a1⟩ := runQ_spec (w := { w with drawn := w.drawn + 1 }) (quietAt ps 0) (fun _ => none) s.tm s.h tm H hq0 (hr.drawn _) hd ⟨fun _ _ e => (by cases e), fun _ _ _ e => (by cases e)⟩ (fun q j hj => by
            obtain ⟨b1, b2, b3⟩ := quietAt_mem.1 hj
            have hjl := (List.getElem?_eq_some_iff.1 b1).1
            have hoj : ops.toList[j]? = some (ops.toList[j]'(by rw [← hP.len]; exact hjl)) := List.getElem?_eq_getElem _
            have := (hP.each j _ q hoj b1).kind
            have := opKind_le (ops.toList[j]'(by rw [← hP.len]; exact hjl)).op
            omega) (fun _ _ _ => rfl)
        have hinv : Inv W0 E nt ops ps L a s.tm 0 tm H I L (Array.replicate ops.size false) a { w with drawn := w.drawn + 1 } := by
          refine ⟨⟨ht.size, rfl, by simp, fun i o _ hl => absurd hl not_ls_rep, fun i o _ hl => absurd hl not_ls_rep, fun _ _ => rfl⟩, LE.refl _, a1.hr, a1.hd, a1.iok, fun j jd hj hrr => ?_, fun j jd hj _ => ?_, fun j jd _ hl => absurd hl not_ls_rep,
            fun j jd hj => ?_, fun j q _ _ => ⟨fun hl => absurd hl not_ls_rep, fun hl => by omega⟩, fun j q _ _ hl => absurd hl not_ls_rep, a1.low, fun j q hq hqk _ hlo => a1.pend q j (quietAt_mem.2 ⟨hq, hqk, by omega⟩)⟩
          · rcases a1.new j jd hj with e | e
            · cases e
            · have := (hd.2 jd hrr).2; omega
          · rcases a1.new j jd hj with e | e
            · cases e
            · exact hd.1 jd e
          · by_cases hmem : ∃ q, (q, j) ∈ quietAt ps 0
            · obtain ⟨q, hmem⟩ := hmem
              obtain ⟨b1, b2, b3⟩ := quietAt_mem.1 hmem
              exact ⟨q, b1, b2, by omega⟩
            · rw [a1.out j (fun q hq' => hmem ⟨q, hq'⟩)] at hj; cases hj
        refine any_ok hE hc hP ht (fun a' w' L' g1 g2 g3 g4 g5 => ?_) ops.size 0 (effCount ps) tm H I L _ a _ hinv rfl hst (by
          rw [Array.toList_replicate]
          exact Nat.le_trans List.count_le_length (by simp))
        refine hq a' w' ⟨L', g2, g3, g4, ⟨g1.size, fun t v hv => ?_⟩, g1.dfr⟩
        rcases putDsts_spec _ _ _ hput t v hv with ⟨o, i, h1, h2, h3⟩ | ⟨h1, h2⟩
        · rw [List.mem_zipIdx_iff_getElem?] at h1
          have ho := ofL h1
          obtain ⟨u, h4, h5⟩ := g1.vals i o ho (ls_rep (Array.getElem?_eq_some_iff.1 ho).1)
          rw [h3] at h4
          cases h4
          exact h5 t h2
        · obtain ⟨x, h3, h4⟩ := ht.val t v h2
          refine ⟨x, ?_, h4.mono g2⟩
          rw [g1.init t (fun i o ho hdd => absurd hdd (h1 o i (by rw [List.mem_zipIdx_iff_getElem?]; exact toL ho)))]
          exact h3
      · cases h
    · cases h
  · cases h

end
end Go.Proofs.YtkoahnikmckgnaaGreatDoor.Ws
