/- Code. -/
import Derived.Test.YtkoahnikmckgnaaGreatDoorWsK4
import Derived.RangeFuncIn
import Derived.RangeFuncLeaves
import Derived.Conc.MuLone
import Derived.Laws.Sem
set_option linter.unusedSimpArgs false
set_option linter.unusedVariables false
namespace Go.Proofs.YtkoahnikmckgnaaGreatDoor.Ws
open Go Go.RowKit

theorem aregion_ds {E : Env} {call : CallA} {nt : Nat} {all : List Oper} : ∀ (l : List Oper) (s s' : St), aregion E call nt all l s = some s' → s'.ds = s.ds
  | [], s, s', h => by simp [aregion_nil] at h; subst h; rfl
  | o :: l, s, s', h => by
    simp only [aregion_cons] at h
    split at h
    · split at h
      · split at h
        · have := aregion_ds l _ _ h; exact this
        · cases h
      · cases h
    · split at h
      · have := aregion_ds l _ _ h; exact this
      · cases h
    · cases h

theorem adrawP_ds {E : Env} {call : CallA} {nt : Nat} {ops : List Oper} {ps : List POp} {s s' : St} (h : adrawP E call nt ops ps s = some s') : s'.ds = s.ds := by
  unfold adrawP at h
  split at h
  · split at h
    · split at h
      · cases h; rfl
      · cases h
    · cases h
  · cases h

/-- the marks -/
inductive DR (L : LM) : List Nat → List Deferred → Prop
  | nil : DR L [] []
  | cons {id : Nat} {l : Loc} {ds : List Nat} {fs : List Deferred} (h : L id = some l) (hs : DR L ds fs) : DR L (id :: ds) ({ target := .collected l.b, args := #[] } :: fs)

theorem DR.mono {L L' : LM} (hl : LE L L') : ∀ {ds : List Nat} {fs : List Deferred}, DR L ds fs → DR L' ds fs
  | _, _, .nil => .nil
  | _, _, .cons h hs => .cons (hl.1 _ _ h) (DR.mono hl hs)

def exitOf : AEx → Exit
  | .normal => .normal
  | .exit id => .exit id
  | .ret => .ret

/-- what a piece of code leads to -/
def Leads (W0 : World) (L : LM) (nt : Nat) (s' : St) (a' : Act) (w' : World) : Prop :=
  ∃ L', LE L L' ∧ HR W0 L' s'.h w' ∧ HD L' s'.h ∧ TR L' s'.tm nt a' ∧ DR L' s'.ds a'.defers

def LoopWp (P : Program) (c : Code) (Q : Exit → Act → World → Prop) (a : Act) (w : World) : Prop :=
  ∀ (b : Frame) (k : List Item) (cs : List Frame), ∃ e a' w', Q e a' w' ∧ Arrives P (lone (b.at a (.code c :: .inLoop c :: k)) cs w) b k cs e a' w'

theorem LoopWp.of {P : Program} {c : Code} {Q : Exit → Act → World → Prop} {a : Act} {w : World} (h : c.wp P (Exit.then (LoopWp P c Q) Q) a w) : LoopWp P c Q a w := by
  intro b k cs
  obtain ⟨e, a₁, w₁, hq, harr⟩ := h b (.inLoop c :: k) cs
  cases e with
  | normal =>
    obtain ⟨e₂, a₂, w₂, hq₂, harr₂⟩ := hq b k cs
    exact ⟨e₂, a₂, w₂, hq₂, .of_steps (Steps.trans harr (.one step_inLoop)) harr₂⟩
  | exit id => exact ⟨_, a₁, w₁, hq, .pass (x := .inLoop c) rfl (fun _ _ => .inl (by simp)) harr⟩
  | goto l => exact ⟨_, a₁, w₁, hq, .pass (x := .inLoop c) rfl (fun _ _ => .inl (by simp)) harr⟩
  | ret => exact ⟨_, a₁, w₁, hq, .pass (x := .inLoop c) rfl (fun _ _ => .inl (by simp)) harr⟩
  | panic ch => exact ⟨_, a₁, w₁, hq, .pass (x := .inLoop c) rfl (fun _ _ => .inl (by simp)) harr⟩
  | outgrown => exact ⟨_, a₁, w₁, hq, .pass (x := .inLoop c) rfl (fun _ _ => .inl (by simp)) harr⟩

theorem LoopWp.wp {P : Program} {c : Code} {Q : Exit → Act → World → Prop} {a : Act} {w : World} (h : LoopWp P c Q a w) : (Code.loop c).wp P Q a w := fun b k cs =>
  let ⟨e, a', w', hq, harr⟩ := h b k cs
  ⟨e, a', w', hq, .of_steps (.one step_loop) harr⟩

section
variable {P : Program} {W0 : World} {E : Env}

/-- a body of the program -/
def FnOk (P : Program) (W0 : World) (call : CallA) : Prop :=
  ∀ g args H r H', call g args H = some (r, H') → ∀ L w vs, VRs L args vs → HR W0 L H w → HD L H →
    (callFunc g vs.toArray).run P w = .ok (.enter g vs.toArray) w ∧ Calls P g vs.toArray w (Ends W0 L H' r)

theorem T.get_e {α : Type} (k : Nat) : (T.e : T α).get k = none := rfl

theorem T.map_e {α β : Type} (f : α → β) : (T.e : T α).map f = .e := rfl
theorem T.map_n {α β : Type} (f : α → β) (l r : T α) (v : Option α) : (T.n l v r).map f = .n (l.map f) (v.map f) (r.map f) := rfl
theorem T.get_map {α β : Type} (f : α → β) : ∀ (t : T α) (k : Nat), (t.map f).get k = (t.get k).map f
  | .e, k => by rw [T.map_e, T.get_e, T.get_e]; rfl
  | .n l v r, k => by
    cases k with
    | zero => simp [T.map_n, T.get_zero]
    | succ p =>
      simp only [T.map_n, T.get_succ]
      split
      · exact T.get_map f l _
      · exact T.get_map f r _

mutual
theorem VR.shift {L L' : LM} {n : Nat} (hl : ∀ id l, L id = some l → L' (n + id) = some l) {v : AV} {x : Value} (h : VR L v x) : VR L' (shiftA n v) x := by
  cases h with
  | raw => exact .raw _
  | ptr h => exact .ptr (hl _ _ h)
  | slc h => exact .slc (hl _ _ h)
  | slu h hs hc hle => exact .slu (hl _ _ h) hs hc hle
  | emp a c => exact .emp a c
  | opq l => exact .opq l
  | map h => exact .map (hl _ _ h)
  | func ha hb => exact .func (VRs.shift hl ha) (VRs.shift hl hb)
  | iface h => exact .iface (VR.shift hl h)
  | agg h => exact .agg (VRs.shift hl h)
  | tup h => exact .tup (VRs.shift hl h)
theorem VRs.shift {L L' : LM} {n : Nat} (hl : ∀ id l, L id = some l → L' (n + id) = some l) {v : List AV} {x : List Value} (h : VRs L v x) : VRs L' (shiftAs n v) x := by
  cases h with
  | nil => exact .nil
  | cons h hs => exact .cons (VR.shift hl h) (VRs.shift hl hs)
end

theorem MR.shift {L L' : LM} {n : Nat} (hl : ∀ id l, L id = some l → L' (n + id) = some l) : ∀ {l : List (Value × AV)} {es : List MapEntry}, MR L l es → MR L' (l.map fun p => (p.1, shiftA n p.2)) es
  | _, _, .nil => .nil
  | _, _, .cons hk hv hs => .cons hk (hv.shift hl) (MR.shift hl hs)

theorem shiftA_one {n : Nat} : ∀ {v : AV}, v.isOne = true → (shiftA n v).isOne = true
  | .raw v, h => by simpa [shiftA] using h
  | .ptr .., _ | .slc .., _ | .slu .., _ | .emp, _ | .opq, _ | .map _, _ | .func .., _ | .iface .., _ => by simp [shiftA, AV.isOne]
  | .agg _, h | .tup _, h => by simp [AV.isOne] at h

theorem BR.shift {L L' : LM} {n : Nat} (hl : ∀ id l, L id = some l → L' (n + id) = some l) {w : World} {l : Loc} {b : ABlk} (h : BR L w l b) : BR L' w l (shiftBlk n b) := by
  cases b with
  | cells k cs g =>
    obtain ⟨c, t, fr, h1, h2, h3, h4, h5⟩ := h
    refine ⟨c, t, fr, h1, h2, h3, h4, fun i hi => ?_⟩
    obtain ⟨v, x, a1, a2, a3, a4⟩ := h5 i hi
    exact ⟨shiftA n v, x, by rw [T.get_map, a1]; rfl, shiftA_one a2, a3.shift hl, a4⟩
  | map es =>
    obtain ⟨ents, clock, h1, h2⟩ := h
    exact ⟨ents, clock, h1, h2.shift hl⟩
  | iter s pos => exact h
  | dfr => exact h
  | rdy => exact h

theorem addBlks_next (n : Nat) : ∀ (bs : List ABlk) (H : AH), (addBlks n bs H).next = H.next + bs.length
  | [], H => rfl
  | b :: bs, H => by
    simp only [addBlks, List.length_cons]
    rw [addBlks_next n bs]
    simp only [AH.new]; omega

theorem addBlks_get (n : Nat) : ∀ (bs : List ABlk) (H : AH) (k : Nat), (addBlks n bs H).get k = if H.next ≤ k ∧ k < H.next + bs.length then (bs[k - H.next]?).map (shiftBlk n) else H.get k
  | [], H, k => by
    simp only [addBlks, List.length_nil]
    rw [if_neg (by omega)]
  | b :: bs, H, k => by
    simp only [addBlks, List.length_cons]
    rw [addBlks_get n bs, AH.get_new]
    have hn : (H.new (shiftBlk n b)).next = H.next + 1 := rfl
    rw [hn]
    by_cases e : k = H.next
    · subst e
      rw [if_neg (by omega), if_pos rfl, if_pos (by omega)]
      simp
    · by_cases h : H.next + 1 ≤ k ∧ k < H.next + 1 + bs.length
      · rw [if_pos h, if_pos (by omega)]
        have : k - H.next = (k - (H.next + 1)) + 1 := by omega
        rw [this, List.getElem?_cons_succ]
      · rw [if_neg h, if_neg e, if_neg (by omega)]

theorem blkT_get : ∀ (l : List ABlk) (i : Nat) (t : T ABlk) (k : Nat), (blkT i l t).get k = if i ≤ k ∧ k < i + l.length then l[k - i]? else t.get k
  | [], i, t, k => by
    simp only [blkT, List.length_nil]
    rw [if_neg (by omega)]
  | v :: l, i, t, k => by
    simp only [blkT, List.length_cons]
    rw [blkT_get l (i + 1) _ k, T.get_put]
    by_cases e : k = i
    · subst e
      rw [if_neg (by omega), if_pos rfl, if_pos (by omega)]
      simp
    · by_cases h : i + 1 ≤ k ∧ k < i + 1 + l.length
      · rw [if_pos h, if_pos (by omega)]
        have : k - i = (k - (i + 1)) + 1 := by omega
        rw [this, List.getElem?_cons_succ]
      · rw [if_neg h, if_neg e, if_neg (by omega)]

/-- new blocks behind those that there are -/
theorem tpl_join {L L0 : LM} {H : AH} {w w' : World} {bs : List ABlk} (hr : HR W0 L H w) (hd : HD L H) (g : HR w L0 ⟨blkT 0 bs .e, bs.length⟩ w') (gd : HD L0 ⟨blkT 0 bs .e, bs.length⟩) :
    let L' : LM := ⟨fun id => if id < H.next then L id else L0 (id - H.next), L.r⟩
    LE L L' ∧ HR W0 L' (addBlks H.next bs H) w' ∧ HD L' (addBlks H.next bs H) ∧ ∀ id l, L0 id = some l → L' (H.next + id) = some l := by
  intro L'
  have hlt : ∀ id l, L id = some l → id < H.next := fun id l hl => by
    rcases Nat.lt_or_ge id H.next with h | h
    · exact h
    · rw [hd.1 id h] at hl; cases hl
  have hlt0 : ∀ id l, L0 id = some l → id < bs.length := fun id l hl => by
    rcases Nat.lt_or_ge id bs.length with h | h
    · exact h
    · rw [gd.1 id h] at hl; cases hl
  have e1 : ∀ id l, L id = some l → L' id = some l := fun id l hl => by
    show (if id < H.next then L id else _) = _
    rw [if_pos (hlt _ _ hl)]; exact hl
  have e2 : ∀ id l, L0 id = some l → L' (H.next + id) = some l := fun id l hl => by
    show (if H.next + id < H.next then _ else L0 (H.next + id - H.next)) = _
    rw [if_neg (by omega), Nat.add_sub_cancel_left]; exact hl
  have hle : LE L L' := ⟨e1, rfl⟩
  have split : ∀ id l, L' id = some l → (id < H.next ∧ L id = some l) ∨ (H.next ≤ id ∧ id < H.next + bs.length ∧ L0 (id - H.next) = some l) := fun id l hl => by
    have hl : (if id < H.next then L id else L0 (id - H.next)) = some l := hl
    by_cases h : id < H.next
    · rw [if_pos h] at hl; exact .inl ⟨h, hl⟩
    · rw [if_neg h] at hl; have := hlt0 _ _ hl; exact .inr ⟨by omega, by omega, hl⟩
  have getn : ∀ k, H.next ≤ k → k < H.next + bs.length → ∃ b, bs[k - H.next]? = some b ∧ (addBlks H.next bs H).get k = some (shiftBlk H.next b) ∧ (AH.get ⟨blkT 0 bs .e, bs.length⟩ (k - H.next)) = some b := fun k h1 h2 => by
    have hk : k - H.next < bs.length := by omega
    refine ⟨bs[k - H.next], List.getElem?_eq_getElem hk, ?_, ?_⟩
    · rw [addBlks_get, if_pos ⟨h1, h2⟩, List.getElem?_eq_getElem hk]; rfl
    · show (blkT 0 bs .e).get (k - H.next) = _
      rw [blkT_get, if_pos (by omega), Nat.sub_zero, List.getElem?_eq_getElem hk]
  have geto : ∀ k, k < H.next → (addBlks H.next bs H).get k = H.get k := fun k h => by rw [addBlks_get, if_neg (by omega)]
  refine ⟨hle, ⟨fun id b l hb hl => ?_, fun i j c c' k k' hc hc' hk hk' e => ?_, fun id l hl => ?_, fun id l hl => ?_, ?_⟩, ⟨fun id hid => ?_, fun id hid => ?_⟩, e2⟩
  · rcases split id l hl with ⟨h1, h2⟩ | ⟨h1, h2, h3⟩
    · rw [geto _ h1] at hb
      exact (hr.blk id b l hb h2).mono hle (g.below.block _ (hr.lt _ _ h2))
    · obtain ⟨b', _, h5, h6⟩ := getn id h1 h2
      rw [h5] at hb; cases hb
      exact (g.blk _ _ _ h6 h3).shift e2
  · rcases split i k hk with ⟨h1, h2⟩ | ⟨h1, h2, h3⟩ <;> rcases split j k' hk' with ⟨f1, f2⟩ | ⟨f1, f2, f3⟩
    · rw [geto _ h1] at hc; rw [geto _ f1] at hc'
      exact hr.inj i j c c' k k' hc hc' h2 f2 e
    · have a1 := hr.lt _ _ h2
      have a2 := g.base _ _ f3
      omega
    · have a1 := hr.lt _ _ f2
      have a2 := g.base _ _ h3
      omega
    · obtain ⟨b1, _, _, a6⟩ := getn i h1 h2
      obtain ⟨b2, _, _, a7⟩ := getn j f1 f2
      have := g.inj _ _ _ _ _ _ a6 a7 h3 f3 e
      omega
  · rcases split id l hl with ⟨h1, h2⟩ | ⟨h1, h2, h3⟩
    · have a1 := hr.lt _ _ h2
      have a2 := g.below.size
      omega
    · exact g.lt _ _ h3
  · rcases split id l hl with ⟨h1, h2⟩ | ⟨h1, h2, h3⟩
    · exact hr.base _ _ h2
    · have a1 := g.base _ _ h3
      have a2 := hr.below.size
      omega
  · have hle := hr.below.size
    exact hr.below.trans ⟨g.below.os, g.below.tape, g.below.output, g.below.size, fun k hk => g.below.block k (by omega)⟩
  · rw [addBlks_next] at hid
    show (if id < H.next then L id else L0 (id - H.next)) = _
    rw [if_neg (by omega)]
    exact gd.1 _ (by show bs.length ≤ id - H.next; omega)
  · obtain ⟨a1, a2⟩ := hd.2 id hid
    refine ⟨?_, by rw [addBlks_next]; omega⟩
    show (if id < H.next then L id else L0 (id - H.next)) = _
    rw [if_pos a2]; exact a1

theorem CallOk.of (hE : E.Ok P W0) {exec : ExecA} (h : FnOk P W0 (runFn E exec)) : CallOk P W0 (runBody E exec) := by
  intro g args H r H' hc L w vs hv hr hd
  unfold runBody at hc
  split at hc
  · rename_i p hp
    cases hc
    exact .inr (hE.hp g args H r H' hp W0 (Below.refl _ _) L w vs hv hr hd)
  · split at hc
    · rename_i v ho
      cases hc
      rcases hE.orc g args v ho L vs w hv hr.below with h1 | ⟨h1, h2⟩
      · exact .inl ⟨v, w, L, h1, LE.refl _, hr, hd, .raw _⟩
      · refine .inr ⟨h1, h2.mono fun e w' he => ?_⟩
        obtain ⟨rfl, hb⟩ := he
        refine ⟨v, L, rfl, LE.refl _, ?_, hd, .raw _⟩
        refine ⟨fun id b l hb' hl => (hr.blk id b l hb' hl).mono (LE.refl _) (hb.block _ (hr.lt _ _ hl)), hr.inj, fun id l hl => Nat.lt_of_lt_of_le (hr.lt _ _ hl) hb.size, hr.base, ?_⟩
        have hle := hr.below.size
        exact hr.below.trans ⟨hb.os, hb.tape, hb.output, hb.size, fun k hk => hb.block k (by omega)⟩
    · split at hc
      · rename_i v bs ht
        cases hc
        obtain ⟨h1, h2⟩ := hE.tpl g args v bs ht L vs w hv hr.below
        refine .inr ⟨h1, h2.mono fun e w' he => ?_⟩
        obtain ⟨x, L0, rfl, g1, g2, g3, g4⟩ := he
        obtain ⟨k1, k2, k3, k4⟩ := tpl_join hr hd g2 g3
        exact ⟨x, _, rfl, k1, k2, k3, g4.shift k4⟩
      · exact .inr (h g args H r H' hc L w vs hv hr hd)

/-- what an execution is worth -/
def ExecOk (P : Program) (W0 : World) (exec : ExecA) : Prop :=
  ∀ nt c s r s', exec nt c s = some (r, s') → ∀ L a w, HR W0 L s.h w → HD L s.h → TR L s.tm nt a → DR L s.ds a.defers →
    ∀ Q : Exit → Act → World → Prop, (∀ a' w', Leads W0 L nt s' a' w' → Q (exitOf r) a' w') → c.wp P Q a w

theorem argTmps_get : ∀ (l : List AV) (i : Nat) (t : T AV) (k : Nat), (argTmps i l t).get k = if i ≤ k ∧ k < i + l.length then l[k - i]? else t.get k
  | [], i, t, k => by
    simp only [argTmps, List.length_nil]
    rw [if_neg (by omega)]
  | v :: l, i, t, k => by
    simp only [argTmps, List.length_cons]
    rw [argTmps_get l (i + 1) _ k, T.get_put]
    by_cases e : k = i
    · subst e
      rw [if_neg (by omega), if_pos rfl, if_pos (by omega)]
      simp
    · by_cases h : i + 1 ≤ k ∧ k < i + 1 + l.length
      · rw [if_pos h, if_pos (by omega)]
        have : k - i = (k - (i + 1)) + 1 := by omega
        rw [this, List.getElem?_cons_succ]
      · rw [if_neg h, if_neg e, if_neg (by omega)]

theorem enter_tr {L : LM} {args : List AV} {vs : List Value} {nt : Nat} (hv : VRs L args vs) (hn : args.length ≤ nt) :
    TR L (argTmps 0 args .e) nt { tmps := vs.toArray ++ Array.replicate (nt - vs.toArray.size) undef, defers := [] } := by
  have hl := hv.length
  refine ⟨by simp; omega, fun t v ht => ?_⟩
  rw [argTmps_get, T.get_e] at ht
  split at ht
  · rename_i h
    simp only [Nat.sub_zero] at ht
    obtain ⟨x, h1, h2⟩ := hv.get t v ht
    refine ⟨x, ?_, h2⟩
    have hlt : t < vs.length := (List.getElem?_eq_some_iff.1 h1).1
    simp only
    rw [Array.getElem?_append_left (by simpa using hlt)]
    simpa using h1
  · cases ht

/-- a given-up block may be overwritten -/
theorem HR.over {L : LM} {H : AH} {w : World} (h : HR W0 L H w) {id : Nat} {b : ABlk} {l : Loc} (hg : H.get id = some b) (hl : L id = some l) (o : Obj) : HR W0 L (H.del id) { w with heap := w.heap.setIfInBounds l.b o } := by
  have hd := h.del id
  have hne : ∀ j c k, (H.del id).get j = some c → L j = some k → k.b ≠ l.b := by
    intro j c k hj hk e
    rw [AH.get_del] at hj
    split at hj
    · cases hj
    · rename_i hji
      exact hji (h.inj j id c b k l hj hg hk hl e)
  refine ⟨fun j c k hj hk => (hd.blk j c k hj hk).mono (LE.refl _) ?_, hd.inj, fun j k hk => ?_, hd.base, ?_⟩
  · simp only
    rw [Array.getElem?_setIfInBounds_ne (fun e => hne j c k hj hk e.symm)]
  · simp only [Array.size_setIfInBounds]
    exact h.lt _ _ hk
  · have hb := h.below
    have h0 := h.base _ _ hl
    exact ⟨hb.os, hb.tape, hb.output, by simp only [Array.size_setIfInBounds]; exact hb.size, fun k hk => by
      simp only
      rw [Array.getElem?_setIfInBounds_ne (by omega)]
      exact hb.block k hk⟩

def resSem (tmps : Array Value) : ResultVar → Sem Value
  | .tmp t => pure (tmps.getD t undef)
  | .cell b t => do loadVar t (← asAddr (tmps.getD b undef))

theorem results_run (hE : E.Ok P W0) {L : LM} {H : AH} {w : World} {tm : T AV} {nt : Nat} {a : Act} (hr : HR W0 L H w) (ht : TR L tm nt a) : ∀ (l : List ResultVar) (vs : List AV), aresults E tm H l = some vs →
    ∃ xs, VRs L vs xs ∧ (l.mapM (resSem a.tmps)).run P w = .ok xs w
  | [], vs, h => by
    cases h
    exact ⟨[], .nil, by simp⟩
  | r :: l, vs, h => by
    simp only [aresults] at h
    split at h
    · rename_i v hv
      split at h
      · rename_i us hus
        cases h
        obtain ⟨xs, h1, h2⟩ := results_run hE hr ht l us hus
        have hone : ∃ x, VR L v x ∧ (resSem a.tmps r).run P w = .ok x w := by
          cases r with
          | tmp t =>
            obtain ⟨x, e1, e2⟩ := ht.val t v hv
            exact ⟨x, e2, by simp [resSem, e1]⟩
          | cell b t =>
            simp only [aresult] at hv
            split at hv
            · rename_i av hav
              obtain ⟨y, e1, e2⟩ := ht.val b av hav
              obtain ⟨x, e3, e4⟩ := load_run hE hr hv e2
              refine ⟨x, e4, ?_⟩
              have : ∃ ad, y = .pointer (some ad) := by
                unfold aload at hv
                split at hv
                · obtain ⟨l, _, rfl⟩ := e2.ptr_inv; exact ⟨_, rfl⟩
                · cases hv
              obtain ⟨ad, rfl⟩ := this
              have hg : a.tmps.getD b undef = .pointer (some ad) := by simp [e1]
              simp only [resSem, hg, asAddr]
              simpa [Instr.loadAt, Instr.sureAddr] using e3
            · cases hv
        obtain ⟨x, e1, e2⟩ := hone
        refine ⟨x :: xs, .cons e1 h1, ?_⟩
        rw [List.mapM_cons]
        simp [e2, h2]
      · cases h
    · cases h

end
end Go.Proofs.YtkoahnikmckgnaaGreatDoor.Ws

/- Bodies, ranges over functions, executions. -/
namespace Go.Proofs.YtkoahnikmckgnaaGreatDoor.Ws
open Go Go.RowKit

section
variable {P : Program} {W0 : World} {E : Env}

theorem marks_steps (L : LM) (cs : List Frame) : ∀ (ds : List Nat) (fs : List Deferred) (H H' : AH) (fr : Frame) (w : World), fr.mode = .returning → fr.defers = fs → DR L ds fs → aends ds H = some H' → HR W0 L H w → HD L H →
    ∃ w', Steps P (lone fr cs w) (lone { fr with defers := [] } cs w') ∧ HR W0 L H' w' ∧ HD L H'
  | [], fs, H, H', fr, w, hm, hf, hd, h, hr, hh => by
    cases hd
    cases h
    refine ⟨w, ?_, hr, hh⟩
    have : { fr with defers := [] } = fr := by cases fr; simp only at hf; subst hf; rfl
    rw [this]
    exact .refl _ _
  | id :: ds, fs, H, H', fr, w, hm, hf, hd, h, hr, hh => by
    cases hd with
    | cons hl hs =>
      rename_i l fs
      simp only [aends] at h
      split at h
      · rename_i hg
        have hb := hr.blk _ _ _ hg hl
        have hb : w.heap[l.b]? = some (.deferred (some [])) := hb
        have hgo : (getObj l.b).run P w = .ok (.deferred (some [])) w := by simp [getObj, Sem.run, hb]
        have hset : ∀ o, (setObj l.b o).run P w = .ok () { w with heap := w.heap.setIfInBounds l.b o } := by intro o; simp [setObj, Sem.run, hb]
        have hk : (Instr.takeDeferred l.b).run P w = .ok [] { w with heap := w.heap.setIfInBounds l.b (.deferred none) } := by
          simp [Instr.takeDeferred, hgo, hset]
        have h1 := step_collected (cs := cs) (by rw [hm]; simp) hf rfl hk
        obtain ⟨w', h2, h3, h4⟩ := marks_steps L cs ds fs (H.del id) H' { fr with defers := [] ++ fs } _ hm rfl hs h (hr.over hg hl (.deferred none)) (HD.del hh id)
        exact ⟨w', .head h1 h2, h3, h4⟩
      · cases h

theorem tuple_vr {L : LM} : ∀ {vs : List AV} {xs : List Value}, VRs L vs xs → VR L (tupleOf vs) (if h : xs.toArray.size = 1 then xs.toArray[0] else .tuple xs.toArray)
  | [], [], _ => by simpa [tupleOf] using VR.tup (xs := #[]) .nil
  | [v], [x], h => by
    cases h with
    | cons h _ => simpa [tupleOf] using h
  | v :: v' :: vs, x :: x' :: xs, h => by
    have : ¬ (x :: x' :: xs).toArray.size = 1 := by simp
    rw [dif_neg this]
    simp only [tupleOf]
    exact .tup h
  | [v], x :: x' :: xs, h => by cases h with | cons _ hs => cases hs
  | v :: v' :: vs, [x], h => by cases h with | cons _ hs => cases hs

theorem results_ok (hE : E.Ok P W0) {L : LM} {H : AH} {w : World} {tm : T AV} {nt : Nat} {a : Act} (hr : HR W0 L H w) (ht : TR L tm nt a) {fn : Func} {vs : List AV} (h : aresults E tm H fn.results.toList = some vs) :
    ∃ v, (results fn a.tmps).run P w = .ok v w ∧ VR L (tupleOf vs) v := by
  obtain ⟨xs, h1, h2⟩ := results_run hE hr ht _ _ h
  refine ⟨_, ?_, tuple_vr h1⟩
  have e : results fn a.tmps = (do let vs ← fn.results.mapM (resSem a.tmps); pure (if h : vs.size = 1 then vs[0] else .tuple vs)) := by
    unfold results
    congr 1
  rw [e, Array.mapM_eq_mapM_toList]
  simp [h2]

theorem FnOk.of (hE : E.Ok P W0) {exec : ExecA} (h : ExecOk P W0 exec) : FnOk P W0 (runFn E exec) := by
  intro g args H r H' hc L w vs hv hr hd
  unfold runFn at hc
  split at hc
  · rename_i F hF
    obtain ⟨hfn, hname⟩ := hE.fn _ _ hF
    split at hc
    · rename_i c hb
      split at hc
      · rename_i hle
        refine ⟨hname _ _, ?_⟩
        split at hc
        · cases hc
        · rename_i ex s hnot hex
          split at hc
          · rename_i H2 hends
            split at hc
            · rename_i rs hrs
              cases hc
              intro cs
              let b : Frame := { (default : Frame) with fn := g, kind := .normal }
              have henter : Frame.enter P g vs.toArray .normal = b.at { tmps := vs.toArray ++ Array.replicate (F.ntmps - vs.toArray.size) undef, defers := [] } [.code c] := by
                simp [Frame.enter, Frame.at, hfn, hb, b]
              have hwp := h _ _ _ _ _ hex L { tmps := vs.toArray ++ Array.replicate (F.ntmps - vs.toArray.size) undef, defers := [] } w hr hd (enter_tr hv (ble_iff.1 hle)) .nil
                (fun e a' w' => (e = .normal ∨ e = .ret) ∧ Leads W0 L F.ntmps s a' w') (fun a' w' hl => ⟨by
                  cases ex with
                  | normal => exact .inl rfl
                  | ret => exact .inr rfl
                  | exit id => exact (hnot id rfl).elim, hl⟩)
              obtain ⟨e, a', w', ⟨he, L', g1, g2, g3, g4, g5⟩, harr⟩ := hwp b [] cs
              rw [← henter] at harr
              have arrive : ∃ todo, Steps P (lone (Frame.enter P g vs.toArray .normal) cs w) (lone { b.at a' todo with mode := .returning } cs w') := by
                rcases he with rfl | rfl
                · exact ⟨[], Steps.trans harr (.one step_end)⟩
                · exact harr
              obtain ⟨todo, hs⟩ := arrive
              obtain ⟨w'', h1, h2, h3⟩ := marks_steps (P := P) L' cs s.ds a'.defers s.h H' { b.at a' todo with mode := .returning } w' rfl rfl g5 hends g2 g3
              obtain ⟨v, h4, h5⟩ := results_ok hE h2 g4 hrs
              exact ⟨.returned v, w'', _, ⟨v, L', rfl, g1, h2, h3, h5⟩, Steps.trans hs h1, rfl, rfl, rfl, rfl, F, hfn, h4⟩
            · cases hc
          · cases hc
        · cases hc
      · cases hc
    · cases hc
  · cases hc

theorem funcOf_spec {L : LM} {v : AV} {x : Value} {g : Nat} {first cap : List AV} (h : funcOf v = some (g, first, cap)) (hv : VR L v x) : ∃ p q : Array Value, x = .func (.func g) p q ∧ VRs L first p.toList ∧ VRs L cap q.toList := by
  unfold funcOf at h
  split at h
  · cases h
    cases hv with
    | func h1 h2 => exact ⟨_, _, rfl, h1, h2⟩
  · cases h
    cases hv.raw_inv
    exact ⟨_, _, rfl, VRs.raws _, VRs.raws _⟩
  · cases h

theorem range_wp (hE : E.Ok P W0) {exec : ExecA} (hx : FnOk P W0 (runFn E exec)) {f : Operand} {ps : Array Tmp} {assign body : Code} {nt : Nat} {s s' : St} (h : arange E exec f s = some s') {L : LM} {a : Act} {w : World} (hr : HR W0 L s.h w) (hd : HD L s.h) (ht : TR L s.tm nt a) (hds : DR L s.ds a.defers)
    {Q : Exit → Act → World → Prop} (hq : ∀ a' w', Leads W0 L nt s' a' w' → Q .normal a' w') : (Code.rangeFunc f ps assign body).wp P Q a w := by
  unfold arange at h
  split at h
  · rename_i v hv
    split at h
    · rename_i g first cap hfo
      split at h
      · rename_i d H1 hn1
        split at h
        · rename_i r H2 hn2
          split at h
          · rename_i u H3 hrun
            split at h
            · rename_i hrdy
              cases h
              obtain ⟨p, q, hav, hp, hq'⟩ := funcOf_spec hfo (ht.eval hv)
              obtain ⟨rfl, rfl, _⟩ := newBlk_spec hn1
              obtain ⟨rfl, rfl, _⟩ := newBlk_spec hn2
              -- the two blocks
              let w1 : World := { w with heap := w.heap.push (.deferred (some [])) }
              have m1 : Made w w1 := made_push w (.deferred (some []))
              obtain ⟨e1, e2, e3⟩ := hr.fresh hd m1 (b := .dfr) (l := ⟨w.heap.size, 0, 0⟩) rfl (by show w1.heap[w.heap.size]? = _; simp [w1])
              intro b k cs
              let b' : Frame := { b with roundOf := none }
              have hb' : ∀ (a : Act) (k : List Item), b.at a k = b'.atR a k := fun _ _ => rfl
              let lp : Loop := { state := .ready, pending := none, fn := b.fn, tmps := a.tmps, params := ps, assign := assign, body := body, defers := w.heap.size }
              let w2 : World := { w1 with heap := w1.heap.push (.loop lp) }
              have m2 : Made w1 w2 := made_push w1 (.loop lp)
              obtain ⟨e4, e5, e6⟩ := e2.fresh e3 m2 (b := .rdy) (l := ⟨w1.heap.size, 0, 0⟩) rfl ⟨lp, by show w2.heap[w1.heap.size]? = _; simp [w2], rfl, rfl⟩
              have he : (Instr.enterLoop b'.fn a.tmps ps assign body b'.roundOf).run P w = .ok (w1.heap.size, [{ target := .collected w.heap.size, args := #[] }]) w2 := by
                simp [Instr.enterLoop, b', w1, w2, lp, newObj, Sem.run]
              have hle := e1.trans e4
              obtain ⟨hin, hcall⟩ := hx _ _ _ _ _ hrun _ w2 (p.toList ++ (.func (.yield w1.heap.size) #[] #[] :: q.toList)) ((hp.mono hle).append (.cons (.opq _) (hq'.mono hle))) e5 e6
              have hres : (resolve a.eval (rangeCall f w1.heap.size) 0).run P w2 = .ok ⟨.fn (.func g) q, p ++ #[.func (.yield w1.heap.size) #[] #[]]⟩ w2 := by
                simp only [resolve, hav, Deferred.ofValue, rangeCall]
                simp [Act.eval]
              have harr : (p.toList ++ (.func (.yield w1.heap.size) #[] #[] :: q.toList)).toArray = (p ++ #[.func (.yield w1.heap.size) #[] #[]]) ++ q := by
                apply Array.toList_inj.1
                simp
              rw [harr] at hin hcall
              have hstep := stepR_rangeFunc (b := b') (k := k) (cs := cs) he hres (f := g) (args := (p ++ #[.func (.yield w1.heap.size) #[] #[]]) ++ q) (w₂ := w2) (by simpa [invoke] using hin)
              obtain ⟨e, w3, fr, hR, hsteps, hfn, hleave⟩ := hcall (b'.atR { a with defers := [{ target := .collected w.heap.size, args := #[] }] ++ a.defers } (.inRangeFunc w1.heap.size :: k) :: cs)
              obtain ⟨x, L', rfl, g1, g2, g3, g4⟩ := hR
              have hl2 : L' (s.h.new .dfr).next = some ⟨w1.heap.size, 0, 0⟩ := g1.1 _ _ LM.set_same
              obtain ⟨r, h1, h2, h3⟩ := g2.blk _ _ _ hrdy hl2
              have h1 : w3.heap[w1.heap.size]? = some (.loop r) := h1
              have hgo : (getObj w1.heap.size).run P w3 = .ok (.loop r) w3 := by simp [getObj, Sem.run, h1]
              have hset : ∀ o, (setObj w1.heap.size o).run P w3 = .ok () { w3 with heap := w3.heap.setIfInBounds w1.heap.size o } := by intro o; simp [setObj, Sem.run, h1]
              have hend : (Instr.endLoop w1.heap.size).run P w3 = .ok none { w3 with heap := w3.heap.setIfInBounds w1.heap.size (.loop { r with state := .exhausted }) } := by
                obtain ⟨st, pd, fn', tm', pr', as', bd', df'⟩ := r
                simp only at h2 h3
                subst h2 h3
                have hnb : (LoopState.ready == LoopState.busy) = false := rfl
                simp only [Instr.endLoop, Instr.getLoop, Sem.run_bind, hgo, Result.andThen_ok, Sem.run_pure, hnb, hset]
                simp [hset]
              have s1 := step_leave_returned (cs := cs) (c := b'.atR { a with defers := [{ target := .collected w.heap.size, args := #[] }] ++ a.defers } (.inRangeFunc w1.heap.size :: k)) hleave
              rw [finish_atR_inRangeFunc] at s1
              have s2 := stepR_endRangeFunc (b := b') (a := { a with defers := [{ target := .collected w.heap.size, args := #[] }] ++ a.defers }) (k := k) (cs := cs) hend
              refine ⟨.normal, { a with defers := [{ target := .collected w.heap.size, args := #[] }] ++ a.defers }, _, hq _ _ ⟨L', hle.trans g1, g2.over hrdy hl2 (.loop { r with state := .exhausted }), HD.del g3 _, ?_, ?_⟩, ?_⟩
              · have ht' := ht.mono (hle.trans g1)
                exact ⟨ht'.size, ht'.val⟩
              · exact .cons (l := ⟨w.heap.size, 0, 0⟩) (g1.1 _ _ (e4.1 _ _ LM.set_same)) (hds.mono (hle.trans g1))
              · have hall := Steps.head hstep (Steps.trans hsteps (.head s1 (.one s2)))
                exact hall
            · cases h
          · cases h
        · cases h
      · cases h
    · cases h
  · cases h

theorem Post.leads {L : LM} {nt : Nat} {a : Act} {s s' : St} {a' : Act} {w' : World} (h : Post W0 L nt a s' a' w') (hd : DR L s.ds a.defers) (hs : s'.ds = s.ds) : Leads W0 L nt s' a' w' := by
  obtain ⟨L', h1, h2, h3, h4, h5⟩ := h
  exact ⟨L', h1, h2, h3, h4, by rw [h5, hs]; exact hd.mono h1⟩

theorem Leads.trans {L L' : LM} {nt : Nat} {s' : St} {a' : Act} {w' : World} (hl : LE L L') (h : Leads W0 L' nt s' a' w') : Leads W0 L nt s' a' w' := by
  obtain ⟨L2, h1, h2⟩ := h
  exact ⟨L2, hl.trans h1, h2⟩

/-- **Whatever the interpreter executes, the machine does.** -/
theorem exec_ok (hE : E.Ok P W0) : ∀ fuel, ExecOk P W0 (aexec E fuel) ∧
    ∀ nt c s r s', aexec E fuel nt (.loop c) s = some (r, s') → ∀ L a w, HR W0 L s.h w → HD L s.h → TR L s.tm nt a → DR L s.ds a.defers →
      ∀ Q : Exit → Act → World → Prop, (∀ a' w', Leads W0 L nt s' a' w' → Q (exitOf r) a' w') → LoopWp P c Q a w
  | 0 => by
    constructor
    · intro nt c s r s' h; cases h
    · intro nt c s r s' h; cases h
  | fuel + 1 => by
    obtain ⟨ih, ihl⟩ := exec_ok hE fuel
    have hfn := FnOk.of hE ih
    have hcall := CallOk.of hE hfn
    have hloop : ∀ nt c s r s', aexec E (fuel + 1) nt (.loop c) s = some (r, s') → ∀ L a w, HR W0 L s.h w → HD L s.h → TR L s.tm nt a → DR L s.ds a.defers →
        ∀ Q : Exit → Act → World → Prop, (∀ a' w', Leads W0 L nt s' a' w' → Q (exitOf r) a' w') → LoopWp P c Q a w := by
      intro nt c s r s' h L a w hr hd ht hds Q hq
      simp only [aexec_succ] at h
      apply LoopWp.of
      cases hx : aexec E fuel nt c s with
      | none => rw [hx] at h; cases h
      | some p =>
        obtain ⟨r1, s1⟩ := p
        rw [hx] at h
        refine ih nt c s r1 s1 hx L a w hr hd ht hds _ fun a' w' hl => ?_
        cases r1 with
        | normal =>
          simp only at h
          obtain ⟨L', g1, g2, g3, g4, g5⟩ := hl
          exact ihl nt c s1 r s' h L' a' w' g2 g3 g4 g5 Q fun a'' w'' hl' => hq a'' w'' (hl'.trans g1)
        | exit id => cases h; exact hq a' w' hl
        | ret => cases h; exact hq a' w' hl
    refine ⟨?_, hloop⟩
    intro nt c s r s' h L a w hr hd ht hds Q hq
    cases c with
    | skip =>
      simp only [aexec_succ] at h
      cases h
      exact wp_skip (hq a w ⟨L, LE.refl _, hr, hd, ht, hds⟩)
    | label l =>
      simp only [aexec_succ] at h
      cases h
      exact wp_label (hq a w ⟨L, LE.refl _, hr, hd, ht, hds⟩)
    | ret =>
      simp only [aexec_succ] at h
      cases h
      exact wp_ret (hq a w ⟨L, LE.refl _, hr, hd, ht, hds⟩)
    | exit id =>
      simp only [aexec_succ] at h
      cases h
      exact wp_exit (hq a w ⟨L, LE.refl _, hr, hd, ht, hds⟩)
    | region id ops draw =>
      cases draw with
      | true =>
        simp only [aexec_succ] at h
        split at h
        · rename_i s1 hs
          cases h
          unfold adraw at hs
          split at hs
          · rename_i hp
            exact region_drawn hE hcall hr hd ht (planOk_spec hp) hs fun a' w' hl => hq a' w' (hl.leads hds (adrawP_ds hs))
          · cases hs
        · cases h
      | false =>
        simp only [aexec_succ] at h
        split at h
        · rename_i s1 hs
          cases h
          exact region_text hE hcall hr hd ht hs fun a' w' hl => hq a' w' (hl.leads hds (aregion_ds _ _ _ hs))
        · cases h
    | seq x y =>
      simp only [aexec_succ] at h
      apply wp_seq
      cases hx : aexec E fuel nt x s with
      | none => rw [hx] at h; cases h
      | some p =>
        obtain ⟨r1, s1⟩ := p
        rw [hx] at h
        refine ih nt x s r1 s1 hx L a w hr hd ht hds _ fun a' w' hl => ?_
        cases r1 with
        | normal =>
          simp only at h
          obtain ⟨L', g1, g2, g3, g4, g5⟩ := hl
          exact ih nt y s1 r s' h L' a' w' g2 g3 g4 g5 Q fun a'' w'' hl' => hq a'' w'' (hl'.trans g1)
        | exit id => cases h; exact hq a' w' hl
        | ret => cases h; exact hq a' w' hl
    | cond x b1 b2 =>
      simp only [aexec_succ] at h
      split at h
      · rename_i hx
        exact wp_cond_true (ht.eval hx).raw_inv (ih nt b1 s r s' h L a w hr hd ht hds Q hq)
      · rename_i hx
        exact wp_cond_false (ht.eval hx).raw_inv (ih nt b2 s r s' h L a w hr hd ht hds Q hq)
      · cases h
    | block id c =>
      simp only [aexec_succ] at h
      apply wp_block
      cases hx : aexec E fuel nt c s with
      | none => rw [hx] at h; cases h
      | some p =>
        obtain ⟨r1, s1⟩ := p
        rw [hx] at h
        refine ih nt c s r1 s1 hx L a w hr hd ht hds _ fun a' w' hl => ?_
        cases r1 with
        | normal => cases h; exact hq a' w' hl
        | ret => cases h; exact hq a' w' hl
        | exit j =>
          simp only at h
          simp only [exitOf, Exit.inBlock]
          split at h
          · rename_i hj
            cases h
            rw [if_pos (nbeq_iff.1 hj)]
            exact hq a' w' hl
          · rename_i hj
            cases h
            rw [if_neg (fun e => by rw [nbeq_iff.2 e] at hj; cases hj)]
            exact hq a' w' hl
    | loop c => exact (hloop nt c s r s' h L a w hr hd ht hds Q hq).wp
    | rangeFunc f ps asg bd =>
      simp only [aexec_succ] at h
      split at h
      · rename_i s1 hs
        cases h
        exact range_wp hE hfn hs hr hd ht hds fun a' w' hl => hq a' w' hl
      · cases h
    | goto l => simp only [aexec_succ] at h; cases h
    | _ => simp only [aexec_succ] at h; cases h

def AH.zero : AH := ⟨.e, 0⟩

def LM.zero : LM := ⟨fun _ => none, fun _ => False⟩

theorem Env.Ok.up {w : World} (hE : E.Ok P W0) (hb : Below W0.heap.size W0 w) : E.Ok P w :=
  have hs := hb.size
  have tr : ∀ {w'}, Below w.heap.size w w' → Below W0.heap.size W0 w' := fun h => hb.trans ⟨h.os, h.tape, h.output, h.size, fun k hk => h.block k (by omega)⟩
  { hE with
    orc := fun f args r h L vs w' hv hw => hE.orc f args r h L vs w' hv (tr hw)
    tpl := fun f args v bs h L vs w' hv hw => hE.tpl f args v bs h L vs w' hv (tr hw)
    hp := fun f args H v H' h W1 hw => hE.hp f args H v H' h W1 (tr hw) }

theorem ground_ends {w : World} (hE : E.Ok P w) {fuel : Nat} {f : FuncId} {args : List Value} {r : AV} {H : AH} (h : runFn E (aexec E fuel) f (args.map .raw) AH.zero = some (r, H)) :
    (callFunc f args.toArray).run P w = .ok (.enter f args.toArray) w ∧ Calls P f args.toArray w (Ends w LM.zero H r) := by
  have hx := FnOk.of hE (exec_ok hE fuel).1
  have hr : HR w LM.zero AH.zero w := ⟨fun _ _ _ _ h => (by cases h), fun _ _ _ _ _ _ _ _ h => (by cases h), fun _ _ h => (by cases h), fun _ _ h => (by cases h), Below.refl _ _⟩
  exact hx _ _ _ _ _ h _ w args (VRs.raws _) hr ⟨fun _ _ => rfl, fun _ h => h.elim⟩

noncomputable def rawOf : AV → Option Value
  | .raw v => some v
  | .tup l => match allRaw l with
    | some vs => some (.tuple vs.toArray)
    | none => none
  | .agg l => match allRaw l with
    | some vs => some (.agg vs.toArray)
    | none => none
  | _ => none

theorem allRaw_inv {L : LM} : ∀ {l : List AV} {vs : List Value} {xs : List Value}, allRaw l = some vs → VRs L l xs → xs = vs
  | [], vs, xs, h, hv => by cases hv; simp only [allRaw] at h; cases h; rfl
  | v :: l, vs, xs, h, hv => by
    cases hv with
    | cons hx hs =>
      cases v with
      | raw u =>
        simp only [allRaw] at h
        split at h
        · rename_i r hr
          cases h
          rw [hx.raw_inv, allRaw_inv hr hs]
        · cases h
      | _ => simp [allRaw] at h

theorem rawOf_inv {L : LM} {v : AV} {r x : Value} (h : rawOf v = some r) (hv : VR L v x) : x = r := by
  unfold rawOf at h
  split at h
  · cases h; exact hv.raw_inv
  · split at h
    · rename_i hl
      cases h
      cases hv with
      | tup hs => rw [← allRaw_inv hl hs]
    · cases h
  · split at h
    · rename_i hl
      cases h
      cases hv with
      | agg hs => rw [← allRaw_inv hl hs]
    · cases h
  · cases h

def vsames : List Value → List Value → Bool
  | [], [] => true
  | a :: l, b :: m => vsame a b && vsames l m
  | _, _ => false
theorem vsames_eq : ∀ {l m : List Value}, vsames l m = true → l = m
  | [], [], _ => rfl
  | a :: l, b :: m, h => by
    simp only [vsames, Bool.and_eq_true] at h
    rw [vsame_eq h.1, vsames_eq h.2]
  | [], _ :: _, h => by simp [vsames] at h
  | _ :: _, [], h => by simp [vsames] at h

def vsame2 : Value → Value → Bool
  | .tuple a, .tuple b => vsames a.toList b.toList
  | .agg a, .agg b => vsames a.toList b.toList
  | a, b => vsame a b
theorem vsame2_eq {a b : Value} (h : vsame2 a b = true) : a = b := by
  unfold vsame2 at h
  split at h
  · rw [Array.toList_inj.1 (vsames_eq h)]
  · rw [Array.toList_inj.1 (vsames_eq h)]
  · exact vsame_eq h

noncomputable def runsTo (r : Value) : Option (AV × AH) → Bool
  | some (v, _) => match rawOf v with
    | some x => vsame2 x r
    | none => false
  | none => false

/-- **A call on given arguments**: what the interpreter gives, the function returns, in every world. -/
theorem ground_call {w : World} (hE : E.Ok P w) (fuel : Nat) {f : FuncId} {args : List Value} {r : Value} (h : runsTo r (runFn E (aexec E fuel) f (args.map .raw) AH.zero) = true) :
    (callFunc f args.toArray).run P w = .ok (.enter f args.toArray) w ∧ Calls P f args.toArray w fun e w' => e = .returned r ∧ Below w.heap.size w w' := by
  unfold runsTo at h
  split at h
  · rename_i v H hv
    split at h
    · rename_i x hx
      obtain ⟨h1, h2⟩ := ground_ends hE hv
      refine ⟨h1, h2.mono fun e w' he => ?_⟩
      obtain ⟨y, L', rfl, g1, g2, g3, g4⟩ := he
      rw [rawOf_inv hx g4, vsame2_eq h]
      exact ⟨rfl, g2.below⟩
    · cases h
  · cases h

noncomputable def allSame (H : AH) : Nat → List ABlk → Bool
  | _, [] => true
  | i, b :: bs => match H.get i with
    | some b' => match sameBlk b' b with
      | true => allSame H (i + 1) bs
      | false => false
    | none => false

noncomputable def makes (v : AV) (bs : List ABlk) : Option (AV × AH) → Bool
  | some (u, H) => match AV.same u v, Nat.beq H.next bs.length with
    | true, true => allSame H 0 bs
    | _, _ => false
  | none => false

theorem allSame_spec {H : AH} : ∀ (bs : List ABlk) (i : Nat), allSame H i bs = true → ∀ k b, bs[k]? = some b → ∃ b', H.get (i + k) = some b' ∧ sameBlk b' b = true
  | [], _, _, k, b, hk => by simp at hk
  | c :: bs, i, h, k, b, hk => by
    simp only [allSame] at h
    split at h
    · rename_i b' hb'
      split at h
      · rename_i hs
        cases k with
        | zero => simp at hk; subst hk; exact ⟨b', hb', hs⟩
        | succ k =>
          simp at hk
          obtain ⟨b2, h1, h2⟩ := allSame_spec bs (i + 1) h k b hk
          exact ⟨b2, by rw [← h1]; congr 1; omega, h2⟩
      · cases h
    · cases h

/-- **What a call on given arguments makes.** -/
theorem ground_makes {w : World} (hE : E.Ok P w) (fuel : Nat) {f : FuncId} {args : List Value} {v : AV} {bs : List ABlk} (h : makes v bs (runFn E (aexec E fuel) f (args.map .raw) AH.zero) = true) :
    (callFunc f args.toArray).run P w = .ok (.enter f args.toArray) w ∧ Calls P f args.toArray w fun e w' => ∃ x L0, e = .returned x ∧ (∀ id, ¬ LM.r L0 id) ∧ HR w L0 ⟨blkT 0 bs .e, bs.length⟩ w' ∧ HD L0 ⟨blkT 0 bs .e, bs.length⟩ ∧ VR L0 v x := by
  unfold makes at h
  split at h
  · rename_i u H hv
    split at h
    · rename_i h1 h2
      obtain ⟨k1, k2⟩ := ground_ends hE hv
      refine ⟨k1, k2.mono fun e w' he => ?_⟩
      obtain ⟨y, L', rfl, g1, g2, g3, g4⟩ := he
      have hn := nbeq_iff.1 h2
      cases AV.same_eq h1
      have get : ∀ id b, AH.get ⟨blkT 0 bs .e, bs.length⟩ id = some b → ∃ b', H.get id = some b' ∧ sameBlk b' b = true := fun id b hb => by
        have hb : (blkT 0 bs .e).get id = some b := hb
        rw [blkT_get] at hb
        split at hb
        · obtain ⟨b', e1, e2⟩ := allSame_spec bs 0 h _ _ hb
          rw [Nat.sub_zero, Nat.zero_add] at e1
          exact ⟨b', e1, e2⟩
        · rw [T.get_e] at hb; cases hb
      refine ⟨y, L', rfl, fun id => by rw [g1.2]; exact fun h => h, ⟨fun id b l hb hl => ?_, fun i j c c' k k' hc hc' hk hk' e => ?_, g2.lt, g2.base, g2.below⟩, ⟨fun id hid => g3.1 id (by rw [hn]; exact hid), fun id hid => by rw [g1.2] at hid; exact hid.elim⟩, g4⟩
      · obtain ⟨b', e1, e2⟩ := get id b hb
        exact (g2.blk _ _ _ e1 hl).alike (.inr e2)
      · obtain ⟨b1, e1, _⟩ := get i c hc
        obtain ⟨b2, e2, _⟩ := get j c' hc'
        exact g2.inj _ _ _ _ _ _ e1 e2 hk hk' e
    · cases h
  · cases h


/-! ### Calls on a given heap -/

noncomputable def putAll : List (Nat × ABlk) → T ABlk → T ABlk
  | [], t => t
  | (i, b) :: l, t => (putAll l t).put (some b) i

noncomputable def mkH (n : Nat) (l : List (Nat × ABlk)) : AH := ⟨putAll l .e, n⟩

noncomputable def allIn (H : AH) : List (Nat × ABlk) → Bool
  | [] => true
  | (i, b) :: l => match H.get i with
    | some b' => match sameBlk b' b with
      | true => allIn H l
      | false => false
    | none => false

theorem putAll_mem : ∀ {l : List (Nat × ABlk)} {i : Nat} {b : ABlk}, (putAll l .e).get i = some b → (i, b) ∈ l
  | [], i, b, h => by simp only [putAll] at h; rw [T.get_e] at h; cases h
  | (j, c) :: l, i, b, h => by
    simp only [putAll] at h
    rw [T.get_put] at h
    split at h
    · rename_i e
      cases h
      subst e
      simp
    · exact List.mem_cons_of_mem _ (putAll_mem h)

theorem allIn_spec {H : AH} : ∀ {l : List (Nat × ABlk)}, allIn H l = true → ∀ i b, (i, b) ∈ l → ∃ b', H.get i = some b' ∧ sameBlk b' b = true
  | [], _, _, _, h => by cases h
  | (j, c) :: l, h, i, b, hm => by
    simp only [allIn] at h
    split at h
    · rename_i b' hb'
      split at h
      · rename_i hs
        rcases List.mem_cons.1 hm with e | hm
        · cases e; exact ⟨b', hb', hs⟩
        · exact allIn_spec h i b hm
      · cases h
    · cases h

theorem HR.part {L : LM} {H : AH} {w : World} (h : HR W0 L H w) {n : Nat} {l : List (Nat × ABlk)} (hl : allIn H l = true) : HR W0 L (mkH n l) w := by
  have key : ∀ id b, (mkH n l).get id = some b → ∃ b', H.get id = some b' ∧ sameBlk b' b = true := fun id b hb => allIn_spec hl id b (putAll_mem hb)
  refine ⟨fun id b l hb hl => ?_, fun i j c c' k k' hc hc' hk hk' e => ?_, h.lt, h.base, h.below⟩
  · obtain ⟨b', h1, h2⟩ := key id b hb
    exact (h.blk _ _ _ h1 hl).alike (.inr h2)
  · obtain ⟨b1, h1, _⟩ := key i c hc
    obtain ⟨b2, h2, _⟩ := key j c' hc'
    exact h.inj _ _ _ _ _ _ h1 h2 hk hk' e

/-- What a call on given arguments and a given heap leads to. -/
structure HpEntry where
  f : Nat
  args : List AV
  n0 : Nat
  pre : List (Nat × ABlk)
  v : AV
  n1 : Nat
  post : List (Nat × ABlk)

noncomputable def HpEntry.runs (p : HpEntry) (o : Option (AV × AH)) : Bool :=
  match o with
  | some (u, H1) => match AV.same u p.v, Nat.beq H1.next p.n1 with
    | true, true => allIn H1 p.post
    | _, _ => false
  | none => false

noncomputable def HpEntry.fits (p : HpEntry) (args : List AV) (H : AH) : Bool :=
  match AV.sames args p.args, Nat.beq H.next p.n0 with
  | true, true => allIn H p.pre
  | _, _ => false

noncomputable def hpOf : List HpEntry → Nat → List AV → AH → Option (AV × AH)
  | [], _, _, _ => none
  | p :: l, f, args, H => match Nat.beq f p.f with
    | true => match p.fits args H with
      | true => some (p.v, mkH p.n1 p.post)
      | false => hpOf l f args H
    | false => hpOf l f args H

def HpOk (P : Program) (W0 : World) (hp : Nat → List AV → AH → Option (AV × AH)) : Prop :=
  ∀ f args H v H', hp f args H = some (v, H') → ∀ W1, Below W0.heap.size W0 W1 → ∀ L w vs, VRs L args vs → HR W1 L H w → HD L H →
    (callFunc f vs.toArray).run P w = .ok (.enter f vs.toArray) w ∧ Calls P f vs.toArray w fun e w' => ∃ x L', e = .returned x ∧ LE L L' ∧ HR W1 L' H' w' ∧ HD L' H' ∧ VR L' v x

theorem hpOf_ok (hE : E.Ok P W0) (fuel : Nat) : ∀ (l : List HpEntry), (∀ p ∈ l, p.runs (runFn E (aexec E fuel) p.f p.args (mkH p.n0 p.pre)) = true) → HpOk P W0 (hpOf l)
  | [], _ => fun _ _ _ _ _ h => by simp [hpOf] at h
  | p :: l, hl => by
    intro f args H v H' h W1 hW L w vs hv hr hd
    simp only [hpOf] at h
    split at h
    · rename_i ef
      split at h
      · rename_i hf
        cases h
        have ef := nbeq_iff.1 ef
        subst ef
        unfold HpEntry.fits at hf
        split at hf
        · rename_i h1 h2
          have e1 := AV.sames_eq h1
          have e2 := nbeq_iff.1 h2
          subst e1
          have hrun := hl p (by simp)
          unfold HpEntry.runs at hrun
          split at hrun
          · rename_i u H1 hu
            split at hrun
            · rename_i g1 g2
              have hx := FnOk.of (hE.up hW) (exec_ok (hE.up hW) fuel).1
              obtain ⟨k1, k2⟩ := hx _ _ _ _ _ hu L w vs hv (hr.part hf) ⟨fun id hid => hd.1 id (by rw [e2]; exact hid), fun id hid => ⟨(hd.2 id hid).1, by show id < p.n0; rw [← e2]; exact (hd.2 id hid).2⟩⟩
              refine ⟨k1, k2.mono fun e w' he => ?_⟩
              obtain ⟨x, L', rfl, a1, a2, a3, a4⟩ := he
              have e3 := nbeq_iff.1 g2
              cases AV.same_eq g1
              exact ⟨x, L', rfl, a1, a2.part hrun, ⟨fun id hid => a3.1 id (by rw [e3]; exact hid), fun id hid => ⟨(a3.2 id hid).1, by show id < p.n1; rw [← e3]; exact (a3.2 id hid).2⟩⟩, a4⟩
            · cases hrun
          · cases hrun
        · cases hf
      · exact hpOf_ok hE fuel l (fun q hq => hl q (by simp [hq])) f args H v H' h W1 hW L w vs hv hr hd
    · exact hpOf_ok hE fuel l (fun q hq => hl q (by simp [hq])) f args H v H' h W1 hW L w vs hv hr hd

theorem HpOk.none {P : Program} {W0 : World} : HpOk P W0 fun _ _ _ => Option.none := fun _ _ _ _ _ h => nomatch h

end
end Go.Proofs.YtkoahnikmckgnaaGreatDoor.Ws
