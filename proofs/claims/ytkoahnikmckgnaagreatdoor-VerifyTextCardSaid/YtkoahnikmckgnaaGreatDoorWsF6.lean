/- All reading operations together. -/
import Derived.Test.YtkoahnikmckgnaaGreatDoorWsF4
set_option linter.unusedSimpArgs false
set_option linter.unusedVariables false
namespace Go.Proofs.YtkoahnikmckgnaaGreatDoor.Ws
open Go Go.RowKit

section
variable {P : Program} {W0 : World} {E : Env} {L : LM} {H : AH} {w : World}

theorem len_run (hE : E.Ok P W0) (hr : HR W0 L H w) {ts : Array TypeId} {ty : TypeId} {args : List AV} {v : AV} {xs : Array Value} (h : alen E H ts.toList args = some v) (ha : VRs L args xs.toList) :
    ∃ z, (Builtin.len_ ts ty xs).run P w = .ok z w ∧ VR L v z := by
  obtain ⟨ts⟩ := ts
  obtain ⟨xs⟩ := xs
  simp only at h ha
  unfold alen at h
  split at h
  · rename_i t a
    cases ha with
    | cons ha hn =>
      cases hn
      rename_i x
      split at h
      · rename_i d ti ht
        obtain ⟨hd, _⟩ := hE.ti _ _ _ ht
        split at h
        · cases ha.raw_inv; cases h
          exact ⟨_, by simp [Builtin.len_, run_under' hd]; rfl, .raw _⟩
        · cases h
          exact ⟨_, by simp [Builtin.len_, run_under' hd]; rfl, .raw _⟩
        · cases ha.raw_inv; cases h
          exact ⟨_, by simp [Builtin.len_, run_under' hd]; rfl, .raw _⟩
        · obtain ⟨l, _, rfl⟩ := ha.slc_inv; cases h
          exact ⟨_, by simp [Builtin.len_, run_under' hd]; rfl, .raw _⟩
        · obtain ⟨l, _, _, _, _, _, rfl⟩ := ha.slu_inv; cases h
          exact ⟨_, by simp [Builtin.len_, run_under' hd]; rfl, .raw _⟩
        · obtain ⟨a, c, rfl⟩ := ha.emp_inv; cases h
          exact ⟨_, by simp [Builtin.len_, run_under' hd]; rfl, .raw _⟩
        · cases ha.raw_inv; cases h
          exact ⟨_, by simp [Builtin.len_, run_under' hd]; rfl, .raw _⟩
        · obtain ⟨l, hl, rfl⟩ := ha.map_inv
          split at h
          · rename_i es hg
            cases h
            obtain ⟨ents, clock, h1, h2⟩ := hr.blk _ _ _ hg hl
            have hlen : es.length = ents.size := by simpa using h2.length
            have hgo : (getObj l.b).run P w = .ok (.map ents clock) w := by simp [getObj, Sem.run, h1]
            refine ⟨_, ?_, .raw _⟩
            simp [Builtin.len_, run_under' hd, hgo, hlen]
            rfl
          · cases h
        · cases h
      · cases h
  · cases h

theorem min_run {ts : Array TypeId} {ty : TypeId} {args : List AV} {v : AV} {xs : Array Value} (h : minA args = some v) (ha : VRs L args xs.toList) : ∃ z, (Builtin.min_ ts ty xs).run P w = .ok z w ∧ VR L v z := by
  obtain ⟨xs⟩ := xs
  simp only at ha
  unfold minA at h
  split at h
  · cases ha with | cons h1 hn => cases hn; cases h1.raw_inv; cases h; exact ⟨_, by simp [Builtin.min_], .raw _⟩
  · cases ha with
    | cons h1 h2 => cases h2 with
      | cons h2 hn => cases hn; cases h1.raw_inv; cases h2.raw_inv; cases h; exact ⟨_, by simp [Builtin.min_, Builtin.min2], .raw _⟩
  · cases ha with
    | cons h1 h2 => cases h2 with
      | cons h2 h3 => cases h3 with
        | cons h3 hn => cases hn; cases h1.raw_inv; cases h2.raw_inv; cases h3.raw_inv; cases h; exact ⟨_, by simp [Builtin.min_, Builtin.min2], .raw _⟩
  · cases h

theorem max_run {ts : Array TypeId} {ty : TypeId} {args : List AV} {v : AV} {xs : Array Value} (h : maxA args = some v) (ha : VRs L args xs.toList) : ∃ z, (Builtin.max_ ts ty xs).run P w = .ok z w ∧ VR L v z := by
  obtain ⟨xs⟩ := xs
  simp only at ha
  unfold maxA at h
  split at h
  · cases ha with | cons h1 hn => cases hn; cases h1.raw_inv; cases h; exact ⟨_, by simp [Builtin.max_], .raw _⟩
  · cases ha with
    | cons h1 h2 => cases h2 with
      | cons h2 hn => cases hn; cases h1.raw_inv; cases h2.raw_inv; cases h; exact ⟨_, by simp [Builtin.max_, Builtin.max2], .raw _⟩
  · cases ha with
    | cons h1 h2 => cases h2 with
      | cons h2 h3 => cases h3 with
        | cons h3 hn => cases hn; cases h1.raw_inv; cases h2.raw_inv; cases h3.raw_inv; cases h; exact ⟨_, by simp [Builtin.max_, Builtin.max2], .raw _⟩
  · cases h

theorem evals_spec {ev : Operand → Option AV} {ρ : Operand → Value} : ∀ {l : List Operand} {vs : List AV}, (∀ x ∈ l, ∀ v, ev x = some v → VR L v (ρ x)) → evals ev l = some vs → VRs L vs (l.map ρ)
  | [], vs, _, h => by simp [evals_nil] at h; subst h; exact .nil
  | x :: l, vs, hev, h => by
    simp only [evals_cons] at h
    split at h
    · rename_i v hv
      split at h
      · rename_i r hr
        cases h
        exact .cons (hev x (by simp) v hv) (evals_spec (fun y hy => hev y (by simp [hy])) hr)
      · cases h
    · cases h

theorem evalParts_spec {ev : Operand → Option AV} {ρ : Operand → Value} : ∀ {l : List (Nat × Operand)} {vs : List (Nat × AV)}, (∀ x ∈ l.map (·.2), ∀ v, ev x = some v → VR L v (ρ x)) → evalParts ev l = some vs → PR L vs (l.map fun p => (p.1, ρ p.2))
  | [], vs, _, h => by simp [evalParts] at h; subst h; exact .nil
  | (i, x) :: l, vs, hev, h => by
    simp only [evalParts] at h
    split at h
    · rename_i v hv
      split at h
      · rename_i r hr
        cases h
        exact .cons (hev x (by simp) v hv) (evalParts_spec (fun y hy => hev y (by simp only [List.map_cons, List.mem_cons]; exact .inr hy)) hr)
      · cases h
    · cases h

theorem optEv_spec {ev : Operand → Option AV} {ρ : Operand → Value} {o : Option Operand} {v : Option AV} (hev : ∀ x, o = some x → ∀ v, ev x = some v → VR L v (ρ x)) (h : optEv ev o = some v) : OVR L v (o.map ρ) := by
  cases o with
  | none => simp [optEv] at h; subst h; exact .none
  | some x =>
    simp only [optEv] at h
    split at h
    · rename_i u hu
      cases h
      exact .some (hev x rfl u hu)
    · cases h

theorem same_inv {o : Option AV} {v : AV} {H' : AH} (h : same H o = some (v, H')) : o = some v ∧ H' = H := by
  cases o with
  | none => cases h
  | some u => cases h; exact ⟨rfl, rfl⟩

theorem ovr_maxFits {hi mx : Option AV} {a b : Option Value} (h : OVR L hi a) (k : OVR L mx b) (hno : ∀ v, hi = none → mx = some v → False) : a = none → b = none := by
  intro e
  cases h with
  | none =>
    cases k with
    | none => rfl
    | some hv => exact (hno _ rfl rfl).elim
  | some hv => cases e

/-- The reading operations. -/
theorem quiet_run (hE : E.Ok P W0) (hr : HR W0 L H w) {o : Oper} (hk : opKind o.op ≤ 1) {ev : Operand → Option AV} {ρ : Operand → Value} (hev : ∀ x ∈ o.op.operands, ∀ v, ev x = some v → VR L v (ρ x))
    {call : CallA} {v : AV} {H' : AH} (h : aop E call ev H o.op = some (v, H')) : H' = H ∧ ∃ x, (execOp ρ o).run P w = .ok (.value x) w ∧ VR L v x := by
  obtain ⟨dst, op, type, pos, after, guard⟩ := o
  cases op <;> simp only [Op.operands] at hev <;> simp only [aop_eqn] at h <;> (try (simp [opKind] at hk; done)) <;> simp only [execOp]
  case move x =>
    obtain ⟨h1, h2⟩ := same_inv h
    exact ⟨h2, _, rfl, hev x (by simp) v h1⟩
  case assign x =>
    obtain ⟨h1, h2⟩ := same_inv h
    exact ⟨h2, _, rfl, hev x (by simp) v h1⟩
  case pick c a b =>
    split at h
    · rename_i hc
      obtain ⟨h1, h2⟩ := same_inv h
      have := (hev c (by simp) _ hc).raw_inv
      refine ⟨h2, _, ?_, hev a (by simp) v h1⟩
      simp [this, asBool]
    · rename_i hc
      obtain ⟨h1, h2⟩ := same_inv h
      have := (hev c (by simp) _ hc).raw_inv
      refine ⟨h2, _, ?_, hev b (by simp) v h1⟩
      simp [this, asBool]
    · cases h
  case build t parts =>
    split at h
    · rename_i ps hps
      obtain ⟨h1, h2⟩ := same_inv h
      have hp := evalParts_spec (L := L) (ρ := ρ) (fun x hx => hev x (by simpa using hx)) hps
      obtain ⟨z, h3, h4⟩ := build_run (w := w) (parts' := parts.map fun (i, x) => (i, ρ x)) hE h1 (by simpa using hp)
      exact ⟨h2, z, by simp [h3], h4⟩
    · cases h
  case load t a =>
    split at h
    · rename_i u hu
      obtain ⟨h1, h2⟩ := same_inv h
      obtain ⟨z, h3, h4⟩ := load_run hE hr h1 (hev a (by simp) _ hu)
      exact ⟨h2, z, by simp [h3], h4⟩
    · cases h
  case nilCheck x =>
    split at h
    · rename_i id off hu
      cases h
      have hv := hev x (by simp) _ hu
      obtain ⟨l, hl, hx⟩ := hv.ptr_inv
      refine ⟨rfl, ρ x, ?_, hv⟩
      simp [hx]
    · rename_i a hu
      cases h
      have hv := hev x (by simp) _ hu
      have hx := hv.raw_inv
      refine ⟨rfl, ρ x, ?_, hv⟩
      simp [hx]
    · rename_i g a b hu
      cases h
      have hv := hev x (by simp) _ hu
      refine ⟨rfl, ρ x, ?_, hv⟩
      generalize ρ x = y at hv ⊢
      cases hv
      rfl
    · rename_i g a b hu
      cases h
      have hv := hev x (by simp) _ hu
      have hx := hv.raw_inv
      refine ⟨rfl, ρ x, ?_, hv⟩
      simp [hx]
    · rename_i t u hu
      cases h
      have hv := hev x (by simp) _ hu
      refine ⟨rfl, ρ x, ?_, hv⟩
      generalize ρ x = y at hv ⊢
      cases hv
      rfl
    · rename_i t u hu
      cases h
      have hv := hev x (by simp) _ hu
      have hx := hv.raw_inv
      refine ⟨rfl, ρ x, ?_, hv⟩
      simp [hx]
    · cases h
  case binOp op t x y u =>
    split at h
    · rename_i a b ha hb
      obtain ⟨h1, h2⟩ := same_inv h
      obtain ⟨z, h3, h4⟩ := bin_run (w := w) hE h1 (hev x (by simp) _ ha) (hev y (by simp) _ hb)
      refine ⟨h2, z, ?_, h4⟩
      simp only [Sem.run_bind] at h3 ⊢
      rw [h3]
      rfl
    · cases h
  case unOp op t x =>
    split at h
    · rename_i a ha
      obtain ⟨h1, h2⟩ := same_inv h
      obtain ⟨z, h3, h4⟩ := un_run (P := P) (w := w) h1 (hev x (by simp) _ ha)
      exact ⟨h2, z, by simp [h3], h4⟩
    · cases h
  case sliceToArrayPointer t x =>
    split at h
    · rename_i a ha
      obtain ⟨h1, h2⟩ := same_inv h
      obtain ⟨z, h3, h4⟩ := arrayAt_run (w := w) hE h1 (hev x (by simp) _ ha)
      exact ⟨h2, z, by simp [h3], h4⟩
    · cases h
  case makeInterface t x =>
    split at h
    · rename_i a d ti ha ht
      obtain ⟨hd, _⟩ := hE.ti _ _ _ ht
      split at h
      · cases h
      · rename_i hni
        cases h
        refine ⟨rfl, _, ?_, .iface (hev x (by simp) _ ha)⟩
        simp only [Instr.makeInterface, Sem.run_bind, run_under' hd, Result.andThen_ok]
        cases d <;> first
          | exact absurd rfl (hni _)
          | rfl
    · cases h
  case makeFunc fn a b =>
    split at h
    · rename_i avs bs ha hb
      cases h
      refine ⟨rfl, _, rfl, .func ?_ ?_⟩
      · simpa using evals_spec (L := L) (ρ := ρ) (fun x hx => hev x (by simp at hx; simp [hx])) ha
      · simpa using evals_spec (L := L) (ρ := ρ) (fun x hx => hev x (by simp at hx; simp [hx])) hb
    · cases h
  case slice t x lo hi mx =>
    split at h
    · rename_i a lo' hi' mx' ha hl hh hm
      have o1 := optEv_spec (L := L) (ρ := ρ) (fun y hy => hev y (by subst hy; simp)) hl
      have o2 := optEv_spec (L := L) (ρ := ρ) (fun y hy => hev y (by subst hy; simp)) hh
      have o3 := optEv_spec (L := L) (ρ := ρ) (fun y hy => hev y (by subst hy; simp)) hm
      split at h
      · cases h
      · rename_i hno
        obtain ⟨h1, h2⟩ := same_inv h
        obtain ⟨z, h3, h4⟩ := slice_run (w := w) hE h1 (hev x (by simp) _ ha) o1 o2 o3 (ovr_maxFits o2 o3 fun v hn hs => hno v hn hs)
        exact ⟨h2, z, by simp [h3], h4⟩
    · cases h
  case fieldAddr t x f =>
    split at h
    · rename_i a ha
      obtain ⟨h1, h2⟩ := same_inv h
      obtain ⟨z, h3, h4⟩ := fieldAddr_run (w := w) hE h1 (hev x (by simp) _ ha)
      exact ⟨h2, z, by simp [h3], h4⟩
    · cases h
  case field t x f =>
    split at h
    · rename_i a ha
      obtain ⟨h1, h2⟩ := same_inv h
      obtain ⟨z, h3, h4⟩ := field_run (w := w) hE h1 (hev x (by simp) _ ha)
      exact ⟨h2, z, by simp [h3], h4⟩
    · cases h
  case indexAddr t x i =>
    split at h
    · rename_i a b ha hb
      obtain ⟨h1, h2⟩ := same_inv h
      obtain ⟨z, h3, h4⟩ := indexAddr_run (w := w) hE h1 (hev x (by simp) _ ha) (hev i (by simp) _ hb)
      exact ⟨h2, z, by simp [h3], h4⟩
    · cases h
  case index t x i =>
    split at h
    · rename_i a b ha hb
      obtain ⟨h1, h2⟩ := same_inv h
      obtain ⟨z, h3, h4⟩ := index_run (w := w) hE h1 (hev x (by simp) _ ha) (hev i (by simp) _ hb)
      exact ⟨h2, z, by simp [h3], h4⟩
    · cases h
  case lookup t x i ok =>
    split at h
    · rename_i a b ha hb
      obtain ⟨h1, h2⟩ := same_inv h
      obtain ⟨z, h3, h4⟩ := lookup_run hE hr h1 (hev x (by simp) _ ha) (hev i (by simp) _ hb)
      exact ⟨h2, z, by simp [h3], h4⟩
    · cases h
  case extract x i =>
    split at h
    · rename_i a ha
      obtain ⟨h1, h2⟩ := same_inv h
      obtain ⟨z, h3, h4⟩ := extract_run (P := P) (w := w) h1 (hev x (by simp) _ ha)
      exact ⟨h2, z, by simp [h3], h4⟩
    · cases h
  case call c =>
    obtain ⟨callee, args, argTypes⟩ := c
    unfold acallOp at h
    split at h
    · rename_i avs has
      have ha := evals_spec (L := L) (ρ := ρ) (fun x hx => hev x (by simp [Call.operands]; right; simpa using hx)) has
      cases callee with
      | value f => simp [opKind] at hk
      | invoke r n => simp [opKind] at hk
      | builtin b =>
        simp only at h
        cases b <;> (try (simp [opKind] at hk; done)) <;> simp only [builtinA] at h
        case len =>
          split at h
          · rename_i u hu
            cases h
            obtain ⟨z, h3, h4⟩ := len_run (ty := type) (xs := args.map ρ) hE hr hu (by simpa using ha)
            exact ⟨rfl, z, by simp [resolve, invoke, builtin, h3], h4⟩
          · cases h
        case cap =>
          cases argTypes with | mk ts =>
          simp only at h
          split at h
          · rename_i x t
            obtain ⟨args⟩ := args
            simp only at ha
            cases args with
            | nil => cases ha
            | cons o1 os =>
              cases ha with
              | cons hx hn =>
                cases os with
                | cons o2 os => cases hn
                | nil =>
                  split at h
                  · rename_i e ti id off len c ht
                    obtain ⟨hd, _⟩ := hE.ti _ _ _ ht
                    obtain ⟨l, hl, hx⟩ := hx.slc_inv
                    cases h
                    refine ⟨rfl, _, ?_, .raw _⟩
                    simp [resolve, invoke, builtin, Builtin.cap_, run_under' hd, hx]
                    rfl
                  · rename_i e ti n c ht
                    obtain ⟨hd, _⟩ := hE.ti _ _ _ ht
                    have hx := hx.raw_inv
                    cases h
                    refine ⟨rfl, _, ?_, .raw _⟩
                    simp [resolve, invoke, builtin, Builtin.cap_, run_under' hd, hx]
                    rfl
                  · cases h
          · cases h
        case min =>
          split at h
          · rename_i u hu
            cases h
            obtain ⟨z, h3, h4⟩ := min_run (P := P) (w := w) (ts := argTypes) (ty := type) (xs := args.map ρ) hu (by simpa using ha)
            exact ⟨rfl, z, by simp [resolve, invoke, builtin, h3], h4⟩
          · cases h
        case max =>
          split at h
          · rename_i u hu
            cases h
            obtain ⟨z, h3, h4⟩ := max_run (P := P) (w := w) (ts := argTypes) (ty := type) (xs := args.map ρ) hu (by simpa using ha)
            exact ⟨rfl, z, by simp [resolve, invoke, builtin, h3], h4⟩
          · cases h
    · cases h

end
end Go.Proofs.YtkoahnikmckgnaaGreatDoor.Ws
