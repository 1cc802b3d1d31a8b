/- One operation, whatever it is. -/
import Derived.Test.YtkoahnikmckgnaaGreatDoorWsH3
set_option linter.unusedSimpArgs false
set_option linter.unusedVariables false
namespace Go.Proofs.YtkoahnikmckgnaaGreatDoor.Ws
open Go Go.RowKit

section
variable {P : Program} {W0 : World} {E : Env} {L : LM} {H : AH} {w : World}

/-- how a call ends -/
def Ends (W0 : World) (L : LM) (H' : AH) (r : AV) (e : Ending) (w' : World) : Prop := ∃ x L', e = .returned x ∧ LE L L' ∧ HR W0 L' H' w' ∧ HD L' H' ∧ VR L' r x

/-- The calls of an interpreter are those of the program. -/
def CallOk (P : Program) (W0 : World) (call : CallA) : Prop :=
  ∀ g args H r H', call g args H = some (r, H') → ∀ L w vs, VRs L args vs → HR W0 L H w → HD L H →
    (∃ x w' L', (callFunc g vs.toArray).run P w = .ok (.value x) w' ∧ LE L L' ∧ HR W0 L' H' w' ∧ HD L' H' ∧ VR L' r x) ∨
    ((callFunc g vs.toArray).run P w = .ok (.enter g vs.toArray) w ∧ Calls P g vs.toArray w (Ends W0 L H' r))

/-- what an operation leads to -/
def Goes (P : Program) (W0 : World) (L : LM) (H' : AH) (v : AV) (o : Oper) (a : Act) (w : World) : Prop :=
  ∀ (K : Act → World → Prop) (Q : Exit → Act → World → Prop), (∀ x w' L', LE L L' → HR W0 L' H' w' → HD L' H' → VR L' v x → K (a.put o.dst x) w') → o.wp P a w K Q

theorem goes_value {H' : AH} {v : AV} {o : Oper} {a : Act} {x : Value} {w' : World} {L' : LM} (h : (execOp a.eval o).run P w = .ok (.value x) w') (h1 : LE L L') (h2 : HR W0 L' H' w') (h3 : HD L' H') (h4 : VR L' v x) :
    Goes P W0 L H' v o a w := fun K Q hk => by
  unfold Oper.wp
  rw [h]
  exact hk x w' L' h1 h2 h3 h4

theorem goes_skip {H' : AH} {o : Oper} {a : Act} {w' : World} {L' : LM} (h : (execOp a.eval o).run P w = .ok .skip w') (h1 : LE L L') (h2 : HR W0 L' H' w') (h3 : HD L' H') : Goes P W0 L H' undefA o a w := fun K Q hk => by
  unfold Oper.wp
  rw [h]
  exact hk undef w' L' h1 h2 h3 (.raw _)

theorem goes_call {call : CallA} (hc : CallOk P W0 call) (hr : HR W0 L H w) (hd : HD L H) {g : Nat} {args : List AV} {r : AV} {H' : AH} (h : call g args H = some (r, H')) {vs : List Value} (hv : VRs L args vs)
    {o : Oper} {a : Act} (he : (execOp a.eval o).run P w = (callFunc g vs.toArray).run P w) : Goes P W0 L H' r o a w := fun K Q hk => by
  unfold Oper.wp
  rw [he]
  rcases hc g args H r H' h L w vs hv hr hd with ⟨x, w', L', h1, h2, h3, h4, h5⟩ | ⟨h1, h2⟩
  · rw [h1]
    exact hk x w' L' h2 h3 h4 h5
  · rw [h1]
    refine h2.mono fun e w' he => ?_
    obtain ⟨x, L', rfl, g1, g2, g3, g4⟩ := he
    exact hk x w' L' g1 g2 g3 g4

theorem builtin_ops {b : Builtin} (hb : b = .append ∨ b = .copy) (hE : E.Ok P W0) (hr : HR W0 L H w) (hd : HD L H) {o : Oper} {a : Act} {args : Array Operand} {ts : Array TypeId} (ho : o.op = .call ⟨.builtin b, args, ts⟩) {avs : List AV} (hv : VRs L avs (args.map a.eval).toList)
    {v : AV} {H' : AH} (h : builtinA E H b ts.toList avs = some (v, H')) : Goes P W0 L H' v o a w := by
  rcases hb with rfl | rfl
  · simp only [builtinA] at h
    obtain ⟨u, w', L', h1, h2, h3, h4, h5⟩ := append_run (ty := o.type) hE hr hd h hv
    refine goes_value (x := u) ?_ h2 h3 h4 h5
    unfold execOp
    simp [ho, resolve, invoke, builtin, h1]
  · simp only [builtinA] at h
    obtain ⟨u, w', L', h1, h2, h3, h4, h5⟩ := copy_run (ty := o.type) hE hr hd h hv
    refine goes_value (x := u) ?_ h2 h3 h4 h5
    unfold execOp
    simp [ho, resolve, invoke, builtin, h1]

theorem arr3 (x y : Array Value) (f : Operand → Value) (z : Array Operand) : (x.toList ++ (z.toList.map f ++ y.toList)).toArray = x ++ (z.map f ++ y) := by
  apply Array.toList_inj.1
  simp
theorem arr2 (x : Value) (f : Operand → Value) (z : Array Operand) : (x :: z.toList.map f).toArray = #[x] ++ z.map f := by
  apply Array.toList_inj.1
  simp
theorem arr0 (x : Value) (f : Operand → Value) (z : Array Operand) : (#[x] ++ z.map f)[0]? = some x := by
  rw [Array.getElem?_append_left (by simp)]
  rfl
theorem arr1 (f : Operand → Value) (z : Array Operand) : (z.map f).extract 0 z.size = z.map f := by
  apply Array.toList_inj.1
  simp
  exact List.take_of_length_le (by simp)

/-- **One operation.** -/
theorem op_goes (hE : E.Ok P W0) (hr : HR W0 L H w) (hd : HD L H) {call : CallA} (hc : CallOk P W0 call) {o : Oper} {ev : Operand → Option AV} {a : Act} (hev : ∀ x ∈ o.op.operands, ∀ v, ev x = some v → VR L v (a.eval x))
    {v : AV} {H' : AH} (h : aop E call ev H o.op = some (v, H')) : Goes P W0 L H' v o a w := by
  by_cases hk : opKind o.op ≤ 1
  · obtain ⟨rfl, x, h1, h2⟩ := quiet_run hE hr hk hev h
    exact goes_value h1 (LE.refl _) hr hd h2
  · by_cases hal : ∃ r, aalc E ev H o.op = some r ∧ alcDo H (some r) = some (v, H')
    · obtain ⟨r, h1, h2⟩ := hal
      have h3 := aalc_run hE hr hev h1
      cases r with
      | val u =>
        cases h2
        obtain ⟨x, h4, h5⟩ := h3
        exact goes_value h4 (LE.refl _) hr hd h5
      | blk f b =>
        obtain ⟨x, w', l, h4, h5, h6, h7, h8⟩ := h3
        simp only [alcDo] at h2
        split at h2
        · rename_i id H1 hn
          cases h2
          obtain ⟨rfl, rfl, _⟩ := newBlk_spec hn
          obtain ⟨g1, g2, g3⟩ := hr.fresh hd h5 h6 h7
          exact goes_value h4 g1 g2 g3 (h8 _ g1 _ LM.set_same)
        · cases h2
    · have alc : ∀ {q}, alcDo H (aalc E ev H q) = some (v, H') → q = o.op → False := by
        intro q hq e
        subst e
        cases hx : aalc E ev H o.op with
        | none => rw [hx] at hq; cases hq
        | some r => rw [hx] at hq; exact hal ⟨r, hx, hq⟩
      obtain ⟨dst, op, type, pos, after, guard⟩ := o
      simp only at *
      cases op <;> simp only [Op.operands] at hev <;> (try (exfalso; apply hk; simp [opKind]; done)) <;> (try (exfalso; exact alc h rfl)) <;> simp only [aop_eqn] at h <;> (try (cases h; done))
      case insert t m k x =>
        split at h
        · rename_i am ak ax hm hkk hx
          cases hq : amapUpdate E H t am ak ax with
          | none => rw [hq] at h; cases h
          | some H1 =>
            rw [hq] at h; cases h
            obtain ⟨w', h1, h2, h3⟩ := mapUpdate_run hE hr hd hq (hev m (by simp) _ hm) (hev k (by simp) _ hkk) (hev x (by simp) _ hx)
            exact goes_skip (by simp [execOp, h1]) (LE.refl _) h2 h3
        · cases h
      case store t x y =>
        split at h
        · rename_i ax ay hx hy
          cases hq : astore E H t ax ay with
          | none => rw [hq] at h; cases h
          | some H1 =>
            rw [hq] at h; cases h
            obtain ⟨w', h1, h2, h3⟩ := store_run hE hr hd hq (hev x (by simp) _ hx) (hev y (by simp) _ hy)
            exact goes_skip (by simp [execOp, h1]) (LE.refl _) h2 h3
        · cases h
      case mapUpdate t m k x =>
        split at h
        · rename_i am ak ax hm hkk hx
          cases hq : amapUpdate E H t am ak ax with
          | none => rw [hq] at h; cases h
          | some H1 =>
            rw [hq] at h; cases h
            obtain ⟨w', h1, h2, h3⟩ := mapUpdate_run hE hr hd hq (hev m (by simp) _ hm) (hev k (by simp) _ hkk) (hev x (by simp) _ hx)
            exact goes_skip (by simp [execOp, h1]) (LE.refl _) h2 h3
        · cases h
      case next it isS =>
        cases isS with
        | false => simp at h
        | true =>
          simp only at h
          split at h
          · rename_i ai hi
            obtain ⟨y, w', h1, h2, h3, h4⟩ := next_run (P := P) (ty := type) hr hd h (hev it (by simp) _ hi)
            exact goes_value (by simp [execOp, h1]) (LE.refl _) h2 h3 h4
          · cases h
      case call c =>
        obtain ⟨callee, args, ts⟩ := c
        unfold acallOp at h
        split at h
        · rename_i avs has
          have ha := evals_spec (L := L) (ρ := a.eval) (fun x hx => hev x (by simp [Call.operands]; right; simpa using hx)) has
          cases callee with
          | builtin b =>
            simp only at h
            by_cases hb : b = .append ∨ b = .copy
            · exact builtin_ops hb hE hr hd rfl (by simpa using ha) h
            · cases b <;> first
                | (exfalso; apply hk; simp [opKind]; done)
                | (exfalso; apply hb; simp; done)
                | (simp [builtinA] at h; done)
          | value f =>
            simp only at h
            split at h
            · rename_i g x1 x2 hf
              have hfv := (hev f (by simp [Call.operands]) _ hf).raw_inv
              refine goes_call hc hr hd h (vs := x1.toList ++ (args.toList.map a.eval ++ x2.toList)) ((VRs.raws _).append (ha.append (VRs.raws _))) ?_
              rw [arr3]
              simp [execOp, resolve, hfv, Deferred.ofValue, invoke]
            · rename_i g first cap hf
              have hfv := hev f (by simp [Call.operands]) _ hf
              generalize hy : a.eval f = y at hfv
              cases hfv with
              | func h1 h2 =>
                rename_i x1 x2
                refine goes_call hc hr hd h (vs := x1.toList ++ (args.toList.map a.eval ++ x2.toList)) (h1.append (ha.append h2)) ?_
                rw [arr3]
                simp [execOp, resolve, hy, Deferred.ofValue, invoke]
            · cases h
          | invoke r name =>
            simp only at h
            split at h
            · rename_i t u hrv
              have hrx := hev r (by simp [Call.operands]) _ hrv
              generalize hy : a.eval r = y at hrx
              cases hrx with
              | iface hu =>
                rename_i ux
                split at h
                · rename_i g hm
                  refine goes_call hc hr hd h (vs := ux :: args.toList.map a.eval) (.cons hu ha) ?_
                  have := hE.mt t name g ux w hm
                  rw [arr2]
                  simp [execOp, resolve, hy, invoke, arr0, arr1, callMethod, this]
                · cases h
            · rename_i t u hrv
              have hrx := (hev r (by simp [Call.operands]) _ hrv).raw_inv
              split at h
              · rename_i g hm
                refine goes_call hc hr hd h (vs := u :: args.toList.map a.eval) (.cons (.raw _) ha) ?_
                have := hE.mt t name g u w hm
                rw [arr2]
                simp [execOp, resolve, hrx, invoke, arr0, arr1, callMethod, this]
              · cases h
            · cases h
        · cases h

end
end Go.Proofs.YtkoahnikmckgnaaGreatDoor.Ws

/- Regions in the text's order. -/
namespace Go.Proofs.YtkoahnikmckgnaaGreatDoor.Ws
open Go Go.RowKit

section
variable {P : Program} {W0 : World} {E : Env} {L : LM} {H : AH} {w : World}

structure TR (L : LM) (tm : T AV) (nt : Nat) (a : Act) : Prop where
  size : a.tmps.size = nt
  val : ∀ t v, tm.get t = some v → ∃ x, a.tmps[t]? = some x ∧ VR L v x

theorem TR.mono {L L' : LM} {tm : T AV} {nt : Nat} {a : Act} (h : TR L tm nt a) (hl : LE L L') : TR L' tm nt a :=
  ⟨h.size, fun t v ht => let ⟨x, h1, h2⟩ := h.val t v ht; ⟨x, h1, h2.mono hl⟩⟩

theorem TR.eval {tm : T AV} {nt : Nat} {a : Act} (h : TR L tm nt a) {x : Operand} {v : AV} (hv : aeval tm x = some v) : VR L v (a.eval x) := by
  cases x with
  | tmp t =>
    obtain ⟨y, h1, h2⟩ := h.val t v hv
    have : a.eval (.tmp t) = y := by simp [Act.eval, h1]
    rw [this]; exact h2
  | const c => cases hv; exact .raw _
  | global g => cases hv; exact .raw _
  | func f => cases hv; exact .raw _

theorem Act.put_size (a : Act) (d : Option Tmp) (x : Value) : (a.put d x).tmps.size = a.tmps.size := by
  cases d <;> simp [Act.put]
theorem Act.put_defers' (a : Act) (d : Option Tmp) (x : Value) : (a.put d x).defers = a.defers := by
  cases d <;> rfl

theorem TR.putTmp {tm tm' : T AV} {nt : Nat} {a : Act} (h : TR L tm nt a) {d : Option Tmp} {v : AV} {x : Value} (hp : putTmp nt tm d v = some tm') (hv : VR L v x) : TR L tm' nt (a.put d x) := by
  cases d with
  | none => cases hp; exact h
  | some d =>
    simp only [Ws.putTmp] at hp
    split at hp
    · rename_i hb
      cases hp
      have hlt : d < a.tmps.size := by rw [h.size]; exact blt_true hb
      refine ⟨by rw [Act.put_size]; exact h.size, fun t u ht => ?_⟩
      rw [T.get_put] at ht
      by_cases e : t = d
      · subst e
        rw [if_pos rfl] at ht
        cases ht
        refine ⟨x, ?_, hv⟩
        simp only [Act.put]
        rw [Array.getElem?_setIfInBounds_self_of_lt hlt]
      · rw [if_neg e] at ht
        obtain ⟨y, h1, h2⟩ := h.val t u ht
        refine ⟨y, ?_, h2⟩
        simp only [Act.put]
        rw [Array.getElem?_setIfInBounds_ne (fun e' => e e'.symm)]
        exact h1
    · cases hp

theorem wanted_ok {ops : Array Oper} {tm : T AV} {nt : Nat} {a : Act} (h : TR L tm nt a) {o : Oper} {b : Bool} (hw : awanted ops.toList tm o = some b) : Region.wanted o (yielded ops a.tmps) = b := by
  unfold awanted at hw
  unfold Region.wanted
  split at hw
  · rename_i hg
    rw [hg]; cases hw; rfl
  · rename_i j want hg
    rw [hg]
    simp only
    split at hw
    · rename_i oj hj
      have hj' : ops[j]? = some oj := by simpa using hj
      split at hw
      · rename_i d hd
        split at hw
        · rename_i c hc
          cases hw
          obtain ⟨x, h1, h2⟩ := h.val d _ hc
          have := h2.raw_inv
          subst this
          have hy : yielded ops a.tmps j = some c := by simp [yielded, hj', hd, h1]
          rw [hy]
          cases c <;> cases want <;> rfl
        · rename_i c hc
          cases hw
          obtain ⟨x, h1, h2⟩ := h.val d _ hc
          have := h2.raw_inv
          subst this
          have hy : yielded ops a.tmps j = none := by simp [yielded, hj', hd, h1]
          rw [hy]
          rfl
        · cases hw
      · cases hw
    · cases hw

/-- where a piece of code leads -/
def Post (W0 : World) (L : LM) (nt : Nat) (a : Act) (s' : St) (a' : Act) (w' : World) : Prop :=
  ∃ L', LE L L' ∧ HR W0 L' s'.h w' ∧ HD L' s'.h ∧ TR L' s'.tm nt a' ∧ a'.defers = a.defers

theorem region_ops (hE : E.Ok P W0) {call : CallA} (hc : CallOk P W0 call) {ops : Array Oper} {nt : Nat} {Q : Exit → Act → World → Prop} : ∀ (m k : Nat), k + m = ops.size → ∀ (L : LM) (s s' : St) (a : Act) (w : World),
    HR W0 L s.h w → HD L s.h → TR L s.tm nt a → aregion E call nt ops.toList (ops.toList.drop k) s = some s' →
    (∀ a' w', Post W0 L nt a s' a' w' → Q .normal a' w') → wpOps P ops Q (List.range' k m) a w
  | 0, k, hk, L, s, s', a, w, hr, hd, ht, h, hq => by
    have : ops.toList.drop k = [] := List.drop_of_length_le (by simp; omega)
    rw [this] at h
    simp [aregion_nil] at h
    subst h
    exact hq a w ⟨L, LE.refl _, hr, hd, ht, rfl⟩
  | m + 1, k, hk, L, s, s', a, w, hr, hd, ht, h, hq => by
    have hlt : k < ops.size := by omega
    have hget : ops[k]? = some ops[k] := Array.getElem?_eq_getElem hlt
    have hdrop : ops.toList.drop k = ops[k] :: ops.toList.drop (k + 1) := by
      rw [List.drop_eq_getElem_cons (by simpa using hlt)]
      simp
    rw [hdrop] at h
    simp only [aregion_cons] at h
    rw [List.range'_succ]
    simp only [wpOps, hget]
    split at h
    · rename_i hw
      rw [if_pos (wanted_ok ht hw)]
      split at h
      · rename_i v h1 hop
        split at h
        · rename_i tm hp
          refine .inl (op_goes hE hr hd hc (fun x _ u hu => ht.eval hu) hop _ _ fun x w' L' g1 g2 g3 g4 => ?_)
          refine region_ops hE hc m (k + 1) (by omega) L' ⟨tm, h1, s.ds⟩ s' _ w' g2 g3 ((ht.mono g1).putTmp hp g4) h fun a' w'' hpost => ?_
          obtain ⟨L'', e1, e2, e3, e4, e5⟩ := hpost
          exact hq a' w'' ⟨L'', g1.trans e1, e2, e3, e4, by rw [e5, Act.put_defers']⟩
        · cases h
      · cases h
    · rename_i hw
      rw [if_neg (by rw [wanted_ok ht hw]; simp)]
      split at h
      · rename_i tm hp
        refine region_ops hE hc m (k + 1) (by omega) L ⟨tm, s.h, s.ds⟩ s' _ w hr hd (ht.putTmp hp (.raw _)) h fun a' w'' hpost => ?_
        obtain ⟨L'', e1, e2, e3, e4, e5⟩ := hpost
        exact hq a' w'' ⟨L'', e1, e2, e3, e4, by rw [e5, Act.put_defers']⟩
      · cases h
    · cases h

theorem region_text (hE : E.Ok P W0) {call : CallA} (hc : CallOk P W0 call) {ops : Array Oper} {nt id : Nat} {Q : Exit → Act → World → Prop} {s s' : St} {a : Act}
    (hr : HR W0 L s.h w) (hd : HD L s.h) (ht : TR L s.tm nt a) (h : aregion E call nt ops.toList ops.toList s = some s') (hq : ∀ a' w', Post W0 L nt a s' a' w' → Q .normal a' w') :
    (Code.region id ops false).wp P Q a w := by
  refine wp_region ?_
  rw [List.range_eq_range']
  exact region_ops hE hc ops.size 0 (by omega) L s s' a w hr hd ht (by simpa using h) hq

end
end Go.Proofs.YtkoahnikmckgnaaGreatDoor.Ws
