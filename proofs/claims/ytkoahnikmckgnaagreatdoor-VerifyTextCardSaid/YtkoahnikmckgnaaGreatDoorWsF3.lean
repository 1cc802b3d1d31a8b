/- Arithmetic, comparisons. -/
import Derived.Test.YtkoahnikmckgnaaGreatDoorWsF
set_option linter.unusedSimpArgs false
set_option linter.unusedVariables false
namespace Go.Proofs.YtkoahnikmckgnaaGreatDoor.Ws
open Go Go.RowKit

section
variable {P : Program} {W0 : World} {E : Env} {L : LM} {H : AH} {w : World}

theorem i64_wrap_nat (m : Nat) (h : m ≤ 9223372036854775807) : IntKind.i64.wrap (m : Int) = m := by
  have h1 : (IntKind.i64.signed) = true := rfl
  have h2 : (2 ^ IntKind.i64.bits : Int) = 18446744073709551616 := by decide
  have h3 : (2 ^ (IntKind.i64.bits - 1) : Int) = 9223372036854775808 := by decide
  unfold IntKind.wrap
  simp only [h1, h2, h3, Bool.true_and]
  have : (m : Int) % 18446744073709551616 = m := by omega
  rw [this]
  rw [if_neg]
  simp only [ge_iff_le, decide_eq_true_eq]
  omega

theorem i64_wrap_neg (m : Nat) (h : m ≤ 9223372036854775807) : IntKind.i64.wrap (Int.negSucc m) = Int.negSucc m := by
  have h1 : (IntKind.i64.signed) = true := rfl
  have h2 : (2 ^ IntKind.i64.bits : Int) = 18446744073709551616 := by decide
  have h3 : (2 ^ (IntKind.i64.bits - 1) : Int) = 9223372036854775808 := by decide
  unfold IntKind.wrap
  simp only [h1, h2, h3, Bool.true_and]
  have : (Int.negSucc m) % 18446744073709551616 = 18446744073709551615 - m := by omega
  rw [this]
  rw [if_pos]
  · omega
  · simp only [ge_iff_le, decide_eq_true_eq]
    omega

theorem wrapFast_eq (k : IntKind) (n : Int) : wrapFast k n = k.wrap n := wrapFast_eqn k n

theorem beqF_true {a b : IntKind} (h : IntKind.beqF a b = true) : a = b := by
  cases a <;> cases b <;> first | rfl | simp [IntKind.beqF] at h

theorem i64_max : IntKind.i64.max = 9223372036854775807 := by decide

theorem eqGuard_plain (op : BinOp) (t : TypeId) (xo yo : Operand) (x y : Value) (h1 : ∀ a b, ¬ (x = .agg a ∧ y = .agg b)) (h2 : ¬ (x = .nilIface ∧ y = .nilIface)) :
    (eqGuard op t xo yo x y).run P w = .ok () w := by
  cases op <;> first
    | rfl
    | (simp only [eqGuard]
       cases x <;> first
         | rfl
         | (cases y <;> first
             | rfl
             | exact absurd ⟨rfl, rfl⟩ h2
             | exact absurd ⟨rfl, rfl⟩ (h1 _ _)))

theorem intBin_run {op : BinOp} {k : IntKind} {a b : Int} {v : Value} (h : intBin op k a b = some v) (t : TypeId) :
    (binOp op t (.int k a) (.int k b)).run P w = .ok v w := by
  rw [intBin_eqn] at h
  cases op <;> simp only [intBinS] at h <;> first
    | (cases h; simp [binOp, Op.intArith, wrapFast_eq]; done)
    | (cases h; simp [binOp, Op.intCmp]; done)
    | (cases h; simp [binOp, Op.intBits]; done)
    | (split at h
       · cases h
       · rename_i hb
         cases h
         have : ¬ b = 0 := fun e => hb e
         simp [binOp, Op.intDiv, this])
    | cases h

theorem shiftBin_run {op : BinOp} {k k' : IntKind} {a b : Int} {v : Value} (h : shiftBin op k a b = some v) (t : TypeId) :
    (binOp op t (.int k a) (.int k' b)).run P w = .ok v w := by
  rw [shiftBin_eqn] at h
  unfold shiftBinS at h
  split at h
  · cases h
  · rename_i m
    have hm : ¬ ((Int.ofNat m) < 0) := by simp
    split at h
    · cases h
      simp only [binOp, Op.shift, hm, if_false]
      simp
    · cases h
      simp only [binOp, Op.shift, hm, if_false]
      simp
    · cases h

theorem strBin_run {op : BinOp} {x y : ByteArray} {v : Value} (h : strBin op x y = some v) (t : TypeId) :
    (binOp op t (.string x) (.string y)).run P w = .ok v w := by
  cases op <;> simp only [strBin, catF_eq] at h <;> first
    | (cases h; simp [binOp, Op.stringOp]; done)
    | (split at h
       · rename_i hb
         cases h
         have hb := ble_true hb
         have : ¬ ((x.size + y.size : Nat) : Int) > IntKind.i64.max := by rw [i64_max]; omega
         simp only [binOp, Op.stringOp, this, if_false]
         rfl
       · cases h)
    | cases h

/-- what nilOf and nilClass say of the concrete value -/
theorem nil_shape {v : AV} {x : Value} {b : Bool} (hv : VR L v x) (h : nilOf v = some b) :
    (nilClass v = 1 ∧ ∃ p, x = .pointer p ∧ p.isNone = b) ∨ (nilClass v = 2 ∧ ∃ p n c, x = .slice p n c ∧ p.isNone = b) ∨
    (nilClass v = 3 ∧ ∃ p, x = .map p ∧ p.isNone = b) ∨ (nilClass v = 4 ∧ if b then x = .nilFunc else ∃ f a c, x = .func f a c) ∨
    (nilClass v = 5 ∧ if b then x = .nilIface else ∃ t u, x = .iface t u) := by
  cases hv with
  | raw =>
    cases x with
    | pointer p => cases p <;> simp_all [nilOf, nilClass]
    | slice p n c => cases p <;> simp_all [nilOf, nilClass]
    | map p => cases p <;> simp_all [nilOf, nilClass]
    | func f a c => simp_all [nilOf, nilClass]
    | nilFunc => simp_all [nilOf, nilClass]
    | iface t u => simp_all [nilOf, nilClass]
    | nilIface => simp_all [nilOf, nilClass]
    | _ => simp [nilOf] at h
  | ptr hl => cases h; exact .inl ⟨rfl, _, rfl, rfl⟩
  | slc hl => cases h; exact .inr (.inl ⟨rfl, _, _, _, rfl, rfl⟩)
  | slu hl a b c => cases h; exact .inr (.inl ⟨rfl, _, _, _, rfl, rfl⟩)
  | emp a c => cases h; exact .inr (.inl ⟨rfl, _, _, _, rfl, rfl⟩)
  | opq l => cases h
  | map hl => cases h; exact .inr (.inr (.inl ⟨rfl, _, rfl, rfl⟩))
  | func ha hb => cases h; exact .inr (.inr (.inr (.inl ⟨rfl, by simp⟩)))
  | iface hx => cases h; exact .inr (.inr (.inr (.inr ⟨rfl, by simp⟩)))
  | agg hs => cases h
  | tup hs => cases h

theorem allRaw_spec : ∀ {l : List AV} {xs : List Value}, allRaw l = some xs → ∀ {ys : List Value}, VRs L l ys → ys = xs
  | [], xs, h, ys, hv => by
    simp [allRaw] at h; subst h
    cases hv; rfl
  | v :: l, xs, h, ys, hv => by
    cases v with
    | raw u =>
      simp only [allRaw] at h
      cases hr : allRaw l with
      | none => rw [hr] at h; cases h
      | some r =>
        rw [hr] at h; cases h
        cases hv with
        | cons hx hs =>
          cases hx.raw_inv
          rw [allRaw_spec hr hs]
    | _ => simp [allRaw] at h

theorem equalIn_bool (d : Nat) {t : TypeId} (hd : P.underlying t = some .bool) (p q : Bool) : (Op.equalIn (d + 1) t (.bool p) (.bool q)).run P w = .ok (p == q) w := by
  simp only [Op.equalIn, Sem.run_bind, run_under' hd, Result.andThen_ok, Sem.run_pure]

theorem equalIn_ptr (n : Nat) {t : TypeId} {e : TypeId} (hd : P.underlying t = some (.pointer e)) {p q : Option Addr} (h : p.isNone = true ∨ q.isNone = true) :
    (Op.equalIn (n + 1) t (.pointer p) (.pointer q)).run P w = .ok (p.isNone && q.isNone) w := by
  cases p <;> cases q <;> first
    | (simp at h; done)
    | (simp only [Op.equalIn, Sem.run_bind, run_under' hd, Result.andThen_ok, Sem.run_pure]; rfl)
theorem equalIn_slice (n : Nat) {t : TypeId} {e : TypeId} (hd : P.underlying t = some (.slice e)) {p q : Option Addr} {a b c d : Nat} (h : p.isNone = true ∨ q.isNone = true) :
    (Op.equalIn (n + 1) t (.slice p a b) (.slice q c d)).run P w = .ok (p.isNone && q.isNone) w := by
  cases p <;> cases q <;> first
    | (simp at h; done)
    | (simp only [Op.equalIn, Sem.run_bind, run_under' hd, Result.andThen_ok, Sem.run_pure]; rfl)
theorem equalIn_map (n : Nat) {t : TypeId} {k e : TypeId} (hd : P.underlying t = some (.map k e)) {p q : Option Nat} (h : p.isNone = true ∨ q.isNone = true) :
    (Op.equalIn (n + 1) t (.map p) (.map q)).run P w = .ok (p.isNone && q.isNone) w := by
  cases p <;> cases q <;> first
    | (simp at h; done)
    | (simp only [Op.equalIn, Sem.run_bind, run_under' hd, Result.andThen_ok, Sem.run_pure]; rfl)
theorem equalIn_nil_func (n : Nat) {t : TypeId} {a b : Array TypeId} {c : Bool} (hd : P.underlying t = some (.func a b c)) : (Op.equalIn (n + 1) t .nilFunc .nilFunc).run P w = .ok true w := by
  simp only [Op.equalIn, Sem.run_bind, run_under' hd, Result.andThen_ok, Sem.run_pure]
theorem equalIn_func_l (n : Nat) {t : TypeId} {a b : Array TypeId} {c : Bool} (hd : P.underlying t = some (.func a b c)) (f : Fn) (x y : Array Value) : (Op.equalIn (n + 1) t .nilFunc (.func f x y)).run P w = .ok false w := by
  simp only [Op.equalIn, Sem.run_bind, run_under' hd, Result.andThen_ok, Sem.run_pure]
theorem equalIn_func_r (n : Nat) {t : TypeId} {a b : Array TypeId} {c : Bool} (hd : P.underlying t = some (.func a b c)) (f : Fn) (x y : Array Value) : (Op.equalIn (n + 1) t (.func f x y) .nilFunc).run P w = .ok false w := by
  simp only [Op.equalIn, Sem.run_bind, run_under' hd, Result.andThen_ok, Sem.run_pure]
theorem equalIn_nil_iface (n : Nat) {t : TypeId} {m : Array (String × TypeId)} (hd : P.underlying t = some (.interface m)) : (Op.equalIn (n + 1) t .nilIface .nilIface).run P w = .ok true w := by
  simp only [Op.equalIn, Sem.run_bind, run_under' hd, Result.andThen_ok, Sem.run_pure]
theorem equalIn_iface_l (n : Nat) {t : TypeId} {m : Array (String × TypeId)} (hd : P.underlying t = some (.interface m)) (u : TypeId) (x : Value) : (Op.equalIn (n + 1) t .nilIface (.iface u x)).run P w = .ok false w := by
  simp only [Op.equalIn, Sem.run_bind, run_under' hd, Result.andThen_ok, Sem.run_pure]
theorem equalIn_iface_r (n : Nat) {t : TypeId} {m : Array (String × TypeId)} (hd : P.underlying t = some (.interface m)) (u : TypeId) (x : Value) : (Op.equalIn (n + 1) t (.iface u x) .nilIface).run P w = .ok false w := by
  simp only [Op.equalIn, Sem.run_bind, run_under' hd, Result.andThen_ok, Sem.run_pure]

theorem equal_nil {t : TypeId} {d : TypeDesc} (hd : P.underlying t = some d) {a b : AV} {x y : Value} (ha : VR L a x) (hb : VR L b y) {p q : Bool} (n1 : nilOf a = some p) (n2 : nilOf b = some q)
    (c1 : nilClass a = descClass d) (c2 : nilClass b = descClass d) (hpq : p = true ∨ q = true) (n : Nat) : (Op.equalIn (n + 1) t x y).run P w = .ok (p && q) w := by
  rcases nil_shape ha n1 with ⟨c, u, rfl, hp⟩ | ⟨c, u, k, m, rfl, hp⟩ | ⟨c, u, rfl, hp⟩ | ⟨c, hp⟩ | ⟨c, hp⟩ <;>
    rcases nil_shape hb n2 with ⟨c', v, rfl, hq⟩ | ⟨c', v, k', m', rfl, hq⟩ | ⟨c', v, rfl, hq⟩ | ⟨c', hq⟩ | ⟨c', hq⟩ <;>
    first
      | (exfalso; omega)
      | (cases d <;> first | (exfalso; simp [descClass] at c1; omega) | skip)
  · subst hp hq; exact equalIn_ptr n hd hpq
  · subst hp hq; exact equalIn_slice n hd hpq
  · subst hp hq; exact equalIn_map n hd hpq
  · cases p <;> cases q
    · simp at hpq
    · simp only [Bool.false_eq_true, if_false, if_true] at hp hq; obtain ⟨f, x, y, rfl⟩ := hp; subst hq; exact equalIn_func_r n hd f x y
    · simp only [Bool.false_eq_true, if_false, if_true] at hp hq; obtain ⟨f, x, y, rfl⟩ := hq; subst hp; exact equalIn_func_l n hd f x y
    · simp only [if_true] at hp hq; subst hp hq; exact equalIn_nil_func n hd
  · cases p <;> cases q
    · simp at hpq
    · simp only [Bool.false_eq_true, if_false, if_true] at hp hq; obtain ⟨f, x, rfl⟩ := hp; subst hq; exact equalIn_iface_r n hd f x
    · simp only [Bool.false_eq_true, if_false, if_true] at hp hq; obtain ⟨f, x, rfl⟩ := hq; subst hp; exact equalIn_iface_l n hd f x
    · simp only [if_true] at hp hq; subst hp hq; exact equalIn_nil_iface n hd

theorem aeq_run (hE : E.Ok P W0) {t : TypeId} {a b : AV} {lit r : Bool} {x y : Value} (h : aeq E t a b lit = some r) (ha : VR L a x) (hb : VR L b y) :
    (Op.equal t x y).run P w = .ok r w ∧ (∀ (op : BinOp) (xo yo : Operand), ((isLitNil xo || isLitNil yo) = lit) → (eqGuard op t xo yo x y).run P w = .ok () w) := by
  unfold aeq at h
  split at h
  · -- bools
    rename_i p q
    cases ha.raw_inv; cases hb.raw_inv
    split at h
    · rename_i ht
      cases h
      obtain ⟨hd, _⟩ := hE.ti _ _ _ ht
      exact ⟨equalIn_bool 9999 hd p q, fun op xo yo _ => eqGuard_plain op t xo yo _ _ (by simp) (by simp)⟩
    · cases h
  · split at h
    · rename_i d ti ht
      obtain ⟨hd, hi⟩ := hE.ti _ _ _ ht
      split at h
      · -- a struct or an array
        rename_i hs
        split at h
        · rename_i cs ds hc hdd
          split at h
          · rename_i xs ys h1 h2
            obtain ⟨xa, rfl, hxa⟩ := ha.aggOf hc
            obtain ⟨ya, rfl, hya⟩ := hb.aggOf hdd
            have e1 := allRaw_spec h1 hxa
            have e2 := allRaw_spec h2 hya
            subst e1; subst e2
            refine ⟨hE.seqEq t xa ya r w hs h, fun op xo yo _ => ?_⟩
            have hg := hE.seqGuard t hs
            cases op <;> first
              | rfl
              | (simp only [eqGuard]; simp [hg])
          · cases h
        · cases h
      · -- nil or not
        split at h
        · rename_i b1 b2 b3
          have b1 := beq_true b1
          have b2 := beq_true b2
          split at h
          · -- both nil
            rename_i n1 n2
            split at h
            · rename_i hl
              cases h
              refine ⟨equal_nil hd ha hb n1 n2 b1 b2 (.inl rfl) 9999, fun op xo yo ho => ?_⟩
              by_cases hnn : x = .nilIface ∧ y = .nilIface
              · obtain ⟨rfl, rfl⟩ := hnn
                have hc : nilClass a = 5 := by
                  rcases nil_shape ha n1 with ⟨_, _, e, _⟩ | ⟨_, _, _, _, e, _⟩ | ⟨_, _, e, _⟩ | ⟨_, e⟩ | ⟨c, _⟩
                  · cases e
                  · cases e
                  · cases e
                  · simp at e
                  · exact c
                have hlit : lit = true := by
                  rw [← b1, hc] at hl
                  simpa using hl
                rw [hlit] at ho
                have hm : (isLitNil xo || isLitNil yo) = true := ho
                cases op <;> first
                  | rfl
                  | (simp only [eqGuard]
                     cases xo <;> cases yo <;> first
                       | rfl
                       | (simp [isLitNil] at hm; done))
              · refine eqGuard_plain op t xo yo x y (fun p q he => ?_) hnn
                obtain ⟨rfl, rfl⟩ := he
                rcases nil_shape ha n1 with ⟨_, _, e, _⟩ | ⟨_, _, _, _, e, _⟩ | ⟨_, _, e, _⟩ | ⟨_, e⟩ | ⟨_, e⟩ <;> simp at e
            · cases h
          · rename_i n1 n2
            cases h
            refine ⟨equal_nil hd ha hb n1 n2 b1 b2 (.inl rfl) 9999, fun op xo yo ho => eqGuard_plain op t xo yo x y (fun p q he => ?_) (fun he => ?_)⟩
            · obtain ⟨rfl, rfl⟩ := he
              rcases nil_shape ha n1 with ⟨_, _, e, _⟩ | ⟨_, _, _, _, e, _⟩ | ⟨_, _, e, _⟩ | ⟨_, e⟩ | ⟨_, e⟩ <;> simp at e
            · obtain ⟨rfl, rfl⟩ := he
              rcases nil_shape hb n2 with ⟨_, _, e, _⟩ | ⟨_, _, _, _, e, _⟩ | ⟨_, _, e, _⟩ | ⟨_, e⟩ | ⟨_, e⟩ <;> simp at e
          · rename_i n1 n2
            cases h
            refine ⟨equal_nil hd ha hb n1 n2 b1 b2 (.inr rfl) 9999, fun op xo yo ho => eqGuard_plain op t xo yo x y (fun p q he => ?_) (fun he => ?_)⟩
            · obtain ⟨rfl, rfl⟩ := he
              rcases nil_shape hb n2 with ⟨_, _, e, _⟩ | ⟨_, _, _, _, e, _⟩ | ⟨_, _, e, _⟩ | ⟨_, e⟩ | ⟨_, e⟩ <;> simp at e
            · obtain ⟨rfl, rfl⟩ := he
              rcases nil_shape ha n1 with ⟨_, _, e, _⟩ | ⟨_, _, _, _, e, _⟩ | ⟨_, _, e, _⟩ | ⟨_, e⟩ | ⟨_, e⟩ <;> simp at e
          · cases h
        · cases h
    · cases h

def plainEq : Value → Bool
  | .bool _ | .agg _ | .pointer _ | .slice .. | .map _ | .nilFunc | .func .. | .nilIface | .iface .. => true
  | _ => false

theorem binOp_eql {x y : Value} (h : plainEq x = true) (t : TypeId) : binOp .eql t x y = (do pure (.bool (← Op.equal t x y))) := by
  cases x <;> first
    | (simp [plainEq] at h; done)
    | (cases y <;> rfl)
theorem binOp_neq {x y : Value} (h : plainEq x = true) (t : TypeId) : binOp .neq t x y = (do pure (.bool (!(← Op.equal t x y)))) := by
  cases x <;> first
    | (simp [plainEq] at h; done)
    | (cases y <;> rfl)

theorem aeq_plain {t : TypeId} {a b : AV} {lit r : Bool} {x : Value} (h : aeq E t a b lit = some r) (ha : VR L a x) : plainEq x = true := by
  unfold aeq at h
  split at h
  · cases ha.raw_inv; rfl
  · split at h
    · split at h
      · split at h
        · rename_i cs ds hc hdd
          obtain ⟨xa, rfl, hxa⟩ := ha.aggOf hc
          rfl
        · cases h
      · split at h
        · have key : ∀ p, nilOf a = some p → plainEq x = true := by
            intro p hp
            rcases nil_shape ha hp with ⟨_, _, rfl, _⟩ | ⟨_, _, _, _, rfl, _⟩ | ⟨_, _, rfl, _⟩ | ⟨_, e⟩ | ⟨_, e⟩
            · rfl
            · rfl
            · rfl
            · cases p
              · obtain ⟨_, _, _, rfl⟩ := (by simpa using e : ∃ f a c, x = .func f a c); rfl
              · have : x = .nilFunc := by simpa using e
                subst this; rfl
            · cases p
              · obtain ⟨_, _, rfl⟩ := (by simpa using e : ∃ t u, x = .iface t u); rfl
              · have : x = .nilIface := by simpa using e
                subst this; rfl
          split at h
          · rename_i n1 n2; exact key _ n1
          · rename_i n1 n2; exact key _ n1
          · rename_i n1 n2; exact key _ n1
          · cases h
        · cases h
    · cases h

theorem bin_run (hE : E.Ok P W0) {op : BinOp} {t : TypeId} {xo yo : Operand} {a b v : AV} {x y : Value} (h : abin E op t xo yo a b = some v) (ha : VR L a x) (hb : VR L b y) :
    ∃ z, (do eqGuard op t xo yo x y; binOp op t x y : Sem Value).run P w = .ok z w ∧ VR L v z := by
  rw [abin_eqn] at h
  unfold abinS at h
  split at h
  · rename_i k p k' q
    cases ha.raw_inv; cases hb.raw_inv
    have hg := eqGuard_plain (P := P) (w := w) op t xo yo (.int k p) (.int k' q) (by simp) (by simp)
    split at h
    · cases hs : shiftBin .shl k p q with
      | none => rw [hs] at h; cases h
      | some u => rw [hs] at h; cases h; exact ⟨u, by simp only [Sem.run_bind, hg, Result.andThen_ok]; exact shiftBin_run hs t, .raw _⟩
    · cases hs : shiftBin .shr k p q with
      | none => rw [hs] at h; cases h
      | some u => rw [hs] at h; cases h; exact ⟨u, by simp only [Sem.run_bind, hg, Result.andThen_ok]; exact shiftBin_run hs t, .raw _⟩
    · split at h
      · rename_i hk
        cases beqF_true hk
        cases hs : intBin op k p q with
        | none => rw [hs] at h; cases h
        | some u => rw [hs] at h; cases h; exact ⟨u, by simp only [Sem.run_bind, hg, Result.andThen_ok]; exact intBin_run hs t, .raw _⟩
      · cases h
  · rename_i p q
    cases ha.raw_inv; cases hb.raw_inv
    have hg := eqGuard_plain (P := P) (w := w) op t xo yo (.string p) (.string q) (by simp) (by simp)
    cases hs : strBin op p q with
    | none => rw [hs] at h; cases h
    | some u => rw [hs] at h; cases h; exact ⟨u, by simp only [Sem.run_bind, hg, Result.andThen_ok]; exact strBin_run hs t, .raw _⟩
  · split at h
    · split at h
      · rename_i r hr
        cases h
        obtain ⟨he, hg⟩ := aeq_run (w := w) hE hr ha hb
        refine ⟨.bool r, ?_, .raw _⟩
        simp only [Sem.run_bind, hg .eql xo yo rfl, Result.andThen_ok, binOp_eql (aeq_plain hr ha), he, Sem.run_pure]
      · cases h
    · split at h
      · rename_i r hr
        cases h
        obtain ⟨he, hg⟩ := aeq_run (w := w) hE hr ha hb
        refine ⟨.bool (!r), ?_, .raw _⟩
        simp only [Sem.run_bind, hg .neq xo yo rfl, Result.andThen_ok, binOp_neq (aeq_plain hr ha), he, Sem.run_pure]
      · cases h
    · cases h

theorem un_run {op : UnOp} {a v : AV} {x : Value} (h : aun op a = some v) (ha : VR L a x) : ∃ z, (Op.unary op x).run P w = .ok z w ∧ VR L v z := by
  unfold aun at h
  split at h
  · cases ha.raw_inv; cases h; exact ⟨_, rfl, .raw _⟩
  · rename_i k n
    cases ha.raw_inv
    simp only [intBin_eqn, intBinS, Option.map_some, Option.some.injEq] at h
    subst h
    exact ⟨_, by simp [Op.unary, Op.intArith, wrapFast_eq], .raw _⟩
  · rename_i k n
    cases ha.raw_inv
    simp only [intBin_eqn, intBinS, Option.map_some, Option.some.injEq] at h
    subst h
    exact ⟨_, by simp [Op.unary, Op.intBits], .raw _⟩
  · cases h

end
end Go.Proofs.YtkoahnikmckgnaaGreatDoor.Ws
