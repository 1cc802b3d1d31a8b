/- The plan of a region whose order is drawn. -/
import Derived.Test.YtkoahnikmckgnaaGreatDoorWsI
set_option linter.unusedSimpArgs false
set_option linter.unusedVariables false
namespace Go.Proofs.YtkoahnikmckgnaaGreatDoor.Ws
open Go Go.RowKit

theorem blt_iff {a b : Nat} : Nat.blt a b = true ↔ a < b := by
  rw [Nat.blt_eq]
theorem ble_iff {a b : Nat} : Nat.ble a b = true ↔ a ≤ b := by rw [Nat.ble_eq]
theorem nbeq_iff {a b : Nat} : Nat.beq a b = true ↔ a = b := by rw [Nat.beq_eq]

theorem opKind_le (op : Op) : opKind op ≤ 3 := by
  unfold opKind
  split <;> decide

def POp.rank (p : POp) : Nat := if Nat.beq p.kind 3 then p.lo + 1 else p.lo

structure POk (nt : Nat) (ops : List Oper) (ps : List POp) (i : Nat) (o : Oper) (p : POp) : Prop where
  kind : p.kind = opKind o.op
  op : p.op = mapOp (srcOf nt ops o) o.op
  guard : p.guard = o.guard.map fun (g, b) => (nt + g, b)
  back : ∀ j ∈ edgesOf o, j < i
  grd : ∀ g b, o.guard = some (g, b) → g ∈ edgesOf o ∧ ∃ og d, ops[g]? = some og ∧ og.dst = some d
  lo : p.lo = 0 ∨ ∃ j ∈ edgesOf o, ∃ q, ps[j]? = some q ∧ p.lo ≤ q.rank
  eff : p.kind = 3 → p.lo < effCount ps ∧ ∀ j q, ps[j]? = some q → q.kind = 3 → q.lo = p.lo → i = j
  hi : effCount ps ≤ p.hi ∨ ∃ k o' q, ops[k]? = some o' ∧ ps[k]? = some q ∧ i ∈ edgesOf o' ∧ i < k ∧ (if q.kind = 3 then q.lo ≤ p.hi else q.hi ≤ p.hi)
  dst : ∀ d, o.dst = some d → d < nt ∧ ∀ j o', ops[j]? = some o' → o'.dst = some d → i = j
  opd : ∀ t, Operand.tmp t ∈ o.op.operands → t < nt ∧ ∀ j, writerOf ops t = some j → i = j ∨ j ∈ edgesOf o ∨ ∃ oj, ops[j]? = some oj ∧ i ∈ edgesOf oj

structure PlanOK (nt : Nat) (ops : List Oper) (ps : List POp) : Prop where
  len : ps.length = ops.length
  each : ∀ i o p, ops[i]? = some o → ps[i]? = some p → POk nt ops ps i o p

theorem planOf_get {nt : Nat} {ops : List Oper} {i : Nat} {o : Oper} {p : POp} (ho : ops[i]? = some o) (hp : (planOf nt ops)[i]? = some p) :
    p.kind = opKind o.op ∧ p.op = mapOp (srcOf nt ops o) o.op ∧ p.guard = o.guard.map fun (g, b) => (nt + g, b) := by
  unfold planOf at hp
  simp only [List.getElem?_map, Option.map_eq_some_iff] at hp
  obtain ⟨⟨⟨o', lo, r⟩, k⟩, h1, rfl⟩ := hp
  rw [List.getElem?_zipIdx] at h1
  simp only [Option.map_eq_some_iff, Prod.mk.injEq] at h1
  obtain ⟨x, h2, h3, h4⟩ := h1
  subst h3
  rw [List.getElem?_zip_eq_some] at h2
  rw [ho] at h2
  cases h2.1
  exact ⟨rfl, rfl, rfl⟩

theorem planOk_spec {nt : Nat} {ops : List Oper} (h : planOk nt ops (planOf nt ops) = true) : PlanOK nt ops (planOf nt ops) := by
  unfold planOk at h
  simp only [Bool.and_eq_true] at h
  obtain ⟨h1, h2⟩ := h
  refine ⟨nbeq_iff.1 h1, fun i o p ho hp => ?_⟩
  obtain ⟨k1, k2, k3⟩ := planOf_get ho hp
  have hm : ((o, p), i) ∈ (ops.zip (planOf nt ops)).zipIdx := by
    rw [List.mem_zipIdx_iff_getElem?]
    simp only [List.getElem?_zip_eq_some]
    exact ⟨ho, hp⟩
  have := List.all_eq_true.1 h2 _ hm
  simp only [Bool.and_eq_true] at this
  obtain ⟨⟨⟨⟨⟨⟨⟨a1, a2⟩, a3⟩, a4⟩, a5⟩, a6⟩, a7⟩, a8⟩ := this
  refine ⟨k1, k2, k3, fun j hj => blt_iff.1 (List.all_eq_true.1 a2 j hj), fun g b hg => ?_, ?_, fun hk => ?_, ?_, fun d hd => ?_, fun t ht => ?_⟩
  · rw [hg] at a3
    simp only [Bool.and_eq_true, List.contains_iff_mem] at a3
    refine ⟨a3.1, ?_⟩
    have := a3.2
    split at this
    · rename_i og hog
      obtain ⟨d, hd⟩ := Option.isSome_iff_exists.1 this
      exact ⟨og, d, hog, hd⟩
    · cases this
  · simp only [Bool.or_eq_true, List.any_eq_true] at a4
    rcases a4 with a4 | ⟨j, hj, a4⟩
    · exact .inl (nbeq_iff.1 a4)
    · split at a4
      · rename_i q hq
        exact .inr ⟨j, hj, q, hq, ble_iff.1 a4⟩
      · cases a4
  · simp only [hk, Bool.or_eq_true, Bool.and_eq_true] at a5
    rcases a5 with a5 | a5
    · simp [Nat.beq] at a5
    · refine ⟨blt_iff.1 a5.1, fun j q hq hqk hql => ?_⟩
      have hm : (q, j) ∈ (planOf nt ops).zipIdx := by rw [List.mem_zipIdx_iff_getElem?]; exact hq
      have := List.all_eq_true.1 a5.2 _ hm
      simp only [hqk, hql, Bool.or_eq_true] at this
      rcases this with this | this
      · simp [nbeq_iff.2 rfl] at this
      · exact nbeq_iff.1 this
  · simp only [Bool.or_eq_true, List.any_eq_true, Prod.exists] at a6
    rcases a6 with a6 | ⟨o', q, k, hmem, a6⟩
    · exact .inl (ble_iff.1 a6)
    · rw [List.mem_zipIdx_iff_getElem?] at hmem
      simp only [List.getElem?_zip_eq_some] at hmem
      simp only [Bool.and_eq_true, List.contains_iff_mem] at a6
      refine .inr ⟨k, o', q, hmem.1, hmem.2, a6.1.1, blt_iff.1 a6.1.2, ?_⟩
      have := a6.2
      split at this
      · rename_i e
        rw [if_pos (nbeq_iff.1 e)]
        exact ble_iff.1 this
      · rename_i e
        rw [if_neg (fun e' => e (nbeq_iff.2 e'))]
        exact ble_iff.1 this
  · rw [hd] at a7
    simp only [Bool.and_eq_true] at a7
    refine ⟨blt_iff.1 a7.1, fun j o' ho' hd' => ?_⟩
    have hm : (o', j) ∈ ops.zipIdx := by rw [List.mem_zipIdx_iff_getElem?]; exact ho'
    have := List.all_eq_true.1 a7.2 _ hm
    simp only [hd', Bool.or_eq_true] at this
    rcases this with this | this
    · simp at this
    · exact nbeq_iff.1 this
  · have := List.all_eq_true.1 a8 (.tmp t) (by simpa using ht)
    simp only [Bool.and_eq_true] at this
    refine ⟨blt_iff.1 this.1, fun j hj => ?_⟩
    have := this.2
    rw [hj] at this
    simp only [Bool.or_eq_true, List.contains_iff_mem] at this
    rcases this with (this | this) | this
    · exact .inl (nbeq_iff.1 this)
    · exact .inr (.inl this)
    · split at this
      · rename_i oj hoj
        exact .inr (.inr ⟨oj, hoj, by simpa using this⟩)
      · cases this

/-! ### Equal for sure -/

theorem vsame_eq {a b : Value} (h : vsame a b = true) : a = b := by
  unfold vsame at h
  split at h <;> first
    | rfl
    | (cases h; done)
    | skip
  · simp only [Bool.and_eq_true, beq_iff_eq] at h
    rw [h.2, beqF_true h.1]
  · rw [beq_iff_eq.1 h]
  · rename_i x y
    have : x = y := ByteArray.ext (Array.toList_inj.1 (beq_iff_eq.1 h))
    rw [this]
  · simp only [Bool.and_eq_true, nbeq_iff] at h
    rw [h.1, h.2]

mutual
theorem AV.same_eq {a b : AV} (h : AV.same a b = true) : a = b := by
  unfold AV.same at h
  split at h <;> (try simp only [Bool.and_eq_true, nbeq_iff] at h)
  · rw [vsame_eq h]
  · rw [h.1, h.2]
  · obtain ⟨⟨⟨h1, h2⟩, h3⟩, h4⟩ := h; rw [h1, h2, h3, h4]
  · obtain ⟨⟨⟨h1, h2⟩, h3⟩, h4⟩ := h; rw [h1, h2, h3, h4]
  · rfl
  · rw [h]
  · rw [h.1, AV.same_eq h.2]
  · obtain ⟨⟨h1, h2⟩, h3⟩ := h; rw [h1, AV.sames_eq h2, AV.sames_eq h3]
  · rw [AV.sames_eq h]
  · rw [AV.sames_eq h]
  · cases h
theorem AV.sames_eq {a b : List AV} (h : AV.sames a b = true) : a = b := by
  unfold AV.sames at h
  split at h
  · rfl
  · simp only [Bool.and_eq_true] at h
    rw [AV.same_eq h.1, AV.sames_eq h.2]
  · cases h
end

end Go.Proofs.YtkoahnikmckgnaaGreatDoor.Ws

/- Operations out of turn. -/
namespace Go.Proofs.YtkoahnikmckgnaaGreatDoor.Ws
open Go Go.RowKit

theorem evals_map (f : Operand → Operand) (ev : Operand → Option AV) : ∀ l : List Operand, evals ev (l.map f) = evals (fun x => ev (f x)) l
  | [] => rfl
  | x :: l => by simp only [List.map_cons, evals_cons, evals_map f ev l]
theorem evalParts_map (f : Operand → Operand) (ev : Operand → Option AV) : ∀ l : List (Nat × Operand), evalParts ev (l.map fun p => (p.1, f p.2)) = evalParts (fun x => ev (f x)) l
  | [] => rfl
  | (i, x) :: l => by simp only [List.map_cons, evalParts, evalParts_map f ev l]
theorem optEv_map (f : Operand → Operand) (ev : Operand → Option AV) (r : Option Operand) : optEv ev (r.map f) = optEv (fun x => ev (f x)) r := by
  cases r <;> rfl

theorem abin_map {E : Env} {o : BinOp} {t : TypeId} {f : Operand → Operand} (hf : ∀ x, isLitNil (f x) = isLitNil x) (x y : Operand) (a b : AV) : abin E o t (f x) (f y) a b = abin E o t x y a b := by
  rw [abin_eqn, abin_eqn]
  unfold abinS
  simp only [hf]

theorem aalc_map {E : Env} {f : Operand → Operand} {ev : Operand → Option AV} {H : AH} (op : Op) : aalc E ev H (mapOp f op) = aalc E (fun x => ev (f x)) H op := by
  cases op <;> simp only [mapOp, aalc, Array.toList_map, evalParts_map, optEv_map]

theorem aop_map {E : Env} {call : CallA} {f : Operand → Operand} (hf : ∀ x, isLitNil (f x) = isLitNil x) {ev : Operand → Option AV} {H : AH} (op : Op) : aop E call ev H (mapOp f op) = aop E call (fun x => ev (f x)) H op := by
  have key := aalc_map (E := E) (f := f) (ev := ev) (H := H) op
  cases op
  case binOp o t x y u => simp only [mapOp, aop_eqn, abin_map hf]
  case call c =>
    obtain ⟨callee, args, ts⟩ := c
    simp only [mapOp, aop_eqn, acallOp, mapCall, Array.toList_map, evals_map]
    cases callee <;> rfl
  case next it b => cases b <;> rfl
  all_goals first
    | exact congrArg (alcDo H) key
    | simp only [mapOp, aop_eqn, Array.toList_map, evalParts_map, evals_map, optEv_map]

theorem srcOf_lit {nt : Nat} {ops : List Oper} {o : Oper} (x : Operand) : isLitNil (srcOf nt ops o x) = isLitNil x := by
  cases x with
  | tmp t =>
    simp only [srcOf]
    split
    · split <;> rfl
    · rfl
  | _ => rfl

theorem same_at {H H' : AH} {o : Option AV} {v : AV} (h : same H o = some (v, H')) (H2 : AH) : same H2 o = some (v, H2) := by
  obtain ⟨rfl, _⟩ := same_inv h
  rfl

/-- An operation of kind 0 does not look at the heap. -/
theorem aop_kind0 {E : Env} {call : CallA} {ev : Operand → Option AV} {op : Op} (hk : opKind op = 0) {H H' : AH} {v : AV} (h : aop E call ev H op = some (v, H')) (H2 : AH) : aop E call ev H2 op = some (v, H2) := by
  cases op <;> (try (simp [opKind] at hk; done)) <;> simp only [aop_eqn] at h ⊢
  case call c =>
    obtain ⟨callee, args, ts⟩ := c
    unfold acallOp at h ⊢
    cases callee with
    | builtin b =>
      simp only at h ⊢
      cases he : evals ev args.toList with
      | none => rw [he] at h; cases h
      | some vs =>
        rw [he] at h
        cases b <;> (try (simp [opKind] at hk; done)) <;> simp only [builtinA] at h ⊢ <;> (repeat' split at h) <;> simp_all
    | value f => simp [opKind] at hk
    | invoke r n => simp [opKind] at hk
  all_goals ((repeat' split at h) <;> first
    | exact same_at h H2
    | (cases h; done)
    | (cases h; rfl)
    | (simp only [*] at h ⊢; exact same_at h H2)
    | (simp_all; done))

end Go.Proofs.YtkoahnikmckgnaaGreatDoor.Ws

/- What waits to be carried out. -/
namespace Go.Proofs.YtkoahnikmckgnaaGreatDoor.Ws
open Go Go.RowKit

def TS (a b : T AV) : Prop := ∀ k v, a.get k = some v → b.get k = some v
theorem TS.refl (a : T AV) : TS a a := fun _ _ h => h
theorem TS.trans {a b c : T AV} (h : TS a b) (k : TS b c) : TS a c := fun i v x => k i v (h i v x)
theorem TS.put {t : T AV} {k : Nat} {v : AV} (h : t.get k = none) : TS t (t.put (some v) k) := fun j u hj => by
  rw [T.get_put]
  by_cases e : j = k
  · subst e; rw [h] at hj; cases hj
  · rw [if_neg e]; exact hj

theorem pwanted_mono {a b : T AV} (h : TS a b) {p : POp} {x : Bool} (hp : pwanted a p = some x) : pwanted b p = some x := by
  unfold pwanted at hp ⊢
  split at hp
  · exact hp
  · rename_i k want hg
    split at hp
    · rename_i c hc
      simp only [h _ _ hc]; exact hp
    · rename_i c hc
      simp only [h _ _ hc]; exact hp
    · cases hp

section
variable {P : Program} {W0 : World} {E : Env} {L : LM} {H : AH} {w : World} {nt : Nat}

def noCall : CallA := fun _ _ _ => none

inductive Pend (E : Env) (nt : Nat) (I : Nat → Option Nat) (tm : T AV) (H : AH) (p : POp) (i : Nat) : Prop
  | off {tm' : T AV} (ht : TS tm' tm) (hw : pwanted tm' p = some false) (hu : tm.get (nt + i) = some undefA) (hi : I i = none)
  | val {tm' : T AV} {H' H'' : AH} {u : AV} (ht : TS tm' tm) (hw : pwanted tm' p = some true) (hu : tm.get (nt + i) = some u) (hi : I i = none) (hk : p.kind ≤ 1) (hs : p.kind = 0 ∨ Sub H' H)
      (h : aop E noCall (aeval tm') H' p.op = some (u, H''))
  | aval {tm' : T AV} {H' : AH} {u : AV} (ht : TS tm' tm) (hw : pwanted tm' p = some true) (hu : tm.get (nt + i) = some u) (hi : I i = none) (hk : p.kind = 2) (hs : Sub H' H)
      (h : aalc E (aeval tm') H' p.op = some (.val u)) (hn : idOf u = none)
  | ablk {tm' : T AV} {H' : AH} {u : AV} {f : Nat → AV} {b b' : ABlk} {id : Nat} (ht : TS tm' tm) (hw : pwanted tm' p = some true) (hu : tm.get (nt + i) = some u) (hi : I i = some id) (hk : p.kind = 2) (hs : Sub H' H)
      (h : aalc E (aeval tm') H' p.op = some (.blk f b)) (hf : f id = u) (hid : idOf u = some id) (hg : H.get id = some b') (hb : b = b' ∨ sameBlk b b' = true)

theorem Pend.mono {I I' : Nat → Option Nat} {tm tm2 : T AV} {H H2 : AH} {p : POp} {i : Nat} (h : Pend E nt I tm H p i) (ht : TS tm tm2) (hs : Sub H H2) (hi : I' i = I i) : Pend E nt I' tm2 H2 p i := by
  cases h with
  | off a b c d => exact .off (a.trans ht) b (ht _ _ c) (by rw [hi, d])
  | val a b c d e f g => exact .val (a.trans ht) b (ht _ _ c) (by rw [hi, d]) e (f.imp id (·.trans hs)) g
  | aval a b c d e f g h => exact .aval (a.trans ht) b (ht _ _ c) (by rw [hi, d]) e (f.trans hs) g h
  | ablk a b c d e f g h1 h2 h3 h4 => exact .ablk (a.trans ht) b (ht _ _ c) (by rw [hi, d]) e (f.trans hs) g h1 h2 (hs _ _ h3) h4

theorem Pend.has {I : Nat → Option Nat} {tm : T AV} {H : AH} {p : POp} {i : Nat} (h : Pend E nt I tm H p i) : ∃ u, tm.get (nt + i) = some u := by
  cases h with
  | off a b c d => exact ⟨_, c⟩
  | val a b c d e f g => exact ⟨_, c⟩
  | aval a b c d e f g h => exact ⟨_, c⟩
  | ablk a b c d e f g h1 h2 h3 h4 => exact ⟨_, c⟩

/-- behind an effect, when the operation has been looked at again -/
theorem Pend.again {I : Nat → Option Nat} {tm tm2 : T AV} {H H2 : AH} {p : POp} {i : Nat} (h : Pend E nt I tm H p i) (ht : TS tm tm2) {u : AV} (hu : tm2.get (nt + i) = some u) (ha : again E tm2 H2 p u = true) : Pend E nt I tm2 H2 p i := by
  have inj : ∀ {v}, tm.get (nt + i) = some v → v = u := fun hv => by have := ht _ _ hv; rw [hu] at this; cases this; rfl
  unfold Ws.again at ha
  cases h with
  | off a b c d => exact .off (a.trans ht) b (ht _ _ c) d
  | val a b c d e f g =>
    cases inj c
    rw [pwanted_mono (a.trans ht) b] at ha
    simp only at ha
    split at ha
    · rename_i hk; rw [nbeq_iff.1 hk] at e; omega
    · split at ha
      · rename_i v H'' hv
        cases AV.same_eq ha
        exact .val (TS.refl _) (pwanted_mono (a.trans ht) b) hu d e (.inr (Sub.refl _)) hv
      · cases ha
  | aval a b c d e f g hn =>
    cases inj c
    rw [pwanted_mono (a.trans ht) b] at ha
    simp only [nbeq_iff.2 e] at ha
    split at ha
    · rename_i v hv
      rw [hn] at ha
      cases AV.same_eq ha
      exact .aval (TS.refl _) (pwanted_mono (a.trans ht) b) hu d e (Sub.refl _) hv hn
    · rw [hn] at ha; cases ha
    · cases ha
  | ablk a b c d e f g h1 h2 h3 h4 =>
    cases inj c
    rw [pwanted_mono (a.trans ht) b] at ha
    simp only [nbeq_iff.2 e] at ha
    split at ha
    · rw [h2] at ha; cases ha
    · rename_i f2 b2 hv
      rw [h2] at ha
      simp only at ha
      split at ha
      · rename_i b3 hb3
        simp only [Bool.and_eq_true] at ha
        exact .ablk (TS.refl _) (pwanted_mono (a.trans ht) b) hu d e (Sub.refl _) hv (AV.same_eq ha.1) h2 hb3 (.inr ha.2)
      · cases ha
    · cases ha

/-- an operation of kind 0 needs no second look -/
theorem Pend.keep {I : Nat → Option Nat} {tm tm2 : T AV} {H H2 : AH} {p : POp} {i : Nat} (h : Pend E nt I tm H p i) (ht : TS tm tm2) (hk : p.kind = 0) : Pend E nt I tm2 H2 p i := by
  cases h with
  | off a b c d => exact .off (a.trans ht) b (ht _ _ c) d
  | val a b c d e f g => exact .val (a.trans ht) b (ht _ _ c) d e (.inl hk) g
  | aval a b c d e f g hn => omega
  | ablk a b c d e f g h1 h2 h3 h4 => omega

structure IOk (I : Nat → Option Nat) (H : AH) : Prop where
  lt : ∀ i id, I i = some id → id < H.next
  inj : ∀ i j id, I i = some id → I j = some id → i = j

def upd (I : Nat → Option Nat) (i id : Nat) : Nat → Option Nat := fun j => if j = i then some id else I j

theorem IOk.upd {I : Nat → Option Nat} {H : AH} (h : IOk I H) (i : Nat) (b : ABlk) : IOk (upd I i H.next) (H.new b) := by
  refine ⟨fun j id hj => ?_, fun j k id hj hk => ?_⟩
  · unfold Ws.upd at hj
    split at hj
    · cases hj; exact Nat.lt_succ_self _
    · exact Nat.lt_succ_of_lt (h.lt _ _ hj)
  · unfold Ws.upd at hj hk
    split at hj <;> split at hk
    · omega
    · cases hj; have := h.lt _ _ hk; omega
    · cases hk; have := h.lt _ _ hj; omega
    · exact h.inj _ _ _ hj hk

theorem idOf_lt {v : AV} {id : Nat} {x : Value} (h : VR L v x) (hi : idOf v = some id) : ∃ l, L id = some l := by
  cases h <;> simp [idOf] at hi <;> subst hi <;> exact ⟨_, by assumption⟩

structure RQ (W0 : World) (L : LM) (w : World) (E : Env) (nt : Nat) (l : List (POp × Nat)) (I : Nat → Option Nat) (tm : T AV) (H : AH) (I2 : Nat → Option Nat) (tm2 : T AV) (H2 : AH) : Prop where
  ts : TS tm tm2
  low : ∀ t, t < nt → tm2.get t = tm.get t
  sub : Sub H H2
  next : H.next ≤ H2.next
  hr : HR W0 L H2 w
  hd : HD L H2
  iok : IOk I2 H2
  out : ∀ i, (∀ p, (p, i) ∉ l) → I2 i = I i
  new : ∀ i id, I2 i = some id → I i = some id ∨ H.next ≤ id
  none : ∀ p i, (p, i) ∈ l → tm.get (nt + i) = none
  pend : ∀ p i, (p, i) ∈ l → Pend E nt I2 tm2 H2 p i

theorem runQ_spec : ∀ (l : List (POp × Nat)) (I : Nat → Option Nat) (tm : T AV) (H : AH) (tm2 : T AV) (H2 : AH), runQ E nt l tm H = some (tm2, H2) →
    HR W0 L H w → HD L H → IOk I H → (∀ p i, (p, i) ∈ l → p.kind ≤ 2) → (∀ p i, (p, i) ∈ l → I i = none) → ∃ I2, RQ W0 L w E nt l I tm H I2 tm2 H2
  | [], I, tm, H, tm2, H2, h, hr, hd, hi, _, _ => by
    cases h
    exact ⟨I, TS.refl _, fun _ _ => rfl, Sub.refl _, Nat.le_refl _, hr, hd, hi, fun _ _ => rfl, fun _ _ h => .inl h, by simp, by simp⟩
  | (p, i) :: l, I, tm, H, tm2, H2, h, hr, hd, hi, hk, hn => by
    simp only [runQ] at h
    split at h
    · rename_i v H1 hq
      split at h
      · rename_i hnone
        -- what comes behind
        have rest : ∀ I1, I1 = I ∨ I1 = upd I i H.next → TS tm (tm.put (some v) (nt + i)) → Sub H H1 → H.next ≤ H1.next → HR W0 L H1 w → HD L H1 → IOk I1 H1 →
            (∀ j id, I1 j = some id → I j = some id ∨ H.next ≤ id) → Pend E nt I1 (tm.put (some v) (nt + i)) H1 p i → ∃ I2, RQ W0 L w E nt ((p, i) :: l) I tm H I2 tm2 H2 := by
          intro I1 hI ht hs hnx hr1 hd1 hi1 hnew hp
          have hI' : ∀ j, j ≠ i → I1 j = I j := by
            intro j hj
            rcases hI with rfl | rfl
            · rfl
            · simp [upd, hj]
          have hne : ∀ q j, (q, j) ∈ l → tm.get (nt + j) = Option.none → True := fun _ _ _ _ => trivial
          by_cases hmem : ∃ q, (q, i) ∈ l
          · -- the same operation cannot come twice
            exfalso
            obtain ⟨q, hq'⟩ := hmem
            have key : ∀ (l : List (POp × Nat)) (t : T AV) (K : AH), (q, i) ∈ l → (∃ u, t.get (nt + i) = some u) → runQ E nt l t K = some (tm2, H2) → False := by
              intro l
              induction l with
              | nil => intro t K hm; simp at hm
              | cons c l ih =>
                obtain ⟨c1, c2⟩ := c
                intro t K hm hu h
                simp only [runQ] at h
                split at h
                · split at h
                  · rename_i hn'
                    rcases List.mem_cons.1 hm with hm | hm
                    · cases hm
                      obtain ⟨u, hu⟩ := hu
                      rw [hu] at hn'; cases hn'
                    · obtain ⟨u, hu⟩ := hu
                      exact ih _ _ hm ⟨u, TS.put hn' _ _ hu⟩ h
                  · cases h
                · cases h
            exact key l _ _ hq' ⟨v, by rw [T.get_put, if_pos rfl]⟩ h
          · have hmem' : ∀ q, (q, i) ∉ l := fun q hq' => hmem ⟨q, hq'⟩
            obtain ⟨I2, a⟩ := runQ_spec l I1 _ H1 tm2 H2 h hr1 hd1 hi1 (fun q j hj => hk q j (by simp [hj])) (fun q j hj => by
              rw [hI' j (fun e => hmem' q (e ▸ hj))]; exact hn q j (by simp [hj]))
            refine ⟨I2, ht.trans a.ts, fun t ht' => ?_, hs.trans a.sub, Nat.le_trans hnx a.next, a.hr, a.hd, a.iok, fun j hj => ?_, fun j id hj => ?_, fun q j hj => ?_, fun q j hj => ?_⟩
            · rw [a.low t ht', T.get_put, if_neg (by omega)]
            · have hji : j ≠ i := fun e => hj p (by simp [e])
              rw [a.out j (fun q hq' => hj q (by simp [hq'])), hI' j hji]
            · rcases a.new j id hj with h' | h'
              · exact hnew j id h'
              · exact .inr (Nat.le_trans hnx h')
            · rcases List.mem_cons.1 hj with hj | hj
              · cases hj; exact hnone
              · have h1 := a.none q j hj
                rw [T.get_put] at h1
                split at h1
                · cases h1
                · exact h1
            · rcases List.mem_cons.1 hj with hj | hj
              · cases hj
                exact hp.mono a.ts a.sub (a.out i hmem')
              · exact a.pend q j hj
        have hput : TS tm (tm.put (some v) (nt + i)) := TS.put hnone
        have hget : (tm.put (some v) (nt + i)).get (nt + i) = some v := by rw [T.get_put, if_pos rfl]
        have hin : I i = Option.none := hn p i (by simp)
        unfold qexec at hq
        split at hq
        · rename_i hw
          split at hq
          · rename_i hk2
            have hk2 := nbeq_iff.1 hk2
            split at hq
            · rename_i u hu
              split at hq
              · rename_i hid
                cases hq
                exact rest I (.inl rfl) hput (Sub.refl _) (Nat.le_refl _) hr hd hi (fun _ _ h => .inl h) (.aval hput hw hget hin hk2 (Sub.refl _) hu hid)
              · cases hq
            · rename_i f b hu
              split at hq
              · rename_i id H' hnew
                split at hq
                · rename_i id' hid
                  split at hq
                  · rename_i he
                    cases hq
                    cases nbeq_iff.1 he
                    obtain ⟨rfl, rfl, hs, hg⟩ := newBlk_spec hnew
                    exact rest (upd I i H.next) (.inr rfl) hput hs (Nat.le_succ _) (hr.widen hd b) (hd.new b) (hi.upd i b)
                      (fun j id hj => by
                        unfold upd at hj
                        split at hj
                        · cases hj; exact .inr (Nat.le_refl _)
                        · exact .inl hj)
                      (.ablk hput hw hget (by simp [upd]) hk2 hs hu rfl hid hg (.inl rfl))
                  · cases hq
                · cases hq
              · cases hq
            · cases hq
          · rename_i hk2
            split at hq
            · rename_i u H'' hu
              cases hq
              have hk1 : p.kind ≤ 1 := by
                have := hk p i (by simp)
                have : p.kind ≠ 2 := fun e => by simp [e] at hk2
                omega
              exact rest I (.inl rfl) hput (Sub.refl _) (Nat.le_refl _) hr hd hi (fun _ _ h => .inl h) (.val hput hw hget hin hk1 (.inr (Sub.refl _)) hu)
            · cases hq
        · rename_i hw
          cases hq
          exact rest I (.inl rfl) hput (Sub.refl _) (Nat.le_refl _) hr hd hi (fun _ _ h => .inl h) (.off hput hw hget hin)
        · cases hq
      · cases h
    · cases h

theorem recheck_spec {tm : T AV} : ∀ (l : List (POp × Nat)), recheck E nt tm H l = true → ∀ p i, (p, i) ∈ l → ∃ u, tm.get (nt + i) = some u ∧ again E tm H p u = true
  | [], _, p, i, h => by simp at h
  | (q, j) :: l, h, p, i, hm => by
    simp only [recheck] at h
    split at h
    · rename_i u hu
      split at h
      · rename_i ha
        rcases List.mem_cons.1 hm with hm | hm
        · cases hm; exact ⟨u, hu, ha⟩
        · exact recheck_spec l h p i hm
      · cases h
    · cases h

/-- a block that is the same for sure holds the same -/
theorem BR.alike {l : Loc} {b b' : ABlk} (h : BR L w l b) (hb : b = b' ∨ sameBlk b b' = true) : BR L w l b' := by
  rcases hb with rfl | hb
  · exact h
  unfold sameBlk at hb
  split at hb
  · rename_i n cs g n' cs' g'
    simp only [Bool.and_eq_true, nbeq_iff] at hb
    obtain ⟨⟨rfl, _⟩, hb⟩ := hb
    split at hb
    · rename_i l1 l2 e1 e2
      cases AV.sames_eq hb
      obtain ⟨c, t, fr, h1, h2, h3, h4, h5⟩ := h
      refine ⟨c, t, fr, h1, h2, h3, h4, fun i hi => ?_⟩
      obtain ⟨v, x, a1, a2, a3, a4⟩ := h5 i hi
      refine ⟨v, x, ?_, a2, a3, a4⟩
      have key : ∀ (k off : Nat) (cs : T AV) (l : List AV), loadN cs off k = some l → ∀ j, j < k → l[j]? = cs.get (off + j) := by
        intro k
        induction k with
        | zero => intro off cs l _ j hj; omega
        | succ k ih =>
          intro off cs l hl j hj
          simp only [loadN_succ] at hl
          split at hl
          · rename_i v hv
            split at hl
            · rename_i r hr
              cases hl
              cases j with
              | zero => simpa using hv.symm
              | succ j =>
                have := ih (off + 1) cs r hr j (by omega)
                simp only [List.getElem?_cons_succ, this]
                congr 1; omega
            · cases hl
          · cases hl
      have k1 := key _ _ _ _ e1 i hi
      have k2 := key _ _ _ _ e2 i hi
      rw [Nat.zero_add] at k1 k2
      rw [← k2, k1, a1]
    · cases hb
  · obtain ⟨ents, clock, h1, h2⟩ := h; exact ⟨ents, clock, h1, h2⟩
  · simp only [Bool.and_eq_true, nbeq_iff] at hb
    obtain ⟨h1, rfl⟩ := hb
    rename_i s p s'
    have : s = s' := ByteArray.ext (Array.toList_inj.1 (beq_iff_eq.1 h1))
    cases this
    exact h
  · cases hb

end
end Go.Proofs.YtkoahnikmckgnaaGreatDoor.Ws
