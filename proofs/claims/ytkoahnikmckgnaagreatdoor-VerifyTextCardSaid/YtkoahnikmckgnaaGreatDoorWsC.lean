/- The relation between abstract and concrete states, and its first laws. -/
import Derived.Test.YtkoahnikmckgnaaGreatDoorWsB
import Derived.Below
import Derived.Laws.Entries
import Derived.Laws.IdiomCopy
import Derived.Laws.Cells
import Derived.Laws.Rows
import Derived.Stop.NoCallOwed
import Derived.Shelf.Abstract
set_option linter.unusedSimpArgs false
set_option linter.unusedVariables false
namespace Go.Proofs.YtkoahnikmckgnaaGreatDoor.Ws
open Go Go.RowKit

/-! ### Tries -/

theorem T.bitsF_enough : ∀ (f g k : Nat), k < f → k < g → T.bitsF f k = T.bitsF g k := by
  intro f
  induction f with
  | zero => intro g k h; omega
  | succ f ih =>
    intro g k h1 h2
    cases g with
    | zero => omega
    | succ g =>
      cases k with
      | zero => rfl
      | succ p =>
        show List.cons _ (T.bitsF f (p / 2)) = List.cons _ (T.bitsF g (p / 2))
        rw [ih g (p / 2) (by omega) (by omega)]
theorem T.bits_succ (p : Nat) : T.bits (p + 1) = Nat.beq (Nat.mod (p + 1) (nat_lit 2)) (nat_lit 1) :: T.bits (p / 2) := by
  show List.cons _ (T.bitsF (p + 1) (p / 2)) = List.cons _ (T.bitsF (p / 2 + 1) (p / 2))
  rw [T.bitsF_enough (p + 1) (p / 2 + 1) (p / 2) (by omega) (by omega)]
theorem T.get_nil {α : Type} (k : Nat) : (T.e : T α).get k = none := rfl
theorem T.get_zero {α : Type} (l r : T α) (v : Option α) : (T.n l v r).get 0 = v := rfl
theorem T.odd_even {p : Nat} (h : p % 2 = 0) : Nat.beq (Nat.mod (p + 1) (nat_lit 2)) (nat_lit 1) = true := by
  rw [Nat.beq_eq]; show (p + 1) % 2 = 1; omega
theorem T.even_odd {p : Nat} (h : p % 2 = 1) : Nat.beq (Nat.mod (p + 1) (nat_lit 2)) (nat_lit 1) = false := by
  rw [← Bool.not_eq_true, Nat.beq_eq]; show ¬ (p + 1) % 2 = 1; omega
theorem T.get_succ {α : Type} (l r : T α) (v : Option α) (p : Nat) : (T.n l v r).get (p + 1) = match p % 2 with
    | 0 => l.get (p / 2)
    | _ => r.get (p / 2) := by
  unfold T.get
  rw [T.bits_succ]
  show Bool.rec (motive := fun _ => Option α) (r.getP (T.bits (p / 2))) (l.getP (T.bits (p / 2))) (Nat.beq (Nat.mod (p + 1) (nat_lit 2)) (nat_lit 1)) = _
  rcases Nat.mod_two_eq_zero_or_one p with hp | hp
  · rw [T.odd_even hp, hp]; rfl
  · rw [T.even_odd hp, hp]; rfl
theorem T.put_zero {α : Type} (x : Option α) (l r : T α) (v : Option α) : (T.n l v r).put x 0 = .n l x r := rfl
theorem T.put_succ {α : Type} (x : Option α) (l r : T α) (v : Option α) (p : Nat) : (T.n l v r).put x (p + 1) = match p % 2 with
    | 0 => .n (l.put x (p / 2)) v r
    | _ => .n l v (r.put x (p / 2)) := by
  unfold T.put
  rw [T.bits_succ]
  show Bool.rec (motive := fun _ => T α) (.n l v (r.putP x (T.bits (p / 2)))) (.n (l.putP x (T.bits (p / 2))) v r) (Nat.beq (Nat.mod (p + 1) (nat_lit 2)) (nat_lit 1)) = _
  rcases Nat.mod_two_eq_zero_or_one p with hp | hp
  · rw [T.odd_even hp, hp]; rfl
  · rw [T.even_odd hp, hp]; rfl
/-- a tree with one place -/
noncomputable def T.single {α : Type} (x : Option α) (k : Nat) : T α := T.singleP x (T.bits k)
theorem T.single_zero {α : Type} (x : Option α) : T.single x 0 = .n .e x .e := rfl
theorem T.single_succ {α : Type} (x : Option α) (p : Nat) : T.single x (p + 1) = match p % 2 with
    | 0 => .n (T.single x (p / 2)) none .e
    | _ => .n .e none (T.single x (p / 2)) := by
  unfold T.single
  rw [T.bits_succ]
  show Bool.rec (motive := fun _ => T α) (.n .e none (T.singleP x (T.bits (p / 2)))) (.n (T.singleP x (T.bits (p / 2))) none .e) (Nat.beq (Nat.mod (p + 1) (nat_lit 2)) (nat_lit 1)) = _
  rcases Nat.mod_two_eq_zero_or_one p with hp | hp
  · rw [T.odd_even hp, hp]; rfl
  · rw [T.even_odd hp, hp]; rfl

theorem T.get_single {α : Type} (x : Option α) : ∀ (fuel k j : Nat), k < fuel → (T.single x k).get j = if j = k then x else none := by
  intro fuel
  induction fuel with
  | zero => intro k j h; omega
  | succ fuel ih =>
    intro k j h
    cases k with
    | zero =>
      (first | rw [T.single_zero] | rw [T.single_succ])
      cases j with
      | zero => simp [T.get_nil, T.get_zero, T.get_succ]
      | succ q => simp only [T.get_nil, T.get_zero, T.get_succ]; split <;> simp [T.get_nil, T.get_zero, T.get_succ]
    | succ p =>
      (first | rw [T.single_zero] | rw [T.single_succ])
      rcases Nat.mod_two_eq_zero_or_one p with hp | hp
      · simp only [hp]
        cases j with
        | zero => simp [T.get_nil, T.get_zero, T.get_succ]
        | succ q =>
          simp only [T.get_nil, T.get_zero, T.get_succ]
          rcases Nat.mod_two_eq_zero_or_one q with hq | hq
          · simp only [hq]
            rw [ih _ _ (by omega)]
            by_cases e : q = p
            · subst e; simp
            · rw [if_neg (by omega), if_neg (by omega)]
          · simp only [hq, T.get_nil, T.get_zero, T.get_succ]
            rw [if_neg (by omega)]
      · simp only [hp]
        cases j with
        | zero => simp [T.get_nil, T.get_zero, T.get_succ]
        | succ q =>
          simp only [T.get_nil, T.get_zero, T.get_succ]
          rcases Nat.mod_two_eq_zero_or_one q with hq | hq
          · simp only [hq, T.get_nil, T.get_zero, T.get_succ]
            rw [if_neg (by omega)]
          · simp only [hq]
            rw [ih _ _ (by omega)]
            by_cases e : q = p
            · subst e; simp
            · rw [if_neg (by omega), if_neg (by omega)]

theorem T.get_put {α : Type} (x : Option α) : ∀ (t : T α) (k j : Nat), (t.put x k).get j = if j = k then x else t.get j := by
  intro t
  induction t with
  | e => intro k j; rw [T.get_nil]; show (T.single x k).get j = _; rw [T.get_single _ _ _ _ (Nat.lt_succ_self k)]
  | n l v r ihl ihr =>
    intro k j
    cases k with
    | zero =>
      simp only [T.put_zero, T.put_succ]
      cases j with
      | zero => simp [T.get_nil, T.get_zero, T.get_succ]
      | succ q => simp [T.get_nil, T.get_zero, T.get_succ]
    | succ p =>
      simp only [T.put_zero, T.put_succ]
      rcases Nat.mod_two_eq_zero_or_one p with hp | hp
      · simp only [hp]
        cases j with
        | zero => simp [T.get_nil, T.get_zero, T.get_succ]
        | succ q =>
          simp only [T.get_nil, T.get_zero, T.get_succ]
          rcases Nat.mod_two_eq_zero_or_one q with hq | hq
          · simp only [hq]
            rw [ihl]
            by_cases e : q = p
            · subst e; simp
            · rw [if_neg (by omega), if_neg (by omega)]
          · simp only [hq]
            rw [if_neg (by omega)]
      · simp only [hp]
        cases j with
        | zero => simp [T.get_nil, T.get_zero, T.get_succ]
        | succ q =>
          simp only [T.get_nil, T.get_zero, T.get_succ]
          rcases Nat.mod_two_eq_zero_or_one q with hq | hq
          · simp only [hq]
            rw [if_neg (by omega)]
          · simp only [hq]
            rw [ihr]
            by_cases e : q = p
            · subst e; simp
            · rw [if_neg (by omega), if_neg (by omega)]

theorem AH.get_set (H : AH) (id : Nat) (b : ABlk) (j : Nat) : (H.set id b).get j = if j = id then some b else H.get j := T.get_put _ _ _ _
theorem AH.get_del (H : AH) (id : Nat) (j : Nat) : (H.del id).get j = if j = id then none else H.get j := T.get_put _ _ _ _
theorem AH.get_new (H : AH) (b : ABlk) (j : Nat) : (H.new b).get j = if j = H.next then some b else H.get j := T.get_put _ _ _ _

/-! ### The relation -/

/-- Where an abstract block lies: the block, the offset of its first cell, and how many cells it may take. -/
structure Loc where
  b : Nat
  o : Nat
  e : Nat

/-- Where the abstract blocks lie, and which of them are still to be made (r). -/
structure LM where
  f : Nat → Option Loc
  r : Nat → Prop
instance : CoeFun LM (fun _ => Nat → Option Loc) := ⟨LM.f⟩

mutual
inductive VR (L : LM) : AV → Value → Prop
  | raw (v : Value) : VR L (.raw v) v
  | ptr {id off : Nat} {l : Loc} (h : L id = some l) : VR L (.ptr id off) (.pointer (some ⟨l.b, l.o + off, none⟩))
  | slc {id off len cap : Nat} {l : Loc} (h : L id = some l) : VR L (.slc id off len cap) (.slice (some ⟨l.b, l.o + off, none⟩) len cap)
  | slu {id off len sz cap : Nat} {l : Loc} (h : L id = some l) (hs : 0 < sz) (hc : off + cap * sz = l.e) (hl : len ≤ cap) : VR L (.slu id off len sz) (.slice (some ⟨l.b, l.o + off, none⟩) len cap)
  | emp (a : Addr) (cap : Nat) : VR L .emp (.slice (some a) 0 cap)
  | opq (l : Nat) : VR L .opq (.func (.yield l) #[] #[])
  | map {id : Nat} {l : Loc} (h : L id = some l) : VR L (.map id) (.map (some l.b))
  | func {fn : Fn} {a b : List AV} {x y : Array Value} (ha : VRs L a x.toList) (hb : VRs L b y.toList) : VR L (.func fn a b) (.func fn x y)
  | iface {t : TypeId} {v : AV} {x : Value} (h : VR L v x) : VR L (.iface t v) (.iface t x)
  | agg {cs : List AV} {xs : Array Value} (h : VRs L cs xs.toList) : VR L (.agg cs) (.agg xs)
  | tup {cs : List AV} {xs : Array Value} (h : VRs L cs xs.toList) : VR L (.tup cs) (.tuple xs)
inductive VRs (L : LM) : List AV → List Value → Prop
  | nil : VRs L [] []
  | cons {v : AV} {x : Value} {l : List AV} {xs : List Value} (h : VR L v x) (hs : VRs L l xs) : VRs L (v :: l) (x :: xs)
end

/-- all that L says, L' says -/
def LF (L L' : LM) : Prop := ∀ id l, L id = some l → L' id = some l

def LE (L L' : LM) : Prop := LF L L' ∧ L'.r = L.r

theorem LF.refl (L : LM) : LF L L := fun _ _ h => h
theorem LF.trans {A B C : LM} (h : LF A B) (k : LF B C) : LF A C := fun id l x => k id l (h id l x)
theorem LE.refl (L : LM) : LE L L := ⟨LF.refl L, rfl⟩
theorem LE.trans {A B C : LM} (h : LE A B) (k : LE B C) : LE A C := ⟨h.1.trans k.1, by rw [k.2, h.2]⟩

mutual
theorem VR.monoF {L L' : LM} (hl : LF L L') {v : AV} {x : Value} (h : VR L v x) : VR L' v x := by
  cases h with
  | raw => exact .raw _
  | ptr h => exact .ptr (hl _ _ h)
  | slc h => exact .slc (hl _ _ h)
  | slu h hs hc hle => exact .slu (hl _ _ h) hs hc hle
  | emp a c => exact .emp a c
  | opq l => exact .opq l
  | map h => exact .map (hl _ _ h)
  | func ha hb => exact .func (VRs.monoF hl ha) (VRs.monoF hl hb)
  | iface h => exact .iface (VR.monoF hl h)
  | agg h => exact .agg (VRs.monoF hl h)
  | tup h => exact .tup (VRs.monoF hl h)
theorem VRs.monoF {L L' : LM} (hl : LF L L') {v : List AV} {x : List Value} (h : VRs L v x) : VRs L' v x := by
  cases h with
  | nil => exact .nil
  | cons h hs => exact .cons (VR.monoF hl h) (VRs.monoF hl hs)
end
theorem VR.mono {L L' : LM} (hl : LE L L') {v : AV} {x : Value} (h : VR L v x) : VR L' v x := h.monoF hl.1
theorem VRs.mono {L L' : LM} (hl : LE L L') {v : List AV} {x : List Value} (h : VRs L v x) : VRs L' v x := h.monoF hl.1

theorem VRs.length {L : LM} : ∀ {l : List AV} {xs : List Value}, VRs L l xs → l.length = xs.length
  | [], [], _ => rfl
  | _ :: _, _ :: _, h => by cases h with | cons _ hs => simp [VRs.length hs]

theorem VRs.get {L : LM} : ∀ {l : List AV} {xs : List Value}, VRs L l xs → ∀ (i : Nat) (v : AV), l[i]? = some v → ∃ x, xs[i]? = some x ∧ VR L v x
  | [], [], _, i, v, h => by simp at h
  | v0 :: l, x0 :: xs, h, i, v, hv => by
    cases h with
    | cons h hs =>
      cases i with
      | zero => simp at hv; subst hv; exact ⟨x0, by simp, h⟩
      | succ i => simp at hv; obtain ⟨x, hx, hr⟩ := VRs.get hs i v hv; exact ⟨x, by simpa using hx, hr⟩

theorem VRs.append {L : LM} : ∀ {a b : List AV} {x y : List Value}, VRs L a x → VRs L b y → VRs L (a ++ b) (x ++ y)
  | [], b, [], y, _, h => h
  | _ :: _, b, _ :: _, y, h, k => by cases h with | cons h hs => exact .cons h (VRs.append hs k)

theorem VRs.raws {L : LM} : ∀ (xs : List Value), VRs L (xs.map .raw) xs
  | [] => .nil
  | x :: xs => .cons (.raw x) (VRs.raws xs)

theorem VRs.take {L : LM} : ∀ (n : Nat) {a : List AV} {x : List Value}, VRs L a x → VRs L (a.take n) (x.take n)
  | 0, _, _, _ => by simpa using VRs.nil
  | n + 1, [], [], _ => by simpa using VRs.nil
  | n + 1, _ :: _, _ :: _, h => by cases h with | cons h hs => simpa using VRs.cons h (VRs.take n hs)

theorem VRs.drop {L : LM} : ∀ (n : Nat) {a : List AV} {x : List Value}, VRs L a x → VRs L (a.drop n) (x.drop n)
  | 0, _, _, h => by simpa using h
  | n + 1, [], [], _ => by simpa using VRs.nil
  | n + 1, _ :: _, _ :: _, h => by cases h with | cons h hs => simpa using VRs.drop n hs

theorem VR.one {L : LM} {v : AV} {x : Value} (h : VR L v x) (h1 : v.isOne = true) : x.oneCell' = true := by
  cases h with
  | raw => cases x <;> simp_all [AV.isOne, Value.oneCell']
  | agg h => simp [AV.isOne] at h1
  | tup h => simp [AV.isOne] at h1
  | _ => rfl

theorem VR.cells {L : LM} {v : AV} {x : Value} (h : VR L v x) : VRs L v.cells x.cells.toList := by
  cases h with
  | raw =>
    cases x <;> first
      | exact .cons (.raw _) .nil
      | (simp only [AV.cells, Value.cells]; exact VRs.raws _)
  | agg h => simpa [AV.cells, Value.cells] using h
  | ptr h => exact .cons (.ptr h) .nil
  | slc h => exact .cons (.slc h) .nil
  | slu h a b c => exact .cons (.slu h a b c) .nil
  | emp a c => exact .cons (.emp a c) .nil
  | opq l => exact .cons (.opq l) .nil
  | map h => exact .cons (.map h) .nil
  | func h k => exact .cons (.func h k) .nil
  | iface h => exact .cons (.iface h) .nil
  | tup h => exact .cons (.tup h) .nil

theorem VR.aggOf {L : LM} {v : AV} {x : Value} {cs : List AV} (h : VR L v x) (hc : aggOf v = some cs) : ∃ xs : Array Value, x = .agg xs ∧ VRs L cs xs.toList := by
  cases h with
  | raw => cases x <;> simp [Ws.aggOf] at hc; subst hc; exact ⟨_, rfl, VRs.raws _⟩
  | agg h => simp [Ws.aggOf] at hc; subst hc; exact ⟨_, rfl, h⟩
  | _ => simp [Ws.aggOf] at hc

/-- entries of maps -/
inductive MR (L : LM) : List (Value × AV) → List MapEntry → Prop
  | nil : MR L [] []
  | cons {k : Value} {v : AV} {e : MapEntry} {l : List (Value × AV)} {es : List MapEntry} (hk : e.key = k) (hv : VR L v e.val) (hs : MR L l es) : MR L ((k, v) :: l) (e :: es)

theorem MR.monoF {L L' : LM} (hl : LF L L') : ∀ {l : List (Value × AV)} {es : List MapEntry}, MR L l es → MR L' l es
  | _, _, .nil => .nil
  | _, _, .cons hk hv hs => .cons hk (hv.monoF hl) (MR.monoF hl hs)
theorem MR.mono {L L' : LM} (hl : LE L L') {l : List (Value × AV)} {es : List MapEntry} (h : MR L l es) : MR L' l es := h.monoF hl.1

/-- A block. -/
def BR (L : LM) (w : World) (l : Loc) : ABlk → Prop
  | .cells n cs _ => ∃ c t fr, w.heap[l.b]? = some (.cells c t fr) ∧ (fr.2 ≤ fr.1 ∨ c.size ≤ fr.1) ∧ n ≤ l.e ∧ l.o + l.e ≤ c.size ∧
      ∀ i, i < n → ∃ v x, cs.get i = some v ∧ v.isOne = true ∧ VR L v x ∧ c[l.o + i]? = some x
  | .map es => ∃ ents clock, w.heap[l.b]? = some (.map ents clock) ∧ MR L es ents.toList
  | .iter s pos => l.o = 0 ∧ w.heap[l.b]? = some (.stringIter s pos)
  | .dfr => w.heap[l.b]? = some (.deferred (some []))
  | .rdy => ∃ r : Loop, w.heap[l.b]? = some (.loop r) ∧ r.state = .ready ∧ r.pending = none

theorem BR.monoF {L L' : LM} (hl : LF L L') {w w' : World} {l : Loc} {b : ABlk} (h : BR L w l b) (hw : w'.heap[l.b]? = w.heap[l.b]?) : BR L' w' l b := by
  cases b with
  | cells n cs g =>
    obtain ⟨c, t, fr, h1, h2, h3, h4, h5⟩ := h
    refine ⟨c, t, fr, by rw [hw, h1], h2, h3, h4, fun i hi => ?_⟩
    obtain ⟨v, x, a1, a2, a3, a4⟩ := h5 i hi
    exact ⟨v, x, a1, a2, a3.monoF hl, a4⟩
  | map es =>
    obtain ⟨ents, clock, h1, h2⟩ := h
    exact ⟨ents, clock, by rw [hw, h1], h2.monoF hl⟩
  | iter s pos => exact ⟨h.1, by rw [hw, h.2]⟩
  | dfr => show w'.heap[l.b]? = _; rw [hw]; exact h
  | rdy => obtain ⟨r, h1, h2⟩ := h; exact ⟨r, by rw [hw]; exact h1, h2⟩
theorem BR.mono {L L' : LM} (hl : LE L L') {w w' : World} {l : Loc} {b : ABlk} (h : BR L w l b) (hw : w'.heap[l.b]? = w.heap[l.b]?) : BR L' w' l b := h.monoF hl.1 hw

/-- The heap: W0 is the world in which the outermost call began. -/
structure HR (W0 : World) (L : LM) (H : AH) (w : World) : Prop where
  blk : ∀ id b l, H.get id = some b → L id = some l → BR L w l b
  inj : ∀ id id' b b' l l', H.get id = some b → H.get id' = some b' → L id = some l → L id' = some l' → l.b = l'.b → id = id'
  lt : ∀ id l, L id = some l → l.b < w.heap.size
  base : ∀ id l, L id = some l → W0.heap.size ≤ l.b
  below : Below W0.heap.size W0 w

def HD (L : LM) (H : AH) : Prop := (∀ id, H.next ≤ id → L id = none) ∧ ∀ id, L.r id → L id = none ∧ id < H.next

/-- Every block of H is in H' as it is. -/
def Sub (H H' : AH) : Prop := ∀ id b, H.get id = some b → H'.get id = some b

theorem Sub.refl (H : AH) : Sub H H := fun _ _ h => h
theorem Sub.trans {A B C : AH} (h : Sub A B) (k : Sub B C) : Sub A C := fun id b x => k id b (h id b x)

theorem HR.sub {W0 : World} {L : LM} {H H' : AH} {w : World} (h : HR W0 L H' w) (hs : Sub H H') : HR W0 L H w :=
  ⟨fun id b l hb hl => h.blk id b l (hs _ _ hb) hl, fun id id' b b' l l' hb hb' hl hl' e => h.inj id id' b b' l l' (hs _ _ hb) (hs _ _ hb') hl hl' e, h.lt, h.base, h.below⟩

theorem Below.drewN' {B : Nat} {a w : World} (h : Below B a w) (n : Nat) : Below B a { w with drawn := n } := ⟨h.os, h.tape, h.output, h.size, h.block⟩

theorem HR.drawn {W0 : World} {L : LM} {H : AH} {w : World} (h : HR W0 L H w) (n : Nat) : HR W0 L H { w with drawn := n } :=
  ⟨fun id b l hb hl => (h.blk id b l hb hl).mono (LE.refl _) rfl, h.inj, h.lt, h.base, Below.drewN' h.below n⟩

/-- One more block. -/
def LM.set (L : LM) (id : Nat) (l : Loc) : LM := ⟨fun j => if j = id then some l else L j, L.r⟩
theorem LM.set_at {L : LM} {id : Nat} {l : Loc} {j : Nat} : L.set id l j = if j = id then some l else L j := rfl

theorem LM.le_set {L : LM} {id : Nat} {l : Loc} (h : L id = none) : LE L (L.set id l) := by
  refine ⟨fun j m hj => ?_, rfl⟩
  rw [LM.set_at]
  by_cases e : j = id
  · subst e; rw [h] at hj; cases hj
  · rw [if_neg e]; exact hj

theorem LM.set_same {L : LM} {id : Nat} {l : Loc} : L.set id l id = some l := by simp [LM.set]

/-- What is known of a world behind the making of one block. -/
structure Made (w w' : World) : Prop where
  os : w'.os = w.os
  tape : w'.tape = w.tape
  output : w'.output = w.output
  size : w'.heap.size = w.heap.size + 1
  block : ∀ k, k < w.heap.size → w'.heap[k]? = w.heap[k]?

theorem Made.below {B : Nat} {a w w' : World} (h : Below B a w) (m : Made w w') (hB : B ≤ w.heap.size) : Below B a w' :=
  h.trans ⟨m.os, m.tape, m.output, by rw [m.size]; omega, fun k hk => m.block k (by omega)⟩

/-- An abstract block that has been there, undefined in L, comes to be at a new concrete one. -/
theorem HR.made {W0 : World} {L : LM} {H : AH} {w w' : World} (h : HR W0 L H w) (m : Made w w') {id : Nat} {b : ABlk} {l : Loc}
    (hid : L id = none) (hg : H.get id = some b) (hl : l.b = w.heap.size) (hb : BR L w' l b) : HR W0 (L.set id l) H w' := by
  have hle : LE L (L.set id l) := LM.le_set hid
  have hB : W0.heap.size ≤ w.heap.size := h.below.size
  refine ⟨fun j c k hc hk => ?_, fun i j c c' k k' hc hc' hk hk' e => ?_, fun j k hk => ?_, fun j k hk => ?_, Made.below h.below m hB⟩
  · rw [LM.set_at] at hk
    by_cases e : j = id
    · subst e
      rw [if_pos rfl] at hk
      rw [hg] at hc
      cases hc; cases hk
      exact hb.mono hle rfl
    · rw [if_neg e] at hk
      exact (h.blk j c k hc hk).mono hle (m.block _ (h.lt _ _ hk))
  · rw [LM.set_at] at hk hk'
    by_cases e1 : i = id <;> by_cases e2 : j = id
    · omega
    · rw [if_pos e1] at hk; rw [if_neg e2] at hk'
      cases hk
      have := h.lt _ _ hk'
      omega
    · rw [if_neg e1] at hk; rw [if_pos e2] at hk'
      cases hk'
      have := h.lt _ _ hk
      omega
    · rw [if_neg e1] at hk; rw [if_neg e2] at hk'
      exact h.inj i j c c' k k' hc hc' hk hk' e
  · rw [LM.set_at] at hk
    by_cases e : j = id
    · rw [if_pos e] at hk; cases hk; rw [m.size]; omega
    · rw [if_neg e] at hk; have := h.lt _ _ hk; rw [m.size]; omega
  · rw [LM.set_at] at hk
    by_cases e : j = id
    · rw [if_pos e] at hk; cases hk; omega
    · rw [if_neg e] at hk; exact h.base _ _ hk

theorem newBlk_spec {H H' : AH} {b : ABlk} {id : Nat} (h : newBlk H b = some (id, H')) : id = H.next ∧ H' = H.new b ∧ Sub H H' ∧ H'.get id = some b := by
  unfold newBlk at h
  split at h
  · rename_i hn
    cases h
    refine ⟨rfl, rfl, fun j c hc => ?_, by rw [AH.get_new, if_pos rfl]⟩
    rw [AH.get_new]
    by_cases e : j = H.next
    · subst e; rw [hn] at hc; cases hc
    · rw [if_neg e]; exact hc
  · cases h

/-- A heap with one more abstract block, undefined in L: as before. -/
theorem HR.widen {W0 : World} {L : LM} {H : AH} {w : World} (h : HR W0 L H w) (hd : HD L H) (b : ABlk) : HR W0 L (H.new b) w := by
  have key : ∀ id c, (H.new b).get id = some c → ∀ l, L id = some l → H.get id = some c := by
    intro id c hc l hl
    rw [AH.get_new] at hc
    by_cases e : id = H.next
    · subst e; rw [hd.1 _ (Nat.le_refl _)] at hl; cases hl
    · rwa [if_neg e] at hc
  exact ⟨fun id c l hc hl => h.blk id c l (key id c hc l hl) hl,
    fun i j c c' k k' hc hc' hk hk' e => h.inj i j c c' k k' (key _ _ hc _ hk) (key _ _ hc' _ hk') hk hk' e, h.lt, h.base, h.below⟩

theorem HD.new {L : LM} {H : AH} (hd : HD L H) (b : ABlk) : HD L (H.new b) :=
  ⟨fun id hid => hd.1 id (by simp only [AH.new] at hid; omega), fun id hid => ⟨(hd.2 id hid).1, by have := (hd.2 id hid).2; simp only [AH.new]; omega⟩⟩
theorem HD.set_new {L : LM} {H : AH} (hd : HD L H) (b : ABlk) (l : Loc) : HD (L.set H.next l) (H.new b) := by
  refine ⟨fun id hid => ?_, fun id hid => ?_⟩
  · simp only [AH.new] at hid
    rw [LM.set_at, if_neg (by omega)]
    exact hd.1 id (by omega)
  · obtain ⟨h1, h2⟩ := hd.2 id hid
    rw [LM.set_at, if_neg (by omega)]
    exact ⟨h1, by simp only [AH.new]; omega⟩

end Go.Proofs.YtkoahnikmckgnaaGreatDoor.Ws

/- Memory: loads, stores, new rows. -/
namespace Go.Proofs.YtkoahnikmckgnaaGreatDoor.Ws
open Go Go.RowKit

/-! ### Small runs -/

theorem run_under' {P : Program} {t : TypeId} {d : TypeDesc} (h : P.underlying t = some d) (w : World) : (underlying t).run P w = .ok d w := run_underlying h w
theorem run_info' {P : Program} {t : TypeId} {i : TypeInfo} (h : P.info? t = some i) (w : World) : (typeInfo t).run P w = .ok i w := by simp [typeInfo, h]
theorem run_size' {P : Program} {t : TypeId} {i : TypeInfo} (h : P.info? t = some i) (w : World) : (sizeOf t).run P w = .ok i.size w := by
  simp [sizeOf, run_info' h]
theorem run_zero' {P : Program} {t : TypeId} {i : TypeInfo} (h : P.info? t = some i) {z : Value} (hz : i.zero = some z) (w : World) : (zeroValue t).run P w = .ok z w := by
  simp [zeroValue, run_info' h, hz]
theorem run_isAgg' {P : Program} {t : TypeId} {d : TypeDesc} (h : P.underlying t = some d) (w : World) : (isAgg t).run P w = .ok (isAggD d) w := by
  unfold isAgg
  simp only [Sem.run_bind, run_under' h, Result.andThen_ok]
  cases d <;> rfl

theorem addr_add (b o k : Nat) : (⟨b, o, none⟩ : Addr).add k = ⟨b, o + k, none⟩ := by
  unfold Addr.add
  split
  · rename_i h; subst h; rfl
  · rfl

/-! ### Cells -/

theorem HR.congr {W0 : World} {L : LM} {H H' : AH} {w : World} (h : HR W0 L H w) (he : ∀ j, H'.get j = H.get j) : HR W0 L H' w :=
  ⟨fun id b l hb hl => h.blk id b l (by rw [← he]; exact hb) hl,
    fun i j c c' k k' hc hc' hk hk' e => h.inj i j c c' k k' (by rw [← he]; exact hc) (by rw [← he]; exact hc') hk hk' e, h.lt, h.base, h.below⟩

theorem BR.cell {L : LM} {w : World} {l : Loc} {n : Nat} {cs : T AV} {g : Bool} (h : BR L w l (.cells n cs g)) {i : Nat} (hi : i < n) :
    ∃ v x, cs.get i = some v ∧ v.isOne = true ∧ VR L v x ∧ w.cell? ⟨l.b, l.o + i, none⟩ = some x ∧ w.frozen? ⟨l.b, l.o + i, none⟩ = false := by
  obtain ⟨c, t, fr, h1, h2, h3, h4, h5⟩ := h
  obtain ⟨v, x, a1, a2, a3, a4⟩ := h5 i hi
  refine ⟨v, x, a1, a2, a3, ?_, ?_⟩
  · simp [World.cell?, h1, a4]
  · obtain ⟨lo, hi'⟩ := fr
    simp only [World.frozen?, h1]
    simp only at h2
    rw [Bool.and_eq_false_iff, decide_eq_false_iff_not, decide_eq_false_iff_not]
    rcases h2 with h2 | h2
    · by_cases hh : lo ≤ l.o + i
      · right; omega
      · left; exact hh
    · left; omega

theorem BR.room {L : LM} {w : World} {l : Loc} {n : Nat} {cs : T AV} {g : Bool} (h : BR L w l (.cells n cs g)) {i : Nat} (hi : i < l.e) :
    ∃ x, w.cell? ⟨l.b, l.o + i, none⟩ = some x ∧ w.frozen? ⟨l.b, l.o + i, none⟩ = false := by
  obtain ⟨c, t, fr, h1, h2, h3, h4, h5⟩ := h
  refine ⟨c[l.o + i]'(by omega), ?_, ?_⟩
  · simp only [World.cell?, h1, Option.isSome_none, Bool.false_eq_true, if_false]
    exact Array.getElem?_eq_getElem _
  · obtain ⟨lo, hi'⟩ := fr
    simp only [World.frozen?, h1]
    simp only at h2
    rw [Bool.and_eq_false_iff, decide_eq_false_iff_not, decide_eq_false_iff_not]
    rcases h2 with h2 | h2
    · by_cases hh : lo ≤ l.o + i
      · right; omega
      · left; exact hh
    · left; omega

/-- what loadN tells -/
theorem loadN_spec {L : LM} {w : World} {l : Loc} {n : Nat} {cs : T AV} {g : Bool} (h : BR L w l (.cells n cs g)) : ∀ (k off : Nat) (vs : List AV), off + k ≤ n → loadN cs off k = some vs →
    ∃ xs, VRs L vs xs ∧ xs.length = k ∧ allOne vs = true ∧ ∀ j x, xs[j]? = some x → w.cell? ⟨l.b, l.o + off + j, none⟩ = some x
  | 0, off, vs, _, hv => by
    simp [loadN_zero] at hv; subst hv
    exact ⟨[], .nil, rfl, rfl, by simp⟩
  | k + 1, off, vs, hk, hv => by
    simp only [loadN_succ] at hv
    obtain ⟨v, x, a1, a2, a3, a4, a5⟩ := h.cell (i := off) (by omega)
    rw [a1] at hv
    simp only at hv
    cases hr : loadN cs (off + 1) k with
    | none => rw [hr] at hv; cases hv
    | some r =>
      rw [hr] at hv; cases hv
      obtain ⟨xs, b1, b2, b3, b4⟩ := loadN_spec h k (off + 1) r (by omega) hr
      refine ⟨x :: xs, .cons a3 b1, by simp [b2], by simp [allOne, a2, b3], fun j y hj => ?_⟩
      cases j with
      | zero => simp at hj; subst hj; simpa using a4
      | succ j =>
        simp at hj
        have := b4 j y hj
        rwa [show l.o + (off + 1) + j = l.o + off + (j + 1) by omega] at this

theorem allOne_spec : ∀ {l : List AV}, allOne l = true → ∀ v ∈ l, v.isOne = true
  | [], _, _, h => by cases h
  | v :: l, h, u, hu => by
    simp only [allOne] at h
    cases hv : v.isOne with
    | false => rw [hv] at h; cases h
    | true =>
      rw [hv] at h
      rcases List.mem_cons.1 hu with rfl | hm
      · exact hv
      · exact allOne_spec h u hm

theorem VRs.ones {L : LM} : ∀ {l : List AV} {xs : List Value}, VRs L l xs → allOne l = true → ∀ x ∈ xs, x.oneCell' = true
  | [], [], _, _, x, h => by cases h
  | v :: l, y :: xs, h, ho, x, hx => by
    cases h with
    | cons h hs =>
      simp only [allOne] at ho
      cases hv : v.isOne with
      | false => rw [hv] at ho; cases ho
      | true =>
        rw [hv] at ho
        rcases List.mem_cons.1 hx with rfl | hm
        · exact h.one hv
        · exact VRs.ones hs ho x hm

theorem loadB_spec {W0 : World} {L : LM} {H : AH} {w : World} (h : HR W0 L H w) {id : Nat} {l : Loc} (hl : L id = some l) {off k : Nat} {vs : List AV} (hv : loadB H id off k = some vs) :
    ∃ xs, VRs L vs xs ∧ xs.length = k ∧ allOne vs = true ∧ ∀ j x, xs[j]? = some x → w.cell? ⟨l.b, l.o + off + j, none⟩ = some x := by
  unfold loadB at hv
  split at hv
  · rename_i n cs g hg
    split at hv
    · rename_i hb
      exact loadN_spec (h.blk _ _ _ hg hl) k off vs (Nat.le_of_ble_eq_true hb) hv
    · cases hv
  · cases hv

/-! ### A store -/

theorem HR.store1 {W0 : World} {L : LM} {H : AH} {w : World} (h : HR W0 L H w) {id n : Nat} {cs : T AV} {g : Bool} {l : Loc} (hg : H.get id = some (.cells n cs g)) (hl : L id = some l)
    {off : Nat} (ho : off < n) {v : AV} {x : Value} (h1 : v.isOne = true) (hv : VR L v x) :
    HR W0 L (H.set id (.cells n (cs.put (some v) off) g)) (w.setCell ⟨l.b, l.o + off, none⟩ x) := by
  have hb := h.blk id _ l hg hl
  have key : ∀ j b, (H.set id (.cells n (cs.put (some v) off) g)).get j = some b → ∃ b', H.get j = some b' := by
    intro j b hj
    rw [AH.get_set] at hj
    by_cases e : j = id
    · subst e; exact ⟨_, hg⟩
    · rw [if_neg e] at hj; exact ⟨_, hj⟩
  refine ⟨fun j b k hj hk => ?_, fun i j c c' k k' hc hc' hk hk' e => ?_, fun j k hk => by simpa using h.lt j k hk, h.base, h.below.setCell (h.base _ _ hl) x⟩
  · rw [AH.get_set] at hj
    by_cases e : j = id
    · subst e
      rw [if_pos rfl] at hj
      cases hj
      rw [hl] at hk
      cases hk
      obtain ⟨c, t, fr, h1', h2, h3, h4, h5⟩ := hb
      refine ⟨c.setIfInBounds (l.o + off) x, t, fr, ?_, by simpa using h2, h3, by simpa using h4, fun i hi => ?_⟩
      · simp [World.setCell, Array.getElem?_modify, h1']
      · by_cases e : i = off
        · subst e
          refine ⟨v, x, by rw [T.get_put, if_pos rfl], h1, hv, ?_⟩
          simp only [Array.getElem?_setIfInBounds_self]
          rw [if_pos (by omega)]
        · obtain ⟨u, y, a1, a2, a3, a4⟩ := h5 i hi
          refine ⟨u, y, by rw [T.get_put, if_neg e]; exact a1, a2, a3, ?_⟩
          rw [Array.getElem?_setIfInBounds_ne (by omega)]
          exact a4
    · rw [if_neg e] at hj
      refine (h.blk j b k hj hk).mono (LE.refl _) (Below.heap_setCell _ _ _ _ ?_)
      intro e'
      exact e (h.inj j id b _ k l hj hg hk hl e')
  · obtain ⟨d, hd⟩ := key i c hc
    obtain ⟨d', hd'⟩ := key j c' hc'
    exact h.inj i j d d' k k' hd hd' hk hk' e

theorem storeN_spec {W0 : World} {L : LM} {id : Nat} {l : Loc} (hl : L id = some l) {n : Nat} {g : Bool} : ∀ (vs : List AV) (xs : List Value) (H : AH) (w : World) (cs cs' : T AV) (off : Nat),
    HR W0 L H w → H.get id = some (.cells n cs g) → VRs L vs xs → storeN n cs off vs = some cs' →
    HR W0 L (H.set id (.cells n cs' g)) (w.setCells l.b (l.o + off) xs) ∧ (∀ x ∈ xs, x.oneCell' = true) ∧ off + (if xs.length = 0 then 0 else xs.length) ≤ max n off
  | [], [], H, w, cs, cs', off, h, hg, _, hs => by
    simp [storeN_nil] at hs; subst hs
    refine ⟨h.congr fun j => ?_, by simp, by simp; omega⟩
    rw [AH.get_set]
    by_cases e : j = id
    · subst e; rw [if_pos rfl, hg]
    · rw [if_neg e]
  | v :: vs, x :: xs, H, w, cs, cs', off, h, hg, hv, hs => by
    cases hv with
    | cons hv hvs =>
      simp only [storeN_cons] at hs
      cases h1 : v.isOne with
      | false => rw [h1] at hs; cases hs
      | true =>
        cases h2 : Nat.blt off n with
        | false => rw [h1, h2] at hs; cases hs
        | true =>
          rw [h1, h2] at hs
          simp only at hs
          have ho : off < n := by simpa [Nat.blt_eq] using h2
          have hr := h.store1 hg hl ho h1 hv
          have ih := storeN_spec hl vs xs _ _ (cs.put (some v) off) cs' (off + 1) hr (by rw [AH.get_set, if_pos rfl]) hvs hs
          refine ⟨?_, ?_, ?_⟩
          · have := ih.1
            rw [show l.o + (off + 1) = l.o + off + 1 by omega] at this
            refine HR.congr this fun j => ?_
            rw [AH.get_set, AH.get_set, AH.get_set]
            by_cases e : j = id
            · rw [if_pos e, if_pos e]
            · rw [if_neg e, if_neg e, if_neg e]
          · intro y hy
            rcases List.mem_cons.1 hy with rfl | hm
            · exact hv.one h1
            · exact ih.2.1 y hm
          · have := ih.2.2
            simp only [List.length_cons]
            by_cases e : xs.length = 0
            · simp [e]; omega
            · simp [e] at this ⊢; omega

end Go.Proofs.YtkoahnikmckgnaaGreatDoor.Ws
