/- Operations that make a block. -/
import Derived.Test.YtkoahnikmckgnaaGreatDoorWsF6
import Derived.Laws.BytesString
set_option linter.unusedSimpArgs false
set_option linter.unusedVariables false
namespace Go.Proofs.YtkoahnikmckgnaaGreatDoor.Ws
open Go Go.RowKit

theorem fillT_get : ∀ (l : List AV) (i : Nat) (t : T AV) (j : Nat), (fillT i l t).get j = if i ≤ j ∧ j < i + l.length then l[j - i]? else t.get j
  | [], i, t, j => by simp only [fillT]; rw [if_neg (by simp)]
  | v :: l, i, t, j => by
    simp only [fillT]
    rw [fillT_get l (i + 1) (t.put (some v) i) j]
    by_cases e : j = i
    · subst e
      rw [if_neg (by omega), if_pos (by simp), T.get_put, if_pos rfl]
      simp
    · by_cases e2 : i + 1 ≤ j ∧ j < i + 1 + l.length
      · rw [if_pos e2, if_pos (by simp; omega)]
        rw [show j - i = (j - (i + 1)) + 1 by omega]
        rfl
      · rw [if_neg e2, if_neg (by simp; omega), T.get_put, if_neg e]

section
variable {P : Program} {W0 : World} {E : Env} {L : LM} {H : AH} {w : World}

theorem made_push (w : World) (o : Obj) : Made w { w with heap := w.heap.push o } :=
  ⟨rfl, rfl, rfl, by simp, fun k hk => by simp only [Array.getElem?_push]; rw [if_neg (by omega)]⟩

/-- A block of cells of which the first ones are known, the rest is room. -/
theorem BR.of_row {b : Nat} {c : Array Value} {t : TypeId} {fr : Nat × Nat} (hg : w.heap[b]? = some (.cells c t fr)) (hf : fr.2 ≤ fr.1 ∨ c.size ≤ fr.1)
    {l : List AV} {xs : List Value} (h : VRs L l xs) (h1 : allOne l = true) (hc : ∀ (i : Nat) x, xs[i]? = some x → c[i]? = some x) (g : Bool) (hle : l.length ≤ c.size) : BR L w ⟨b, 0, c.size⟩ (.cells l.length (fillT 0 l .e) g) := by
  refine ⟨c, t, fr, hg, hf, hle, by simp, fun i hi => ?_⟩
  have hv : l[i]? = some l[i] := List.getElem?_eq_getElem hi
  obtain ⟨x, hx, hr⟩ := h.get i _ hv
  refine ⟨l[i], x, ?_, allOne_spec h1 _ (List.getElem_mem hi), hr, by simpa using hc i x hx⟩
  rw [fillT_get, if_pos ⟨by omega, by omega⟩]
  exact hv

theorem range0 (g : Nat → Value) : (Array.range 0).map g = #[] := by
  apply Array.eq_empty_of_size_eq_zero
  simp

/-- what is known of an operation that makes a block -/
def AlcOk (P : Program) (L : LM) (w : World) (r : Result Value) : AlcR → Prop
  | .val v => ∃ x, r = .ok x w ∧ VR L v x
  | .blk f b => ∃ x w' l, r = .ok x w' ∧ Made w w' ∧ l.b = w.heap.size ∧ BR L w' l b ∧ ∀ L', LE L L' → ∀ id, L' id = some l → VR L' (f id) x

theorem alcCells_spec {f : Nat → AV} {l : List AV} {g : Bool} {r : AlcR} (h : alcCells f l g = some r) : allOne l = true ∧ r = .blk f (.cells l.length (fillT 0 l .e) g) := by
  unfold alcCells cellsBlk at h
  cases ho : allOne l with
  | false => rw [ho] at h; cases h
  | true => rw [ho] at h; cases h; exact ⟨rfl, rfl⟩

theorem row_ok {e : TypeId} {c : Array Value} {l : List AV} (h : VRs L l c.toList) (h1 : allOne l = true) (g : Bool) :
    BR L { w with heap := w.heap.push (.cells c e) } ⟨w.heap.size, 0, l.length⟩ (.cells l.length (fillT 0 l .e) g) := by
  have hl := h.length
  have := BR.of_row (w := { w with heap := w.heap.push (.cells c e) }) (b := w.heap.size) (c := c) (t := e) (fr := (0, 0)) (by simp) (.inl (Nat.le_refl _)) h h1 (fun i x hx => by simpa using hx) g (by simp at hl; omega)
  rwa [show c.size = l.length by simp at hl; omega] at this

theorem run_newRow (e : TypeId) (c : Array Value) : (newRow e c).run P w = .ok ⟨w.heap.size, 0, none⟩ { w with heap := w.heap.push (.cells c e) } := by
  simp [newRow]

theorem alloc_run (hE : E.Ok P W0) {t : TypeId} {d : TypeDesc} {i : TypeInfo} {z : List AV} {r : AlcR} (ht : E.ti t = some (d, i)) (hz : zeroCellsA i = some z) (h : alcCells (fun id => .ptr id 0) z false = some r) :
    AlcOk P L w ((Instr.alloc t true (.tuple #[])).run P w) r := by
  obtain ⟨h1, rfl⟩ := alcCells_spec h
  obtain ⟨zv, hzv, hv, _⟩ := zeroCells_spec (L := L) hz
  obtain ⟨_, hi⟩ := hE.ti _ _ _ ht
  refine ⟨.pointer (some ⟨w.heap.size, 0, none⟩), _, ⟨w.heap.size, 0, z.length⟩, ?_, made_push w _, rfl, row_ok (e := t) hv h1 false, fun L' _ id hid => by simpa using VR.ptr (off := 0) hid⟩
  simp [Instr.alloc, run_zero' hi hzv, newVar, run_newRow]

theorem box_run {t : TypeId} {v : AV} {x : Value} {r : AlcR} (hv : VR L v x) (h : alcCells (fun id => .ptr id 0) v.cells false = some r) :
    AlcOk P L w ((Instr.box t x).run P w) r := by
  obtain ⟨h1, rfl⟩ := alcCells_spec h
  refine ⟨.pointer (some ⟨w.heap.size, 0, none⟩), _, ⟨w.heap.size, 0, v.cells.length⟩, ?_, made_push w _, rfl, row_ok (e := t) hv.cells h1 false, fun L' _ id hid => by simpa using VR.ptr (off := 0) hid⟩
  simp [Instr.box, newVar, run_newRow]

theorem repeatL_get (z : List AV) : ∀ (n i : Nat), (repeatL z n)[i]? = if i < n * z.length then z[i % z.length]? else none
  | 0, i => by simp [repeatL]
  | n + 1, i => by
    simp only [repeatL]
    by_cases h : i < z.length
    · rw [List.getElem?_append_left h, if_pos (by rw [Nat.add_mul]; omega), Nat.mod_eq_of_lt h]
    · rw [List.getElem?_append_right (by omega), repeatL_get z n]
      by_cases hz : z.length = 0
      · simp [hz]
      · by_cases h2 : i - z.length < n * z.length
        · rw [if_pos h2, if_pos (by rw [Nat.add_mul]; omega)]
          congr 1
          conv => rhs; rw [show i = (i - z.length) + z.length by omega, Nat.add_mod_right]
        · rw [if_neg h2, if_neg (by rw [Nat.add_mul]; omega)]

theorem repeatL_length (z : List AV) : ∀ n, (repeatL z n).length = n * z.length
  | 0 => by simp [repeatL]
  | n + 1 => by simp [repeatL, repeatL_length z n, Nat.add_mul, Nat.add_comm]

theorem repeat_spec {z : List AV} {zero : Array Value} (h : VRs L z zero.toList) (n : Nat) : VRs L (repeatL z n) ((Array.range (n * z.length)).map fun i => zero[i % zero.size]!).toList := by
  have hl : z.length = zero.size := by simpa using h.length
  refine VRs.of_get (by simp [repeatL_length]) fun i v x hv hx => ?_
  rw [repeatL_get] at hv
  split at hv
  · rename_i hlt
    simp only [Array.toList_map, Array.toList_range, List.getElem?_map, List.getElem?_range hlt, Option.map_some, Option.some.injEq] at hx
    obtain ⟨y, hy, hr⟩ := h.get _ v hv
    rw [hl] at hy
    have : zero[i % zero.size]! = y := by
      rw [getElem!_def]
      simp only [Array.getElem?_toList] at hy
      rw [hy]
    rw [← hx, this]
    exact hr
  · cases hv

theorem fill_keeps {place : Nat → Option (Nat × Nat)} : ∀ {parts : List (Nat × AV)} {cs l : List AV}, fillA place cs parts = some l → l.length = cs.length
  | [], cs, l, h => by simp [fillA] at h; subst h; rfl
  | (i, v) :: parts, cs, l, h => by
    simp only [fillA] at h
    split at h
    · split at h
      · split at h
        · rename_i cs' hp
          rw [fill_keeps h, (putAt_spec hp).2.1]
        · cases h
      · cases h
    · cases h

theorem buildSlice_run (hE : E.Ok P W0) {t : TypeId} {n : Nat} {parts : List (Nat × AV)} {parts' : Array (Nat × Value)} {r : AlcR} (h : abuildSlice E t n parts = some r) (hp : PR L parts parts'.toList) :
    AlcOk P L w ((Instr.buildSlice t n parts').run P w) r := by
  unfold abuildSlice at h
  split at h
  · rename_i elem ti ht
    obtain ⟨hd, _⟩ := hE.ti _ _ _ ht
    split at h
    · rename_i ed i het
      obtain ⟨_, hi⟩ := hE.ti _ _ _ het
      split at h
      · rename_i hb
        have hb := ble_true hb
        split at h
        · rename_i z hz
          obtain ⟨zv, hzv, hv, _⟩ := zeroCells_spec (L := L) hz
          split at h
          · rename_i hzl
            have hzl := beq_true hzl
            split at h
            · rename_i l hl
              obtain ⟨h1, rfl⟩ := alcCells_spec h
              have hrep := repeat_spec hv n
              rw [hzl] at hrep
              obtain ⟨ys, h2, h3⟩ := fill_run hp hrep hl
              refine ⟨.slice (some ⟨w.heap.size, 0, none⟩) n n, _, ⟨w.heap.size, 0, l.length⟩, ?_, made_push w _, rfl, row_ok (e := elem) h3 h1 false, fun L' _ id hid => by simpa using VR.slc (off := 0) hid⟩
              have hgt : ¬ n * i.size > 2 ^ 24 := by omega
              by_cases h0 : n * i.size = 0
              · have h2' : Instr.fill (fun k => some (k * i.size, i.size)) #[] parts'.toList = some ys := by
                  rw [h0, range0] at h2; exact h2
                simp [range0, Instr.buildSlice, run_under' hd, run_size' hi, h0, h2', run_newRow]
              · simp [Instr.buildSlice, run_under' hd, run_size' hi, hgt, h0, run_zero' hi hzv, h2, run_newRow]
            · cases h
          · cases h
        · cases h
      · cases h
    · cases h
  · cases h

theorem makeSlice_run (hE : E.Ok P W0) {t : TypeId} {a b : AV} {x y : Value} {r : AlcR} (h : amakeSlice E t a b = some r) (ha : VR L a x) (hb : VR L b y) :
    AlcOk P L w ((Instr.makeSlice t x y).run P w) r := by
  unfold amakeSlice at h
  split at h
  · rename_i k l k' c elem ti ht
    cases ha.raw_inv; cases hb.raw_inv
    obtain ⟨hd, _⟩ := hE.ti _ _ _ ht
    split at h
    · rename_i ed i het
      obtain ⟨_, hi⟩ := hE.ti _ _ _ het
      split at h
      · rename_i b1 b2 b3
        have b1 := ble_true b1
        have b2 := ble_true b2
        have b3 := ble_true b3
        split at h
        · rename_i z hz
          obtain ⟨zv, hzv, hv, _⟩ := zeroCells_spec (L := L) hz
          split at h
          · rename_i hzl
            have hzl := beq_true hzl
            obtain ⟨h1, rfl⟩ := alcCells_spec h
            have hrep := repeat_spec hv c
            rw [hzl] at hrep
            refine ⟨.slice (some ⟨w.heap.size, 0, none⟩) l c, _, ⟨w.heap.size, 0, (repeatL z c).length⟩, ?_, made_push w _, rfl, row_ok (e := elem) hrep h1 false, fun L' _ id hid => by simpa using VR.slc (off := 0) hid⟩
            have w1 : IntKind.i64.wrap (Int.ofNat l) = (l : Int) := i64_wrap_nat l (by omega)
            have w2 : IntKind.i64.wrap (Int.ofNat c) = (c : Int) := i64_wrap_nat c (by omega)
            have t1 : ¬ ((i.bytes : Int) * (c : Int) > 2 ^ 48) := by
              rw [(Int.natCast_mul _ _).symm]
              omega
            have t2 : ¬ ((c : Int) < (l : Int)) := by omega
            simp only [Instr.makeSlice, Sem.run_bind, run_under' hd, Result.andThen_ok, asInt, asIntOf, Sem.run_pure, run_info' hi, w1, w2]
            rw [Sem.run_ite, if_neg]
            · by_cases h0 : c * i.size = 0
              · simp [run_size' hi, h0, run_newRow, range0]
              · simp [run_size' hi, h0, run_zero' hi hzv, run_newRow]
            · simp only [Bool.or_eq_true, decide_eq_true_eq, not_or]
              refine ⟨⟨⟨by omega, t1⟩, by omega⟩, by omega⟩
          · cases h
        · cases h
      · cases h
    · cases h
  · cases h

theorem bytesOf_spec : ∀ {l : List AV} {bs : List UInt8} {xs : List Value}, bytesOfAV l = some bs → VRs L l xs → ∃ ns : List Int, xs = ns.map (.int .u8) ∧ bs = ns.map fun n => UInt8.ofNat n.toNat
  | [], bs, xs, h, hv => by
    simp [bytesOfAV] at h; subst h
    cases hv
    exact ⟨[], rfl, rfl⟩
  | v :: l, bs, xs, h, hv => by
    simp only [bytesOfAV] at h
    split at h
    · rename_i b hb
      split at h
      · rename_i r hr
        cases h
        cases hv with
        | cons h1 h2 =>
          obtain ⟨ns, e1, e2⟩ := bytesOf_spec hr h2
          unfold byteOfAV at hb
          split at hb
          · rename_i n
            cases hb
            cases h1.raw_inv
            exact ⟨n :: ns, by simp [e1], by simp [e2]⟩
          · cases hb
      · cases h
    · cases h

theorem push_foldl (ns : List Int) : ∀ (acc : ByteArray), (ns.foldl (fun (s : ByteArray) n => s.push (UInt8.ofNat n.toNat)) acc) = ⟨(acc.data.toList ++ ns.map fun n => UInt8.ofNat n.toNat).toArray⟩ := by
  induction ns with
  | nil => intro acc; simp
  | cons n ns ih =>
    intro acc
    rw [List.foldl_cons, ih]
    simp [ByteArray.push]

theorem bytesToString_run (hr : HR W0 L H w) {a : AV} {bs : List UInt8} {x : Value} (h : sliceBytes H a = some bs) (ha : VR L a x) : (Conv.bytesToString x).run P w = .ok (.string ⟨bs.toArray⟩) w := by
  have core : ∀ (ad : Addr) (len cap : Nat) (ns : List Int), ns.length = len → (∀ (j : Nat) y, (ns.map (Value.int .u8))[j]? = some y → w.cell? (ad.add j) = some y) → bs = ns.map (fun n => UInt8.ofNat n.toNat) →
      (Conv.bytesToString (.slice (some ad) len cap)).run P w = .ok (.string ⟨bs.toArray⟩) w := by
    intro ad len cap ns hlen hc hbs
    have hl := run_loadCells_list (P := P) w ad (ns.map (Value.int .u8)) hc
    simp only [List.length_map, hlen] at hl
    rw [run_bytesToString w ad len cap ns hl, push_foldl, hbs]
    rfl
  unfold sliceBytes at h
  split at h
  · cases ha.raw_inv; cases h; rfl
  · obtain ⟨ad, cap, rfl⟩ := ha.emp_inv
    cases h
    exact core ad 0 cap [] rfl (by simp) rfl
  · obtain ⟨l, hl, rfl⟩ := ha.slc_inv
    split at h
    · rename_i vs hv
      obtain ⟨xs, h1, h2, h3, h4⟩ := loadB_spec hr hl hv
      obtain ⟨ns, e1, e2⟩ := bytesOf_spec h h1
      subst e1
      exact core _ _ _ ns (by simpa using h2) (fun j y hj => by rw [addr_add]; exact h4 j y hj) e2
    · cases h
  · obtain ⟨l, cap, hl, _, _, _, rfl⟩ := ha.slu_inv
    split at h
    · rename_i vs hv
      obtain ⟨xs, h1, h2, h3, h4⟩ := loadB_spec hr hl hv
      obtain ⟨ns, e1, e2⟩ := bytesOf_spec h h1
      subst e1
      exact core _ _ _ ns (by simpa using h2) (fun j y hj => by rw [addr_add]; exact h4 j y hj) e2
    · cases h
  · cases h

end
end Go.Proofs.YtkoahnikmckgnaaGreatDoor.Ws

/- Conversions; all operations that may make a block. -/
namespace Go.Proofs.YtkoahnikmckgnaaGreatDoor.Ws
open Go Go.RowKit

section
variable {P : Program} {W0 : World} {E : Env} {L : LM} {H : AH} {w : World}

theorem bytesOfList (s : ByteArray) : VRs L (s.data.toList.map fun b => AV.raw (.int .u8 b.toNat)) (s.data.map fun b => Value.int .u8 b.toNat).toList := by
  rw [Array.toList_map]
  generalize s.data.toList = l
  induction l with
  | nil => exact .nil
  | cons b l ih => exact .cons (.raw _) ih

theorem allOne_bytes (l : List UInt8) : allOne (l.map fun b => AV.raw (.int .u8 b.toNat)) = true := by
  induction l with
  | nil => rfl
  | cons b l ih => simp [allOne, AV.isOne, ih]

theorem stringToBytes_run {e : TypeId} (s : ByteArray) :
    AlcOk P L w ((Conv.stringToBytes e s).run P w) (.blk (fun id => .slu id 0 s.size 1) (.cells (s.data.toList.map fun b => AV.raw (.int .u8 b.toNat)).length (fillT 0 (s.data.toList.map fun b => .raw (.int .u8 b.toNat)) .e) true)) := by
  generalize hq : (Question.appendCap s.size 0 e).cut (w.tape w.drawn (Question.appendCap s.size 0 e)) = cap
  have hcap : s.size ≤ cap := by rw [← hq]; simp [Question.cut]
  let c : Array Value := (s.data.map fun b => Value.int .u8 b.toNat) ++ Array.replicate (cap - s.size) (.int .u8 0)
  have hcs : c.size = cap := by simp [c]; have : s.data.size = s.size := rfl; omega
  let w1 : World := { w with drawn := w.drawn + 1, heap := w.heap.push (.cells c e) }
  have hrun : (Conv.stringToBytes e s).run P w = .ok (.slice (some ⟨w.heap.size, 0, none⟩) s.size cap) (w1.freeze ⟨w.heap.size, cap, none⟩ 1) := by
    unfold Conv.stringToBytes
    simp only [Sem.run_bind, run_choose, Question.forced, Bool.false_eq_true, if_false, Result.andThen_ok, hq, run_newRow]
    simp only [markStringish, Sem.run_bind, run_shape]
    have hs : w1.shape? w.heap.size = some (e, cap) := by
      simp [World.shape?, w1, hcs]
    simp only [World.shape?] at hs ⊢
    simp only [w1, c] at hs ⊢
    simp [hs]
    rw [show s.size + (cap - s.size) = cap by omega]
  refine ⟨_, _, ⟨w.heap.size, 0, cap⟩, hrun, ⟨rfl, rfl, rfl, ?_, ?_⟩, rfl, ?_, ?_⟩
  · simp [World.freeze, w1]
  · intro k hk
    simp only [World.freeze, w1]
    simp only [Nat.one_ne_zero, if_false, Array.getElem?_modify]
    rw [if_neg (by omega), Array.getElem?_push, if_neg (by omega)]
  · have hb : (w1.freeze ⟨w.heap.size, cap, none⟩ 1).heap[w.heap.size]? = some (.cells c e (cap, cap + 1)) := by
      show ((w.heap.push (.cells c e)).modify w.heap.size _)[w.heap.size]? = _
      rw [Array.getElem?_modify, if_pos rfl, Array.getElem?_push, if_pos rfl]
      rfl
    have := BR.of_row (L := L) (g := true) (b := w.heap.size) hb (.inr (by simp [hcs])) (bytesOfList s) (allOne_bytes _) (fun i x hx => by
      simp only [c]
      rw [Array.getElem?_append_left]
      · simpa using hx
      · have := (List.getElem?_eq_some_iff.1 hx).1
        simpa using this) (by simp [c])
    rw [hcs] at this
    exact this
  · intro L' _ id hid
    have := VR.slu (off := 0) (len := s.size) (sz := 1) (cap := cap) hid (by omega) (by simp) hcap
    simpa using this

theorem convert_run (hE : E.Ok P W0) (hr : HR W0 L H w) {src dst : TypeId} {a : AV} {x : Value} {r : AlcR} (h : aconvert E H src dst a = some r) (ha : VR L a x) :
    AlcOk P L w ((convert src dst x).run P w) r := by
  unfold aconvert at h
  split at h
  · rename_i sd si dd di hs ht
    obtain ⟨hsd, _⟩ := hE.ti _ _ _ hs
    obtain ⟨hdd, _⟩ := hE.ti _ _ _ ht
    split at h
    · rename_i k k' n
      cases ha.raw_inv
      cases h
      refine ⟨.int k (k.wrap n), ?_, by rw [wrapFast_eq]; exact .raw _⟩
      simp only [convert, Sem.run_bind, run_under' hsd, run_under' hdd, Result.andThen_ok]
      cases sd <;> rfl
    · rename_i k' n
      cases ha.raw_inv
      cases h
      refine ⟨_, ?_, .raw _⟩
      simp only [convert, Sem.run_bind, run_under' hsd, run_under' hdd, Result.andThen_ok]
      cases sd <;> rfl
    · rename_i s
      cases ha.raw_inv
      split at h
      · cases h
        refine ⟨_, ?_, .raw _⟩
        simp only [convert, Sem.run_bind, run_under' hsd, run_under' hdd, Result.andThen_ok]
        rfl
      · cases h
    · rename_i e s
      cases ha.raw_inv
      split at h
      · rename_i ei he
        obtain ⟨hed, _⟩ := hE.ti _ _ _ he
        obtain ⟨h1, rfl⟩ := alcCells_spec h
        have := stringToBytes_run (P := P) (L := L) (w := w) (e := e) s
        have hc : (convert src dst (.string s)).run P w = (Conv.stringToBytes e s).run P w := by
          simp only [convert, Sem.run_bind, run_under' hsd, run_under' hdd, Result.andThen_ok, run_under' hed]
        rw [hc]
        exact this
      · cases h
    · split at h
      · rename_i e
        split at h
        · rename_i ei he
          obtain ⟨hed, _⟩ := hE.ti _ _ _ he
          split at h
          · rename_i bs hb
            cases h
            refine ⟨_, ?_, .raw _⟩
            have hx : ∃ p n c, x = .slice p n c := by
              unfold sliceBytes at hb
              split at hb
              · cases ha.raw_inv; exact ⟨_, _, _, rfl⟩
              · obtain ⟨_, _, rfl⟩ := ha.emp_inv; exact ⟨_, _, _, rfl⟩
              · obtain ⟨_, _, rfl⟩ := ha.slc_inv; exact ⟨_, _, _, rfl⟩
              · obtain ⟨_, _, _, _, _, _, rfl⟩ := ha.slu_inv; exact ⟨_, _, _, rfl⟩
              · cases hb
            have hb' := bytesToString_run (P := P) hr hb ha
            obtain ⟨p, n, c, rfl⟩ := hx
            rw [← hb']
            simp only [convert, Sem.run_bind, run_under' hsd, run_under' hdd, Result.andThen_ok]
            cases p <;> simp only [Sem.run_bind, run_under' hed, Result.andThen_ok]
          · cases h
        · cases h
      · cases h
    · cases h
  · cases h

/-- the same, as the machine sees it -/
def AlcNext (L : LM) (w : World) (r : Result Next) : AlcR → Prop
  | .val v => ∃ x, r = .ok (.value x) w ∧ VR L v x
  | .blk f b => ∃ x w' l, r = .ok (.value x) w' ∧ Made w w' ∧ l.b = w.heap.size ∧ BR L w' l b ∧ ∀ L', LE L L' → ∀ id, L' id = some l → VR L' (f id) x

theorem AlcOk.next {s : Sem Value} {r : AlcR} (h : AlcOk P L w (s.run P w) r) : AlcNext L w ((do pure (.value (← s)) : Sem Next).run P w) r := by
  cases r with
  | val v =>
    obtain ⟨x, h1, h2⟩ := h
    exact ⟨x, by simp [h1], h2⟩
  | blk f b =>
    obtain ⟨x, w', l, h1, h2⟩ := h
    exact ⟨x, w', l, by simp [h1], h2⟩

theorem makeMap_run {t : TypeId} {x : Option Value} (hu : ∃ k e, P.underlying t = some (.map k e)) (hx : x = none ∨ ∃ k n, x = some (.int k n)) :
    AlcOk P L w ((Instr.makeMap t x).run P w) (.blk (fun id => .map id) (.map [])) := by
  obtain ⟨k, e, hu⟩ := hu
  have hrun : (Instr.makeMap t x).run P w = .ok (.map (some w.heap.size)) { w with heap := w.heap.push (.map #[] 0) } := by
    rcases hx with rfl | ⟨k, n, rfl⟩
    · simp [Instr.makeMap]
    · simp [Instr.makeMap, run_under' hu, asInt, asIntOf]
  exact ⟨_, _, ⟨w.heap.size, 0, 0⟩, hrun, made_push w (.map #[] 0), rfl, ⟨#[], 0, by simp, .nil⟩, fun L' _ id hid => VR.map hid⟩

theorem range_run {t : TypeId} {s : ByteArray} {x : Value} (hu : P.underlying t = some .string) (hx : x = .string s) :
    AlcOk P L w ((Instr.range t x).run P w) (.blk (fun id => .ptr id 0) (.iter s 0)) := by
  subst hx
  have hrun : (Instr.range t (.string s)).run P w = .ok (.pointer (some ⟨w.heap.size, 0, none⟩)) { w with heap := w.heap.push (.stringIter s 0) } := by
    simp [Instr.range, run_under' hu]
  exact ⟨_, _, ⟨w.heap.size, 0, 0⟩, hrun, made_push w (.stringIter s 0), rfl, ⟨rfl, by simp⟩, fun L' _ id hid => by simpa using VR.ptr (off := 0) hid⟩

theorem aalc_run (hE : E.Ok P W0) (hr : HR W0 L H w) {o : Oper} {ev : Operand → Option AV} {ρ : Operand → Value} (hev : ∀ x ∈ o.op.operands, ∀ v, ev x = some v → VR L v (ρ x))
    {r : AlcR} (h : aalc E ev H o.op = some r) : AlcNext L w ((execOp ρ o).run P w) r := by
  obtain ⟨dst, op, type, pos, after, guard⟩ := o
  cases op <;> simp only [Op.operands] at hev <;> simp only [aalc] at h <;> (try (cases h; done)) <;> simp only [execOp]
  case alloc t =>
    split at h
    · rename_i d i ht
      split at h
      · rename_i z hz
        exact (alloc_run hE ht hz h).next
      · cases h
    · cases h
  case box t x =>
    split at h
    · rename_i v hv
      exact (box_run (hev x (by simp) v hv) h).next
    · cases h
  case buildSlice t n parts =>
    split at h
    · rename_i ps hps
      have hp := evalParts_spec (L := L) (ρ := ρ) (fun x hx => hev x (by simpa using hx)) hps
      have hb := buildSlice_run (P := P) (w := w) (parts' := parts.map fun (i, x) => (i, ρ x)) hE h (by simpa using hp)
      exact hb.next
    · cases h
  case convert s d x =>
    split at h
    · rename_i a ha
      exact (convert_run hE hr h (hev x (by simp) _ ha)).next
    · cases h
  case makeMap t r' =>
    split at h
    · rename_i k e ti ho ht
      cases h
      have o1 := optEv_spec (L := L) (ρ := ρ) (fun y hy => hev y (by subst hy; simp)) ho
      refine (makeMap_run ⟨_, _, (hE.ti _ _ _ ht).1⟩ ?_).next
      left
      generalize r'.map ρ = z at o1 ⊢
      cases o1; rfl
    · rename_i k n k' e ti ho ht
      cases h
      have o1 := optEv_spec (L := L) (ρ := ρ) (fun y hy => hev y (by subst hy; simp)) ho
      refine (makeMap_run ⟨_, _, (hE.ti _ _ _ ht).1⟩ ?_).next
      right
      generalize r'.map ρ = z at o1 ⊢
      cases o1 with
      | some hv => exact ⟨_, _, by rw [hv.raw_inv]⟩
    · cases h
  case makeSlice t l c =>
    split at h
    · rename_i a b ha hb
      exact (makeSlice_run hE h (hev l (by simp) _ ha) (hev c (by simp) _ hb)).next
    · cases h
  case range t x =>
    split at h
    · rename_i s ti ha ht
      cases h
      have hx := (hev x (by simp) _ ha).raw_inv
      exact (range_run (hE.ti _ _ _ ht).1 hx).next
    · cases h

end
end Go.Proofs.YtkoahnikmckgnaaGreatDoor.Ws
