/- append and copy: the abstract operations. -/
import Derived.Test.YtkoahnikmckgnaaGreatDoorWsH
set_option linter.unusedSimpArgs false
set_option linter.unusedVariables false
namespace Go.Proofs.YtkoahnikmckgnaaGreatDoor.Ws
open Go Go.RowKit

section
variable {P : Program} {W0 : World} {E : Env} {L : LM} {H : AH} {w : World}

theorem appSrc_run (hE : E.Ok P W0) (hr : HR W0 L H w) {e xt : TypeId} {xd : TypeDesc} {xi i : TypeInfo} {a : AV} {y : Value} {n : Nat} {new : List AV} (hxt : E.ti xt = some (xd, xi))
    (h : appSrc H xd i a = some (n, new)) (ha : VR L a y) (hn : new.length = n * i.size) (hz : ∀ z, zeroCellsA i = some z → z.length = i.size) :
    ∃ xs, VRs L new xs ∧ Src P w e xt i y n xs := by
  obtain ⟨hd, _⟩ := hE.ti _ _ _ hxt
  unfold appSrc at h
  split at h
  · rename_i k
    split at h
    · rename_i m z hzc
      split at h
      · rename_i b1 b2
        cases h
        cases ha.raw_inv
        obtain ⟨zv, hzv, hv, _⟩ := zeroCells_spec (L := L) hzc
        have hrep := repeat_spec hv n
        have hzl := hz _ hzc
        have hsz : zv.cells.size = z.length := by have := hv.length; simp at this; omega
        by_cases h0 : n * i.size = 0
        · have : repeatL z n = [] := List.eq_nil_of_length_eq_zero (by rw [hn, h0])
          rw [this]
          exact ⟨[], .nil, .zeros hd rfl (ble_true b1) (ble_true b2) hzv (by rw [if_pos h0])⟩
        · refine ⟨_, hrep, .zeros hd rfl (ble_true b1) (ble_true b2) hzv ?_⟩
          rw [if_neg h0]
          unfold Builtin.zeroCells
          rw [hsz]
      · cases h
    · cases h
  · rename_i hk
    obtain ⟨xs, h1, h2⟩ := srcCells_run (P := P) hr h ha hn
    exact ⟨xs, h1, .plain hd (fun k e => by subst e; exact hk _ rfl) h2⟩

theorem firstCells_of {s n m cap : Nat} {a : Addr} {xs : List Value} (hl : xs.length = n * s) (hx : ∀ (j : Nat) x, xs[j]? = some x → w.cell? (a.add j) = some x) (W : World) (hW : W.heap = w.heap) :
    (Builtin.firstCells s n (.slice (some a) m cap)).run P W = .ok xs.toArray W := by
  have := run_loadCells_list (P := P) W a xs (fun j x hj => by rw [cell_heap hW]; exact hx j x hj)
  rw [hl] at this
  simpa [Builtin.firstCells] using this

theorem newCells_spec {l : List AV} {g : Bool} {id : Nat} {H' : AH} (h : newCells H l g = some (id, H')) : allOne l = true ∧ id = H.next ∧ H' = H.new (.cells l.length (fillT 0 l .e) g) := by
  unfold newCells cellsBlk at h
  cases ho : allOne l with
  | false => rw [ho] at h; cases h
  | true =>
    rw [ho] at h
    obtain ⟨h1, h2, _⟩ := newBlk_spec h
    exact ⟨rfl, h1, h2⟩

theorem size_zeroCells' (z : Array Value) (n : Nat) : (Builtin.zeroCells z n).size = n * z.size := by simp [Builtin.zeroCells]

/-- Append makes a new row. -/
theorem append_fresh (hr : HR W0 L H w) (hd : HD L H) {st e xt ty : TypeId} {i : TypeInfo} {z : Value} (hst : P.underlying st = some (.slice e)) (hi : P.info? e = some i) (hz : i.zero = some z) (hzs : z.cells.size = i.size)
    (hs0 : 0 < i.size) {x : Value} {n : Nat} {xs : List Value} (hs : Src P w e xt i x n xs) {base : Option Addr} {sLen sCap : Nat} {old new : List AV} {ys : List Value} (hlt : sCap < sLen + n)
    (hb : (sLen + n) * (i.bytes + 1) ≤ 35184372088832) (hold : ∀ W : World, W.heap = w.heap → (Builtin.firstCells i.size sLen (.slice base sLen sCap)).run P W = .ok ys.toArray W)
    (hv : VRs L old ys) (hyl : ys.length = sLen * i.size) (hn : VRs L new xs) (hxl : xs.length = n * i.size) {id : Nat} {H' : AH} (hc : newCells H (old ++ new) true = some (id, H')) :
    ∃ y w' L', (Builtin.append_ #[st, xt] ty #[.slice base sLen sCap, x]).run P w = .ok y w' ∧ LE L L' ∧ HR W0 L' H' w' ∧ HD L' H' ∧ VR L' (.slu id 0 (sLen + n) i.size) y := by
  obtain ⟨cap, hcap, hrun⟩ := append_new (ty := ty) hst hi hz hs hlt hb hold
  obtain ⟨h1, rfl, rfl⟩ := newCells_spec hc
  have hvv := hv.append hn
  have hcs : ((ys ++ xs).toArray ++ Builtin.zeroCells z.cells (cap - (sLen + n))).size = cap * i.size := by
    rw [Array.size_append, size_zeroCells', hzs]
    simp only [List.size_toArray, List.length_append, hyl, hxl]
    rw [← Nat.add_mul, ← Nat.add_mul]
    congr 1
    omega
  have hlen := hvv.length
  have hbr := BR.of_row (L := L) (g := true) (w := { w with drawn := w.drawn + 1, heap := w.heap.push (.cells ((ys ++ xs).toArray ++ Builtin.zeroCells z.cells (cap - (sLen + n))) e) })
    (b := w.heap.size) (c := (ys ++ xs).toArray ++ Builtin.zeroCells z.cells (cap - (sLen + n))) (t := e) (fr := (0, 0)) (by simp) (.inl (Nat.le_refl _)) hvv h1
    (fun i x hx => by
      rw [Array.getElem?_append_left]
      · simpa using hx
      · have := (List.getElem?_eq_some_iff.1 hx).1
        simpa using this)
    (by rw [hlen]; simp only [Array.size_append, List.size_toArray]; omega)
  have hm : Made w { w with drawn := w.drawn + 1, heap := w.heap.push (.cells ((ys ++ xs).toArray ++ Builtin.zeroCells z.cells (cap - (sLen + n))) e) } :=
    ⟨rfl, rfl, rfl, by simp, fun k hk => by simp only [Array.getElem?_push]; rw [if_neg (by omega)]⟩
  obtain ⟨g1, g2, g3⟩ := hr.fresh hd hm rfl hbr
  refine ⟨_, _, _, hrun, g1, g2, g3, ?_⟩
  have := VR.slu (off := 0) (len := sLen + n) (sz := i.size) (cap := cap) (LM.set_same (L := L) (id := H.next) (l := ⟨w.heap.size, 0, ((ys ++ xs).toArray ++ Builtin.zeroCells z.cells (cap - (sLen + n))).size⟩)) hs0 (by show 0 + cap * i.size = ((ys ++ xs).toArray ++ Builtin.zeroCells z.cells (cap - (sLen + n))).size; rw [hcs]; omega) hcap
  exact this

theorem storeCells_ok (hr : HR W0 L H w) {id m : Nat} {cs cs' : T AV} {g : Bool} {l : Loc} (hg : H.get id = some (.cells m cs g)) (hl : L id = some l) {off : Nat} {new : List AV} {xs : List Value} (hn : VRs L new xs)
    (hs : storeN m cs off new = some cs') : (storeCells ⟨l.b, l.o + off, none⟩ xs).run P w = .ok () (w.setCells l.b (l.o + off) xs) ∧ HR W0 L (H.set id (.cells m cs' g)) (w.setCells l.b (l.o + off) xs) := by
  obtain ⟨h1, h2, h3⟩ := storeN_spec hl new xs H w cs cs' off hr hg hn hs
  have hbr := hr.blk _ _ _ hg hl
  have hin : ∀ j, j < xs.length → off + j < m := by
    intro j hj
    rw [if_neg (by omega)] at h3
    omega
  have hst := run_storeCells_cells (P := P) l.b (l.o + off) xs 0 w
    (fun j hj => by
      obtain ⟨u, z, _, _, _, hz, _⟩ := hbr.cell (hin j hj)
      rw [show l.o + off + 0 + j = l.o + (off + j) by omega, hz]; rfl)
    (fun j hj => by
      obtain ⟨u, z, _, _, _, _, hz⟩ := hbr.cell (hin j hj)
      rw [show l.o + off + 0 + j = l.o + (off + j) by omega, hz]) h2
  simp only [Nat.add_zero] at hst
  exact ⟨hst, h1⟩

theorem appendTo_run (hr : HR W0 L H w) (hd : HD L H) {st e xt ty : TypeId} {i : TypeInfo} {z : Value} (hst : P.underlying st = some (.slice e)) (hi : P.info? e = some i) (hz : i.zero = some z) (hzs : z.cells.size = i.size)
    (hs0 : 0 < i.size) {y : Value} {n : Nat} {new : List AV} {xs : List Value} (hs : Src P w e xt i y n xs) (hn : VRs L new xs) (hnl : new.length = n * i.size) (hn1 : allOne new = true)
    {s v : AV} {x : Value} {H' : AH} (hx : VR L s x) (h : appendTo H s n new i = some (v, H')) :
    ∃ u w' L', (Builtin.append_ #[st, xt] ty #[x, y]).run P w = .ok u w' ∧ LE L L' ∧ HR W0 L' H' w' ∧ HD L' H' ∧ VR L' v u := by
  have hxl : xs.length = n * i.size := by rw [← hn.length, hnl]
  unfold appendTo at h
  split at h
  · -- nothing
    have hxs : xs = [] := List.eq_nil_of_length_eq_zero (by rw [hxl]; simp)
    subst hxs
    split at h
    · cases hx.raw_inv; cases h
      exact ⟨_, w, L, append_in (base := none) hst hi hs (Nat.le_refl _) rfl, LE.refl _, hr, hd, .raw _⟩
    · obtain ⟨l, hl, rfl⟩ := hx.slc_inv
      split at h
      · rename_i hb
        cases h
        exact ⟨_, w, L, append_in (base := some _) hst hi hs (by simpa using ble_true hb) (by simp [storeCells]), LE.refl _, hr, hd, hx⟩
      · cases h
    · obtain ⟨l, cap, hl, h1, h2, h3, rfl⟩ := hx.slu_inv
      cases h
      exact ⟨_, w, L, append_in (base := some _) hst hi hs (by simpa using h3) (by simp [storeCells]), LE.refl _, hr, hd, hx⟩
    · cases h
  · rename_i n
    split at h
    · -- nil
      cases hx.raw_inv
      split at h
      · rename_i id H1 hb hc
        cases h
        have := append_fresh (ty := ty) (base := none) (sLen := 0) (sCap := 0) (old := []) (ys := []) hr hd hst hi hz hzs hs0 hs (by omega) (by simpa using ble_true hb) (fun W _ => rfl) .nil (by simp) hn hxl (by simpa using hc)
        simpa using this
      · cases h
    · -- exact capacity
      rename_i id off len cap
      obtain ⟨l, hl, rfl⟩ := hx.slc_inv
      split at h
      · rename_i hb
        split at h
        · rename_i m cs g hg
          split at h
          · rename_i cs' hsn
            cases h
            obtain ⟨h1, h2⟩ := storeCells_ok (P := P) hr hg hl hn hsn
            refine ⟨_, _, L, append_in (base := some _) hst hi hs (ble_true hb) ?_, LE.refl _, h2, hd, .slc hl⟩
            simp only [addr_add]
            rw [Nat.add_assoc]
            exact h1
          · cases h
        · cases h
      · rename_i hnb
        have hlt : cap < len + (n + 1) := by
          rcases Nat.lt_or_ge cap (len + (n + 1)) with h' | h'
          · exact h'
          · rw [Nat.ble_eq_true_of_le h'] at hnb; cases hnb
        split at h
        · rename_i old hb hlo
          split at h
          · rename_i id' H1 hc
            cases h
            obtain ⟨ys, g1, g2, g3, g4⟩ := loadB_spec hr hl hlo
            exact append_fresh (ty := ty) (base := some ⟨l.b, l.o + off, none⟩) hr hd hst hi hz hzs hs0 hs hlt (ble_true hb)
              (firstCells_of (by simpa using g2) (fun j x hj => by rw [addr_add]; exact g4 j x hj)) g1 g2 hn hxl hc
          · cases h
        · cases h
    · -- growing
      rename_i id off len sz
      obtain ⟨l, cap, hl, k1, k2, k3, rfl⟩ := hx.slu_inv
      split at h
      · rename_i hsz
        have hsz := beq_true hsz
        subst hsz
        unfold appendGrow at h
        split at h
        · rename_i m cs g hg
          have hbr := hr.blk _ _ _ hg hl
          split at h
          · rename_i hb
            have hb := ble_true hb
            split at h
            · rename_i cs' hsn
              cases h
              have hme : m ≤ l.e := by obtain ⟨c, t, fr, _, _, h3, _⟩ := hbr; exact h3
              have hfit : len + (n + 1) ≤ cap := by
                have : (len + (n + 1)) * i.size ≤ cap * i.size := by omega
                exact Nat.le_of_mul_le_mul_right this k1
              obtain ⟨h1, h2⟩ := storeCells_ok (P := P) hr hg hl hn hsn
              refine ⟨_, _, L, append_in (base := some _) hst hi hs hfit ?_, LE.refl _, h2, hd, .slu hl k1 k2 hfit⟩
              simp only [addr_add]
              rw [Nat.add_assoc]
              exact h1
            · cases h
          · split at h
            · rename_i old hb hlo
              split at h
              · rename_i id' H1 hc
                cases h
                obtain ⟨ys, g1, g2, g3, g4⟩ := loadB_spec hr hl hlo
                by_cases hfit : len + (n + 1) ≤ cap
                · obtain ⟨c1, rfl, rfl⟩ := newCells_spec hc
                  have hm5 : (len + (n + 1)) * i.size ≤ cap * i.size := Nat.mul_le_mul_right _ hfit
                  rw [Nat.add_mul] at hm5
                  have hxl5 : xs.length = (n + 1) * i.size := hxl
                  have hnl5 : new.length = (n + 1) * i.size := hnl
                  have hroom : off + len * i.size + new.length ≤ l.e := by
                    rw [hnl5]
                    omega
                  obtain ⟨m1, m2, m3⟩ := hr.moved (g' := true) hd hg hl (off := off) (k := len * i.size) g1 g3 g4 (by rw [g1.length, g2]) hn hn1 hroom
                  refine ⟨_, _, _, append_in (base := some _) hst hi hs hfit ?_, m2, m1, m3, ?_⟩
                  · simp only [addr_add]
                    have hst' := run_storeCells_cells (P := P) l.b (l.o + off + len * i.size) xs 0 w
                      (fun j hj => by
                        have hnl' : off + len * i.size + j < l.e := by rw [hxl5] at hj; omega
                        obtain ⟨z, hz, _⟩ := hbr.room (i := off + len * i.size + j) hnl'
                        rw [show l.o + off + len * i.size + 0 + j = l.o + (off + len * i.size + j) by omega, hz]; rfl)
                      (fun j hj => by
                        have hnl' : off + len * i.size + j < l.e := by rw [hxl5] at hj; omega
                        obtain ⟨z, _, hz⟩ := hbr.room (i := off + len * i.size + j) hnl'
                        rw [show l.o + off + len * i.size + 0 + j = l.o + (off + len * i.size + j) by omega, hz])
                      (hn.ones hn1)
                    simpa using hst'
                  · have := VR.slu (off := 0) (len := len + (n + 1)) (sz := i.size) (cap := cap) (LM.set_same (L := L) (id := H.next) (l := ⟨l.b, l.o + off, l.e - off⟩)) k1 (by simp only; omega) hfit
                    change VR _ (.slu H.next 0 _ _) _
                    simpa using this
                · have hr' := hr.del id
                  have hd' := HD.del hd id
                  exact append_fresh (ty := ty) (base := some ⟨l.b, l.o + off, none⟩) hr' hd' hst hi hz hzs hs0 hs (by omega) (ble_true hb)
                    (firstCells_of (by simpa using g2) (fun j x hj => by rw [addr_add]; exact g4 j x hj)) g1 g2 hn hxl hc
              · cases h
            · cases h
        · cases h
      · cases h
    · cases h

theorem append_run (hE : E.Ok P W0) (hr : HR W0 L H w) (hd : HD L H) {ts : Array TypeId} {ty : TypeId} {args : List AV} {v : AV} {H' : AH} {xs : Array Value} (h : aappend E H ts.toList args = some (v, H')) (ha : VRs L args xs.toList) :
    ∃ u w' L', (Builtin.append_ ts ty xs).run P w = .ok u w' ∧ LE L L' ∧ HR W0 L' H' w' ∧ HD L' H' ∧ VR L' v u := by
  obtain ⟨ts⟩ := ts
  obtain ⟨xs⟩ := xs
  simp only at h ha
  unfold aappend at h
  split at h
  · rename_i st xt s x
    cases ha with
    | cons h1 h2 => cases h2 with
      | cons h2 h3 =>
        cases h3
        split at h
        · rename_i elem si xd xi hst hxt
          obtain ⟨hus, _⟩ := hE.ti _ _ _ hst
          split at h
          · rename_i ed i het
            obtain ⟨_, hi⟩ := hE.ti _ _ _ het
            split at h
            · rename_i z n new hzc hsrc
              split at h
              · rename_i b1 b2 b3 b4
                have b1 := beq_true b1
                have b3 := beq_true b3
                obtain ⟨zv, hzv, hv, _⟩ := zeroCells_spec (L := L) hzc
                have hzs : zv.cells.size = i.size := by have := hv.length; simp at this; omega
                obtain ⟨ys, g1, g2⟩ := appSrc_run (P := P) (e := elem) hE hr hxt hsrc h2 b3 (fun z' hz' => by rw [hzc] at hz'; cases hz'; exact b1)
                exact appendTo_run hr hd hus hi hzv hzs (blt_true b2) g2 g1 b3 b4 h1 h
              · cases h
            · cases h
          · cases h
        · cases h
  · cases h

end
end Go.Proofs.YtkoahnikmckgnaaGreatDoor.Ws

/- copy; all effects but calls. -/
namespace Go.Proofs.YtkoahnikmckgnaaGreatDoor.Ws
open Go Go.RowKit

section
variable {P : Program} {W0 : World} {E : Env} {L : LM} {H : AH} {w : World}

theorem srcFirst (hr : HR W0 L H w) {s n : Nat} {new : List AV} {a : AV} {y : Value} (h : srcCells H s a = some (n, new)) (ha : VR L a y) (hn : new.length = n * s) :
    ∃ xs, VRs L new xs ∧ (Builtin.lenOf y).run P w = .ok n w ∧ ∀ k, k ≤ n → (Builtin.firstCells s k y).run P w = .ok (xs.take (k * s)).toArray w := by
  unfold srcCells at h
  split at h
  · cases ha.raw_inv; cases h
    exact ⟨[], .nil, rfl, fun k _ => by simp [Builtin.firstCells]⟩
  · obtain ⟨ad, cap, rfl⟩ := ha.emp_inv
    cases h
    refine ⟨[], .nil, rfl, fun k hk => ?_⟩
    have : k = 0 := by omega
    subst this
    simp [Builtin.firstCells, loadCells, loadCellsFrom]
  · rename_i b
    cases ha.raw_inv; cases h
    refine ⟨_, bytesOfList b, rfl, fun k hk => ?_⟩
    have hsz : b.data.size = b.size := rfl
    have hks : k * s = k := by
      simp only [List.length_map, Array.length_toList, hsz] at hn
      rcases Nat.eq_zero_or_pos b.size with h0 | h0
      · have : k = 0 := by omega
        subst this; simp
      · have : s = 1 := by
          have := Nat.eq_of_mul_eq_mul_left h0 (show b.size * s = b.size * 1 by omega)
          exact this
        rw [this]; omega
    simp only [Builtin.firstCells, Sem.run_pure, hks]
    congr 1
    apply Array.toList_inj.1
    simp [ByteArray.data_extract, List.map_take]
  · obtain ⟨l, hl, rfl⟩ := ha.slc_inv
    split at h
    · rename_i vs hv
      cases h
      obtain ⟨xs, h1, h2, h3, h4⟩ := loadB_spec hr hl hv
      refine ⟨xs, h1, rfl, fun k hk => ?_⟩
      exact firstCells_of (by rw [List.length_take, h2]; exact Nat.min_eq_left (Nat.mul_le_mul_right _ hk)) (fun j x hj => by
        rw [addr_add]
        refine h4 j x ?_
        rw [List.getElem?_take] at hj
        split at hj
        · exact hj
        · cases hj) w rfl
    · cases h
  · obtain ⟨l, cap, hl, _, _, _, rfl⟩ := ha.slu_inv
    split at h
    · rename_i vs hv
      cases h
      obtain ⟨xs, h1, h2, h3, h4⟩ := loadB_spec hr hl hv
      refine ⟨xs, h1, rfl, fun k hk => ?_⟩
      exact firstCells_of (by rw [List.length_take, h2]; exact Nat.min_eq_left (Nat.mul_le_mul_right _ hk)) (fun j x hj => by
        rw [addr_add]
        refine h4 j x ?_
        rw [List.getElem?_take] at hj
        split at hj
        · exact hj
        · cases hj) w rfl
    · cases h
  · cases h

theorem copyTo_run (hr : HR W0 L H w) (hd : HD L H) {dt elem ty : TypeId} {tr : List TypeId} {i : TypeInfo} (hu : P.underlying dt = some (.slice elem)) (hi : P.info? elem = some i)
    {id off len cap n : Nat} {cells : List AV} {xs : List Value} {y : Value} {l : Loc} (hl : L id = some l) (hx : VRs L cells xs) (hlen : (Builtin.lenOf y).run P w = .ok n w)
    (hf : ∀ k, k ≤ n → (Builtin.firstCells i.size k y).run P w = .ok (xs.take (k * i.size)).toArray w) {v : AV} {H' : AH} (h : copyTo H id off len n i.size cells = some (v, H')) :
    ∃ u w' L', (Builtin.copy_ (dt :: tr).toArray ty #[.slice (some ⟨l.b, l.o + off, none⟩) len cap, y]).run P w = .ok u w' ∧ LE L L' ∧ HR W0 L' H' w' ∧ HD L' H' ∧ VR L' v u := by
  unfold copyTo at h
  split at h
  · rename_i m cs g hg
    split at h
    · rename_i cs' hs
      cases h
      have hxt : VRs L (cells.take (min n len * i.size)) (xs.take (min n len * i.size)) := hx.take _
      obtain ⟨h1, h2⟩ := storeCells_ok (P := P) hr hg hl hxt hs
      refine ⟨_, _, L, ?_, LE.refl _, h2, hd, .raw _⟩
      have hmin : Nat.min n len = min n len := rfl
      simp only [Builtin.copy_]
      simp [run_under' hu, hlen, run_size' hi, hmin, hf (min n len) (Nat.min_le_left _ _), h1]
      rfl
    · cases h
  · cases h

theorem copy_run (hE : E.Ok P W0) (hr : HR W0 L H w) (hd : HD L H) {ts : Array TypeId} {ty : TypeId} {args : List AV} {v : AV} {H' : AH} {xs : Array Value} (h : acopy E H ts.toList args = some (v, H')) (ha : VRs L args xs.toList) :
    ∃ u w' L', (Builtin.copy_ ts ty xs).run P w = .ok u w' ∧ LE L L' ∧ HR W0 L' H' w' ∧ HD L' H' ∧ VR L' v u := by
  obtain ⟨ts⟩ := ts
  obtain ⟨xs⟩ := xs
  simp only at h ha
  unfold acopy at h
  split at h
  · rename_i dt tr d x
    cases ha with
    | cons h1 h2 => cases h2 with
      | cons h2 h3 =>
        cases h3
        split at h
        · rename_i elem di hdt
          obtain ⟨hu, _⟩ := hE.ti _ _ _ hdt
          split at h
          · rename_i ed i het
            obtain ⟨_, hi⟩ := hE.ti _ _ _ het
            split at h
            · rename_i n cells hsrc
              split at h
              · rename_i id off len cap hb
                obtain ⟨l, hl, rfl⟩ := h1.slc_inv
                obtain ⟨ys, g1, g2, g3⟩ := srcFirst (P := P) hr hsrc h2 (beq_true hb)
                exact copyTo_run hr hd hu hi hl g1 g2 g3 h
              · rename_i id off len sz hb
                obtain ⟨l, cap, hl, _, _, _, rfl⟩ := h1.slu_inv
                obtain ⟨ys, g1, g2, g3⟩ := srcFirst (P := P) hr hsrc h2 (beq_true hb)
                exact copyTo_run hr hd hu hi hl g1 g2 g3 h
              · cases h
            · cases h
          · cases h
        · cases h
  · cases h

end
end Go.Proofs.YtkoahnikmckgnaaGreatDoor.Ws
