/- The reference's decimal numerals. -/
import Derived.Test.YtkoahnikmckgnaaGreatDoorWzU
import Derived.LoopTactic
import Derived.IntWalk
set_option linter.unusedSimpArgs false
set_option linter.unusedVariables false
namespace Go.Proofs.YtkoahnikmckgnaaGreatDoor.Ws
open Go Go.Proofs Go.RowKit
set_option maxRecDepth 100000

def strLen : Value → Nat
  | .string s => if s.size = 0 then 1 else 0
  | _ => 0

/-- what is left to write, and what has been written -/
def DecInv (n0 m : Nat) (L : List UInt8) : Prop := (L = [] ∧ m = n0) ∨ (L ≠ [] ∧ m = 0 ∧ L = Lib.decDigits n0) ∨ (L ≠ [] ∧ 0 < m ∧ Lib.decDigits m ++ L = Lib.decDigits n0)

def DecRel (n0 : Nat) (w : World) (n s : Value) (wr : World) : Prop := ∃ m : Nat, ∃ L : List UInt8, n = .int .i64 m ∧ s = .string ⟨L.toArray⟩ ∧ m ≤ n0 ∧ L.length ≤ 21 ∧ DecInv n0 m L ∧ Below w.heap.size w wr

def dg (m : Nat) : UInt8 := UInt8.ofNat (48 + m % 10)
def digB (m : Nat) : ByteArray := ⟨#[dg m]⟩
theorem digB_size (m : Nat) : (digB m).size = 1 := rfl
theorem digB_cat (m : Nat) (L : List UInt8) : digB m ++ ⟨L.toArray⟩ = (⟨(dg m :: L).toArray⟩ : ByteArray) := by
  apply ByteArray.ext
  rw [ByteArray.data_append]
  apply Array.ext'
  simp [digB]
theorem dg_int (m : Nat) : ((dg m).toNat : Int) = 48 + (m : Int) % 10 := by
  have e : (dg m).toNat = (48 + m % 10) % 2 ^ 8 := UInt8.toNat_ofNat'
  rw [e]
  omega

theorem heap_cell0 (wr : World) (x : Value) : (wr.alloc (Obj.cells #[x] 5)).cell? ⟨wr.heap.size, 0 + 0, none⟩ = some x := by
  have h : (wr.alloc (Obj.cells #[x] 5)).heap[wr.heap.size]? = some (Obj.cells #[x] 5) := Array.getElem?_push_size
  unfold World.cell?
  simp only [h]
  rfl

theorem conv_digit (m : Nat) (wr : World) : (convert 113 9 (Value.slice (some ⟨wr.heap.size, 0, none⟩) 1 1)).run Tryz.prog (wr.alloc (Obj.cells #[Value.int .u8 (48 + (m : Int) % 10)] 5)) =
    .ok (.string (digB m)) (wr.alloc (Obj.cells #[Value.int .u8 (48 + (m : Int) % 10)] 5)) := by
  have h := run_convert_bytes_back (P := Tryz.prog) (wr.alloc (Obj.cells #[Value.int .u8 (48 + (m : Int) % 10)] 5)) 113 9 5 ⟨wr.heap.size, 0, none⟩ 1 [dg m] Tryz.underlying113 Tryz.underlying5 Tryz.underlying9 (fun j hj => by
    have hj0 : j = 0 := by simpa using hj
    subst hj0
    rw [List.getElem_cons_zero, dg_int, addr_add]
    exact heap_cell0 wr _)
  exact h

/-- one more digit -/
theorem dec_step {n0 m : Nat} {L : List UInt8} (hn : n0 < 18446744073709551616) (h : (L = [] ∧ m = n0) ∨ (L ≠ [] ∧ 0 < m ∧ Lib.decDigits m ++ L = Lib.decDigits n0)) :
    DecInv n0 (m / 10) (dg m :: L) ∧ (dg m :: L).length ≤ 21 := by
  have hd : m < 10 → Lib.decDigits m = [dg m] := fun h => by
    rw [Lib.decDigits, dif_pos h]; unfold dg; rw [Nat.mod_eq_of_lt h]
  have hd2 : ¬ m < 10 → Lib.decDigits m = Lib.decDigits (m / 10) ++ [dg m] := fun h => by
    rw [Lib.decDigits, dif_neg h]; rfl
  have key : Lib.decDigits m ++ L = Lib.decDigits n0 := by
    rcases h with ⟨rfl, rfl⟩ | ⟨_, _, h⟩
    · simp
    · exact h
  have inv : DecInv n0 (m / 10) (dg m :: L) := by
    by_cases hm : m < 10
    · refine .inr (.inl ⟨by simp, by omega, ?_⟩)
      rw [← key, hd hm]; rfl
    · refine .inr (.inr ⟨by simp, by omega, ?_⟩)
      rw [← key, hd2 hm]; simp
  refine ⟨inv, ?_⟩
  have hlen : (Lib.decDigits n0).length ≤ 20 := by
    rw [Lib.decDigits_length]
    exact Lib.nDigits_le20 n0 hn
  rcases inv with ⟨h, _⟩ | ⟨_, _, h⟩ | ⟨_, _, h⟩
  · cases h
  · rw [h]; omega
  · rw [← h] at hlen
    simp only [List.length_append] at hlen
    omega

theorem strLen_nil : strLen (.string ⟨#[]⟩) = 1 := rfl
theorem strLen_cons (a : UInt8) (L : List UInt8) : strLen (.string ⟨(a :: L).toArray⟩) = 0 := rfl
theorem intOf_nat (m : Nat) : (intOf (.int .i64 (m : Int))).toNat = m := by simp [intOf]

theorem DecRel.step {n0 m : Nat} {L : List UInt8} {w wr : World} (hn : n0 ≤ 9223372036854775807) (hm : m ≤ n0) (h : (L = [] ∧ m = n0) ∨ (L ≠ [] ∧ 0 < m ∧ Lib.decDigits m ++ L = Lib.decDigits n0)) (hb : Below w.heap.size w wr) (x : Value) :
    DecRel n0 w (.int .i64 ((m : Int) / 10)) (.string (digB m ++ ⟨L.toArray⟩)) (wr.alloc (Obj.cells #[x] 5)) := by
  obtain ⟨h1, h2⟩ := dec_step (by omega) h
  exact ⟨m / 10, dg m :: L, rfl, by rw [digB_cat], by omega, h2, h1, hb.alloc hb.size _⟩

theorem dec_measure {m : Nat} {L : List UInt8} (h : L = [] ∨ (L ≠ [] ∧ 0 < m)) :
    (intOf (.int .i64 ((m : Int) / 10))).toNat + strLen (.string (digB m ++ ⟨L.toArray⟩)) < (intOf (.int .i64 (m : Int))).toNat + strLen (.string ⟨L.toArray⟩) := by
  rw [digB_cat, strLen_cons, intOf_nat, show ((m : Int) / 10) = ((m / 10 : Nat) : Int) by omega, intOf_nat]
  rcases h with rfl | ⟨h, hm⟩
  · rw [show strLen (.string ⟨([] : List UInt8).toArray⟩) = 1 from rfl]; omega
  · omega

set_option maxHeartbeats 1600000 in
theorem dec_nonneg (n0 : Nat) (hn : n0 ≤ 9223372036854775807) (w : World) :
    Calls Tryz.prog 14 #[.int .i64 (n0 : Int)] w fun e w' => e = .returned (.string ⟨(Lib.itoa (n0 : Int)).toArray⟩) ∧ Below w.heap.size w w' := by
  have hm0 : decide ((n0 : Int) < 0) = false := by simp
  go_enter Tryz.func14, Tryz.ntmps14
  go_wp2
  go_loopw [0, 3] (fun n s wr => DecRel n0 w n s wr) (fun n s _ => (intOf n).toNat + strLen s)
  case atStart => exact ⟨n0, [], rfl, rfl, Nat.le_refl _, by simp, .inl ⟨rfl, rfl⟩, Below.refl _ _⟩
  case round =>
    obtain ⟨m, L, rfl, rfl, hm, hL, hI, hb⟩ := hrel
    have hconv := conv_digit m wr
    have hnl : ¬ 9223372036854775807 < (digB m).size + L.length := by rw [digB_size]; omega
    rcases hI with ⟨rfl, rfl⟩ | ⟨h1, rfl, h2⟩ | ⟨h1, h2, h3⟩
    · go_wp2
      exact ⟨DecRel.step hn hm (.inl ⟨rfl, rfl⟩) hb _, dec_measure (.inl rfl)⟩
    · obtain ⟨a, L', rfl⟩ := List.exists_cons_of_ne_nil h1
      have H2 := Lib.hid h2
      clear h2
      go_wp2
      go_ret
      refine ⟨?_, hb⟩
      rw [H2.out, Lib.itoa_nonneg]
      rfl
    · obtain ⟨a, L', rfl⟩ := List.exists_cons_of_ne_nil h1
      have h2' : (0 : Int) < (m : Int) := by omega
      have H3 := Lib.hid h3
      clear h3
      go_wp2
      exact ⟨DecRel.step hn hm (.inr ⟨h1, h2, H3.out⟩) hb _, dec_measure (.inr ⟨h1, h2⟩)⟩

theorem dec_neg (u : Nat) (hu : 0 < u) (h : u ≤ 1099511627776) (w : World) :
    Calls Tryz.prog 14 #[.int .i64 (-(u : Int))] w fun e w' => e = .returned (.string ⟨(Lib.itoa (-(u : Int))).toArray⟩) ∧ Below w.heap.size w w' := by
  have hl : (Lib.itoa (u : Int)).length ≤ 21 := Lib.itoa_length_le _ (by omega) (by omega)
  have hq : ¬ 9223372036854775807 < 1 + (Lib.itoa (u : Int)).length := by omega
  have hneg : decide (-(u : Int) < 0) = true := by simp; omega
  have e : ({ data := #[45] } ++ { data := (Lib.itoa (u : Int)).toArray } : ByteArray) = ⟨(Lib.itoa (-(u : Int))).toArray⟩ := by
    rw [Lib.itoa_neg u hu, Lib.itoa_nonneg]
    apply ByteArray.ext
    rw [ByteArray.data_append]
    apply Array.ext'
    simp
  have E := Lib.hid e
  clear e
  go_enter Tryz.func14, Tryz.ntmps14
  go_wp2_with (go_at_call 14; refine (dec_nonneg u (by omega) _).mono ?_; rintro e w' ⟨rfl, hb⟩)
  go_ret
  refine ⟨?_, hb⟩
  rw [← E.out]
  rfl

theorem dec_any (n : Int) (h0 : -1099511627776 ≤ n) (h1 : n ≤ 9223372036854775807) (w : World) :
    Calls Tryz.prog 14 #[.int .i64 n] w fun e w' => e = .returned (.string ⟨(Lib.itoa n).toArray⟩) ∧ Below w.heap.size w w' := by
  by_cases hn : n < 0
  · obtain ⟨u, rfl⟩ : ∃ u : Nat, n = -(u : Int) := ⟨n.natAbs, by omega⟩
    exact dec_neg u (by omega) (by omega) w
  · obtain ⟨u, rfl⟩ : ∃ u : Nat, n = u := ⟨n.toNat, by omega⟩
    exact dec_nonneg u (by omega) w

end Go.Proofs.YtkoahnikmckgnaaGreatDoor.Ws
