/- The law: VerifyText returns true. -/
import Derived.Test.YtkoahnikmckgnaaGreatDoorWzW
set_option linter.unusedSimpArgs false
set_option linter.unusedVariables false
namespace Go.Proofs.YtkoahnikmckgnaaGreatDoor.Ws
open Go Go.Proofs Go.RowKit
set_option maxRecDepth 100000

def boxed (w : World) (k b s c : Int) : World := w.alloc (Obj.cells #[Value.int IntKind.i64 k, Value.int IntKind.i64 b, Value.int IntKind.i64 s, Value.int IntKind.i64 c] 24)
theorem boxed_cell (w : World) (k b s c : Int) (o : Nat) : (boxed w k b s c).cell? ⟨w.heap.size, o, none⟩ = (#[Value.int IntKind.i64 k, Value.int IntKind.i64 b, Value.int IntKind.i64 s, Value.int IntKind.i64 c] : Array Value)[o]? := by
  have h : (boxed w k b s c).heap[w.heap.size]? = some (Obj.cells #[Value.int IntKind.i64 k, Value.int IntKind.i64 b, Value.int IntKind.i64 s, Value.int IntKind.i64 c] 24) := Array.getElem?_push_size
  unfold World.cell?
  simp only [h]
  rfl
theorem boxed_rest {w : World} (hw : Tab w) (k b s c : Int) : Rest w (boxed w k b s c) :=
  ⟨(Below.refl _ _).alloc (Nat.le_refl _) _, by simp [boxed], hw.up ((Below.refl _ _).alloc (Nat.le_refl _) _)⟩
theorem boxed_keeps {w w1 : World} (hw : Tab w) {k b s c : Int} (hb : Below (boxed w k b s c).heap.size (boxed w k b s c) w1) :
    w1.cell? ⟨w.heap.size, 0, none⟩ = some (.int .i64 k) ∧ w1.cell? ⟨w.heap.size, 1, none⟩ = some (.int .i64 b) ∧ w1.cell? ⟨w.heap.size, 2, none⟩ = some (.int .i64 s) ∧ w1.cell? ⟨w.heap.size, 3, none⟩ = some (.int .i64 c) ∧ Rest w w1 :=
  keepS ⟨boxed_cell w k b s c 0, boxed_cell w k b s c 1, boxed_cell w k b s c 2, boxed_cell w k b s c 3, boxed_rest hw k b s c⟩ hb

def Yes (w : World) (e : Ending) (w' : World) : Prop := e = .returned (.bool true) ∧ Below w.heap.size w w'

set_option maxHeartbeats 1600000 in
theorem law_b (k b s c : Int) (w : World) (hw : Tab w) (h : b < -1099511627776) :
    Calls Tryz.prog 3 #[.agg #[.int .i64 k, .int .i64 b, .int .i64 s, .int .i64 c]] w (Yes w) := by
  go_enter Tryz.func3, Tryz.ntmps3
  go_wp2_with (go_at_call 4; refine (awake_true (boxed_rest hw k b s c).tab).mono ?_; rintro e w1 ⟨rfl, hb1⟩; obtain ⟨q0, q1, q2, q3, q4⟩ := boxed_keeps hw hb1)
  go_ret
  exact ⟨rfl, q4.below⟩

set_option maxHeartbeats 1600000 in
theorem law_s (k b s c : Int) (w : World) (hw : Tab w) (h0 : ¬ b < -1099511627776) (h : s < -1099511627776) :
    Calls Tryz.prog 3 #[.agg #[.int .i64 k, .int .i64 b, .int .i64 s, .int .i64 c]] w (Yes w) := by
  go_enter Tryz.func3, Tryz.ntmps3
  go_wp2_with (go_at_call 4; refine (awake_true (boxed_rest hw k b s c).tab).mono ?_; rintro e w1 ⟨rfl, hb1⟩; obtain ⟨q0, q1, q2, q3, q4⟩ := boxed_keeps hw hb1)
  go_ret
  exact ⟨rfl, q4.below⟩

set_option maxHeartbeats 1600000 in
theorem law_c (k b s c : Int) (w : World) (hw : Tab w) (h0 : ¬ b < -1099511627776) (h1 : ¬ s < -1099511627776) (h : c < -1099511627776) :
    Calls Tryz.prog 3 #[.agg #[.int .i64 k, .int .i64 b, .int .i64 s, .int .i64 c]] w (Yes w) := by
  go_enter Tryz.func3, Tryz.ntmps3
  go_wp2_with (go_at_call 4; refine (awake_true (boxed_rest hw k b s c).tab).mono ?_; rintro e w1 ⟨rfl, hb1⟩; obtain ⟨q0, q1, q2, q3, q4⟩ := boxed_keeps hw hb1)
  go_ret
  exact ⟨rfl, q4.below⟩

set_option maxHeartbeats 1600000 in
theorem law_all (k b s c : Int) (w : World) (hw : Tab w) (h0 : ¬ b < -1099511627776) (h1 : ¬ s < -1099511627776) (h2 : ¬ c < -1099511627776) (b1 : b ≤ 9223372036854775807) (s1 : s ≤ 9223372036854775807) (c1 : c ≤ 9223372036854775807) :
    Calls Tryz.prog 3 #[.agg #[.int .i64 k, .int .i64 b, .int .i64 s, .int .i64 c]] w (Yes w) := by
  go_enter Tryz.func3, Tryz.ntmps3
  go_wp2_with (go_at_call 4; refine (awake_true (boxed_rest hw k b s c).tab).mono ?_; rintro e w1 ⟨rfl, hb1⟩; obtain ⟨q0, q1, q2, q3, q4⟩ := boxed_keeps hw hb1)
  have hrest := q4
  go_region_held3 (fun w' => w'.cell? ⟨w.heap.size, 0, none⟩ = some (.int .i64 k) ∧ w'.cell? ⟨w.heap.size, 1, none⟩ = some (.int .i64 b) ∧ w'.cell? ⟨w.heap.size, 2, none⟩ = some (.int .i64 s) ∧ w'.cell? ⟨w.heap.size, 3, none⟩ = some (.int .i64 c) ∧ Rest w w')
    (first
      | exact keepS (by assumption) hb
      | (refine ⟨?_, ?_, ?_, ?_, ?_⟩ <;> first | exact hrest.drew | go_keep))
    (first
      | (go_at_call 5; refine (text5 k b s c _ (restOf (w0 := w) (by assumption)).tab (by omega) (by omega) (by omega) (by omega) (by omega) (by omega)).mono ?_; rintro e w' ⟨S5, rfl, hS5, hb⟩)
      | (go_at_call 6; refine (text6 k b s c _ (restOf (w0 := w) (by assumption)).tab (by omega) (by omega) (by omega) (by omega) (by omega) (by omega)).mono ?_; rintro e w' ⟨S6, rfl, hS6, hb⟩))
  all_goals
    rename_i hH
    obtain ⟨p0, p1, p2, p3, p4⟩ := hH
    have e : (S5.toList == S6.toList) = true := by rw [ByteArray.toList_eq, ByteArray.toList_eq, hS5, hS6]; simp
    clear hS5 hS6
    go_wp2
    go_ret
    exact ⟨by rw [← e]; rfl, p4.below⟩

theorem law (k b s c : Int) (w : World) (hw : Tab w) (b1 : b ≤ 9223372036854775807) (s1 : s ≤ 9223372036854775807) (c1 : c ≤ 9223372036854775807) :
    Calls Tryz.prog 3 #[.agg #[.int .i64 k, .int .i64 b, .int .i64 s, .int .i64 c]] w (Yes w) := by
  by_cases h0 : b < -1099511627776
  · exact law_b k b s c w hw h0
  by_cases h1 : s < -1099511627776
  · exact law_s k b s c w hw h0 h1
  by_cases h2 : c < -1099511627776
  · exact law_c k b s c w hw h0 h1 h2
  exact law_all k b s c w hw h0 h1 h2 b1 s1 c1

end Go.Proofs.YtkoahnikmckgnaaGreatDoor.Ws
