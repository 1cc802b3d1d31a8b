/- The texts of findings by the reference. -/
import Derived.Test.YtkoahnikmckgnaaGreatDoorWzV
set_option linter.unusedSimpArgs false
set_option linter.unusedVariables false
namespace Go.Proofs.YtkoahnikmckgnaaGreatDoor.Ws
open Go Go.Proofs Go.RowKit
set_option maxRecDepth 100000

theorem code15_a (w : World) : Calls Tryz.prog 15 #[.int .i64 11] w fun e w' => e = .returned (.string (sB [102, 97, 105, 108, 101, 100])) ∧ w = w' := by
  go_enter Tryz.func15, Tryz.ntmps15
  go_wp2
  go_ret
  exact ⟨rfl, rfl⟩
theorem code15_b (w : World) : Calls Tryz.prog 15 #[.int .i64 12] w fun e w' => e = .returned (.string (sB [99, 111, 114, 114, 117, 112, 116])) ∧ w = w' := by
  go_enter Tryz.func15, Tryz.ntmps15
  go_wp2
  go_ret
  exact ⟨rfl, rfl⟩
theorem code15_c (c : Int) (w : World) (h0 : -1099511627776 ≤ c) (h1 : c ≤ 9223372036854775807) (n1 : ¬ c = 11) (n2 : ¬ c = 12) :
    Calls Tryz.prog 15 #[.int .i64 c] w fun e w' => e = .returned (.string (sB [101, 114, 114, 111, 114, 32] ++ sB (Lib.itoa c))) ∧ Below w.heap.size w w' := by
  have e1 : decide (c = 11) = false := by simp [n1]
  have e2 : decide (c = 12) = false := by simp [n2]
  have hl : (Lib.itoa c).length ≤ 21 := Lib.itoa_length_le c (by omega) h1
  go_enter Tryz.func15, Tryz.ntmps15
  go_wp2_with (go_at_call 14; refine (dec_any c h0 h1 _).mono ?_; rintro e w' ⟨rfl, hb⟩)
  go_ret
  exact ⟨rfl, hb⟩

theorem code15 (c : Int) (w : World) (h0 : -1099511627776 ≤ c) (h1 : c ≤ 9223372036854775807) :
    Calls Tryz.prog 15 #[.int .i64 c] w fun e w' => e = .returned (.string (codeB c)) ∧ Below w.heap.size w w' := by
  by_cases n1 : c = 11
  · subst n1
    exact (code15_a w).mono fun e w' ⟨he, hw'⟩ => ⟨he, hw' ▸ Below.refl _ _⟩
  by_cases n2 : c = 12
  · subst n2
    exact (code15_b w).mono fun e w' ⟨he, hw'⟩ => ⟨he, hw' ▸ Below.refl _ _⟩
  refine (code15_c c w h0 h1 n1 n2).mono fun e w' ⟨he, hb⟩ => ⟨?_, hb⟩
  rw [he]
  congr 2
  unfold codeB codeL
  rw [if_neg n1, if_neg n2]
  apply ByteArray.ext
  apply Array.ext'
  simp [sB]

set_option maxHeartbeats 1600000 in
theorem text6_0 (b s c : Int) (w : World) (hw : Tab w) (b0 : -1099511627776 ≤ b) (b1 : b ≤ 9223372036854775807) (s0 : -1099511627776 ≤ s) (s1 : s ≤ 9223372036854775807) (c0 : -1099511627776 ≤ c) (c1 : c ≤ 9223372036854775807) :
    Calls Tryz.prog 6 #[.agg #[.int .i64 0, .int .i64 b, .int .i64 s, .int .i64 c]] w (TextPost ([114, 111, 111, 116, 32] ++ Lib.itoa b ++ [32] ++ codeL c) w) := by
  have hlb : (Lib.itoa b).length ≤ 21 := Lib.itoa_length_le b (by omega) b1
  have hls : (Lib.itoa s).length ≤ 21 := Lib.itoa_length_le s (by omega) s1
  have hlc : (codeB c).size ≤ 27 := codeB_size c (by omega) c1
  have hq0 : ¬ 9223372036854775807 < 5 + (Lib.itoa b).length := by omega
  have hq1 : ¬ 9223372036854775807 < 5 + (Lib.itoa b).length + 1 := by omega
  have hq2 : ¬ 9223372036854775807 < 5 + (Lib.itoa b).length + 1 + (codeB c).size := by omega
  have hrest : Rest w (w.alloc (Obj.cells #[Value.int IntKind.i64 0, Value.int IntKind.i64 b, Value.int IntKind.i64 s, Value.int IntKind.i64 c] 24)) :=
    ⟨(Below.refl _ _).alloc (Nat.le_refl _) _, by simp, hw.up ((Below.refl _ _).alloc (Nat.le_refl _) _)⟩
  go_enter Tryz.func6, Tryz.ntmps6
  go_wp2_with fail
  go_region_held3 (fun w' => w'.cell? ⟨w.heap.size, 0, none⟩ = some (.int .i64 0) ∧ w'.cell? ⟨w.heap.size, 1, none⟩ = some (.int .i64 b) ∧ w'.cell? ⟨w.heap.size, 2, none⟩ = some (.int .i64 s) ∧ w'.cell? ⟨w.heap.size, 3, none⟩ = some (.int .i64 c) ∧ Rest w w')
    (first
      | exact keepS (by assumption) hb
      | (refine ⟨?_, ?_, ?_, ?_, ?_⟩ <;> first | exact hrest.drew | go_keep))
    (first
      | (go_at_call 14; refine (dec_any _ (by assumption) (by assumption) _).mono ?_; rintro e w' ⟨rfl, hb⟩)
      | (go_at_call 15; refine (code15 c _ c0 c1).mono ?_; rintro e w' ⟨rfl, hb⟩))
  all_goals
    rename_i hH
    obtain ⟨q0, q1, q2, q3, q4⟩ := hH
    go_wp2
    go_ret
    exact ⟨_, rfl, by simp [codeB, sB, ByteArray.data_append], q4.below⟩

set_option maxHeartbeats 1600000 in
theorem text6_1 (b s c : Int) (w : World) (hw : Tab w) (b0 : -1099511627776 ≤ b) (b1 : b ≤ 9223372036854775807) (s0 : -1099511627776 ≤ s) (s1 : s ≤ 9223372036854775807) (c0 : -1099511627776 ≤ c) (c1 : c ≤ 9223372036854775807) :
    Calls Tryz.prog 6 #[.agg #[.int .i64 1, .int .i64 b, .int .i64 s, .int .i64 c]] w (TextPost ([100, 105, 114, 101, 99, 116, 111, 114, 121, 32] ++ codeL c) w) := by
  have hlb : (Lib.itoa b).length ≤ 21 := Lib.itoa_length_le b (by omega) b1
  have hls : (Lib.itoa s).length ≤ 21 := Lib.itoa_length_le s (by omega) s1
  have hlc : (codeB c).size ≤ 27 := codeB_size c (by omega) c1
  have hq0 : ¬ 9223372036854775807 < 10 + (codeB c).size := by omega
  have hrest : Rest w (w.alloc (Obj.cells #[Value.int IntKind.i64 1, Value.int IntKind.i64 b, Value.int IntKind.i64 s, Value.int IntKind.i64 c] 24)) :=
    ⟨(Below.refl _ _).alloc (Nat.le_refl _) _, by simp, hw.up ((Below.refl _ _).alloc (Nat.le_refl _) _)⟩
  go_enter Tryz.func6, Tryz.ntmps6
  go_wp2_with (go_at_call 15; refine (code15 c _ c0 c1).mono ?_; rintro e w3 ⟨rfl, hb3⟩)
  go_ret
  exact ⟨_, rfl, by simp [codeB, sB, ByteArray.data_append], hrest.below.trans (hb3.mono (Nat.le_of_lt hrest.size))⟩

set_option maxHeartbeats 1600000 in
theorem text6_2 (b s c : Int) (w : World) (hw : Tab w) (b0 : -1099511627776 ≤ b) (b1 : b ≤ 9223372036854775807) (s0 : -1099511627776 ≤ s) (s1 : s ≤ 9223372036854775807) (c0 : -1099511627776 ≤ c) (c1 : c ≤ 9223372036854775807) :
    Calls Tryz.prog 6 #[.agg #[.int .i64 2, .int .i64 b, .int .i64 s, .int .i64 c]] w (TextPost ([104, 101, 97, 100, 101, 114, 32] ++ codeL c) w) := by
  have hlb : (Lib.itoa b).length ≤ 21 := Lib.itoa_length_le b (by omega) b1
  have hls : (Lib.itoa s).length ≤ 21 := Lib.itoa_length_le s (by omega) s1
  have hlc : (codeB c).size ≤ 27 := codeB_size c (by omega) c1
  have hq0 : ¬ 9223372036854775807 < 7 + (codeB c).size := by omega
  have hrest : Rest w (w.alloc (Obj.cells #[Value.int IntKind.i64 2, Value.int IntKind.i64 b, Value.int IntKind.i64 s, Value.int IntKind.i64 c] 24)) :=
    ⟨(Below.refl _ _).alloc (Nat.le_refl _) _, by simp, hw.up ((Below.refl _ _).alloc (Nat.le_refl _) _)⟩
  go_enter Tryz.func6, Tryz.ntmps6
  go_wp2_with (go_at_call 15; refine (code15 c _ c0 c1).mono ?_; rintro e w3 ⟨rfl, hb3⟩)
  go_ret
  exact ⟨_, rfl, by simp [codeB, sB, ByteArray.data_append], hrest.below.trans (hb3.mono (Nat.le_of_lt hrest.size))⟩

set_option maxHeartbeats 1600000 in
theorem text6_3 (b s c : Int) (w : World) (hw : Tab w) (b0 : -1099511627776 ≤ b) (b1 : b ≤ 9223372036854775807) (s0 : -1099511627776 ≤ s) (s1 : s ≤ 9223372036854775807) (c0 : -1099511627776 ≤ c) (c1 : c ≤ 9223372036854775807) :
    Calls Tryz.prog 6 #[.agg #[.int .i64 3, .int .i64 b, .int .i64 s, .int .i64 c]] w (TextPost ([98, 108, 111, 99, 107, 32] ++ Lib.itoa b ++ [32] ++ codeL c) w) := by
  have hlb : (Lib.itoa b).length ≤ 21 := Lib.itoa_length_le b (by omega) b1
  have hls : (Lib.itoa s).length ≤ 21 := Lib.itoa_length_le s (by omega) s1
  have hlc : (codeB c).size ≤ 27 := codeB_size c (by omega) c1
  have hq0 : ¬ 9223372036854775807 < 6 + (Lib.itoa b).length := by omega
  have hq1 : ¬ 9223372036854775807 < 6 + (Lib.itoa b).length + 1 := by omega
  have hq2 : ¬ 9223372036854775807 < 6 + (Lib.itoa b).length + 1 + (codeB c).size := by omega
  have hrest : Rest w (w.alloc (Obj.cells #[Value.int IntKind.i64 3, Value.int IntKind.i64 b, Value.int IntKind.i64 s, Value.int IntKind.i64 c] 24)) :=
    ⟨(Below.refl _ _).alloc (Nat.le_refl _) _, by simp, hw.up ((Below.refl _ _).alloc (Nat.le_refl _) _)⟩
  go_enter Tryz.func6, Tryz.ntmps6
  go_wp2_with fail
  go_region_held3 (fun w' => w'.cell? ⟨w.heap.size, 0, none⟩ = some (.int .i64 3) ∧ w'.cell? ⟨w.heap.size, 1, none⟩ = some (.int .i64 b) ∧ w'.cell? ⟨w.heap.size, 2, none⟩ = some (.int .i64 s) ∧ w'.cell? ⟨w.heap.size, 3, none⟩ = some (.int .i64 c) ∧ Rest w w')
    (first
      | exact keepS (by assumption) hb
      | (refine ⟨?_, ?_, ?_, ?_, ?_⟩ <;> first | exact hrest.drew | go_keep))
    (first
      | (go_at_call 14; refine (dec_any _ (by assumption) (by assumption) _).mono ?_; rintro e w' ⟨rfl, hb⟩)
      | (go_at_call 15; refine (code15 c _ c0 c1).mono ?_; rintro e w' ⟨rfl, hb⟩))
  all_goals
    rename_i hH
    obtain ⟨q0, q1, q2, q3, q4⟩ := hH
    go_wp2
    go_ret
    exact ⟨_, rfl, by simp [codeB, sB, ByteArray.data_append], q4.below⟩

set_option maxHeartbeats 1600000 in
theorem text6_4 (b s c : Int) (w : World) (hw : Tab w) (b0 : -1099511627776 ≤ b) (b1 : b ≤ 9223372036854775807) (s0 : -1099511627776 ≤ s) (s1 : s ≤ 9223372036854775807) (c0 : -1099511627776 ≤ c) (c1 : c ≤ 9223372036854775807) :
    Calls Tryz.prog 6 #[.agg #[.int .i64 4, .int .i64 b, .int .i64 s, .int .i64 c]] w (TextPost ([115, 110, 97, 112, 115, 104, 111, 116, 32] ++ Lib.itoa b ++ [32] ++ codeL c) w) := by
  have hlb : (Lib.itoa b).length ≤ 21 := Lib.itoa_length_le b (by omega) b1
  have hls : (Lib.itoa s).length ≤ 21 := Lib.itoa_length_le s (by omega) s1
  have hlc : (codeB c).size ≤ 27 := codeB_size c (by omega) c1
  have hq0 : ¬ 9223372036854775807 < 9 + (Lib.itoa b).length := by omega
  have hq1 : ¬ 9223372036854775807 < 9 + (Lib.itoa b).length + 1 := by omega
  have hq2 : ¬ 9223372036854775807 < 9 + (Lib.itoa b).length + 1 + (codeB c).size := by omega
  have hrest : Rest w (w.alloc (Obj.cells #[Value.int IntKind.i64 4, Value.int IntKind.i64 b, Value.int IntKind.i64 s, Value.int IntKind.i64 c] 24)) :=
    ⟨(Below.refl _ _).alloc (Nat.le_refl _) _, by simp, hw.up ((Below.refl _ _).alloc (Nat.le_refl _) _)⟩
  go_enter Tryz.func6, Tryz.ntmps6
  go_wp2_with fail
  go_region_held3 (fun w' => w'.cell? ⟨w.heap.size, 0, none⟩ = some (.int .i64 4) ∧ w'.cell? ⟨w.heap.size, 1, none⟩ = some (.int .i64 b) ∧ w'.cell? ⟨w.heap.size, 2, none⟩ = some (.int .i64 s) ∧ w'.cell? ⟨w.heap.size, 3, none⟩ = some (.int .i64 c) ∧ Rest w w')
    (first
      | exact keepS (by assumption) hb
      | (refine ⟨?_, ?_, ?_, ?_, ?_⟩ <;> first | exact hrest.drew | go_keep))
    (first
      | (go_at_call 14; refine (dec_any _ (by assumption) (by assumption) _).mono ?_; rintro e w' ⟨rfl, hb⟩)
      | (go_at_call 15; refine (code15 c _ c0 c1).mono ?_; rintro e w' ⟨rfl, hb⟩))
  all_goals
    rename_i hH
    obtain ⟨q0, q1, q2, q3, q4⟩ := hH
    go_wp2
    go_ret
    exact ⟨_, rfl, by simp [codeB, sB, ByteArray.data_append], q4.below⟩

set_option maxHeartbeats 1600000 in
theorem text6_5 (b s c : Int) (w : World) (hw : Tab w) (b0 : -1099511627776 ≤ b) (b1 : b ≤ 9223372036854775807) (s0 : -1099511627776 ≤ s) (s1 : s ≤ 9223372036854775807) (c0 : -1099511627776 ≤ c) (c1 : c ≤ 9223372036854775807) :
    Calls Tryz.prog 6 #[.agg #[.int .i64 5, .int .i64 b, .int .i64 s, .int .i64 c]] w (TextPost ([115, 116, 114, 101, 97, 109, 32] ++ Lib.itoa b ++ [32] ++ Lib.itoa s ++ [32] ++ codeL c) w) := by
  have hlb : (Lib.itoa b).length ≤ 21 := Lib.itoa_length_le b (by omega) b1
  have hls : (Lib.itoa s).length ≤ 21 := Lib.itoa_length_le s (by omega) s1
  have hlc : (codeB c).size ≤ 27 := codeB_size c (by omega) c1
  have hq0 : ¬ 9223372036854775807 < 7 + (Lib.itoa b).length := by omega
  have hq1 : ¬ 9223372036854775807 < 7 + (Lib.itoa b).length + 1 := by omega
  have hq2 : ¬ 9223372036854775807 < 7 + (Lib.itoa b).length + 1 + (Lib.itoa s).length := by omega
  have hq3 : ¬ 9223372036854775807 < 7 + (Lib.itoa b).length + 1 + (Lib.itoa s).length + 1 := by omega
  have hq4 : ¬ 9223372036854775807 < 7 + (Lib.itoa b).length + 1 + (Lib.itoa s).length + 1 + (codeB c).size := by omega
  have hrest : Rest w (w.alloc (Obj.cells #[Value.int IntKind.i64 5, Value.int IntKind.i64 b, Value.int IntKind.i64 s, Value.int IntKind.i64 c] 24)) :=
    ⟨(Below.refl _ _).alloc (Nat.le_refl _) _, by simp, hw.up ((Below.refl _ _).alloc (Nat.le_refl _) _)⟩
  go_enter Tryz.func6, Tryz.ntmps6
  go_wp2_with fail
  go_region_held3 (fun w' => w'.cell? ⟨w.heap.size, 0, none⟩ = some (.int .i64 5) ∧ w'.cell? ⟨w.heap.size, 1, none⟩ = some (.int .i64 b) ∧ w'.cell? ⟨w.heap.size, 2, none⟩ = some (.int .i64 s) ∧ w'.cell? ⟨w.heap.size, 3, none⟩ = some (.int .i64 c) ∧ Rest w w')
    (first
      | exact keepS (by assumption) hb
      | (refine ⟨?_, ?_, ?_, ?_, ?_⟩ <;> first | exact hrest.drew | go_keep))
    (first
      | (go_at_call 14; refine (dec_any _ (by assumption) (by assumption) _).mono ?_; rintro e w' ⟨rfl, hb⟩)
      | (go_at_call 15; refine (code15 c _ c0 c1).mono ?_; rintro e w' ⟨rfl, hb⟩))
  all_goals
    rename_i hH
    obtain ⟨q0, q1, q2, q3, q4⟩ := hH
    go_wp2
    go_ret
    exact ⟨_, rfl, by simp [codeB, sB, ByteArray.data_append], q4.below⟩

set_option maxHeartbeats 1600000 in
theorem text6_6 (b s c : Int) (w : World) (hw : Tab w) (b0 : -1099511627776 ≤ b) (b1 : b ≤ 9223372036854775807) (s0 : -1099511627776 ≤ s) (s1 : s ≤ 9223372036854775807) (c0 : -1099511627776 ≤ c) (c1 : c ≤ 9223372036854775807) :
    Calls Tryz.prog 6 #[.agg #[.int .i64 6, .int .i64 b, .int .i64 s, .int .i64 c]] w (TextPost ([99, 104, 97, 105, 110, 32] ++ Lib.itoa b ++ [32] ++ codeL c) w) := by
  have hlb : (Lib.itoa b).length ≤ 21 := Lib.itoa_length_le b (by omega) b1
  have hls : (Lib.itoa s).length ≤ 21 := Lib.itoa_length_le s (by omega) s1
  have hlc : (codeB c).size ≤ 27 := codeB_size c (by omega) c1
  have hq0 : ¬ 9223372036854775807 < 6 + (Lib.itoa b).length := by omega
  have hq1 : ¬ 9223372036854775807 < 6 + (Lib.itoa b).length + 1 := by omega
  have hq2 : ¬ 9223372036854775807 < 6 + (Lib.itoa b).length + 1 + (codeB c).size := by omega
  have hrest : Rest w (w.alloc (Obj.cells #[Value.int IntKind.i64 6, Value.int IntKind.i64 b, Value.int IntKind.i64 s, Value.int IntKind.i64 c] 24)) :=
    ⟨(Below.refl _ _).alloc (Nat.le_refl _) _, by simp, hw.up ((Below.refl _ _).alloc (Nat.le_refl _) _)⟩
  go_enter Tryz.func6, Tryz.ntmps6
  go_wp2_with fail
  go_region_held3 (fun w' => w'.cell? ⟨w.heap.size, 0, none⟩ = some (.int .i64 6) ∧ w'.cell? ⟨w.heap.size, 1, none⟩ = some (.int .i64 b) ∧ w'.cell? ⟨w.heap.size, 2, none⟩ = some (.int .i64 s) ∧ w'.cell? ⟨w.heap.size, 3, none⟩ = some (.int .i64 c) ∧ Rest w w')
    (first
      | exact keepS (by assumption) hb
      | (refine ⟨?_, ?_, ?_, ?_, ?_⟩ <;> first | exact hrest.drew | go_keep))
    (first
      | (go_at_call 14; refine (dec_any _ (by assumption) (by assumption) _).mono ?_; rintro e w' ⟨rfl, hb⟩)
      | (go_at_call 15; refine (code15 c _ c0 c1).mono ?_; rintro e w' ⟨rfl, hb⟩))
  all_goals
    rename_i hH
    obtain ⟨q0, q1, q2, q3, q4⟩ := hH
    go_wp2
    go_ret
    exact ⟨_, rfl, by simp [codeB, sB, ByteArray.data_append], q4.below⟩

set_option maxHeartbeats 1600000 in
theorem text6_n (k b s c : Int) (w : World) (n0 : ¬ k = 0) (n1 : ¬ k = 1) (n2 : ¬ k = 2) (n3 : ¬ k = 3) (n4 : ¬ k = 4) (n5 : ¬ k = 5) (n6 : ¬ k = 6) :
    Calls Tryz.prog 6 #[.agg #[.int .i64 k, .int .i64 b, .int .i64 s, .int .i64 c]] w (TextPost [] w) := by
  go_enter Tryz.func6, Tryz.ntmps6
  go_wp2
  go_ret
  exact ⟨_, rfl, rfl, (Below.refl _ _).alloc (Nat.le_refl _) _⟩

theorem text6 (k b s c : Int) (w : World) (hw : Tab w) (b0 : -1099511627776 ≤ b) (b1 : b ≤ 9223372036854775807) (s0 : -1099511627776 ≤ s) (s1 : s ≤ 9223372036854775807) (c0 : -1099511627776 ≤ c) (c1 : c ≤ 9223372036854775807) :
    Calls Tryz.prog 6 #[.agg #[.int .i64 k, .int .i64 b, .int .i64 s, .int .i64 c]] w (TextPost (textL k b s c) w) := by
  by_cases n0 : k = 0
  · subst n0
    have e : textL 0 b s c = [114, 111, 111, 116, 32] ++ Lib.itoa b ++ [32] ++ codeL c := by simp [textL]
    rw [e]
    exact text6_0 b s c w hw b0 b1 s0 s1 c0 c1
  by_cases n1 : k = 1
  · subst n1
    have e : textL 1 b s c = [100, 105, 114, 101, 99, 116, 111, 114, 121, 32] ++ codeL c := by simp [textL]
    rw [e]
    exact text6_1 b s c w hw b0 b1 s0 s1 c0 c1
  by_cases n2 : k = 2
  · subst n2
    have e : textL 2 b s c = [104, 101, 97, 100, 101, 114, 32] ++ codeL c := by simp [textL]
    rw [e]
    exact text6_2 b s c w hw b0 b1 s0 s1 c0 c1
  by_cases n3 : k = 3
  · subst n3
    have e : textL 3 b s c = [98, 108, 111, 99, 107, 32] ++ Lib.itoa b ++ [32] ++ codeL c := by simp [textL]
    rw [e]
    exact text6_3 b s c w hw b0 b1 s0 s1 c0 c1
  by_cases n4 : k = 4
  · subst n4
    have e : textL 4 b s c = [115, 110, 97, 112, 115, 104, 111, 116, 32] ++ Lib.itoa b ++ [32] ++ codeL c := by simp [textL]
    rw [e]
    exact text6_4 b s c w hw b0 b1 s0 s1 c0 c1
  by_cases n5 : k = 5
  · subst n5
    have e : textL 5 b s c = [115, 116, 114, 101, 97, 109, 32] ++ Lib.itoa b ++ [32] ++ Lib.itoa s ++ [32] ++ codeL c := by simp [textL]
    rw [e]
    exact text6_5 b s c w hw b0 b1 s0 s1 c0 c1
  by_cases n6 : k = 6
  · subst n6
    have e : textL 6 b s c = [99, 104, 97, 105, 110, 32] ++ Lib.itoa b ++ [32] ++ codeL c := by simp [textL]
    rw [e]
    exact text6_6 b s c w hw b0 b1 s0 s1 c0 c1
  have e : textL k b s c = [] := by simp [textL, n0, n1, n2, n3, n4, n5, n6]
  rw [e]
  exact text6_n k b s c w n0 n1 n2 n3 n4 n5 n6

end Go.Proofs.YtkoahnikmckgnaaGreatDoor.Ws
