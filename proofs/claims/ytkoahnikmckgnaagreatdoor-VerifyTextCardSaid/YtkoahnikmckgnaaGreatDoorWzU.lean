/- Words of error codes: verify.code, and the texts of findings: verify.Text. -/
import Derived.Test.YtkoahnikmckgnaaGreatDoorWzM
import Derived.Tactics
import Derived.Tactics2
import Derived.WalkKit
import Derived.WalkSpells
import Derived.StillTactics
import Derived.OwnWalk
import Derived.Laws.Pointers
import Derived.Deep.RegionHeld3
import Derived.Lib.Hide
import Derived.Lib.ItoaLen
set_option linter.unusedSimpArgs false
set_option linter.unusedVariables false
namespace Go.Proofs.YtkoahnikmckgnaaGreatDoor.Ws
open Go Go.Proofs Go.RowKit
set_option maxRecDepth 100000

def sB (l : List UInt8) : ByteArray := ⟨l.toArray⟩
theorem code13_a (w : World) : Calls Tryz.prog 13 #[.int .i64 11] w fun e w' => e = .returned (.string (sB [102, 97, 105, 108, 101, 100])) ∧ w = w' := by
  go_enter Tryz.func13, Tryz.ntmps13
  go_wp2
  go_ret
  exact ⟨rfl, rfl⟩
theorem code13_b (w : World) : Calls Tryz.prog 13 #[.int .i64 12] w fun e w' => e = .returned (.string (sB [99, 111, 114, 114, 117, 112, 116])) ∧ w = w' := by
  go_enter Tryz.func13, Tryz.ntmps13
  go_wp2
  go_ret
  exact ⟨rfl, rfl⟩
theorem code13_c (c : Int) (w : World) (hw : Tab w) (h0 : -9223372036854775808 ≤ c) (h1 : c ≤ 9223372036854775807) (n1 : ¬ c = 11) (n2 : ¬ c = 12) :
    Calls Tryz.prog 13 #[.int .i64 c] w fun e w' => e = .returned (.string (sB [101, 114, 114, 111, 114, 32] ++ sB (Lib.itoa c))) ∧ Below w.heap.size w w' := by
  have e1 : decide (c = 11) = false := by simp [n1]
  have e2 : decide (c = 12) = false := by simp [n2]
  have hl : (Lib.itoa c).length ≤ 21 := Lib.itoa_length_le c h0 h1
  go_enter Tryz.func13, Tryz.ntmps13
  go_wp2_with (go_at_call 12; refine (itoa_below hw c h0 h1).mono ?_; rintro e w' ⟨rfl, hb⟩)
  go_ret
  exact ⟨rfl, hb⟩

/-- the words of an error code -/
def codeL (c : Int) : List UInt8 := if c = 11 then [102, 97, 105, 108, 101, 100] else if c = 12 then [99, 111, 114, 114, 117, 112, 116] else [101, 114, 114, 111, 114, 32] ++ Lib.itoa c
def codeB (c : Int) : ByteArray := sB (codeL c)
theorem codeB_size (c : Int) (h0 : -9223372036854775808 ≤ c) (h1 : c ≤ 9223372036854775807) : (codeB c).size ≤ 27 := by
  have := Lib.itoa_length_le c h0 h1
  show (codeL c).length ≤ 27
  unfold codeL
  split
  · simp
  · split
    · simp
    · simp; omega

theorem code13 (c : Int) (w : World) (hw : Tab w) (h0 : -9223372036854775808 ≤ c) (h1 : c ≤ 9223372036854775807) :
    Calls Tryz.prog 13 #[.int .i64 c] w fun e w' => e = .returned (.string (codeB c)) ∧ Below w.heap.size w w' := by
  by_cases n1 : c = 11
  · subst n1
    exact (code13_a w).mono fun e w' ⟨he, hw'⟩ => ⟨he, hw' ▸ Below.refl _ _⟩
  by_cases n2 : c = 12
  · subst n2
    exact (code13_b w).mono fun e w' ⟨he, hw'⟩ => ⟨he, hw' ▸ Below.refl _ _⟩
  refine (code13_c c w hw h0 h1 n1 n2).mono fun e w' ⟨he, hb⟩ => ⟨?_, hb⟩
  rw [he]
  congr 2
  unfold codeB codeL
  rw [if_neg n1, if_neg n2]
  apply ByteArray.ext
  apply Array.ext'
  simp [sB]

structure Rest (w0 w : World) : Prop where
  below : Below w0.heap.size w0 w
  size : w0.heap.size < w.heap.size
  tab : Tab w
theorem Rest.drew {w0 w : World} (h : Rest w0 w) : Rest w0 w.drew := ⟨Ws.Below.drewN' h.below _, h.size, h.tab.up (Ws.Below.drewN' (Below.refl _ _) _)⟩
theorem restOf {w0 w1 : World} {A B C D : Prop} (h : A ∧ B ∧ C ∧ D ∧ Rest w0 w1) : Rest w0 w1 := h.2.2.2.2
theorem keepS {w0 w1 w2 : World} {k b s c : Int}
    (h : w1.cell? ⟨w0.heap.size, 0, none⟩ = some (.int .i64 k) ∧ w1.cell? ⟨w0.heap.size, 1, none⟩ = some (.int .i64 b) ∧ w1.cell? ⟨w0.heap.size, 2, none⟩ = some (.int .i64 s) ∧ w1.cell? ⟨w0.heap.size, 3, none⟩ = some (.int .i64 c) ∧ Rest w0 w1)
    (hb : Below w1.heap.size w1 w2) :
    w2.cell? ⟨w0.heap.size, 0, none⟩ = some (.int .i64 k) ∧ w2.cell? ⟨w0.heap.size, 1, none⟩ = some (.int .i64 b) ∧ w2.cell? ⟨w0.heap.size, 2, none⟩ = some (.int .i64 s) ∧ w2.cell? ⟨w0.heap.size, 3, none⟩ = some (.int .i64 c) ∧ Rest w0 w2 := by
  obtain ⟨h0, h1, h2, h3, h4, h5, h6⟩ := h
  have hc : ∀ o, w2.cell? ⟨w0.heap.size, o, none⟩ = w1.cell? ⟨w0.heap.size, o, none⟩ := fun o => hb.cell (p := ⟨w0.heap.size, o, none⟩) h5
  have hs := hb.size
  refine ⟨by rw [hc, h0], by rw [hc, h1], by rw [hc, h2], by rw [hc, h3], ?_, by omega, h6.up hb⟩
  exact h4.trans (hb.mono (by omega))

def TextPost (l : List UInt8) (w : World) (e : Ending) (w' : World) : Prop := ∃ S : ByteArray, e = .returned (.string S) ∧ S.data.toList = l ∧ Below w.heap.size w w'

/-- the text of a finding -/
def textL (k b s c : Int) : List UInt8 :=
  if k = 0 then [114, 111, 111, 116, 32] ++ Lib.itoa b ++ [32] ++ codeL c else
  if k = 1 then [100, 105, 114, 101, 99, 116, 111, 114, 121, 32] ++ codeL c else
  if k = 2 then [104, 101, 97, 100, 101, 114, 32] ++ codeL c else
  if k = 3 then [98, 108, 111, 99, 107, 32] ++ Lib.itoa b ++ [32] ++ codeL c else
  if k = 4 then [115, 110, 97, 112, 115, 104, 111, 116, 32] ++ Lib.itoa b ++ [32] ++ codeL c else
  if k = 5 then [115, 116, 114, 101, 97, 109, 32] ++ Lib.itoa b ++ [32] ++ Lib.itoa s ++ [32] ++ codeL c else
  if k = 6 then [99, 104, 97, 105, 110, 32] ++ Lib.itoa b ++ [32] ++ codeL c else
  []

set_option maxHeartbeats 1600000 in
theorem text5_0 (b s c : Int) (w : World) (hw : Tab w) (b0 : -9223372036854775808 ≤ b) (b1 : b ≤ 9223372036854775807) (s0 : -9223372036854775808 ≤ s) (s1 : s ≤ 9223372036854775807) (c0 : -9223372036854775808 ≤ c) (c1 : c ≤ 9223372036854775807) :
    Calls Tryz.prog 5 #[.agg #[.int .i64 0, .int .i64 b, .int .i64 s, .int .i64 c]] w (TextPost ([114, 111, 111, 116, 32] ++ Lib.itoa b ++ [32] ++ codeL c) w) := by
  have hlb : (Lib.itoa b).length ≤ 21 := Lib.itoa_length_le b b0 b1
  have hls : (Lib.itoa s).length ≤ 21 := Lib.itoa_length_le s s0 s1
  have hq1 : ¬ 9223372036854775807 < 1 + (Lib.itoa b).length := by omega
  have hq2 : ¬ 9223372036854775807 < 1 + (Lib.itoa s).length := by omega
  have hlc : (codeB c).size ≤ 27 := codeB_size c c0 c1
  have hrest : Rest w (w.alloc (Obj.cells #[Value.int IntKind.i64 0, Value.int IntKind.i64 b, Value.int IntKind.i64 s, Value.int IntKind.i64 c] 24)) :=
    ⟨(Below.refl _ _).alloc (Nat.le_refl _) _, by simp, hw.up ((Below.refl _ _).alloc (Nat.le_refl _) _)⟩
  go_enter Tryz.func5, Tryz.ntmps5
  go_wp2_with fail
  go_region_held3 (fun w' => w'.cell? ⟨w.heap.size, 0, none⟩ = some (.int .i64 0) ∧ w'.cell? ⟨w.heap.size, 1, none⟩ = some (.int .i64 b) ∧ w'.cell? ⟨w.heap.size, 2, none⟩ = some (.int .i64 s) ∧ w'.cell? ⟨w.heap.size, 3, none⟩ = some (.int .i64 c) ∧ Rest w w')
    (first
      | exact keepS (by assumption) hb
      | (refine ⟨?_, ?_, ?_, ?_, ?_⟩ <;> first | exact hrest.drew | go_keep))
    ((go_at_call 12; refine (itoa_below (restOf (w0 := w) (by assumption)).tab _ (by assumption) (by assumption)).mono ?_; rintro e w' ⟨rfl, hb⟩))
  all_goals
    rename_i hH
    obtain ⟨q0, q1, q2, q3, q4⟩ := hH
    go_wp2_with (go_at_call 13; refine (code13 c _ q4.tab c0 c1).mono ?_; rintro e w3 ⟨rfl, hb3⟩)
    go_ret
    exact ⟨_, rfl, by simp [codeB, sB, ByteArray.data_append], q4.below.trans (hb3.mono (Nat.le_of_lt q4.size))⟩

set_option maxHeartbeats 1600000 in
theorem text5_1 (b s c : Int) (w : World) (hw : Tab w) (b0 : -9223372036854775808 ≤ b) (b1 : b ≤ 9223372036854775807) (s0 : -9223372036854775808 ≤ s) (s1 : s ≤ 9223372036854775807) (c0 : -9223372036854775808 ≤ c) (c1 : c ≤ 9223372036854775807) :
    Calls Tryz.prog 5 #[.agg #[.int .i64 1, .int .i64 b, .int .i64 s, .int .i64 c]] w (TextPost ([100, 105, 114, 101, 99, 116, 111, 114, 121, 32] ++ codeL c) w) := by
  have hlb : (Lib.itoa b).length ≤ 21 := Lib.itoa_length_le b b0 b1
  have hls : (Lib.itoa s).length ≤ 21 := Lib.itoa_length_le s s0 s1
  have hq1 : ¬ 9223372036854775807 < 1 + (Lib.itoa b).length := by omega
  have hq2 : ¬ 9223372036854775807 < 1 + (Lib.itoa s).length := by omega
  have hlc : (codeB c).size ≤ 27 := codeB_size c c0 c1
  have hrest : Rest w (w.alloc (Obj.cells #[Value.int IntKind.i64 1, Value.int IntKind.i64 b, Value.int IntKind.i64 s, Value.int IntKind.i64 c] 24)) :=
    ⟨(Below.refl _ _).alloc (Nat.le_refl _) _, by simp, hw.up ((Below.refl _ _).alloc (Nat.le_refl _) _)⟩
  go_enter Tryz.func5, Tryz.ntmps5
  go_wp2_with fail
  go_region_held3 (fun w' => w'.cell? ⟨w.heap.size, 0, none⟩ = some (.int .i64 1) ∧ w'.cell? ⟨w.heap.size, 1, none⟩ = some (.int .i64 b) ∧ w'.cell? ⟨w.heap.size, 2, none⟩ = some (.int .i64 s) ∧ w'.cell? ⟨w.heap.size, 3, none⟩ = some (.int .i64 c) ∧ Rest w w')
    (first
      | exact keepS (by assumption) hb
      | (refine ⟨?_, ?_, ?_, ?_, ?_⟩ <;> first | exact hrest.drew | go_keep))
    ((go_at_call 12; refine (itoa_below (restOf (w0 := w) (by assumption)).tab _ (by assumption) (by assumption)).mono ?_; rintro e w' ⟨rfl, hb⟩))
  all_goals
    rename_i hH
    obtain ⟨q0, q1, q2, q3, q4⟩ := hH
    go_wp2_with (go_at_call 13; refine (code13 c _ q4.tab c0 c1).mono ?_; rintro e w3 ⟨rfl, hb3⟩)
    go_ret
    exact ⟨_, rfl, by simp [codeB, sB, ByteArray.data_append], q4.below.trans (hb3.mono (Nat.le_of_lt q4.size))⟩

set_option maxHeartbeats 1600000 in
theorem text5_2 (b s c : Int) (w : World) (hw : Tab w) (b0 : -9223372036854775808 ≤ b) (b1 : b ≤ 9223372036854775807) (s0 : -9223372036854775808 ≤ s) (s1 : s ≤ 9223372036854775807) (c0 : -9223372036854775808 ≤ c) (c1 : c ≤ 9223372036854775807) :
    Calls Tryz.prog 5 #[.agg #[.int .i64 2, .int .i64 b, .int .i64 s, .int .i64 c]] w (TextPost ([104, 101, 97, 100, 101, 114, 32] ++ codeL c) w) := by
  have hlb : (Lib.itoa b).length ≤ 21 := Lib.itoa_length_le b b0 b1
  have hls : (Lib.itoa s).length ≤ 21 := Lib.itoa_length_le s s0 s1
  have hq1 : ¬ 9223372036854775807 < 1 + (Lib.itoa b).length := by omega
  have hq2 : ¬ 9223372036854775807 < 1 + (Lib.itoa s).length := by omega
  have hlc : (codeB c).size ≤ 27 := codeB_size c c0 c1
  have hrest : Rest w (w.alloc (Obj.cells #[Value.int IntKind.i64 2, Value.int IntKind.i64 b, Value.int IntKind.i64 s, Value.int IntKind.i64 c] 24)) :=
    ⟨(Below.refl _ _).alloc (Nat.le_refl _) _, by simp, hw.up ((Below.refl _ _).alloc (Nat.le_refl _) _)⟩
  go_enter Tryz.func5, Tryz.ntmps5
  go_wp2_with fail
  go_region_held3 (fun w' => w'.cell? ⟨w.heap.size, 0, none⟩ = some (.int .i64 2) ∧ w'.cell? ⟨w.heap.size, 1, none⟩ = some (.int .i64 b) ∧ w'.cell? ⟨w.heap.size, 2, none⟩ = some (.int .i64 s) ∧ w'.cell? ⟨w.heap.size, 3, none⟩ = some (.int .i64 c) ∧ Rest w w')
    (first
      | exact keepS (by assumption) hb
      | (refine ⟨?_, ?_, ?_, ?_, ?_⟩ <;> first | exact hrest.drew | go_keep))
    ((go_at_call 12; refine (itoa_below (restOf (w0 := w) (by assumption)).tab _ (by assumption) (by assumption)).mono ?_; rintro e w' ⟨rfl, hb⟩))
  all_goals
    rename_i hH
    obtain ⟨q0, q1, q2, q3, q4⟩ := hH
    go_wp2_with (go_at_call 13; refine (code13 c _ q4.tab c0 c1).mono ?_; rintro e w3 ⟨rfl, hb3⟩)
    go_ret
    exact ⟨_, rfl, by simp [codeB, sB, ByteArray.data_append], q4.below.trans (hb3.mono (Nat.le_of_lt q4.size))⟩

set_option maxHeartbeats 1600000 in
theorem text5_3 (b s c : Int) (w : World) (hw : Tab w) (b0 : -9223372036854775808 ≤ b) (b1 : b ≤ 9223372036854775807) (s0 : -9223372036854775808 ≤ s) (s1 : s ≤ 9223372036854775807) (c0 : -9223372036854775808 ≤ c) (c1 : c ≤ 9223372036854775807) :
    Calls Tryz.prog 5 #[.agg #[.int .i64 3, .int .i64 b, .int .i64 s, .int .i64 c]] w (TextPost ([98, 108, 111, 99, 107, 32] ++ Lib.itoa b ++ [32] ++ codeL c) w) := by
  have hlb : (Lib.itoa b).length ≤ 21 := Lib.itoa_length_le b b0 b1
  have hls : (Lib.itoa s).length ≤ 21 := Lib.itoa_length_le s s0 s1
  have hq1 : ¬ 9223372036854775807 < 1 + (Lib.itoa b).length := by omega
  have hq2 : ¬ 9223372036854775807 < 1 + (Lib.itoa s).length := by omega
  have hlc : (codeB c).size ≤ 27 := codeB_size c c0 c1
  have hrest : Rest w (w.alloc (Obj.cells #[Value.int IntKind.i64 3, Value.int IntKind.i64 b, Value.int IntKind.i64 s, Value.int IntKind.i64 c] 24)) :=
    ⟨(Below.refl _ _).alloc (Nat.le_refl _) _, by simp, hw.up ((Below.refl _ _).alloc (Nat.le_refl _) _)⟩
  go_enter Tryz.func5, Tryz.ntmps5
  go_wp2_with fail
  go_region_held3 (fun w' => w'.cell? ⟨w.heap.size, 0, none⟩ = some (.int .i64 3) ∧ w'.cell? ⟨w.heap.size, 1, none⟩ = some (.int .i64 b) ∧ w'.cell? ⟨w.heap.size, 2, none⟩ = some (.int .i64 s) ∧ w'.cell? ⟨w.heap.size, 3, none⟩ = some (.int .i64 c) ∧ Rest w w')
    (first
      | exact keepS (by assumption) hb
      | (refine ⟨?_, ?_, ?_, ?_, ?_⟩ <;> first | exact hrest.drew | go_keep))
    ((go_at_call 12; refine (itoa_below (restOf (w0 := w) (by assumption)).tab _ (by assumption) (by assumption)).mono ?_; rintro e w' ⟨rfl, hb⟩))
  all_goals
    rename_i hH
    obtain ⟨q0, q1, q2, q3, q4⟩ := hH
    go_wp2_with (go_at_call 13; refine (code13 c _ q4.tab c0 c1).mono ?_; rintro e w3 ⟨rfl, hb3⟩)
    go_ret
    exact ⟨_, rfl, by simp [codeB, sB, ByteArray.data_append], q4.below.trans (hb3.mono (Nat.le_of_lt q4.size))⟩

set_option maxHeartbeats 1600000 in
theorem text5_4 (b s c : Int) (w : World) (hw : Tab w) (b0 : -9223372036854775808 ≤ b) (b1 : b ≤ 9223372036854775807) (s0 : -9223372036854775808 ≤ s) (s1 : s ≤ 9223372036854775807) (c0 : -9223372036854775808 ≤ c) (c1 : c ≤ 9223372036854775807) :
    Calls Tryz.prog 5 #[.agg #[.int .i64 4, .int .i64 b, .int .i64 s, .int .i64 c]] w (TextPost ([115, 110, 97, 112, 115, 104, 111, 116, 32] ++ Lib.itoa b ++ [32] ++ codeL c) w) := by
  have hlb : (Lib.itoa b).length ≤ 21 := Lib.itoa_length_le b b0 b1
  have hls : (Lib.itoa s).length ≤ 21 := Lib.itoa_length_le s s0 s1
  have hq1 : ¬ 9223372036854775807 < 1 + (Lib.itoa b).length := by omega
  have hq2 : ¬ 9223372036854775807 < 1 + (Lib.itoa s).length := by omega
  have hlc : (codeB c).size ≤ 27 := codeB_size c c0 c1
  have hrest : Rest w (w.alloc (Obj.cells #[Value.int IntKind.i64 4, Value.int IntKind.i64 b, Value.int IntKind.i64 s, Value.int IntKind.i64 c] 24)) :=
    ⟨(Below.refl _ _).alloc (Nat.le_refl _) _, by simp, hw.up ((Below.refl _ _).alloc (Nat.le_refl _) _)⟩
  go_enter Tryz.func5, Tryz.ntmps5
  go_wp2_with fail
  go_region_held3 (fun w' => w'.cell? ⟨w.heap.size, 0, none⟩ = some (.int .i64 4) ∧ w'.cell? ⟨w.heap.size, 1, none⟩ = some (.int .i64 b) ∧ w'.cell? ⟨w.heap.size, 2, none⟩ = some (.int .i64 s) ∧ w'.cell? ⟨w.heap.size, 3, none⟩ = some (.int .i64 c) ∧ Rest w w')
    (first
      | exact keepS (by assumption) hb
      | (refine ⟨?_, ?_, ?_, ?_, ?_⟩ <;> first | exact hrest.drew | go_keep))
    ((go_at_call 12; refine (itoa_below (restOf (w0 := w) (by assumption)).tab _ (by assumption) (by assumption)).mono ?_; rintro e w' ⟨rfl, hb⟩))
  all_goals
    rename_i hH
    obtain ⟨q0, q1, q2, q3, q4⟩ := hH
    go_wp2_with (go_at_call 13; refine (code13 c _ q4.tab c0 c1).mono ?_; rintro e w3 ⟨rfl, hb3⟩)
    go_ret
    exact ⟨_, rfl, by simp [codeB, sB, ByteArray.data_append], q4.below.trans (hb3.mono (Nat.le_of_lt q4.size))⟩

set_option maxHeartbeats 1600000 in
theorem text5_5 (b s c : Int) (w : World) (hw : Tab w) (b0 : -9223372036854775808 ≤ b) (b1 : b ≤ 9223372036854775807) (s0 : -9223372036854775808 ≤ s) (s1 : s ≤ 9223372036854775807) (c0 : -9223372036854775808 ≤ c) (c1 : c ≤ 9223372036854775807) :
    Calls Tryz.prog 5 #[.agg #[.int .i64 5, .int .i64 b, .int .i64 s, .int .i64 c]] w (TextPost ([115, 116, 114, 101, 97, 109, 32] ++ Lib.itoa b ++ [32] ++ Lib.itoa s ++ [32] ++ codeL c) w) := by
  have hlb : (Lib.itoa b).length ≤ 21 := Lib.itoa_length_le b b0 b1
  have hls : (Lib.itoa s).length ≤ 21 := Lib.itoa_length_le s s0 s1
  have hq1 : ¬ 9223372036854775807 < 1 + (Lib.itoa b).length := by omega
  have hq2 : ¬ 9223372036854775807 < 1 + (Lib.itoa s).length := by omega
  have hlc : (codeB c).size ≤ 27 := codeB_size c c0 c1
  have hrest : Rest w (w.alloc (Obj.cells #[Value.int IntKind.i64 5, Value.int IntKind.i64 b, Value.int IntKind.i64 s, Value.int IntKind.i64 c] 24)) :=
    ⟨(Below.refl _ _).alloc (Nat.le_refl _) _, by simp, hw.up ((Below.refl _ _).alloc (Nat.le_refl _) _)⟩
  go_enter Tryz.func5, Tryz.ntmps5
  go_wp2_with fail
  go_region_held3 (fun w' => w'.cell? ⟨w.heap.size, 0, none⟩ = some (.int .i64 5) ∧ w'.cell? ⟨w.heap.size, 1, none⟩ = some (.int .i64 b) ∧ w'.cell? ⟨w.heap.size, 2, none⟩ = some (.int .i64 s) ∧ w'.cell? ⟨w.heap.size, 3, none⟩ = some (.int .i64 c) ∧ Rest w w')
    (first
      | exact keepS (by assumption) hb
      | (refine ⟨?_, ?_, ?_, ?_, ?_⟩ <;> first | exact hrest.drew | go_keep))
    ((go_at_call 12; refine (itoa_below (restOf (w0 := w) (by assumption)).tab _ (by assumption) (by assumption)).mono ?_; rintro e w' ⟨rfl, hb⟩))
  all_goals
    rename_i hH
    obtain ⟨q0, q1, q2, q3, q4⟩ := hH
    go_wp2_with (go_at_call 13; refine (code13 c _ q4.tab c0 c1).mono ?_; rintro e w3 ⟨rfl, hb3⟩)
    go_ret
    exact ⟨_, rfl, by simp [codeB, sB, ByteArray.data_append], q4.below.trans (hb3.mono (Nat.le_of_lt q4.size))⟩

set_option maxHeartbeats 1600000 in
theorem text5_6 (b s c : Int) (w : World) (hw : Tab w) (b0 : -9223372036854775808 ≤ b) (b1 : b ≤ 9223372036854775807) (s0 : -9223372036854775808 ≤ s) (s1 : s ≤ 9223372036854775807) (c0 : -9223372036854775808 ≤ c) (c1 : c ≤ 9223372036854775807) :
    Calls Tryz.prog 5 #[.agg #[.int .i64 6, .int .i64 b, .int .i64 s, .int .i64 c]] w (TextPost ([99, 104, 97, 105, 110, 32] ++ Lib.itoa b ++ [32] ++ codeL c) w) := by
  have hlb : (Lib.itoa b).length ≤ 21 := Lib.itoa_length_le b b0 b1
  have hls : (Lib.itoa s).length ≤ 21 := Lib.itoa_length_le s s0 s1
  have hq1 : ¬ 9223372036854775807 < 1 + (Lib.itoa b).length := by omega
  have hq2 : ¬ 9223372036854775807 < 1 + (Lib.itoa s).length := by omega
  have hlc : (codeB c).size ≤ 27 := codeB_size c c0 c1
  have hrest : Rest w (w.alloc (Obj.cells #[Value.int IntKind.i64 6, Value.int IntKind.i64 b, Value.int IntKind.i64 s, Value.int IntKind.i64 c] 24)) :=
    ⟨(Below.refl _ _).alloc (Nat.le_refl _) _, by simp, hw.up ((Below.refl _ _).alloc (Nat.le_refl _) _)⟩
  go_enter Tryz.func5, Tryz.ntmps5
  go_wp2_with fail
  go_region_held3 (fun w' => w'.cell? ⟨w.heap.size, 0, none⟩ = some (.int .i64 6) ∧ w'.cell? ⟨w.heap.size, 1, none⟩ = some (.int .i64 b) ∧ w'.cell? ⟨w.heap.size, 2, none⟩ = some (.int .i64 s) ∧ w'.cell? ⟨w.heap.size, 3, none⟩ = some (.int .i64 c) ∧ Rest w w')
    (first
      | exact keepS (by assumption) hb
      | (refine ⟨?_, ?_, ?_, ?_, ?_⟩ <;> first | exact hrest.drew | go_keep))
    ((go_at_call 12; refine (itoa_below (restOf (w0 := w) (by assumption)).tab _ (by assumption) (by assumption)).mono ?_; rintro e w' ⟨rfl, hb⟩))
  all_goals
    rename_i hH
    obtain ⟨q0, q1, q2, q3, q4⟩ := hH
    go_wp2_with (go_at_call 13; refine (code13 c _ q4.tab c0 c1).mono ?_; rintro e w3 ⟨rfl, hb3⟩)
    go_ret
    exact ⟨_, rfl, by simp [codeB, sB, ByteArray.data_append], q4.below.trans (hb3.mono (Nat.le_of_lt q4.size))⟩

set_option maxHeartbeats 1600000 in
theorem text5_n (k b s c : Int) (w : World) (hw : Tab w) (b0 : -9223372036854775808 ≤ b) (b1 : b ≤ 9223372036854775807) (s0 : -9223372036854775808 ≤ s) (s1 : s ≤ 9223372036854775807) (c0 : -9223372036854775808 ≤ c) (c1 : c ≤ 9223372036854775807) (n0 : ¬ k = 0) (n1 : ¬ k = 1) (n2 : ¬ k = 2) (n3 : ¬ k = 3) (n4 : ¬ k = 4) (n5 : ¬ k = 5) (n6 : ¬ k = 6) :
    Calls Tryz.prog 5 #[.agg #[.int .i64 k, .int .i64 b, .int .i64 s, .int .i64 c]] w (TextPost [] w) := by
  have hlb : (Lib.itoa b).length ≤ 21 := Lib.itoa_length_le b b0 b1
  have hls : (Lib.itoa s).length ≤ 21 := Lib.itoa_length_le s s0 s1
  have hq1 : ¬ 9223372036854775807 < 1 + (Lib.itoa b).length := by omega
  have hq2 : ¬ 9223372036854775807 < 1 + (Lib.itoa s).length := by omega
  have hlc : (codeB c).size ≤ 27 := codeB_size c c0 c1
  have hrest : Rest w (w.alloc (Obj.cells #[Value.int IntKind.i64 k, Value.int IntKind.i64 b, Value.int IntKind.i64 s, Value.int IntKind.i64 c] 24)) :=
    ⟨(Below.refl _ _).alloc (Nat.le_refl _) _, by simp, hw.up ((Below.refl _ _).alloc (Nat.le_refl _) _)⟩
  go_enter Tryz.func5, Tryz.ntmps5
  go_wp2_with fail
  go_region_held3 (fun w' => w'.cell? ⟨w.heap.size, 0, none⟩ = some (.int .i64 k) ∧ w'.cell? ⟨w.heap.size, 1, none⟩ = some (.int .i64 b) ∧ w'.cell? ⟨w.heap.size, 2, none⟩ = some (.int .i64 s) ∧ w'.cell? ⟨w.heap.size, 3, none⟩ = some (.int .i64 c) ∧ Rest w w')
    (first
      | exact keepS (by assumption) hb
      | (refine ⟨?_, ?_, ?_, ?_, ?_⟩ <;> first | exact hrest.drew | go_keep))
    ((go_at_call 12; refine (itoa_below (restOf (w0 := w) (by assumption)).tab _ (by assumption) (by assumption)).mono ?_; rintro e w' ⟨rfl, hb⟩))
  all_goals
    rename_i hH
    obtain ⟨q0, q1, q2, q3, q4⟩ := hH
    go_wp2
    go_ret
    exact ⟨_, rfl, rfl, q4.below⟩

theorem text5 (k b s c : Int) (w : World) (hw : Tab w) (b0 : -9223372036854775808 ≤ b) (b1 : b ≤ 9223372036854775807) (s0 : -9223372036854775808 ≤ s) (s1 : s ≤ 9223372036854775807) (c0 : -9223372036854775808 ≤ c) (c1 : c ≤ 9223372036854775807) :
    Calls Tryz.prog 5 #[.agg #[.int .i64 k, .int .i64 b, .int .i64 s, .int .i64 c]] w (TextPost (textL k b s c) w) := by
  by_cases n0 : k = 0
  · subst n0
    have e : textL 0 b s c = [114, 111, 111, 116, 32] ++ Lib.itoa b ++ [32] ++ codeL c := by simp [textL]
    rw [e]
    exact text5_0 b s c w hw b0 b1 s0 s1 c0 c1
  by_cases n1 : k = 1
  · subst n1
    have e : textL 1 b s c = [100, 105, 114, 101, 99, 116, 111, 114, 121, 32] ++ codeL c := by simp [textL]
    rw [e]
    exact text5_1 b s c w hw b0 b1 s0 s1 c0 c1
  by_cases n2 : k = 2
  · subst n2
    have e : textL 2 b s c = [104, 101, 97, 100, 101, 114, 32] ++ codeL c := by simp [textL]
    rw [e]
    exact text5_2 b s c w hw b0 b1 s0 s1 c0 c1
  by_cases n3 : k = 3
  · subst n3
    have e : textL 3 b s c = [98, 108, 111, 99, 107, 32] ++ Lib.itoa b ++ [32] ++ codeL c := by simp [textL]
    rw [e]
    exact text5_3 b s c w hw b0 b1 s0 s1 c0 c1
  by_cases n4 : k = 4
  · subst n4
    have e : textL 4 b s c = [115, 110, 97, 112, 115, 104, 111, 116, 32] ++ Lib.itoa b ++ [32] ++ codeL c := by simp [textL]
    rw [e]
    exact text5_4 b s c w hw b0 b1 s0 s1 c0 c1
  by_cases n5 : k = 5
  · subst n5
    have e : textL 5 b s c = [115, 116, 114, 101, 97, 109, 32] ++ Lib.itoa b ++ [32] ++ Lib.itoa s ++ [32] ++ codeL c := by simp [textL]
    rw [e]
    exact text5_5 b s c w hw b0 b1 s0 s1 c0 c1
  by_cases n6 : k = 6
  · subst n6
    have e : textL 6 b s c = [99, 104, 97, 105, 110, 32] ++ Lib.itoa b ++ [32] ++ codeL c := by simp [textL]
    rw [e]
    exact text5_6 b s c w hw b0 b1 s0 s1 c0 c1
  have e : textL k b s c = [] := by simp [textL, n0, n1, n2, n3, n4, n5, n6]
  rw [e]
  exact text5_n k b s c w hw b0 b1 s0 s1 c0 c1 n0 n1 n2 n3 n4 n5 n6

end Go.Proofs.YtkoahnikmckgnaaGreatDoor.Ws
