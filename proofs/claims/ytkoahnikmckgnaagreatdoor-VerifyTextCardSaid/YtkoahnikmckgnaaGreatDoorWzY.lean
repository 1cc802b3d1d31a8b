/- Proved: VerifyText returns true for every finding, and its argument reads behind the call as it read before. Conditions: when the call begins, five tables of Go's library hold what their initialisers lay (listed in the row, tied to the program's text by the card); no other. -/
import Derived.Test.YtkoahnikmckgnaaGreatDoorWzX
import Derived.Test.YtkoahnikmckgnaaGreatDoorWzK6
import Derived.Test.YtkoahnikmckgnaaGreatDoorWzK7
import Derived.Test.YtkoahnikmckgnaaGreatDoorWzK8
import Derived.Test.YtkoahnikmckgnaaGreatDoorCards
import Derived.Test.YtkoahnikmckgnaaGreatDoorTie
import Derived.ProofKit
import Derived.OpenShut
import Derived.LaidMore
import Derived.Lay
import Derived.SevenTiedAt
import Derived.Stop.Joined
import Derived.Lib.SmallJoins
import Derived.Lib.LaidTab
import Derived.Stop.LaidErr
set_option linter.unusedSimpArgs false
set_option linter.unusedVariables false
namespace Go.Proofs.YtkoahnikmckgnaaGreatDoor
open Go Go.ChangeShapes Go.WideShapes Go.ChangeAt Go.RowKit Go.Proofs
set_option maxRecDepth 100000

theorem own : ownKnob Tryz.prog.godebug = none := by kernel_rfl

theorem tab_of_laid {W : World} (h : laidMetH Tryz.prog Rows.verifyTextRow.laid W) : Ws.Tab W := by
  rw [MakeChecks.laidMetH_plain _ _ _ (by kernel_rfl)] at h
  have h2 := laidMet.tail (laidMet.tail h)
  exact Lib.tabIs_of_head (g := 0) (t := 339) (e := 277) (n := 20) (k := .u64) (zs := Lib.pow10Tab) (by kernel_rfl) (by kernel_rfl) (by kernel_rfl) (by kernel_rfl) (by kernel_rfl) (by kernel_rfl) h2

/-- a finding reads as itself in whatever world -/
theorem shut24 {H : Type} {enc : TypeId × Value → H} {W : World} {base : Nat} {spare : Nat → Bool} {held : Bool} {k b s c : Int} (hk : (Lit.int .i64 k).wf = true) (hb : (Lit.int .i64 b).wf = true) (hs : (Lit.int .i64 s).wf = true) (hc : (Lit.int .i64 c).wf = true) :
    DataW.Trod enc Tryz.prog W base spare held 24 (.agg #[.int .i64 k, .int .i64 b, .int .i64 s, .int .i64 c]) (.agg [.lit (.int .i64 k), .lit (.int .i64 b), .lit (.int .i64 s), .lit (.int .i64 c)]) [] := by
  have i3 : ∀ n : Int, (Lit.int .i64 n).wf = true → DataW.trod enc Tryz.prog W base spare held 1 3 [.int .i64 n] = some (.lit (.int .i64 n), []) := fun n h => by simp [DataW.trod, Tryz.underlying3, h]
  have i22 : ∀ n : Int, (Lit.int .i64 n).wf = true → DataW.trod enc Tryz.prog W base spare held 1 22 [.int .i64 n] = some (.lit (.int .i64 n), []) := fun n h => by simp [DataW.trod, Tryz.underlying22, h]
  have c3 : Tryz.prog.cellsOf 3 = 1 := by kernel_rfl
  have c22 : Tryz.prog.cellsOf 22 = 1 := by kernel_rfl
  have c24 : Tryz.prog.cellsOf 24 = 4 := by kernel_rfl
  refine ⟨2, ?_⟩
  have h := Joins.trod_struct4_mk (enc := enc) (P := Tryz.prog) (w := W) (base := base) (spare := spare) (held := held) (n := 1) (cs := [.int .i64 k, .int .i64 b, .int .i64 s, .int .i64 c]) Tryz.underlying24 (by rw [c24]; rfl)
    (y0 := (.lit (.int .i64 k), [])) (y1 := (.lit (.int .i64 b), [])) (y2 := (.lit (.int .i64 s), [])) (y3 := (.lit (.int .i64 c), []))
    (by rw [c3]; exact i3 k hk) (by rw [c3]; exact i3 b hb) (by rw [c3]; exact i3 s hs) (by rw [c22]; exact i22 c hc)
  exact h

theorem lifted (os : Os) (started : os.Started) (H : Type) (enc : TypeId × Value → H) :
    ReturnsInHanded {} Tryz.checked os 3 .any (fun w args => (Rows.verifyTextSpec.pre enc Tryz.prog Tryz.f3 [] false w args ∧ laidMetH Tryz.prog Rows.verifyTextRow.laid w) ∧ sizedMet enc Tryz.prog Tryz.f3 (OpenSpec.ofChange Rows.verifyTextSpec) false w args)
      (Rows.verifyTextSpec.post enc Tryz.prog Tryz.f3 false true false false) := by
  refine returnsInHanded_of_change_and (C := Tryz.checked) (X := fun w _ => laidMetH Tryz.prog Rows.verifyTextRow.laid w) (fun _ _ _ hh h => h.of_heap hh) own started (by kernel_rfl) Tryz.func3
    (ChangeSpec.witness_shaped (enc := enc) (C := Tryz.checked) (os := os) (X := fun w _ => laidMetH Tryz.prog Rows.verifyTextRow.laid w) false (World.laidAll Tryz.prog os Rows.verifyTextRow.laid) #[.agg #[.int .i64 0, .int .i64 0, .int .i64 0, .int .i64 0]] 8 (World.laidAll_os _ _ _)
      (World.shaped_of_ZipB (by kernel_rfl) (by kernel_rfl)) (by kernel_rfl) (by kernel_rfl) (by kernel_rfl)
      (by rw [MakeChecks.laidMetH_plain _ _ _ (by kernel_rfl)]; exact laidMet_laidAll _ (by kernel_rfl) (by kernel_rfl))) ?_
  intro W base args ds gs before hval0 hW _ _ hL _
  have hval : ∀ (j : Nat) t v, Tryz.f3.params[j]? = some t → args[j]? = some v → Value.okWide Tryz.prog W .any base t v := hval0
  have hW' := hW
  obtain ⟨p, q, hA0, hV, rfl, _, _⟩ := hW
  have hA : DataW.TrodAll enc Tryz.prog W 0 (fun _ => true) true Tryz.f3.params.toList args.toList ds p := hA0
  rw [Tryz.params3] at hA hval
  obtain ⟨v0, d0, rfl, rfl, h0⟩ := trodAll_one hA
  obtain ⟨rfl, rfl⟩ := trodVars_none hV
  obtain ⟨x0, x1, x2, x3, y0, y1, y2, y3, n, rfl, rfl, rfl, t0, t1, t2, t3⟩ := Joins.open_agg4 Tryz.underlying24 (by kernel_rfl) (by kernel_rfl) (hval 0 24 v0 rfl rfl) h0
  obtain ⟨k, ek, rfl, wk⟩ := DataW.trod_int Tryz.underlying3 t0
  obtain ⟨b, eb, rfl, wb⟩ := DataW.trod_int Tryz.underlying3 t1
  obtain ⟨s, es, rfl, ws⟩ := DataW.trod_int Tryz.underlying3 t2
  obtain ⟨c, ec, rfl, wc⟩ := DataW.trod_int Tryz.underlying22 t3
  cases ek; cases eb; cases es; cases ec
  simp only [List.append_nil] at hW'
  have bd : ∀ n : Int, (Lit.int .i64 n).wf = true → -9223372036854775808 ≤ n ∧ n ≤ 9223372036854775807 := fun n h => by simpa [Lit.wf, IntKind.min, IntKind.max, IntKind.signed, IntKind.bits] using h
  refine (Ws.law k b s c W (tab_of_laid hL) (bd b wb).2 (bd s ws).2 (bd c wc).2).mono fun e W' ⟨he, hb⟩ => ?_
  subst he
  exact ⟨_, rfl, _, _, _, [], [], [], hW', trodAll_mk1 (shut_bool Tryz.underlying4 _), trodAll_mk1 (shut24 wk wb ws wc), rfl, hb.frame _, fun h => by cases h⟩

theorem verifyText_holds : Rows.VerifyTextSaid :=
  OpenClaim.holds_of_wide 3 Tryz.f3 rfl rfl rfl rfl rfl rfl rfl ⟨rfl, rfl, rfl, rfl, rfl⟩ rfl rfl rfl rfl rfl k_named Tryz.func3
    k_joined k_inst k_wrap
    (fun os started H enc _ => lifted os started H enc)

theorem verifyText_card : Rows.VerifyTextCardSaid :=
  Claim7.holds_tied_plain_at .later [] [.data, .data, .data, .data, .pinned] true (true, "6d4cf912647b728d0611e22351fa4d5e3d1546b089b897c80c7bc0a15fd01613") false verifyText_holds (fun _ h => by cases h) k_wf (fun _ h => by cases h) verifyText_row_tie rfl ⟨rfl, rfl⟩ k_main rfl
    (fun f fn hf hfn => by
      obtain rfl : f = 3 := (Option.some.inj (k_named.symm.trans hf)).symm
      obtain rfl : fn = Tryz.f3 := (Option.some.inj (Tryz.func3.symm.trans hfn)).symm
      exact ⟨k_looks, fun j t ht => by
        rw [Tryz.params3] at ht
        have hm : t ∈ [24] := by simpa using Array.mem_of_getElem? ht
        exact (show Tryz.prog.wantsStandIn t = false by simpa using List.all_eq_true.1 k_stand t hm)⟩)
    k_goes
#print axioms verifyText_card
end Go.Proofs.YtkoahnikmckgnaaGreatDoor
