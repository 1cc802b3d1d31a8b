/- Closed facts of the row, put together. -/
import Derived.Test.YtkoahnikmckgnaaGreatDoorWzK
import Derived.Test.YtkoahnikmckgnaaGreatDoorWzK1
import Derived.Test.YtkoahnikmckgnaaGreatDoorWzK2
import Derived.Test.YtkoahnikmckgnaaGreatDoorWzK3
import Derived.Test.YtkoahnikmckgnaaGreatDoorWzK4
import Derived.Test.YtkoahnikmckgnaaGreatDoorWzK5
import Derived.Test.YtkoahnikmckgnaaGreatDoorRows
import Derived.ProofKit
import Derived.JoinedOf
import GoSem.ClaimSeven
set_option linter.unusedSimpArgs false
set_option linter.unusedVariables false
namespace Go.Proofs.YtkoahnikmckgnaaGreatDoor
open Go Go.ChangeShapes Go.WideShapes Go.ChangeAt Go.RowKit Go.Proofs
set_option maxRecDepth 100000

theorem k_j0 : (Rows.verifyTextRow.wf (OpenSpec.ofChange Rows.verifyTextSpec)) = true := by kernel_rfl
theorem k_j3 : (Tryz.f3.params.all (Tryz.prog.readableRec ·)) = true := by kernel_rfl
theorem k_j4 : (namedTie Tryz.prog Rows.verifyTextRow.named Rows.verifyTextSpec.vars) = true := by kernel_rfl
theorem k_j5 : ((Rows.verifyTextRow.stops == [])) = true := by kernel_rfl
theorem k_j6 : ((Tryz.prog.stops == [])) = true := by kernel_rfl
theorem k_j7 : ((Rows.verifyTextRow.knobs == [])) = true := by kernel_rfl
theorem k_j8 : ((Tryz.prog.stopKnobs == [])) = true := by kernel_rfl
theorem k_j13 : ((Rows.verifyTextRow.maps == (Tryz.f3.params.toList ++ Rows.verifyTextSpec.plain.varTypes Tryz.prog).any (Tryz.prog.mapsRec ·))) = true := by kernel_rfl
theorem k_j14 : ((Rows.verifyTextRow.ifaces == (Tryz.f3.params.toList ++ Rows.verifyTextSpec.plain.varTypes Tryz.prog).any (Tryz.prog.ifacesRec ·))) = true := by kernel_rfl
theorem k_j15 : ((Rows.verifyTextRow.mapsOut == Tryz.prog.mapsAmong Tryz.f3.resultTypes.toList)) = true := by kernel_rfl
theorem k_j16 : ((Rows.verifyTextRow.loops == (Tryz.f3.params.toList ++ Rows.verifyTextSpec.plain.varTypes Tryz.prog).any (Tryz.prog.loopsFrom ·))) = true := by kernel_rfl
theorem k_j17 : ((Rows.verifyTextRow.wideKeys == (Tryz.f3.params.toList ++ Rows.verifyTextSpec.plain.varTypes Tryz.prog ++ Tryz.f3.resultTypes.toList).any (Tryz.prog.wideKeysFrom ·))) = true := by kernel_rfl
theorem k_j18 : (Rows.verifyTextSpec.vars.all (Tryz.prog.varReadable ·)) = true := by kernel_rfl
theorem k_j19 : (Tryz.f3.resultTypes.all (fun t => Tryz.prog.readableRec t && decide (t < Tryz.prog.types.size))) = true := by kernel_rfl
theorem k_j20 : ((Rows.verifyTextRow.ifacesOut == Tryz.f3.resultTypes.toList.any (Tryz.prog.ifacesRec ·))) = true := by kernel_rfl
theorem k_j21 : ((Rows.verifyTextRow.loopsOut == Tryz.f3.resultTypes.toList.any (Tryz.prog.loopsFrom ·))) = true := by kernel_rfl
theorem k_j23 : (Rows.verifyTextRow.shortTexts.isNone) = true := by kernel_rfl
theorem k_j26 : ((Rows.verifyTextRow.lifted == Tryz.prog.liftsFinal)) = true := by kernel_rfl
theorem k_j27 : ((Tryz.prog.make == some Rows.verifyTextRow.make)) = true := by kernel_rfl
theorem k_j28 : ((Rows.verifyTextRow.kinds == (if Rows.verifyTextRow.domain.isEmpty then [] else Tryz.f3.params.toList.map fun t => match Tryz.prog.underlying t with | some (.int k) => some k | _ => none))) = true := by kernel_rfl
theorem k_j29 : ((Rows.verifyTextRow.pinned == Rows.verifyTextRow.pinnedBy)) = true := by kernel_rfl
theorem k_j30 : ((Rows.verifyTextRow.veiled == (Tryz.f3.params.toList ++ Rows.verifyTextSpec.plain.varTypes Tryz.prog ++ Tryz.f3.resultTypes.toList).any (Tryz.prog.veiledRec ·))) = true := by kernel_rfl
theorem k_j31 : (Rows.verifyTextRow.veiledFits Tryz.prog Tryz.f3.params.toList (Tryz.f3.params.toList ++ Rows.verifyTextSpec.plain.varTypes Tryz.prog ++ Tryz.f3.resultTypes.toList)) = true := by kernel_rfl

theorem k_joined : joinedFacts Tryz.prog 3 Tryz.f3 Rows.verifyTextSpec Rows.verifyTextRow = true :=
  joined_of k_j0 k_j1 k_j2 k_j3 k_j4 k_j5 k_j6 k_j7 k_j8 k_j9 k_j10 k_j11 k_j12 k_j13 k_j14 k_j15 k_j16 k_j17 k_j18 k_j19 k_j20 k_j21 k_j22 k_j23 k_j24 k_j25 k_j26 k_j27 k_j28 k_j29 k_j30 k_j31
theorem k_inst : Tryz.f3.isInstance Tryz.prog Rows.verifyTextRow.origin Rows.verifyTextRow.targs := of_decide_eq_true (by kernel_rfl)
theorem k_wrap : Tryz.f3.isWrapper Tryz.prog Rows.verifyTextRow.wrapper Rows.verifyTextRow.mainSum := by unfold Func.isWrapper; first | (rw [if_pos (by decide +kernel)]; kernel_rfl) | (rw [if_neg (by decide +kernel)]; exact ⟨rfl, rfl⟩)
theorem k_wf : Rows.verifyTextRow.wfByText (OpenSpec.ofChange Rows.verifyTextSpec) = true := by kernel_rfl

end Go.Proofs.YtkoahnikmckgnaaGreatDoor
