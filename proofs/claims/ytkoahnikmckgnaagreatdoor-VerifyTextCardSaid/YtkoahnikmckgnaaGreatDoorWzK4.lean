/- Closed facts: maps and keys of the translation. -/
import Derived.Test.YtkoahnikmckgnaaGreatDoorRows
import Derived.ProofKit
import Derived.JoinedOf
import GoSem.ClaimSeven
set_option linter.unusedSimpArgs false
set_option linter.unusedVariables false
namespace Go.Proofs.YtkoahnikmckgnaaGreatDoor
open Go Go.ChangeShapes Go.WideShapes Go.ChangeAt Go.RowKit Go.Proofs
set_option maxRecDepth 100000

theorem k_j2 : (mapsRowed Tryz.prog) = true := by kernel_rfl
theorem k_j22 : ((Rows.verifyTextRow.plainKeys == Tryz.prog.plainKeys)) = true := by kernel_rfl

end Go.Proofs.YtkoahnikmckgnaaGreatDoor
