/- Closed facts: what is stopped, and how the program starts. -/
import Derived.Test.YtkoahnikmckgnaaGreatDoorRows
import Derived.ProofKit
import Derived.JoinedOf
import GoSem.ClaimSeven
set_option linter.unusedSimpArgs false
set_option linter.unusedVariables false
namespace Go.Proofs.YtkoahnikmckgnaaGreatDoor
open Go Go.ChangeShapes Go.WideShapes Go.ChangeAt Go.RowKit Go.Proofs
set_option maxRecDepth 100000

theorem k_j24 : (Tryz.prog.stopsHeard) = true := by kernel_rfl
theorem k_j25 : (Tryz.prog.mayEnter) = true := by kernel_rfl

end Go.Proofs.YtkoahnikmckgnaaGreatDoor
