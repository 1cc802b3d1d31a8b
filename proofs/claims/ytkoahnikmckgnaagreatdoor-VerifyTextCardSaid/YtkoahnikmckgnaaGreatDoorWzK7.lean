/- Closed facts: the program looks at nothing at run time. -/
import Derived.Test.YtkoahnikmckgnaaGreatDoorRows
import Derived.ProofKit
import Derived.JoinedOf
import GoSem.ClaimSeven
set_option linter.unusedSimpArgs false
set_option linter.unusedVariables false
namespace Go.Proofs.YtkoahnikmckgnaaGreatDoor
open Go Go.ChangeShapes Go.WideShapes Go.ChangeAt Go.RowKit Go.Proofs
set_option maxRecDepth 100000

theorem k_looks : false = Tryz.prog.looks [] := by kernel_rfl
theorem k_main : Tryz.prog.mainIs = some (true, "6d4cf912647b728d0611e22351fa4d5e3d1546b089b897c80c7bc0a15fd01613".toList) := by kernel_rfl
theorem k_stand : ([24].all fun u => !Tryz.prog.wantsStandIn u) = true := by kernel_rfl

end Go.Proofs.YtkoahnikmckgnaaGreatDoor
