/- Closed facts: no goroutine starts, and the law is function 3. -/
import Derived.Test.YtkoahnikmckgnaaGreatDoorWzK
import Derived.Test.YtkoahnikmckgnaaGreatDoorRows
import Derived.ProofKit
import Derived.JoinedOf
import GoSem.ClaimSeven
set_option linter.unusedSimpArgs false
set_option linter.unusedVariables false
namespace Go.Proofs.YtkoahnikmckgnaaGreatDoor
open Go Go.ChangeShapes Go.WideShapes Go.ChangeAt Go.RowKit Go.Proofs
set_option maxRecDepth 100000

theorem k_nogo : Tryz.prog.funcs.any Func.goes = false := by kernel_rfl
theorem k_goes : false = Rows.verifyTextRow.goesBy Tryz.prog := goesBy_of rfl k_nogo
theorem k_named : Tryz.prog.funcNamed Rows.verifyTextRow.func = some 3 := by kernel_rfl

end Go.Proofs.YtkoahnikmckgnaaGreatDoor
