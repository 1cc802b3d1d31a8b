/- Closed facts: the variables that the law can come to. -/
import Derived.Test.YtkoahnikmckgnaaGreatDoorWzK
import Derived.Test.YtkoahnikmckgnaaGreatDoorWzK0
import Derived.Test.YtkoahnikmckgnaaGreatDoorRows
import Derived.ProofKit
import Derived.JoinedOf
import GoSem.ClaimSeven
set_option linter.unusedSimpArgs false
set_option linter.unusedVariables false
namespace Go.Proofs.YtkoahnikmckgnaaGreatDoor
open Go Go.ChangeShapes Go.WideShapes Go.ChangeAt Go.RowKit Go.Proofs
set_option maxRecDepth 100000

theorem k_j12 : ((Rows.verifyTextRow.named == Tryz.prog.varsNamed 3)) = true := by
  rw [varsNamed_of k_closure]; kernel_rfl

end Go.Proofs.YtkoahnikmckgnaaGreatDoor
