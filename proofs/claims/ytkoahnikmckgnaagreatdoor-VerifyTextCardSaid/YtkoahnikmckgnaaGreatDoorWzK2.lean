/- Closed facts: what the law can come to. -/
import Derived.Test.YtkoahnikmckgnaaGreatDoorWzK
import Derived.Test.YtkoahnikmckgnaaGreatDoorWzK0
import Derived.Test.YtkoahnikmckgnaaGreatDoorRows
import Derived.ProofKit
import Derived.JoinedOf
import GoSem.ClaimSeven
set_option linter.unusedSimpArgs false
set_option linter.unusedVariables false
namespace Go.Proofs.YtkoahnikmckgnaaGreatDoor
open Go Go.ChangeShapes Go.WideShapes Go.ChangeAt Go.RowKit Go.Proofs
set_option maxRecDepth 100000

theorem k_j9 : ((Rows.verifyTextRow.inPlace == Tryz.prog.inPlace 3)) = true := by
  rw [inPlace_of k_closure]; kernel_rfl
theorem k_unf : Tryz.prog.unfollowed 3 = true := by
  rw [unfollowed_of k_closure]; kernel_rfl
theorem k_j10 : ((Rows.verifyTextRow.unfollowed == Tryz.prog.unfollowed 3)) = true := by
  rw [k_unf]; kernel_rfl
theorem k_j11 : ((Rows.verifyTextRow.recurses == Tryz.prog.recurses 3)) = true := by
  rw [recurses_of k_unf]; kernel_rfl

end Go.Proofs.YtkoahnikmckgnaaGreatDoor
