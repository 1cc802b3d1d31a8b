/- Closed facts: the tables of the translation. -/
import Derived.Test.YtkoahnikmckgnaaGreatDoorWzK
import Derived.Test.YtkoahnikmckgnaaGreatDoorRows
import Derived.ProofKit
import Derived.JoinedOf
import GoSem.ClaimSeven
set_option linter.unusedSimpArgs false
set_option linter.unusedVariables false
namespace Go.Proofs.YtkoahnikmckgnaaGreatDoor
open Go Go.ChangeShapes Go.WideShapes Go.ChangeAt Go.RowKit Go.Proofs
set_option maxRecDepth 100000

theorem k_rows : (List.range Tryz.prog.types.size).all (rowFine Tryz.prog) = true := by kernel_rfl
theorem k_globals : Tryz.prog.globals.all (fun g => decide (g.type < Tryz.prog.types.size)) = true := by kernel_rfl
theorem k_params : Tryz.prog.funcs.all (fun f => f.params.all fun t => decide (t < Tryz.prog.types.size)) = true := by kernel_rfl
theorem k_j1 : (laidOutB Tryz.prog) = true := laidOutB_of k_rows k_globals k_params

end Go.Proofs.YtkoahnikmckgnaaGreatDoor
