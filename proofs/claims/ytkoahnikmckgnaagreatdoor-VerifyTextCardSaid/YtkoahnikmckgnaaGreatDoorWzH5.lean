/- Made by program: wavestore/verify.Check on its heap. -/
import Derived.Test.YtkoahnikmckgnaaGreatDoorWzS
set_option linter.unusedSimpArgs false
set_option linter.unusedVariables false
namespace Go.Proofs.YtkoahnikmckgnaaGreatDoor.Ws
open Go Go.Proofs Go.RowKit
noncomputable section
set_option maxRecDepth 100000

theorem hp5_runs : hp5.runs (runFn E3 (aexec E3 5000) hp5.f hp5.args (mkH hp5.n0 hp5.pre)) = true := by kernel_rfl

end
end Go.Proofs.YtkoahnikmckgnaaGreatDoor.Ws
