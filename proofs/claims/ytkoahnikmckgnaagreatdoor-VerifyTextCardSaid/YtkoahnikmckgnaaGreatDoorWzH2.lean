/- Made by program: (*wavestore/store.Store).Append on its heap. -/
import Derived.Test.YtkoahnikmckgnaaGreatDoorWzS
set_option linter.unusedSimpArgs false
set_option linter.unusedVariables false
namespace Go.Proofs.YtkoahnikmckgnaaGreatDoor.Ws
open Go Go.Proofs Go.RowKit
noncomputable section
set_option maxRecDepth 100000

theorem hp2_runs : hp2.runs (runFn E3 (aexec E3 5000) hp2.f hp2.args (mkH hp2.n0 hp2.pre)) = true := by kernel_rfl

end
end Go.Proofs.YtkoahnikmckgnaaGreatDoor.Ws
