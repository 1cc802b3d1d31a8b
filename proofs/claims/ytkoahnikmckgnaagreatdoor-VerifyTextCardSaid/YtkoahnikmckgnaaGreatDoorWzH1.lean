/- Made by program: (*wavestore/store.Store).Append on its heap. -/
import Derived.Test.YtkoahnikmckgnaaGreatDoorWzS
set_option linter.unusedSimpArgs false
set_option linter.unusedVariables false
namespace Go.Proofs.YtkoahnikmckgnaaGreatDoor.Ws
open Go Go.Proofs Go.RowKit
noncomputable section
set_option maxRecDepth 100000

theorem hp1_runs : hp1.runs (runFn E3 (aexec E3 5000) hp1.f hp1.args (mkH hp1.n0 hp1.pre)) = true := by kernel_rfl

end
end Go.Proofs.YtkoahnikmckgnaaGreatDoor.Ws
