/- Made by program: wavestore/wavestorelaw39.Begin on its heap. -/
import Derived.Test.YtkoahnikmckgnaaGreatDoorWzS
set_option linter.unusedSimpArgs false
set_option linter.unusedVariables false
namespace Go.Proofs.YtkoahnikmckgnaaGreatDoor.Ws
open Go Go.Proofs Go.RowKit
noncomputable section
set_option maxRecDepth 100000

theorem hp0_runs : hp0.runs (runFn E3 (aexec E3 5000) hp0.f hp0.args (mkH hp0.n0 hp0.pre)) = true := by kernel_rfl

end
end Go.Proofs.YtkoahnikmckgnaaGreatDoor.Ws
