/- Made by program: wavestore/verify.Salvage on its heap. -/
import Derived.Test.YtkoahnikmckgnaaGreatDoorWzS
set_option linter.unusedSimpArgs false
set_option linter.unusedVariables false
namespace Go.Proofs.YtkoahnikmckgnaaGreatDoor.Ws
open Go Go.Proofs Go.RowKit
noncomputable section
set_option maxRecDepth 100000

theorem hp6_runs : hp6.runs (runFn E3 (aexec E3 5000) hp6.f hp6.args (mkH hp6.n0 hp6.pre)) = true := by kernel_rfl

end
end Go.Proofs.YtkoahnikmckgnaaGreatDoor.Ws
