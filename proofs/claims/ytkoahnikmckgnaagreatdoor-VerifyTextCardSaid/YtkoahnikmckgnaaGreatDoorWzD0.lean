/- Made by program: known calls of lz77.Encode. -/
import Derived.Test.YtkoahnikmckgnaaGreatDoorWzC
set_option linter.unusedSimpArgs false
set_option linter.unusedVariables false
namespace Go.Proofs.YtkoahnikmckgnaaGreatDoor.Ws
open Go Go.Proofs Go.RowKit
noncomputable section
set_option maxRecDepth 100000

def encA8 : List Value := [(.string ⟨#[4, 32, 240, 17, 36, 158, 156, 3, 1, 0, 0, 6, 26, 240, 22, 47, 85, 189, 1, 0, 0, 5, 26, 240, 22, 47, 85, 189, 1, 0, 0, 7, 26, 240, 22, 47, 85, 189]⟩)]
def encR8 : Value := (.tuple #[(.string ⟨#[38, 2, 9, 42, 22, 216, 90, 35, 2, 146, 253, 31, 120, 13, 67, 64, 71, 187, 39, 59, 242, 163, 84, 243, 251, 16, 186, 12, 17, 143, 173, 69]⟩), (.int .i64 0)])
theorem enc8 : runsTo encR8 (runFn E2 (aexec E2 5000) 169 (encA8.map .raw) AH.zero) = true := by kernel_rfl

end
end Go.Proofs.YtkoahnikmckgnaaGreatDoor.Ws
