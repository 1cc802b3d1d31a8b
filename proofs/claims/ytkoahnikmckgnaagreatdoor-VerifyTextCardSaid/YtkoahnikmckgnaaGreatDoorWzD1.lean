/- Made by program: known calls of lz77.Encode. -/
import Derived.Test.YtkoahnikmckgnaaGreatDoorWzC
set_option linter.unusedSimpArgs false
set_option linter.unusedVariables false
namespace Go.Proofs.YtkoahnikmckgnaaGreatDoor.Ws
open Go Go.Proofs Go.RowKit
noncomputable section
set_option maxRecDepth 100000

def encA5 : List Value := [(.string ⟨#[1, 1, 1, 0, 0, 0, 1, 9]⟩)]
def encR5 : Value := (.tuple #[(.string ⟨#[8, 0, 193, 252, 249, 50, 170, 234, 91, 107, 128, 86]⟩), (.int .i64 0)])
theorem enc5 : runsTo encR5 (runFn E2 (aexec E2 5000) 169 (encA5.map .raw) AH.zero) = true := by kernel_rfl

def encA6 : List Value := [(.string ⟨#[4, 32, 240, 17, 36, 158, 156, 2, 1, 0, 0, 6, 26, 240, 22, 47, 85, 189, 1, 0, 0, 5, 26, 240, 22, 47, 85, 189]⟩)]
def encR6 : Value := (.tuple #[(.string ⟨#[28, 2, 9, 42, 22, 216, 90, 35, 2, 144, 126, 175, 120, 13, 67, 64, 71, 187, 39, 59, 242, 163, 84, 243, 224, 97, 111, 108, 0]⟩), (.int .i64 0)])
theorem enc6 : runsTo encR6 (runFn E2 (aexec E2 5000) 169 (encA6.map .raw) AH.zero) = true := by kernel_rfl

end
end Go.Proofs.YtkoahnikmckgnaaGreatDoor.Ws
