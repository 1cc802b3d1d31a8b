/- Made by program: known calls of lz77.Encode. -/
import Derived.Test.YtkoahnikmckgnaaGreatDoorWzC
set_option linter.unusedSimpArgs false
set_option linter.unusedVariables false
namespace Go.Proofs.YtkoahnikmckgnaaGreatDoor.Ws
open Go Go.Proofs Go.RowKit
noncomputable section
set_option maxRecDepth 100000

def encA0 : List Value := [(.string ⟨#[17, 0, 4, 116, 101, 115, 116, 0, 0, 1, 2, 115, 65, 17, 0, 0, 0, 1, 0, 1, 1, 0, 1, 0, 0]⟩)]
def encR0 : Value := (.tuple #[(.string ⟨#[25, 8, 127, 252, 201, 168, 175, 248, 172, 217, 22, 48, 180, 203, 83, 122, 56, 107, 13, 20, 249, 81, 188, 223, 43, 132, 240]⟩), (.int .i64 0)])
theorem enc0 : runsTo encR0 (runFn E2 (aexec E2 5000) 169 (encA0.map .raw) AH.zero) = true := by kernel_rfl

def encA7 : List Value := [(.string ⟨#[1, 2, 1, 0, 0, 0, 1, 9]⟩)]
def encR7 : Value := (.tuple #[(.string ⟨#[8, 0, 128, 161, 234, 130, 5, 45, 129, 179, 166, 226]⟩), (.int .i64 0)])
theorem enc7 : runsTo encR7 (runFn E2 (aexec E2 5000) 169 (encA7.map .raw) AH.zero) = true := by kernel_rfl

end
end Go.Proofs.YtkoahnikmckgnaaGreatDoor.Ws
