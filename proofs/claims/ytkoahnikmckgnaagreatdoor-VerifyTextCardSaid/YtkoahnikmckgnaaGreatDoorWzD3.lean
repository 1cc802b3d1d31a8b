/- Made by program: known calls of lz77.Encode. -/
import Derived.Test.YtkoahnikmckgnaaGreatDoorWzC
set_option linter.unusedSimpArgs false
set_option linter.unusedVariables false
namespace Go.Proofs.YtkoahnikmckgnaaGreatDoor.Ws
open Go Go.Proofs Go.RowKit
noncomputable section
set_option maxRecDepth 100000

def encA1 : List Value := [(.string ⟨#[4, 32, 240, 17, 36, 158, 156, 0]⟩)]
def encR1 : Value := (.tuple #[(.string ⟨#[8, 2, 9, 42, 22, 216, 90, 35, 2, 139, 128, 0, 0]⟩), (.int .i64 0)])
theorem enc1 : runsTo encR1 (runFn E2 (aexec E2 5000) 169 (encA1.map .raw) AH.zero) = true := by kernel_rfl

def encA2 : List Value := [(.string ⟨#[0, 128]⟩)]
def encR2 : Value := (.tuple #[(.string ⟨#[2, 0, 34, 7, 119, 224, 0]⟩), (.int .i64 0)])
theorem enc2 : runsTo encR2 (runFn E2 (aexec E2 5000) 169 (encA2.map .raw) AH.zero) = true := by kernel_rfl

def encA3 : List Value := [(.string ⟨#[1, 0, 1, 0, 0, 0, 1, 9]⟩)]
def encR3 : Value := (.tuple #[(.string ⟨#[8, 0, 128, 40, 25, 1, 147, 67, 31, 7, 27, 83]⟩), (.int .i64 0)])
theorem enc3 : runsTo encR3 (runFn E2 (aexec E2 5000) 169 (encA3.map .raw) AH.zero) = true := by kernel_rfl

def encA4 : List Value := [(.string ⟨#[4, 32, 240, 17, 36, 158, 156, 1, 1, 0, 0, 6, 26, 240, 22, 47, 85, 189]⟩)]
def encR4 : Value := (.tuple #[(.string ⟨#[18, 2, 9, 42, 22, 216, 90, 35, 2, 142, 0, 63, 120, 13, 67, 64, 71, 187, 39, 59, 192, 254, 0, 0]⟩), (.int .i64 0)])
theorem enc4 : runsTo encR4 (runFn E2 (aexec E2 5000) 169 (encA4.map .raw) AH.zero) = true := by kernel_rfl

end
end Go.Proofs.YtkoahnikmckgnaaGreatDoor.Ws
