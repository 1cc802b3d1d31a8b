/- lz77.newSet: what it makes. -/
import Derived.Test.YtkoahnikmckgnaaGreatDoorWzB
set_option linter.unusedSimpArgs false
set_option linter.unusedVariables false
namespace Go.Proofs.YtkoahnikmckgnaaGreatDoor.Ws
open Go Go.Proofs Go.RowKit
noncomputable section
set_option maxRecDepth 100000

def rp1 : T AV := .n .e (some (.raw (.int .i64 1024))) .e
def rp2 : T AV := .n rp1 (some (.raw (.int .i64 1024))) .e
def rp3 : T AV := .n rp1 (some (.raw (.int .i64 1024))) rp1
def rp4 : T AV := .n rp2 (some (.raw (.int .i64 1024))) rp1
def rp7 : T AV := .n rp3 (some (.raw (.int .i64 1024))) rp3
def rp8 : T AV := .n rp4 (some (.raw (.int .i64 1024))) rp3
def rp15 : T AV := .n rp7 (some (.raw (.int .i64 1024))) rp7
def rp16 : T AV := .n rp8 (some (.raw (.int .i64 1024))) rp7
def rp31 : T AV := .n rp15 (some (.raw (.int .i64 1024))) rp15
def rp32 : T AV := .n rp16 (some (.raw (.int .i64 1024))) rp15
def rp63 : T AV := .n rp31 (some (.raw (.int .i64 1024))) rp31
def rp64 : T AV := .n rp32 (some (.raw (.int .i64 1024))) rp31
def rp127 : T AV := .n rp63 (some (.raw (.int .i64 1024))) rp63
def rp128 : T AV := .n rp64 (some (.raw (.int .i64 1024))) rp63
def rp255 : T AV := .n rp127 (some (.raw (.int .i64 1024))) rp127
def rp256 : T AV := .n rp128 (some (.raw (.int .i64 1024))) rp127
def rp511 : T AV := .n rp255 (some (.raw (.int .i64 1024))) rp255
def rp512 : T AV := .n rp256 (some (.raw (.int .i64 1024))) rp255
def rp1023 : T AV := .n rp511 (some (.raw (.int .i64 1024))) rp511
def rp1024 : T AV := .n rp512 (some (.raw (.int .i64 1024))) rp511
def rp2048 : T AV := .n rp1024 (some (.raw (.int .i64 1024))) rp1023

def setV : AV := .agg [.ptr 2 0, .ptr 5 0, .ptr 8 0, .ptr 11 0]
def treesL : List AV := [(.raw (.int .i64 8)), (.slc 3 0 256 256), (.raw (.int .i64 8)), (.slc 3 256 256 256), (.raw (.int .i64 8)), (.slc 3 512 256 256), (.raw (.int .i64 8)), (.slc 3 768 256 256), (.raw (.int .i64 8)), (.slc 3 1024 256 256), (.raw (.int .i64 8)), (.slc 3 1280 256 256), (.raw (.int .i64 8)), (.slc 3 1536 256 256), (.raw (.int .i64 8)), (.slc 3 1792 256 256)]
def setBs : List ABlk := [
  .cells 4 (fillT 0 [(.ptr 2 0), (.ptr 5 0), (.ptr 8 0), (.ptr 11 0)] .e) false,
  .cells 2 rp2 false,
  .cells 2 (fillT 0 [(.raw (.int .i64 1)), (.slc 1 0 2 2)] .e) false,
  .cells 2048 rp2048 false,
  .cells 16 (fillT 0 treesL .e) false,
  .cells 17 (fillT 0 (treesL ++ [.raw (.int .u8 0)]) .e) false,
  .cells 64 rp64 false,
  .cells 2 (fillT 0 [(.raw (.int .i64 6)), (.slc 6 0 64 64)] .e) false,
  .cells 2 (fillT 0 [(.raw (.int .i64 6)), (.slc 6 0 64 64)] .e) false,
  .cells 64 rp64 false,
  .cells 2 (fillT 0 [(.raw (.int .i64 6)), (.slc 9 0 64 64)] .e) false,
  .cells 2 (fillT 0 [(.raw (.int .i64 6)), (.slc 9 0 64 64)] .e) false]

theorem newSet_makes : makes setV setBs (runFn E0 (aexec E0 5000) 238 (([] : List Value).map .raw) AH.zero) = true := by kernel_rfl

def setTpl : Nat → List AV → Option (AV × List ABlk) := tplAdd 238 [] setV setBs fun _ _ => none
theorem setTpl_ok (W0 : World) : TplOk Tryz.prog W0 setTpl := TplOk.add (E0_ok W0) 5000 newSet_makes TplOk.none

def E2 : Env := mkE shOrc setTpl
theorem E2_ok (W0 : World) : E2.Ok Tryz.prog W0 := mkE_ok (shOrc_ok W0) (setTpl_ok W0)

end
end Go.Proofs.YtkoahnikmckgnaaGreatDoor.Ws
