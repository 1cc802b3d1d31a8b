/- Made by program: what is known beside: lz77.Encode, lz77.Decode, the library's functions without a body. -/
import Derived.Test.YtkoahnikmckgnaaGreatDoorWzD0
import Derived.Test.YtkoahnikmckgnaaGreatDoorWzD1
import Derived.Test.YtkoahnikmckgnaaGreatDoorWzD2
import Derived.Test.YtkoahnikmckgnaaGreatDoorWzD3
set_option linter.unusedSimpArgs false
set_option linter.unusedVariables false
namespace Go.Proofs.YtkoahnikmckgnaaGreatDoor.Ws
open Go Go.Proofs Go.RowKit
noncomputable section
set_option maxRecDepth 100000

def encK : Known := [(encA0, encR0), (encA1, encR1), (encA2, encR2), (encA3, encR3), (encA4, encR4), (encA5, encR5), (encA6, encR6), (encA7, encR7), (encA8, encR8)]
theorem encK_ok (W0 w : World) (hw : Below W0.heap.size W0 w) : ∀ p ∈ encK, OrcAt Tryz.prog 169 p.1 p.2 w := by
  intro p hp
  simp only [encK, List.mem_cons, List.not_mem_nil, or_false] at hp
  rcases hp with rfl | rfl | rfl | rfl | rfl | rfl | rfl | rfl | rfl
  · exact orcAt_of (E2_ok W0) 5000 enc0 hw
  · exact orcAt_of (E2_ok W0) 5000 enc1 hw
  · exact orcAt_of (E2_ok W0) 5000 enc2 hw
  · exact orcAt_of (E2_ok W0) 5000 enc3 hw
  · exact orcAt_of (E2_ok W0) 5000 enc4 hw
  · exact orcAt_of (E2_ok W0) 5000 enc5 hw
  · exact orcAt_of (E2_ok W0) 5000 enc6 hw
  · exact orcAt_of (E2_ok W0) 5000 enc7 hw
  · exact orcAt_of (E2_ok W0) 5000 enc8 hw

def E2d : Env := mkE (orcAdd 169 encK shOrc) setTpl
theorem E2d_ok (W0 : World) : E2d.Ok Tryz.prog W0 := mkE_ok ((shOrc_ok W0).add fun w hw => encK_ok W0 w hw) (setTpl_ok W0)

def decA0 : List Value := [(.string ⟨#[38, 2, 9, 42, 22, 216, 90, 35, 2, 146, 253, 31, 120, 13, 67, 64, 71, 187, 39, 59, 242, 163, 84, 243, 251, 16, 186, 12, 17, 143, 173, 69]⟩), (.int .i64 4096)]
def decR0 : Value := (.tuple #[(.string ⟨#[4, 32, 240, 17, 36, 158, 156, 3, 1, 0, 0, 6, 26, 240, 22, 47, 85, 189, 1, 0, 0, 5, 26, 240, 22, 47, 85, 189, 1, 0, 0, 7, 26, 240, 22, 47, 85, 189]⟩), (.int .i64 0)])
theorem dec0 : runsTo decR0 (runFn E2d (aexec E2d 5000) 251 (decA0.map .raw) AH.zero) = true := by kernel_rfl
def decK : Known := [(decA0, decR0)]
theorem decK_ok (W0 w : World) (hw : Below W0.heap.size W0 w) : ∀ p ∈ decK, OrcAt Tryz.prog 251 p.1 p.2 w := by
  intro p hp
  simp only [decK, List.mem_cons, List.not_mem_nil, or_false] at hp
  subst hp
  exact orcAt_of (E2d_ok W0) 5000 dec0 hw

def cntK : Known := [([.string ⟨#[116, 101, 115, 116]⟩, .int .u8 32], .int .i64 0)]
theorem cnt0 (w : World) : (callFunc 547 [.string ⟨#[116, 101, 115, 116]⟩, .int .u8 32].toArray).run Tryz.prog w = .ok (.value (.int .i64 0)) w := by kernel_rfl
theorem cntK_ok (w : World) : ∀ p ∈ cntK, OrcAt Tryz.prog 547 p.1 p.2 w := by
  intro p hp
  simp only [cntK, List.mem_cons, List.not_mem_nil, or_false] at hp
  subst hp
  exact .inl (cnt0 w)

def ibsK : Known := [([.string ⟨#[92, 46, 91, 93]⟩, .int .u8 65], .int .i64 (-1)), ([.string ⟨#[92, 46, 91, 93]⟩, .int .u8 115], .int .i64 (-1))]
theorem ibs0 (w : World) : (callFunc 464 [.string ⟨#[92, 46, 91, 93]⟩, .int .u8 65].toArray).run Tryz.prog w = .ok (.value (.int .i64 (-1))) w := by kernel_rfl
theorem ibs1 (w : World) : (callFunc 464 [.string ⟨#[92, 46, 91, 93]⟩, .int .u8 115].toArray).run Tryz.prog w = .ok (.value (.int .i64 (-1))) w := by kernel_rfl
theorem ibsK_ok (w : World) : ∀ p ∈ ibsK, OrcAt Tryz.prog 464 p.1 p.2 w := by
  intro p hp
  simp only [ibsK, List.mem_cons, List.not_mem_nil, or_false] at hp
  rcases hp with rfl | rfl
  · exact .inl (ibs0 w)
  · exact .inl (ibs1 w)

def orc3 : Nat → List AV → Option Value := orcAdd 169 encK (orcAdd 251 decK (orcAdd 547 cntK (orcAdd 464 ibsK shOrc)))
theorem orc3_ok (W0 : World) : OrcOk Tryz.prog W0 orc3 :=
  ((((shOrc_ok W0).add fun w _ => ibsK_ok w).add fun w _ => cntK_ok w).add fun w hw => decK_ok W0 w hw).add fun w hw => encK_ok W0 w hw
def E3 : Env := mkE orc3 setTpl
theorem E3_ok (W0 : World) : E3.Ok Tryz.prog W0 := mkE_ok (orc3_ok W0) (setTpl_ok W0)

end
end Go.Proofs.YtkoahnikmckgnaaGreatDoor.Ws
