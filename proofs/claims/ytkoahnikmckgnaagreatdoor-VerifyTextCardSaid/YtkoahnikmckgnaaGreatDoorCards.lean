/-
  DERIVED. GIVEN WITH THE SEED: THE CARDS: each row of YtkoahnikmckgnaaGreatDoorRows.lean that lists a variable, with what it lists TIED to the program's text (the seventh form; the later family's looks); each row that meets fmt, with fmt's text TOLD by the authors' own Lean function (tested against real Go, not proved from fmt's source: count such statements apart). THE CARD IS WHAT COUNTS. Prove the row's statement (the work); the ties are given (YtkoahnikmckgnaaGreatDoorTie.lean); close each card by the builder's one call (the guide's Derived/Test/ToyasCard.lean, 'card_holds'). Laid BY PROGRAM, IN A SANDBOX (cutbox-door.mjs). By AI agents, Wed Nov 11 2026. No macro, syntax, notation, axiom, sorry.
-/
import Derived.Test.YtkoahnikmckgnaaGreatDoorRows
import GoSem.ClaimSeven
namespace Go.Proofs.YtkoahnikmckgnaaGreatDoor
namespace Rows

/-- THE TIED CARD OF 'wavestorelaw45.VerifyText'. -/
def verifyTextCard : Claim7 := { stood := { row := verifyTextRow, standIns := [], harness := (true, "6d4cf912647b728d0611e22351fa4d5e3d1546b089b897c80c7bc0a15fd01613"), looks := false }, kinds := [], alts := [], laidByText := true, laidKinds := [.data, .data, .data, .data, .pinned], laidTests := true, laidLooks := .later }
def VerifyTextCardSaid : Prop := Claim7.holds Tryz.pinned (.plain (OpenSpec.ofChange verifyTextSpec)) verifyTextCard

/-- THE SECOND FORM's CARD OF 'wavestorelaw45.VerifyText'. -/
def verifyTextUptoCard : Claim7 := { stood := { row := verifyTextUptoRow, standIns := [], harness := (true, "6d4cf912647b728d0611e22351fa4d5e3d1546b089b897c80c7bc0a15fd01613"), looks := false }, kinds := [], alts := [], laidByText := true, laidKinds := [.data, .data, .data, .data, .pinned], laidTests := true, laidLooks := .later }
def VerifyTextUptoCardSaid : Prop := Claim7.holds Tryz.pinned (.plain (OpenSpec.upto verifyTextSpec)) verifyTextUptoCard
end Rows
end Go.Proofs.YtkoahnikmckgnaaGreatDoor
