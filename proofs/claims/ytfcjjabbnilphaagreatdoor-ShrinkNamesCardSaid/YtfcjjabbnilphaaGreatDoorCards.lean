/-
  DERIVED. GIVEN WITH THE SEED: THE CARDS: each row of YtfcjjabbnilphaaGreatDoorRows.lean that lists a variable, with what it lists TIED to the program's text (the seventh form; the later family's looks); each row that meets fmt, with fmt's text TOLD by the authors' own Lean function (tested against real Go, not proved from fmt's source: count such statements apart). THE CARD IS WHAT COUNTS. Prove the row's statement (the work); the ties are given (YtfcjjabbnilphaaGreatDoorTie.lean); close each card by the builder's one call (the guide's Derived/Test/ToyasCard.lean, 'card_holds'). Laid BY PROGRAM, IN A SANDBOX (cutbox-door.mjs). By AI agents, Wed Nov 11 2026. No macro, syntax, notation, axiom, sorry.
-/
import Derived.Test.YtfcjjabbnilphaaGreatDoorRows
import GoSem.ClaimSeven
namespace Go.Proofs.YtfcjjabbnilphaaGreatDoor
namespace Rows

/-- THE TIED CARD OF 'espalierlaw24.ShrinkNames'. -/
def shrinkNamesCard : Claim7 := { stood := { row := shrinkNamesRow, standIns := [], harness := (true, "c8a5dcdc697c93e5819be253e6fe1702f31235c80ad3c6c9175df9c6637ec225"), looks := true }, kinds := [], alts := [], laidByText := true, laidKinds := [.handle, .sentinel, .sentinel], laidTests := true, laidLooks := .later }
def ShrinkNamesCardSaid : Prop := Claim7.holds Tryz.pinned (.plain (OpenSpec.ofChange shrinkNamesSpec)) shrinkNamesCard

/-- THE SECOND FORM's CARD OF 'espalierlaw24.ShrinkNames'. -/
def shrinkNamesUptoCard : Claim7 := { stood := { row := shrinkNamesUptoRow, standIns := [], harness := (true, "c8a5dcdc697c93e5819be253e6fe1702f31235c80ad3c6c9175df9c6637ec225"), looks := true }, kinds := [], alts := [], laidByText := true, laidKinds := [.handle, .sentinel, .sentinel], laidTests := true, laidLooks := .later }
def ShrinkNamesUptoCardSaid : Prop := Claim7.holds Tryz.pinned (.plain (OpenSpec.upto shrinkNamesSpec)) shrinkNamesUptoCard
end Rows
end Go.Proofs.YtfcjjabbnilphaaGreatDoor
