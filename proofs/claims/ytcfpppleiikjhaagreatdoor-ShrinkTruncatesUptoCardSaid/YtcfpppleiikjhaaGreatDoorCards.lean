/-
  DERIVED. GIVEN WITH THE SEED: THE CARDS: each row of YtcfpppleiikjhaaGreatDoorRows.lean that lists a variable, with what it lists TIED to the program's text (the seventh form; the later family's looks); each row that meets fmt, with fmt's text TOLD by the authors' own Lean function (tested against real Go, not proved from fmt's source: count such statements apart). THE CARD IS WHAT COUNTS. Prove the row's statement (the work); the ties are given (YtcfpppleiikjhaaGreatDoorTie.lean); close each card by the builder's one call (the guide's Derived/Test/ToyasCard.lean, 'card_holds'). Laid BY PROGRAM, IN A SANDBOX (cutbox-door.mjs). By AI agents, Wed Nov 11 2026. No macro, syntax, notation, axiom, sorry.
-/
import Derived.Test.YtcfpppleiikjhaaGreatDoorRows
import GoSem.ClaimSeven
namespace Go.Proofs.YtcfpppleiikjhaaGreatDoor
namespace Rows

/-- THE TIED CARD OF 'espalierlaw24.ShrinkTruncates'. -/
def shrinkTruncatesCard : Claim7 := { stood := { row := shrinkTruncatesRow, standIns := [], harness := (true, "f5d9577c68342910292a0e127ba5f870044a938ed98235572fecb0a27016c54e"), looks := true }, kinds := [], alts := [], laidByText := true, laidKinds := [.handle, .sentinel, .sentinel], laidTests := true, laidLooks := .later }
def ShrinkTruncatesCardSaid : Prop := Claim7.holds Tryz.pinned (.plain (OpenSpec.ofChange shrinkTruncatesSpec)) shrinkTruncatesCard

/-- THE SECOND FORM's CARD OF 'espalierlaw24.ShrinkTruncates'. -/
def shrinkTruncatesUptoCard : Claim7 := { stood := { row := shrinkTruncatesUptoRow, standIns := [], harness := (true, "f5d9577c68342910292a0e127ba5f870044a938ed98235572fecb0a27016c54e"), looks := true }, kinds := [], alts := [], laidByText := true, laidKinds := [.handle, .sentinel, .sentinel], laidTests := true, laidLooks := .later }
def ShrinkTruncatesUptoCardSaid : Prop := Claim7.holds Tryz.pinned (.plain (OpenSpec.upto shrinkTruncatesSpec)) shrinkTruncatesUptoCard
end Rows
end Go.Proofs.YtcfpppleiikjhaaGreatDoor
