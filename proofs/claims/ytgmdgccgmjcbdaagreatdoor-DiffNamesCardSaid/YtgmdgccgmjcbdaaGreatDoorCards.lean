/-
  DERIVED. GIVEN WITH THE SEED: THE CARDS: each row of YtgmdgccgmjcbdaaGreatDoorRows.lean that lists a variable, with what it lists TIED to the program's text (the seventh form; the later family's looks); each row that meets fmt, with fmt's text TOLD by the authors' own Lean function (tested against real Go, not proved from fmt's source: count such statements apart). THE CARD IS WHAT COUNTS. Prove the row's statement (the work); the ties are given (YtgmdgccgmjcbdaaGreatDoorTie.lean); close each card by the builder's one call (the guide's Derived/Test/ToyasCard.lean, 'card_holds'). Laid BY PROGRAM, IN A SANDBOX (cutbox-door.mjs). By AI agents, Wed Nov 11 2026. No macro, syntax, notation, axiom, sorry.
-/
import Derived.Test.YtgmdgccgmjcbdaaGreatDoorRows
import GoSem.ClaimSeven
namespace Go.Proofs.YtgmdgccgmjcbdaaGreatDoor
namespace Rows

/-- THE TIED CARD OF 'espalierlaw22.DiffNames'. -/
def diffNamesCard : Claim7 := { stood := { row := diffNamesRow, standIns := [], harness := (true, "00b1171d6894b248a8594def78194f5d784aefa462824d22876968a726e6ffd2"), looks := true }, kinds := [], alts := [], laidByText := true, laidKinds := [.handle, .sentinel, .sentinel], laidTests := true, laidLooks := .later }
def DiffNamesCardSaid : Prop := Claim7.holds Tryz.pinned (.plain (OpenSpec.ofChange diffNamesSpec)) diffNamesCard

/-- THE SECOND FORM's CARD OF 'espalierlaw22.DiffNames'. -/
def diffNamesUptoCard : Claim7 := { stood := { row := diffNamesUptoRow, standIns := [], harness := (true, "00b1171d6894b248a8594def78194f5d784aefa462824d22876968a726e6ffd2"), looks := true }, kinds := [], alts := [], laidByText := true, laidKinds := [.handle, .sentinel, .sentinel], laidTests := true, laidLooks := .later }
def DiffNamesUptoCardSaid : Prop := Claim7.holds Tryz.pinned (.plain (OpenSpec.upto diffNamesSpec)) diffNamesUptoCard
end Rows
end Go.Proofs.YtgmdgccgmjcbdaaGreatDoor
