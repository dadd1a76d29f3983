/-
  DERIVED. GIVEN WITH THE SEED: THE CARDS: each row of YtnephpkcchoeaaaGreatDoorRows.lean that lists a variable, with what it lists TIED to the program's text (the seventh form; the later family's looks); each row that meets fmt, with fmt's text TOLD by the authors' own Lean function (tested against real Go, not proved from fmt's source: count such statements apart). THE CARD IS WHAT COUNTS. Prove the row's statement (the work); the ties are given (YtnephpkcchoeaaaGreatDoorTie.lean); close each card by the builder's one call (the guide's Derived/Test/ToyasCard.lean, 'card_holds'). Laid BY PROGRAM, IN A SANDBOX (cutbox-door.mjs). By AI agents, Wed Nov 11 2026. No macro, syntax, notation, axiom, sorry.
-/
import Derived.Test.YtnephpkcchoeaaaGreatDoorRows
import GoSem.ClaimSeven
namespace Go.Proofs.YtnephpkcchoeaaaGreatDoor
namespace Rows

/-- THE TIED CARD OF 'espalierlaw23.ShipNumbers'. -/
def shipNumbersCard : Claim7 := { stood := { row := shipNumbersRow, standIns := [], harness := (true, "3bb934c22a90d30098f1607dbaca61eb61406f3f98f2cad00118f247d2218452"), looks := true }, kinds := [], alts := [], laidByText := true, laidKinds := [.handle, .sentinel, .sentinel], laidTests := true, laidLooks := .later }
def ShipNumbersCardSaid : Prop := Claim7.holds Tryz.pinned (.plain (OpenSpec.ofChange shipNumbersSpec)) shipNumbersCard

/-- THE SECOND FORM's CARD OF 'espalierlaw23.ShipNumbers'. -/
def shipNumbersUptoCard : Claim7 := { stood := { row := shipNumbersUptoRow, standIns := [], harness := (true, "3bb934c22a90d30098f1607dbaca61eb61406f3f98f2cad00118f247d2218452"), looks := true }, kinds := [], alts := [], laidByText := true, laidKinds := [.handle, .sentinel, .sentinel], laidTests := true, laidLooks := .later }
def ShipNumbersUptoCardSaid : Prop := Claim7.holds Tryz.pinned (.plain (OpenSpec.upto shipNumbersSpec)) shipNumbersUptoCard
end Rows
end Go.Proofs.YtnephpkcchoeaaaGreatDoor
