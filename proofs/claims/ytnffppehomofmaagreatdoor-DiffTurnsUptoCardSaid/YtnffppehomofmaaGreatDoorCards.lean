/-
  DERIVED. GIVEN WITH THE SEED: THE CARDS: each row of YtnffppehomofmaaGreatDoorRows.lean that lists a variable, with what it lists TIED to the program's text (the seventh form; the later family's looks); each row that meets fmt, with fmt's text TOLD by the authors' own Lean function (tested against real Go, not proved from fmt's source: count such statements apart). THE CARD IS WHAT COUNTS. Prove the row's statement (the work); the ties are given (YtnffppehomofmaaGreatDoorTie.lean); close each card by the builder's one call (the guide's Derived/Test/ToyasCard.lean, 'card_holds'). Laid BY PROGRAM, IN A SANDBOX (cutbox-door.mjs). By AI agents, Wed Nov 11 2026. No macro, syntax, notation, axiom, sorry.
-/
import Derived.Test.YtnffppehomofmaaGreatDoorRows
import GoSem.ClaimSeven
namespace Go.Proofs.YtnffppehomofmaaGreatDoor
namespace Rows

/-- THE TIED CARD OF 'espalierlaw22.DiffTurns'. -/
def diffTurnsCard : Claim7 := { stood := { row := diffTurnsRow, standIns := [], harness := (true, "fa452e41eaf35638c7129d3b723ba103b3f8a89a4ec8940834b48b24884166e9"), looks := true }, kinds := [], alts := [], laidByText := true, laidKinds := [.handle, .sentinel, .sentinel], laidTests := true, laidLooks := .later }
def DiffTurnsCardSaid : Prop := Claim7.holds Tryz.pinned (.plain (OpenSpec.ofChange diffTurnsSpec)) diffTurnsCard

/-- THE SECOND FORM's CARD OF 'espalierlaw22.DiffTurns'. -/
def diffTurnsUptoCard : Claim7 := { stood := { row := diffTurnsUptoRow, standIns := [], harness := (true, "fa452e41eaf35638c7129d3b723ba103b3f8a89a4ec8940834b48b24884166e9"), looks := true }, kinds := [], alts := [], laidByText := true, laidKinds := [.handle, .sentinel, .sentinel], laidTests := true, laidLooks := .later }
def DiffTurnsUptoCardSaid : Prop := Claim7.holds Tryz.pinned (.plain (OpenSpec.upto diffTurnsSpec)) diffTurnsUptoCard
end Rows
end Go.Proofs.YtnffppehomofmaaGreatDoor
