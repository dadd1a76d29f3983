/-
  DERIVED. GIVEN WITH THE SEED: THE CARDS: each row of YtfgipbjaapkdlaaGreatDoorRows.lean that lists a variable, with what it lists TIED to the program's text (the seventh form; the later family's looks); each row that meets fmt, with fmt's text TOLD by the authors' own Lean function (tested against real Go, not proved from fmt's source: count such statements apart). THE CARD IS WHAT COUNTS. Prove the row's statement (the work); the ties are given (YtfgipbjaapkdlaaGreatDoorTie.lean); close each card by the builder's one call (the guide's Derived/Test/ToyasCard.lean, 'card_holds'). Laid BY PROGRAM, IN A SANDBOX (cutbox-door.mjs). By AI agents, Wed Nov 11 2026. No macro, syntax, notation, axiom, sorry.
-/
import Derived.Test.YtfgipbjaapkdlaaGreatDoorRows
import GoSem.ClaimSeven
namespace Go.Proofs.YtfgipbjaapkdlaaGreatDoor
namespace Rows

/-- THE TIED CARD OF 'espalierlaw19.IndexEntries'. -/
def indexEntriesCard : Claim7 := { stood := { row := indexEntriesRow, standIns := [], harness := (true, "598b7f3535e89ead2e4c5087b3d89f3663a3d5ceb7ebdf5cb320712f98f94d53"), looks := true }, kinds := [], alts := [], laidByText := true, laidKinds := [.data, .pinned], laidTests := true, laidLooks := .later }
def IndexEntriesCardSaid : Prop := Claim7.holds Tryz.pinned (.plain (OpenSpec.ofChange indexEntriesSpec)) indexEntriesCard

/-- THE TIED CARD OF 'espalierlaw19.IndexOrder'. -/
def indexOrderCard : Claim7 := { stood := { row := indexOrderRow, standIns := [], harness := (true, "598b7f3535e89ead2e4c5087b3d89f3663a3d5ceb7ebdf5cb320712f98f94d53"), looks := true }, kinds := [], alts := [], laidByText := true, laidKinds := [.data, .pinned], laidTests := true, laidLooks := .later }
def IndexOrderCardSaid : Prop := Claim7.holds Tryz.pinned (.plain (OpenSpec.ofChange indexOrderSpec)) indexOrderCard

/-- THE SECOND FORM's CARD OF 'espalierlaw19.IndexEntries'. -/
def indexEntriesUptoCard : Claim7 := { stood := { row := indexEntriesUptoRow, standIns := [], harness := (true, "598b7f3535e89ead2e4c5087b3d89f3663a3d5ceb7ebdf5cb320712f98f94d53"), looks := true }, kinds := [], alts := [], laidByText := true, laidKinds := [.data, .pinned], laidTests := true, laidLooks := .later }
def IndexEntriesUptoCardSaid : Prop := Claim7.holds Tryz.pinned (.plain (OpenSpec.upto indexEntriesSpec)) indexEntriesUptoCard

/-- THE SECOND FORM's CARD OF 'espalierlaw19.IndexOrder'. -/
def indexOrderUptoCard : Claim7 := { stood := { row := indexOrderUptoRow, standIns := [], harness := (true, "598b7f3535e89ead2e4c5087b3d89f3663a3d5ceb7ebdf5cb320712f98f94d53"), looks := true }, kinds := [], alts := [], laidByText := true, laidKinds := [.data, .pinned], laidTests := true, laidLooks := .later }
def IndexOrderUptoCardSaid : Prop := Claim7.holds Tryz.pinned (.plain (OpenSpec.upto indexOrderSpec)) indexOrderUptoCard
end Rows
end Go.Proofs.YtfgipbjaapkdlaaGreatDoor
