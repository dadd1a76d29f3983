/-
  DERIVED. GIVEN WITH THE SEED: THE CARDS: each row of YtoigokkeaddceaaGreatDoorRows.lean that lists a variable, with what it lists TIED to the program's text (the seventh form; the later family's looks); each row that meets fmt, with fmt's text TOLD by the authors' own Lean function (tested against real Go, not proved from fmt's source: count such statements apart). THE CARD IS WHAT COUNTS. Prove the row's statement (the work); the ties are given (YtoigokkeaddceaaGreatDoorTie.lean); close each card by the builder's one call (the guide's Derived/Test/ToyasCard.lean, 'card_holds'). Laid BY PROGRAM, IN A SANDBOX (cutbox-door.mjs). By AI agents, Wed Nov 11 2026. No macro, syntax, notation, axiom, sorry.
-/
import Derived.Test.YtoigokkeaddceaaGreatDoorRows
import GoSem.ClaimSeven
namespace Go.Proofs.YtoigokkeaddceaaGreatDoor
namespace Rows

/-- THE TIED CARD OF 'espalierlaw23.ShipEncodes'. -/
def shipEncodesCard : Claim7 := { stood := { row := shipEncodesRow, standIns := [], harness := (true, "86041da16ba58ba142439a1279556a9631c196429f26f012df5eb67b58b78826"), looks := true }, kinds := [], alts := [], laidByText := true, laidKinds := [.handle, .sentinel, .sentinel], laidTests := true, laidLooks := .later }
def ShipEncodesCardSaid : Prop := Claim7.holds Tryz.pinned (.plain (OpenSpec.ofChange shipEncodesSpec)) shipEncodesCard

/-- THE TIED CARD OF 'espalierlaw23.ShipDecodes'. -/
def shipDecodesCard : Claim7 := { stood := { row := shipDecodesRow, standIns := [], harness := (true, "86041da16ba58ba142439a1279556a9631c196429f26f012df5eb67b58b78826"), looks := true }, kinds := [], alts := [], laidByText := true, laidKinds := [.handle, .sentinel, .sentinel], laidTests := true, laidLooks := .later }
def ShipDecodesCardSaid : Prop := Claim7.holds Tryz.pinned (.plain (OpenSpec.ofChange shipDecodesSpec)) shipDecodesCard

/-- THE TIED CARD OF 'espalierlaw23.ShipBack'. -/
def shipBackCard : Claim7 := { stood := { row := shipBackRow, standIns := [], harness := (true, "86041da16ba58ba142439a1279556a9631c196429f26f012df5eb67b58b78826"), looks := true }, kinds := [], alts := [], laidByText := true, laidKinds := [.handle, .sentinel, .sentinel], laidTests := true, laidLooks := .later }
def ShipBackCardSaid : Prop := Claim7.holds Tryz.pinned (.plain (OpenSpec.ofChange shipBackSpec)) shipBackCard

/-- THE SECOND FORM's CARD OF 'espalierlaw23.ShipEncodes'. -/
def shipEncodesUptoCard : Claim7 := { stood := { row := shipEncodesUptoRow, standIns := [], harness := (true, "86041da16ba58ba142439a1279556a9631c196429f26f012df5eb67b58b78826"), looks := true }, kinds := [], alts := [], laidByText := true, laidKinds := [.handle, .sentinel, .sentinel], laidTests := true, laidLooks := .later }
def ShipEncodesUptoCardSaid : Prop := Claim7.holds Tryz.pinned (.plain (OpenSpec.upto shipEncodesSpec)) shipEncodesUptoCard

/-- THE SECOND FORM's CARD OF 'espalierlaw23.ShipDecodes'. -/
def shipDecodesUptoCard : Claim7 := { stood := { row := shipDecodesUptoRow, standIns := [], harness := (true, "86041da16ba58ba142439a1279556a9631c196429f26f012df5eb67b58b78826"), looks := true }, kinds := [], alts := [], laidByText := true, laidKinds := [.handle, .sentinel, .sentinel], laidTests := true, laidLooks := .later }
def ShipDecodesUptoCardSaid : Prop := Claim7.holds Tryz.pinned (.plain (OpenSpec.upto shipDecodesSpec)) shipDecodesUptoCard

/-- THE SECOND FORM's CARD OF 'espalierlaw23.ShipBack'. -/
def shipBackUptoCard : Claim7 := { stood := { row := shipBackUptoRow, standIns := [], harness := (true, "86041da16ba58ba142439a1279556a9631c196429f26f012df5eb67b58b78826"), looks := true }, kinds := [], alts := [], laidByText := true, laidKinds := [.handle, .sentinel, .sentinel], laidTests := true, laidLooks := .later }
def ShipBackUptoCardSaid : Prop := Claim7.holds Tryz.pinned (.plain (OpenSpec.upto shipBackSpec)) shipBackUptoCard
end Rows
end Go.Proofs.YtoigokkeaddceaaGreatDoor
