/- A part of the proof of this seat's statement: what is particular to its program. Its conditions stand in each theorem. -/
import Derived.Test.YtfcjjabbnilphaaGreatDoorRows
import Derived.SevenTiedAt
import Derived.KernelRfl
namespace Go.Proofs.YtfcjjabbnilphaaGreatDoor
set_option maxRecDepth 100000 in
theorem cardWf : Rows.shrinkNamesRow.wfByText (OpenSpec.ofChange Rows.shrinkNamesSpec) = true := by kernel_rfl
end Go.Proofs.YtfcjjabbnilphaaGreatDoor
