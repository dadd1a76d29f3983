/- A part of the proof of this seat's statement: what is particular to its program. Its conditions stand in each theorem. -/
import Derived.Test.YtgmdgccgmjcbdaaGreatDoorRows
import Derived.SevenTiedAt
import Derived.KernelRfl
namespace Go.Proofs.YtgmdgccgmjcbdaaGreatDoor
set_option maxRecDepth 100000 in
theorem cardWf : Rows.diffNamesRow.wfByText (OpenSpec.ofChange Rows.diffNamesSpec) = true := by kernel_rfl
end Go.Proofs.YtgmdgccgmjcbdaaGreatDoor
