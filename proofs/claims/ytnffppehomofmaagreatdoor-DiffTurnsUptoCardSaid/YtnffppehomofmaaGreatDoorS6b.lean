/- A part of the proof of this seat's statement: what is particular to its program. Its conditions stand in each theorem. -/
import Derived.Test.YtnffppehomofmaaGreatDoorRows
import Derived.SevenTiedAt
import Derived.KernelRfl
namespace Go.Proofs.YtnffppehomofmaaGreatDoor
set_option maxRecDepth 100000 in
theorem cardWf : Rows.diffTurnsUptoRow.wfByText (OpenSpec.ofChange Rows.diffTurnsSpec) = true := by kernel_rfl
end Go.Proofs.YtnffppehomofmaaGreatDoor
