/- A part of the proof of this seat's statement: what is particular to its program. Its conditions stand in each theorem. -/
import Derived.Test.YtkmfhacbgobklaaGreatDoorRows
import Derived.SevenTiedAt
import Derived.KernelRfl
namespace Go.Proofs.YtkmfhacbgobklaaGreatDoor
set_option maxRecDepth 100000 in
theorem cardWf : Rows.storeNumbersRow.wfByText (OpenSpec.ofChange Rows.storeNumbersSpec) = true := by kernel_rfl
set_option maxRecDepth 100000 in
theorem cardGoes : false = Rows.storeNumbersRow.goesBy Tryz.prog := by kernel_rfl
end Go.Proofs.YtkmfhacbgobklaaGreatDoor
