/- A part of the proof of this seat's statement: what is particular to its program. Its conditions stand in each theorem. -/
import Derived.Test.YtnephpkcchoeaaaGreatDoorRows
import Derived.SevenTiedAt
import Derived.KernelRfl
namespace Go.Proofs.YtnephpkcchoeaaaGreatDoor
set_option maxRecDepth 100000 in
theorem cardWf : Rows.shipNumbersRow.wfByText (OpenSpec.ofChange Rows.shipNumbersSpec) = true := by kernel_rfl
set_option maxRecDepth 100000 in
theorem cardGoes : false = Rows.shipNumbersRow.goesBy Tryz.prog := by kernel_rfl
end Go.Proofs.YtnephpkcchoeaaaGreatDoor
