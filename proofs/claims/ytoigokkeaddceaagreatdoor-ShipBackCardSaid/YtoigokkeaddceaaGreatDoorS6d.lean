/- A part of the proof of this seat's statement: what is particular to its program. Its conditions stand in each theorem. -/
import Derived.Test.YtoigokkeaddceaaGreatDoorRows
import Derived.SevenTiedAt
import Derived.KernelRfl
namespace Go.Proofs.YtoigokkeaddceaaGreatDoor
set_option maxRecDepth 100000 in
theorem cardGoes : false = Rows.shipBackRow.goesBy Tryz.prog := by kernel_rfl
end Go.Proofs.YtoigokkeaddceaaGreatDoor
