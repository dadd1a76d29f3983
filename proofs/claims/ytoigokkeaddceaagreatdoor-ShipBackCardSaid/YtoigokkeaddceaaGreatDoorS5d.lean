/- A part of the proof of this seat's statement: what is particular to its program. Its conditions stand in each theorem. -/
import Derived.Test.YtoigokkeaddceaaGreatDoorRows
import Derived.JoinedOf
import Derived.KernelRfl
namespace Go.Proofs.YtoigokkeaddceaaGreatDoor
set_option maxRecDepth 100000 in
theorem fact12 : ((Rows.shipBackRow.recurses == Tryz.prog.recurses 5)) = true := by kernel_rfl
set_option maxRecDepth 100000 in
theorem fact13 : ((Rows.shipBackRow.named == Tryz.prog.varsNamed 5)) = true := by kernel_rfl
end Go.Proofs.YtoigokkeaddceaaGreatDoor
