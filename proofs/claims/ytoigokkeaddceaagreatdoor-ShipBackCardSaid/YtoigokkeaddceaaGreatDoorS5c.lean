/- A part of the proof of this seat's statement: what is particular to its program. Its conditions stand in each theorem. -/
import Derived.Test.YtoigokkeaddceaaGreatDoorRows
import Derived.JoinedOf
import Derived.KernelRfl
namespace Go.Proofs.YtoigokkeaddceaaGreatDoor
set_option maxRecDepth 100000 in
theorem fact10 : ((Rows.shipBackRow.inPlace == Tryz.prog.inPlace 5)) = true := by kernel_rfl
set_option maxRecDepth 100000 in
theorem fact11 : ((Rows.shipBackRow.unfollowed == Tryz.prog.unfollowed 5)) = true := by kernel_rfl
end Go.Proofs.YtoigokkeaddceaaGreatDoor
