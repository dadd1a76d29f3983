/- A part of the proof of this seat's statement: what is particular to its program. Its conditions stand in each theorem. -/
import Derived.Test.YtoigokkeaddceaaGreatDoorRows
import Derived.SevenTiedAt
import Derived.KernelRfl
namespace Go.Proofs.YtoigokkeaddceaaGreatDoor
set_option maxRecDepth 100000 in
theorem cardMain : Tryz.prog.mainIs = some (true, ("86041da16ba58ba142439a1279556a9631c196429f26f012df5eb67b58b78826" : String).toList) := by kernel_rfl
set_option maxRecDepth 100000 in
theorem cardLooks : true = Tryz.prog.looks [] := by kernel_rfl
set_option maxRecDepth 100000 in
theorem cardStands : Tryz.prog.wantsStandIn 25 = false := by kernel_rfl
set_option maxRecDepth 100000 in
theorem cardStands3 : Tryz.prog.wantsStandIn 3 = false := by kernel_rfl
set_option maxRecDepth 100000 in
theorem cardStands23 : Tryz.prog.wantsStandIn 23 = false := by kernel_rfl
end Go.Proofs.YtoigokkeaddceaaGreatDoor
