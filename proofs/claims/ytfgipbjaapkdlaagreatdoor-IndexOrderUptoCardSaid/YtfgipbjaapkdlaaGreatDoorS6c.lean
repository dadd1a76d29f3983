/- A part of the proof of this seat's statement. Conditions: in each theorem. -/
import Derived.Test.YtfgipbjaapkdlaaGreatDoorRows
import Derived.SevenTiedAt
import Derived.KernelRfl
namespace Go.Proofs.YtfgipbjaapkdlaaGreatDoor
set_option maxRecDepth 100000 in
theorem cardMain : Tryz.prog.mainIs = some (true, ("598b7f3535e89ead2e4c5087b3d89f3663a3d5ceb7ebdf5cb320712f98f94d53" : String).toList) := by kernel_rfl
set_option maxRecDepth 100000 in
theorem cardLooks : true = Tryz.prog.looks [] := by kernel_rfl
set_option maxRecDepth 100000 in
theorem cardStands24 : Tryz.prog.wantsStandIn 24 = false := by kernel_rfl
set_option maxRecDepth 100000 in
theorem cardStands30 : Tryz.prog.wantsStandIn 30 = false := by kernel_rfl
end Go.Proofs.YtfgipbjaapkdlaaGreatDoor
