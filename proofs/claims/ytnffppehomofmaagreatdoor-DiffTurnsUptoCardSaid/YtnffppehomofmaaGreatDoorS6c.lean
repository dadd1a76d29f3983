/- A part of the proof of this seat's statement: what is particular to its program. Its conditions stand in each theorem. -/
import Derived.Test.YtnffppehomofmaaGreatDoorRows
import Derived.SevenTiedAt
import Derived.KernelRfl
namespace Go.Proofs.YtnffppehomofmaaGreatDoor
set_option maxRecDepth 100000 in
theorem cardMain : Tryz.prog.mainIs = some (true, ("fa452e41eaf35638c7129d3b723ba103b3f8a89a4ec8940834b48b24884166e9" : String).toList) := by kernel_rfl
set_option maxRecDepth 100000 in
theorem cardLooks : true = Tryz.prog.looks [] := by kernel_rfl
set_option maxRecDepth 100000 in
theorem cardStands : Tryz.prog.wantsStandIn 22 = false := by kernel_rfl
end Go.Proofs.YtnffppehomofmaaGreatDoor
