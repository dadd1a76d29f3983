/- A part of the proof of this seat's statement: what is particular to its program. Its conditions stand in each theorem. -/
import Derived.Test.YtcfpppleiikjhaaGreatDoorRows
import Derived.SevenTiedAt
import Derived.KernelRfl
namespace Go.Proofs.YtcfpppleiikjhaaGreatDoor
set_option maxRecDepth 100000 in
theorem cardMain : Tryz.prog.mainIs = some (true, ("f5d9577c68342910292a0e127ba5f870044a938ed98235572fecb0a27016c54e" : String).toList) := by kernel_rfl
set_option maxRecDepth 100000 in
theorem cardLooks : true = Tryz.prog.looks [] := by kernel_rfl
set_option maxRecDepth 100000 in
theorem cardStands : Tryz.prog.wantsStandIn 22 = false := by kernel_rfl
set_option maxRecDepth 100000 in
theorem cardStands3 : Tryz.prog.wantsStandIn 3 = false := by kernel_rfl
set_option maxRecDepth 100000 in
theorem cardStands23 : Tryz.prog.wantsStandIn 23 = false := by kernel_rfl
end Go.Proofs.YtcfpppleiikjhaaGreatDoor
