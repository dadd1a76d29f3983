/- A part of the proof of this seat's statement: what is particular to its program. Its conditions stand in each theorem. -/
import Derived.Test.YtfcjjabbnilphaaGreatDoorRows
import Derived.SevenTiedAt
import Derived.KernelRfl
namespace Go.Proofs.YtfcjjabbnilphaaGreatDoor
set_option maxRecDepth 100000 in
theorem cardMain : Tryz.prog.mainIs = some (true, ("c8a5dcdc697c93e5819be253e6fe1702f31235c80ad3c6c9175df9c6637ec225" : String).toList) := by kernel_rfl
set_option maxRecDepth 100000 in
theorem cardLooks : true = Tryz.prog.looks [] := by kernel_rfl
end Go.Proofs.YtfcjjabbnilphaaGreatDoor
