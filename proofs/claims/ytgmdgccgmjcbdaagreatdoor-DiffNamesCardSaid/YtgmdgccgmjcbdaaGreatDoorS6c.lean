/- A part of the proof of this seat's statement: what is particular to its program. Its conditions stand in each theorem. -/
import Derived.Test.YtgmdgccgmjcbdaaGreatDoorRows
import Derived.SevenTiedAt
import Derived.KernelRfl
namespace Go.Proofs.YtgmdgccgmjcbdaaGreatDoor
set_option maxRecDepth 100000 in
theorem cardMain : Tryz.prog.mainIs = some (true, ("00b1171d6894b248a8594def78194f5d784aefa462824d22876968a726e6ffd2" : String).toList) := by kernel_rfl
set_option maxRecDepth 100000 in
theorem cardLooks : true = Tryz.prog.looks [] := by kernel_rfl
end Go.Proofs.YtgmdgccgmjcbdaaGreatDoor
