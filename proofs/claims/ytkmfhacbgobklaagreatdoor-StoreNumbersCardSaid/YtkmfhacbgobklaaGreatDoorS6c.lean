/- A part of the proof of this seat's statement: what is particular to its program. Its conditions stand in each theorem. -/
import Derived.Test.YtkmfhacbgobklaaGreatDoorRows
import Derived.SevenTiedAt
import Derived.KernelRfl
namespace Go.Proofs.YtkmfhacbgobklaaGreatDoor
set_option maxRecDepth 100000 in
theorem cardMain : Tryz.prog.mainIs = some (true, ("395a165d746b316b2cf3e9e49fedc533cacb25694f0578740b30313049f8294a" : String).toList) := by kernel_rfl
set_option maxRecDepth 100000 in
theorem cardLooks : true = Tryz.prog.looks [] := by kernel_rfl
end Go.Proofs.YtkmfhacbgobklaaGreatDoor
