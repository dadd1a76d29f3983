/- A part of the proof of this seat's statement. Conditions: in each theorem. -/
import Derived.Test.YtfgipbjaapkdlaaGreatDoorRows
import Derived.JoinedOf
import Derived.KernelRfl
namespace Go.Proofs.YtfgipbjaapkdlaaGreatDoor
set_option maxRecDepth 100000 in
theorem fact12 : ((Rows.indexOrderUptoRow.recurses == Tryz.prog.recurses 4)) = true := by kernel_rfl
set_option maxRecDepth 100000 in
theorem fact13 : ((Rows.indexOrderUptoRow.named == Tryz.prog.varsNamed 4)) = true := by kernel_rfl
end Go.Proofs.YtfgipbjaapkdlaaGreatDoor
