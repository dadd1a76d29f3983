/- A part of the proof of this seat's statement. Conditions: in each theorem. -/
import Derived.Test.YtfgipbjaapkdlaaGreatDoorRows
import Derived.SevenTiedAt
import Derived.KernelRfl
namespace Go.Proofs.YtfgipbjaapkdlaaGreatDoor
set_option maxRecDepth 100000 in
theorem cardWf : Rows.indexOrderUptoRow.wfByText (OpenSpec.ofChange Rows.indexOrderSpec) = true := by kernel_rfl
end Go.Proofs.YtfgipbjaapkdlaaGreatDoor
