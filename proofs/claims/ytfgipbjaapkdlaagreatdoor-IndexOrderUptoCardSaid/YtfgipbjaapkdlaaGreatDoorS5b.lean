/- A part of the proof of this seat's statement. Conditions: in each theorem. -/
import Derived.Test.YtfgipbjaapkdlaaGreatDoorRows
import Derived.JoinedOf
import Derived.KernelRfl
namespace Go.Proofs.YtfgipbjaapkdlaaGreatDoor
set_option maxRecDepth 100000 in
theorem fact1 : (Rows.indexOrderUptoRow.wf (OpenSpec.ofChange Rows.indexOrderSpec)) = true := by kernel_rfl
set_option maxRecDepth 100000 in
theorem fact2 : (laidOutB Tryz.prog) = true := by kernel_rfl
set_option maxRecDepth 100000 in
theorem fact3 : (mapsRowed Tryz.prog) = true := by kernel_rfl
set_option maxRecDepth 100000 in
theorem fact4 : (Tryz.f4.params.all (Tryz.prog.readableRec ·)) = true := by kernel_rfl
set_option maxRecDepth 100000 in
theorem fact5 : (namedTie Tryz.prog Rows.indexOrderUptoRow.named Rows.indexOrderSpec.vars) = true := by kernel_rfl
set_option maxRecDepth 100000 in
theorem fact6 : ((Rows.indexOrderUptoRow.stops == [])) = true := by kernel_rfl
set_option maxRecDepth 100000 in
theorem fact7 : ((Tryz.prog.stops == [])) = true := by kernel_rfl
set_option maxRecDepth 100000 in
theorem fact8 : ((Rows.indexOrderUptoRow.knobs == [])) = true := by kernel_rfl
set_option maxRecDepth 100000 in
theorem fact9 : ((Tryz.prog.stopKnobs == [])) = true := by kernel_rfl
end Go.Proofs.YtfgipbjaapkdlaaGreatDoor
