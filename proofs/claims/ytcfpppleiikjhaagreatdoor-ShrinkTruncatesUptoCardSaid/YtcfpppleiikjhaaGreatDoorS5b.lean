/- A part of the proof of this seat's statement: what is particular to its program. Its conditions stand in each theorem. -/
import Derived.Test.YtcfpppleiikjhaaGreatDoorRows
import Derived.JoinedOf
import Derived.KernelRfl
namespace Go.Proofs.YtcfpppleiikjhaaGreatDoor
set_option maxRecDepth 100000 in
theorem fact1 : (Rows.shrinkTruncatesUptoRow.wf (OpenSpec.ofChange Rows.shrinkTruncatesSpec)) = true := by kernel_rfl
set_option maxRecDepth 100000 in
theorem fact2 : (laidOutB Tryz.prog) = true := by kernel_rfl
set_option maxRecDepth 100000 in
theorem fact3 : (mapsRowed Tryz.prog) = true := by kernel_rfl
set_option maxRecDepth 100000 in
theorem fact4 : (Tryz.f3.params.all (Tryz.prog.readableRec ·)) = true := by kernel_rfl
set_option maxRecDepth 100000 in
theorem fact5 : (namedTie Tryz.prog Rows.shrinkTruncatesUptoRow.named Rows.shrinkTruncatesSpec.vars) = true := by kernel_rfl
set_option maxRecDepth 100000 in
theorem fact6 : ((Rows.shrinkTruncatesUptoRow.stops == [])) = true := by kernel_rfl
set_option maxRecDepth 100000 in
theorem fact7 : ((Tryz.prog.stops == [])) = true := by kernel_rfl
set_option maxRecDepth 100000 in
theorem fact8 : ((Rows.shrinkTruncatesUptoRow.knobs == [])) = true := by kernel_rfl
set_option maxRecDepth 100000 in
theorem fact9 : ((Tryz.prog.stopKnobs == [])) = true := by kernel_rfl
end Go.Proofs.YtcfpppleiikjhaaGreatDoor
