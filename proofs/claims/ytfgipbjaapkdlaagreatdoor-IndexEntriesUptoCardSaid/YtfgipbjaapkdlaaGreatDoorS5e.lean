/- A part of the proof of this seat's statement. Conditions: in each theorem. -/
import Derived.Test.YtfgipbjaapkdlaaGreatDoorRows
import Derived.JoinedOf
import Derived.KernelRfl
namespace Go.Proofs.YtfgipbjaapkdlaaGreatDoor
set_option maxRecDepth 100000 in
theorem fact14 : ((Rows.indexEntriesUptoRow.maps == (Tryz.f3.params.toList ++ Rows.indexEntriesSpec.plain.varTypes Tryz.prog).any (Tryz.prog.mapsRec ·))) = true := by kernel_rfl
set_option maxRecDepth 100000 in
theorem fact15 : ((Rows.indexEntriesUptoRow.ifaces == (Tryz.f3.params.toList ++ Rows.indexEntriesSpec.plain.varTypes Tryz.prog).any (Tryz.prog.ifacesRec ·))) = true := by kernel_rfl
set_option maxRecDepth 100000 in
theorem fact16 : ((Rows.indexEntriesUptoRow.mapsOut == Tryz.prog.mapsAmong Tryz.f3.resultTypes.toList)) = true := by kernel_rfl
set_option maxRecDepth 100000 in
theorem fact17 : ((Rows.indexEntriesUptoRow.loops == (Tryz.f3.params.toList ++ Rows.indexEntriesSpec.plain.varTypes Tryz.prog).any (Tryz.prog.loopsFrom ·))) = true := by kernel_rfl
set_option maxRecDepth 100000 in
theorem fact18 : ((Rows.indexEntriesUptoRow.wideKeys == (Tryz.f3.params.toList ++ Rows.indexEntriesSpec.plain.varTypes Tryz.prog ++ Tryz.f3.resultTypes.toList).any (Tryz.prog.wideKeysFrom ·))) = true := by kernel_rfl
set_option maxRecDepth 100000 in
theorem fact19 : (Rows.indexEntriesSpec.vars.all (Tryz.prog.varReadable ·)) = true := by kernel_rfl
set_option maxRecDepth 100000 in
theorem fact20 : (Tryz.f3.resultTypes.all (fun t => Tryz.prog.readableRec t && decide (t < Tryz.prog.types.size))) = true := by kernel_rfl
set_option maxRecDepth 100000 in
theorem fact21 : ((Rows.indexEntriesUptoRow.ifacesOut == Tryz.f3.resultTypes.toList.any (Tryz.prog.ifacesRec ·))) = true := by kernel_rfl
set_option maxRecDepth 100000 in
theorem fact22 : ((Rows.indexEntriesUptoRow.loopsOut == Tryz.f3.resultTypes.toList.any (Tryz.prog.loopsFrom ·))) = true := by kernel_rfl
set_option maxRecDepth 100000 in
theorem fact23 : ((Rows.indexEntriesUptoRow.plainKeys == Tryz.prog.plainKeys)) = true := by kernel_rfl
set_option maxRecDepth 100000 in
theorem fact24 : (Rows.indexEntriesUptoRow.shortTexts.isNone) = true := by kernel_rfl
set_option maxRecDepth 100000 in
theorem fact25 : (Tryz.prog.stopsHeard) = true := by kernel_rfl
set_option maxRecDepth 100000 in
theorem fact26 : (Tryz.prog.mayEnter) = true := by kernel_rfl
set_option maxRecDepth 100000 in
theorem fact27 : ((Rows.indexEntriesUptoRow.lifted == Tryz.prog.liftsFinal)) = true := by kernel_rfl
set_option maxRecDepth 100000 in
theorem fact28 : ((Tryz.prog.make == some Rows.indexEntriesUptoRow.make)) = true := by kernel_rfl
set_option maxRecDepth 100000 in
theorem fact29 : ((Rows.indexEntriesUptoRow.kinds == (if Rows.indexEntriesUptoRow.domain.isEmpty then [] else Tryz.f3.params.toList.map fun t => match Tryz.prog.underlying t with | some (.int k) => some k | _ => none))) = true := by kernel_rfl
set_option maxRecDepth 100000 in
theorem fact30 : ((Rows.indexEntriesUptoRow.pinned == Rows.indexEntriesUptoRow.pinnedBy)) = true := by kernel_rfl
set_option maxRecDepth 100000 in
theorem fact31 : ((Rows.indexEntriesUptoRow.veiled == (Tryz.f3.params.toList ++ Rows.indexEntriesSpec.plain.varTypes Tryz.prog ++ Tryz.f3.resultTypes.toList).any (Tryz.prog.veiledRec ·))) = true := by kernel_rfl
set_option maxRecDepth 100000 in
theorem fact32 : (Rows.indexEntriesUptoRow.veiledFits Tryz.prog Tryz.f3.params.toList (Tryz.f3.params.toList ++ Rows.indexEntriesSpec.plain.varTypes Tryz.prog ++ Tryz.f3.resultTypes.toList)) = true := by kernel_rfl
end Go.Proofs.YtfgipbjaapkdlaaGreatDoor
