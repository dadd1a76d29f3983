/- A part of the proof of this seat's statement: what is particular to its program. Its conditions stand in each theorem. -/
import Derived.Test.YtoigokkeaddceaaGreatDoorRows
import Derived.JoinedOf
import Derived.KernelRfl
namespace Go.Proofs.YtoigokkeaddceaaGreatDoor
set_option maxRecDepth 100000 in
theorem fact14 : ((Rows.shipBackRow.maps == (Tryz.f5.params.toList ++ Rows.shipBackSpec.plain.varTypes Tryz.prog).any (Tryz.prog.mapsRec ·))) = true := by kernel_rfl
set_option maxRecDepth 100000 in
theorem fact15 : ((Rows.shipBackRow.ifaces == (Tryz.f5.params.toList ++ Rows.shipBackSpec.plain.varTypes Tryz.prog).any (Tryz.prog.ifacesRec ·))) = true := by kernel_rfl
set_option maxRecDepth 100000 in
theorem fact16 : ((Rows.shipBackRow.mapsOut == Tryz.prog.mapsAmong Tryz.f5.resultTypes.toList)) = true := by kernel_rfl
set_option maxRecDepth 100000 in
theorem fact17 : ((Rows.shipBackRow.loops == (Tryz.f5.params.toList ++ Rows.shipBackSpec.plain.varTypes Tryz.prog).any (Tryz.prog.loopsFrom ·))) = true := by kernel_rfl
set_option maxRecDepth 100000 in
theorem fact18 : ((Rows.shipBackRow.wideKeys == (Tryz.f5.params.toList ++ Rows.shipBackSpec.plain.varTypes Tryz.prog ++ Tryz.f5.resultTypes.toList).any (Tryz.prog.wideKeysFrom ·))) = true := by kernel_rfl
set_option maxRecDepth 100000 in
theorem fact19 : (Rows.shipBackSpec.vars.all (Tryz.prog.varReadable ·)) = true := by kernel_rfl
set_option maxRecDepth 100000 in
theorem fact20 : (Tryz.f5.resultTypes.all (fun t => Tryz.prog.readableRec t && decide (t < Tryz.prog.types.size))) = true := by kernel_rfl
set_option maxRecDepth 100000 in
theorem fact21 : ((Rows.shipBackRow.ifacesOut == Tryz.f5.resultTypes.toList.any (Tryz.prog.ifacesRec ·))) = true := by kernel_rfl
set_option maxRecDepth 100000 in
theorem fact22 : ((Rows.shipBackRow.loopsOut == Tryz.f5.resultTypes.toList.any (Tryz.prog.loopsFrom ·))) = true := by kernel_rfl
set_option maxRecDepth 100000 in
theorem fact23 : ((Rows.shipBackRow.plainKeys == Tryz.prog.plainKeys)) = true := by kernel_rfl
set_option maxRecDepth 100000 in
theorem fact24 : (Rows.shipBackRow.shortTexts.isNone) = true := by kernel_rfl
set_option maxRecDepth 100000 in
theorem fact25 : (Tryz.prog.stopsHeard) = true := by kernel_rfl
set_option maxRecDepth 100000 in
theorem fact26 : (Tryz.prog.mayEnter) = true := by kernel_rfl
set_option maxRecDepth 100000 in
theorem fact27 : ((Rows.shipBackRow.lifted == Tryz.prog.liftsFinal)) = true := by kernel_rfl
set_option maxRecDepth 100000 in
theorem fact28 : ((Tryz.prog.make == some Rows.shipBackRow.make)) = true := by kernel_rfl
set_option maxRecDepth 100000 in
theorem fact29 : ((Rows.shipBackRow.kinds == (if Rows.shipBackRow.domain.isEmpty then [] else Tryz.f5.params.toList.map fun t => match Tryz.prog.underlying t with | some (.int k) => some k | _ => none))) = true := by kernel_rfl
set_option maxRecDepth 100000 in
theorem fact30 : ((Rows.shipBackRow.pinned == Rows.shipBackRow.pinnedBy)) = true := by kernel_rfl
set_option maxRecDepth 100000 in
theorem fact31 : ((Rows.shipBackRow.veiled == (Tryz.f5.params.toList ++ Rows.shipBackSpec.plain.varTypes Tryz.prog ++ Tryz.f5.resultTypes.toList).any (Tryz.prog.veiledRec ·))) = true := by kernel_rfl
set_option maxRecDepth 100000 in
theorem fact32 : (Rows.shipBackRow.veiledFits Tryz.prog Tryz.f5.params.toList (Tryz.f5.params.toList ++ Rows.shipBackSpec.plain.varTypes Tryz.prog ++ Tryz.f5.resultTypes.toList)) = true := by kernel_rfl
end Go.Proofs.YtoigokkeaddceaaGreatDoor
