/- A part of the proof of this seat's statement. Conditions: in each theorem. -/
import Derived.Test.YtfgipbjaapkdlaaGreatDoorS5a
import Derived.Test.YtfgipbjaapkdlaaGreatDoorS5c
import Derived.Test.YtfgipbjaapkdlaaGreatDoorS5d
import Derived.Test.YtfgipbjaapkdlaaGreatDoorS5e
import Derived.JoinedOf
import Derived.JoinedCond
namespace Go.Proofs.YtfgipbjaapkdlaaGreatDoor
theorem and_tt {a b : Bool} (h : a = true) (g : b = true) : (a && b) = true := by rw [h, g]; rfl
set_option maxRecDepth 100000 in
theorem closed : joinedFacts Tryz.prog 4 Tryz.f4 Rows.indexOrderSpec Rows.indexOrderUptoRow = true := by
  unfold joinedFacts
  exact (and_tt (and_tt (and_tt (and_tt (and_tt (and_tt (and_tt (and_tt (and_tt (and_tt (and_tt (and_tt (and_tt (and_tt (and_tt (and_tt (and_tt (and_tt (and_tt (and_tt (and_tt (and_tt (and_tt (and_tt (and_tt (and_tt (and_tt (and_tt (and_tt (and_tt (and_tt fact1 fact2) fact3) fact4) fact5) fact6) fact7) fact8) fact9) fact10) fact11) fact12) fact13) fact14) fact15) fact16) fact17) fact18) fact19) fact20) fact21) fact22) fact23) fact24) fact25) fact26) fact27) fact28) fact29) fact30) fact31) fact32)
theorem named : Tryz.prog.funcNamed Rows.indexOrderUptoRow.func = some 4 := by kernel_rfl
theorem wrapper : Tryz.f4.isWrapper Tryz.prog Rows.indexOrderUptoRow.wrapper Rows.indexOrderUptoRow.mainSum := by unfold Func.isWrapper; first | (rw [if_pos (by decide +kernel)]; kernel_rfl) | (rw [if_neg (by decide +kernel)]; exact ⟨rfl, rfl⟩)
theorem instanceOf : Tryz.f4.isInstance Tryz.prog Rows.indexOrderUptoRow.origin Rows.indexOrderUptoRow.targs := of_decide_eq_true (by kernel_rfl)
theorem closed' : joinedFacts Tryz.prog 4 Tryz.f4 (Rows.OpenSpec.upto Rows.indexOrderSpec).bare Rows.indexOrderUptoRow = true := closed
set_option maxRecDepth 100000 in
theorem over : Rows.IndexOrderUptoSaid :=
  OpenClaim.holds_of_cond 4 Tryz.f4 rfl rfl rfl rfl rfl rfl rfl ⟨rfl, rfl, rfl, rfl, rfl⟩ rfl rfl rfl rfl rfl named Tryz.func4 closed' instanceOf wrapper (fun os started H enc _ F => by rw [OpenClaim.pre_eq_preRow]; exact lifted os started H enc F)
end Go.Proofs.YtfgipbjaapkdlaaGreatDoor
