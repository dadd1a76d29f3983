/- A part of the proof of this seat's statement: what is particular to its program. Its conditions stand in each theorem. -/
import Derived.Test.YtoigokkeaddceaaGreatDoorS5a
import Derived.Test.YtoigokkeaddceaaGreatDoorS5b
import Derived.Test.YtoigokkeaddceaaGreatDoorS5c
import Derived.Test.YtoigokkeaddceaaGreatDoorS5d
import Derived.Test.YtoigokkeaddceaaGreatDoorS5e
import Derived.JoinedOf
namespace Go.Proofs.YtoigokkeaddceaaGreatDoor
theorem and_tt {a b : Bool} (h : a = true) (g : b = true) : (a && b) = true := by rw [h, g]; rfl
set_option maxRecDepth 100000 in
theorem closed : joinedFacts Tryz.prog 5 Tryz.f5 Rows.shipBackSpec Rows.shipBackRow = true := by
  unfold joinedFacts
  exact (and_tt (and_tt (and_tt (and_tt (and_tt (and_tt (and_tt (and_tt (and_tt (and_tt (and_tt (and_tt (and_tt (and_tt (and_tt (and_tt (and_tt (and_tt (and_tt (and_tt (and_tt (and_tt (and_tt (and_tt (and_tt (and_tt (and_tt (and_tt (and_tt (and_tt (and_tt fact1 fact2) fact3) fact4) fact5) fact6) fact7) fact8) fact9) fact10) fact11) fact12) fact13) fact14) fact15) fact16) fact17) fact18) fact19) fact20) fact21) fact22) fact23) fact24) fact25) fact26) fact27) fact28) fact29) fact30) fact31) fact32)
theorem named : Tryz.prog.funcNamed Rows.shipBackRow.func = some 5 := by kernel_rfl
theorem wrapper : Tryz.f5.isWrapper Tryz.prog Rows.shipBackRow.wrapper Rows.shipBackRow.mainSum := by unfold Func.isWrapper; first | (rw [if_pos (by decide +kernel)]; kernel_rfl) | (rw [if_neg (by decide +kernel)]; exact ⟨rfl, rfl⟩)
theorem instanceOf : Tryz.f5.isInstance Tryz.prog Rows.shipBackRow.origin Rows.shipBackRow.targs := of_decide_eq_true (by kernel_rfl)
theorem over : Rows.ShipBackSaid :=
  OpenClaim.holds_of_wide 5 Tryz.f5 rfl rfl rfl rfl rfl rfl rfl ⟨rfl, rfl, rfl, rfl, rfl⟩ rfl rfl rfl rfl rfl named Tryz.func5 closed instanceOf wrapper (fun os started H enc _ => lifted os started H enc)
end Go.Proofs.YtoigokkeaddceaaGreatDoor
