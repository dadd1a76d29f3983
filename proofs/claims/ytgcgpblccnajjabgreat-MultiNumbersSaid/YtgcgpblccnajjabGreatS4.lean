/- A part of the proof of this seat's statement: what is particular to its program. Its conditions stand in each theorem. -/
import Derived.Test.YtgcgpblccnajjabGreatS3
import Derived.KernelRfl
namespace Go.Proofs.YtgcgpblccnajjabGreat
open Go.RowKit Go.Xq
noncomputable def H0 : AH := { next := 50, t := Tr.e }
theorem follows : Tryz.prog.follows .mixedOrders = true := by kernel_rfl
set_option maxRecDepth 100000 in
theorem ran : isT ((recA E 60).call 3 .nil H0) = true := by kernel_rfl
theorem walk (w : World) : Calls Tryz.prog 3 #[] w fun e w' => e = .returned (.bool true) ∧ KeptAll w w' := by
  obtain ⟨H2, h⟩ := isT_some ran
  exact calls_of_run (recA_ok (tyOk_of _ _ _ _ _) extOk follows (fnsOk_of _ _ _ _ _) sumOk 60) h w
end Go.Proofs.YtgcgpblccnajjabGreat
