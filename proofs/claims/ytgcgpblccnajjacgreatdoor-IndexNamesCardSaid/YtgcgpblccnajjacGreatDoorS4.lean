/- A part of the proof of this seat's statement: what is particular to its program. Its conditions stand in each theorem. -/
import Derived.Test.YtgcgpblccnajjacGreatDoorS4c
import Derived.KernelRfl
namespace Go.Proofs.YtgcgpblccnajjacGreatDoor
open Go.RowKit Go.Xq
noncomputable def H0 : AH := { next := 13, t := Tr.e }
set_option maxRecDepth 100000 in
theorem ran : isT ((recA (envOf ms9) 60).call 3 .nil H0) = true := by kernel_rfl
theorem walk (w : World) : Calls Tryz.prog 3 #[] w fun e w' => e = .returned (.bool true) ∧ KeptAll w w' := by
  obtain ⟨H2, h⟩ := isT_some ran
  exact calls_of_run (envOk ms9_ok 60) h w
end Go.Proofs.YtgcgpblccnajjacGreatDoor
