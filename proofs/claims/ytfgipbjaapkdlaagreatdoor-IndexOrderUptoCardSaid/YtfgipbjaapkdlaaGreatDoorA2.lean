/- A part of the proof of this seat's statement. Conditions: in each theorem. -/
import Derived.Test.YtfgipbjaapkdlaaGreatDoorRows
import Derived.Test.YtfgipbjaapkdlaaGreatDoorProg
import Derived.Stop.LaidErr
import Derived.KernelRfl
import Derived.Test.YtfgipbjaapkdlaaGreatDoorY12
namespace Go.Proofs.YtfgipbjaapkdlaaGreatDoor
open Go.RowKit Go.Xq
noncomputable def gl : List (Nat × AObj) := []
abbrev nx : Nat := 3
theorem gsize : Tryz.prog.globals.size = 3 := by kernel_rfl
end Go.Proofs.YtfgipbjaapkdlaaGreatDoor
