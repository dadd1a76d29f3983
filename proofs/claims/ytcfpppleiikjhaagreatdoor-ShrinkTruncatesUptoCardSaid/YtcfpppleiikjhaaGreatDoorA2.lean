/- A part of the proof of this seat's statement: what is particular to its program. Its conditions stand in each theorem. -/
import Derived.Test.YtcfpppleiikjhaaGreatDoorRows
import Derived.Test.YtcfpppleiikjhaaGreatDoorProg
import Derived.Stop.LaidErr
import Derived.KernelRfl
import Derived.Test.YtcfpppleiikjhaaGreatDoorY12
namespace Go.Proofs.YtcfpppleiikjhaaGreatDoor
open Go.RowKit Go.Xq
noncomputable def gl : List (Nat × AObj) := [(1, one1 111 (.ifc 455 (.ptr 5 0))),
  (0, one1 111 (.ifc 455 (.ptr 6 0))),
  (2, one1 191 (.ifc 277 (.agg (.cons (.ptr 4 111) .nil))))]
abbrev nx : Nat := 7
theorem gsize : Tryz.prog.globals.size = 4 := by kernel_rfl
theorem starES : "*" ++ "errors.errorString" = "*errors.errorString" := by decide
theorem rowES (u : TypeId) (h : Tryz.prog.typeName? 3 u = some "*errors.errorString") : u = 455 :=
  typeName_ptr_named (nm := "errors.errorString") (by rw [starES]; kernel_rfl) (by kernel_rfl) (by decide) u (by rw [starES]; exact h)
end Go.Proofs.YtcfpppleiikjhaaGreatDoor
