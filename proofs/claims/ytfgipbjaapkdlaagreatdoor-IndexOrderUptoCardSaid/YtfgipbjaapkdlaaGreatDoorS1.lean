/- A part of the proof of this seat's statement. Conditions: in each theorem. -/
import Derived.Test.YtfgipbjaapkdlaaGreatDoorProg
import Derived.WalkKit
import Derived.WalkSpells
import Derived.WalkLawsBesides
import Derived.Lib.Hide
import Derived.KernelRfl
import Derived.Test.YtfgipbjaapkdlaaGreatDoorY11
namespace Go.Proofs.YtfgipbjaapkdlaaGreatDoor
open Go.RowKit
theorem tbl_at (j : Nat) (h : j < 16) : ([Value.int IntKind.u32 0, Value.int IntKind.u32 274646895, Value.int IntKind.u32 549293790,
              Value.int IntKind.u32 820201905, Value.int IntKind.u32 1098587580, Value.int IntKind.u32 1361435347,
              Value.int IntKind.u32 1640403810, Value.int IntKind.u32 1905808397, Value.int IntKind.u32 2197175160,
              Value.int IntKind.u32 2460548119, Value.int IntKind.u32 2722870694, Value.int IntKind.u32 2987750089,
              Value.int IntKind.u32 3280807620, Value.int IntKind.u32 3553878443, Value.int IntKind.u32 3811616794,
              Value.int IntKind.u32 4084100981][j]'h) = .int .u32 (Xq.tblN j) := by
  have : j = 0 ∨ j = 1 ∨ j = 2 ∨ j = 3 ∨ j = 4 ∨ j = 5 ∨ j = 6 ∨ j = 7 ∨ j = 8 ∨ j = 9 ∨ j = 10 ∨ j = 11 ∨ j = 12 ∨ j = 13 ∨ j = 14 ∨ j = 15 := by omega
  rcases this with rfl | rfl | rfl | rfl | rfl | rfl | rfl | rfl | rfl | rfl | rfl | rfl | rfl | rfl | rfl | rfl <;> (show _ = _; kernel_rfl)
def HalfPost (r : Nat) (w : World) (e : Ending) (w' : World) : Prop := e = .returned (.int .u32 ((Xq.tblN (r % 16) : Nat) : Int)) ∧ Below w.heap.size w w'
set_option maxHeartbeats 400000 in
theorem half_any (r : Nat) (w : World) (hr : r < 4294967296) : Calls Tryz.prog 238 #[.int .u32 (r : Int)] w (HalfPost r w) := by
  have h := Xq.bits_and15_u32 r hr
  have hj : r % 16 < 16 := Nat.mod_lt _ (by decide)
  generalize hq : r % 16 = j at h hj
  have hj0 : (0 : Int) ≤ (j : Int) := by omega
  have hj1 : (j : Int) < 16 := by omega
  have HQ := Lib.hid hq
  clear hq hr
  go_enter Tryz.func238, Tryz.ntmps238
  go_wp2
  go_ret
  refine ⟨?_, (Below.refl _ _).alloc (Nat.le_refl _) _⟩
  rw [HQ.out]
  show Ending.returned (_ : Value) = _
  congr 1
  exact tbl_at j hj
end Go.Proofs.YtfgipbjaapkdlaaGreatDoor
