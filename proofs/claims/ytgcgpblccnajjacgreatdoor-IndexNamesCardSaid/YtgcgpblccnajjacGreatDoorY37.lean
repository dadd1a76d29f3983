/- A part of the proof that what the evaluator answers is what the machine does. Its conditions stand in each theorem. -/
import Derived.Test.YtgcgpblccnajjacGreatDoorY36
import Derived.Laws.Bits64
import Derived.Laws.Bits64b
namespace Go.Xq
/-! ### A check sum by halves of a byte -/
def crcBig : Nat := 12749536319551302420830055290731983042906869231766370170184255228463894984119587222357463453493748006886229547019502462691509165827871124329361635492757504
/-- the table's place i -/
noncomputable def tblN (i : Nat) : Nat := Nat.mod (Nat.shiftRight crcBig (Nat.mul 32 i)) 4294967296
noncomputable def halfN (r : Nat) : Nat := Nat.xor (tblN (Nat.mod r 16)) (Nat.shiftRight r 4)
noncomputable def crcN : Nat → Nat → Nat → Nat
  | 0, _, r => r
  | f + 1, n, r => crcN f (Nat.div n 256) (halfN (halfN (Nat.xor r (Nat.mod n 256))))
noncomputable def sumN (len n : Nat) : Nat := Nat.xor (crcN len n 4294967295) 4294967295
theorem tblN_lt (i : Nat) : tblN i < 4294967296 := Nat.mod_lt _ (by decide)
theorem xor_lt32 {a b : Nat} (ha : a < 4294967296) (hb : b < 4294967296) : a ^^^ b < 4294967296 := Nat.xor_lt_two_pow (n := 32) ha hb
theorem halfN_eq (r : Nat) : halfN r = tblN (r % 16) ^^^ (r / 16) := by
  show tblN (r % 16) ^^^ (r >>> 4) = _
  rw [Nat.shiftRight_eq_div_pow]
theorem halfN_lt {r : Nat} (h : r < 4294967296) : halfN r < 4294967296 := by
  rw [halfN_eq]; exact xor_lt32 (tblN_lt _) (by omega)
theorem crcN_lt : ∀ (f n r : Nat), r < 4294967296 → crcN f n r < 4294967296
  | 0, _, r, h => h
  | f + 1, n, r, h => crcN_lt f _ _ (halfN_lt (halfN_lt (xor_lt32 h (Nat.lt_trans (Nat.mod_lt _ (by decide)) (by decide)))))
theorem wrap_u32 (n : Int) : IntKind.u32.wrap n = n % 4294967296 := by simp [IntKind.wrap, IntKind.bits, IntKind.signed]
theorem bits_xor_u32_nat (a b : Nat) (ha : a < 4294967296) (hb : b < 4294967296) :
    Go.bits .xor .u32 (a : Int) (b : Int) = ((a ^^^ b : Nat) : Int) := by
  have hx : a ^^^ b < 2 ^ 32 := Nat.xor_lt_two_pow (by omega) (by omega)
  have h1 : (BitVec.ofInt 32 (a : Int)).toNat = a := by
    rw [BitVec.ofInt_natCast, BitVec.toNat_ofNat]; exact Nat.mod_eq_of_lt (by omega)
  have h2 : (BitVec.ofInt 32 (b : Int)).toNat = b := by
    rw [BitVec.ofInt_natCast, BitVec.toNat_ofNat]; exact Nat.mod_eq_of_lt (by omega)
  show IntKind.u32.wrap ((BitVec.ofInt 32 (a : Int) ^^^ BitVec.ofInt 32 (b : Int)).toNat : Int) = _
  rw [BitVec.toNat_xor, h1, h2, wrap_u32]
  omega
theorem bits_and15_u32 (a : Nat) (ha : a < 4294967296) : Go.bits .and .u32 (a : Int) 15 = ((a % 16 : Nat) : Int) := by
  have hx : a &&& 15 < 2 ^ 32 := Nat.and_lt_two_pow _ (by omega)
  have h1 : (BitVec.ofInt 32 (a : Int)).toNat = a := by
    rw [BitVec.ofInt_natCast, BitVec.toNat_ofNat]; exact Nat.mod_eq_of_lt (by omega)
  have h2 : (BitVec.ofInt 32 15).toNat = 15 := by decide
  have h3 : a &&& 15 = a % 16 := Nat.and_two_pow_sub_one_eq_mod (n := 4) a
  show IntKind.u32.wrap ((BitVec.ofInt 32 (a : Int) &&& BitVec.ofInt 32 15).toNat : Int) = _
  rw [BitVec.toNat_and, h1, h2, wrap_u32, h3]
  omega
end Go.Xq
