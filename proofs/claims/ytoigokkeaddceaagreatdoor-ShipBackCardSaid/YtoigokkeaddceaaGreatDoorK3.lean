/- A part of the proof of this seat's statement: what is particular to its program. Its conditions stand in each theorem. -/
import Derived.Test.YtoigokkeaddceaaGreatDoorK2
import Derived.Test.YtoigokkeaddceaaGreatDoorZ6
namespace Go.Proofs.YtoigokkeaddceaaGreatDoor
open Go.Xq
noncomputable section
theorem chA : True := trivial
@[simp] theorem onBool_undef (f : Bool → Option Bool) : onBool undefA f = none := rfl
@[simp] theorem oc_none' {α β : Type} (x : β) (f : α → β) : oc none x f = x := rfl
def encMt (m : Mt) : List AV := [.int .i64 m.engine, .int .i64 m.page, .int .i64 m.txn, .int .i64 m.root, .int .i64 m.count, .int .i64 m.free, .int .i64 m.listed, .int .i64 m.high]
theorem encMt_len (m : Mt) : (encMt m).length = 8 := rfl
def mA (m : Mt) : AV := .agg (avl (encMt m))
theorem cells_mt (m : Mt) : ∀ v ∈ encMt m, isCell v = true := by
  intro v hv
  simp only [encMt, List.mem_cons, List.not_mem_nil, or_false] at hv
  rcases hv with rfl | rfl | rfl | rfl | rfl | rfl | rfl | rfl <;> rfl
def zMt : AV := .cons (.int .i64 0) (.cons (.int .i64 0) (.cons (.int .i64 0) (.cons (.int .i64 0) (.cons (.int .i64 0) (.cons (.int .i64 0) (.cons (.int .i64 0) (.cons (.int .i64 0) .nil)))))))
structure RdM (H : AH) (b : Nat) (m : Mt) : Prop where
  ex : ∃ o, H.get b = some o ∧ ElB encMt 69 8 false zMt [m] o
theorem RdM.keep {S : Nat → Prop} {H H2 : AH} {b : Nat} {m : Mt} (h : RdM H b m) (hk : Keep S H H2) (hb : b < H.next) (hs : ¬ S b) : RdM H2 b m := by
  obtain ⟨o, h1, h2⟩ := h.ex
  exact ⟨o, hk.get hb hs h1, h2⟩
theorem RdM.all {H : AH} {b : Nat} {m : Mt} (h : RdM H b m) : ∃ o, H.get b = some o ∧ rdCell o 0 = some (.int .i64 m.engine) ∧ rdCell o 1 = some (.int .i64 m.page) ∧ rdCell o 2 = some (.int .i64 m.txn) ∧ rdCell o 3 = some (.int .i64 m.root) ∧
    rdCell o 4 = some (.int .i64 m.count) ∧ rdCell o 5 = some (.int .i64 m.free) ∧ rdCell o 6 = some (.int .i64 m.listed) ∧ rdCell o 7 = some (.int .i64 m.high) ∧ rdCells o 8 0 = some (avl (encMt m)) := by
  obtain ⟨o, h1, h2⟩ := h.ex
  have r : ∀ {j : Nat} {v : AV}, (encMt m)[j]? = some v → rdCell o j = some v := fun hv => by
    have := h2.cell (k := 0) rfl hv
    simpa using this
  have hc : rdCells o 8 0 = some (avl (encMt m)) := by
    have := h2.rd.elem (k := 0) (a := m) rfl rfl
    simpa using this
  exact ⟨o, h1, r rfl, r rfl, r rfl, r rfl, r rfl, r rfl, r rfl, r rfl, hc⟩
end
end Go.Proofs.YtoigokkeaddceaaGreatDoor
namespace Go.Proofs.YtoigokkeaddceaaGreatDoor
open Go.Xq
noncomputable section
theorem byteI_int (n : Int) : ((byteI n).toNat : Int) = n % 256 := by
  unfold byteI
  rw [UInt8.toNat_ofNat']
  omega
theorem boxM {H : AH} {m : Mt} {T : Tr AV} (hT : opnd (.tmp 0) T = some (mA m)) : ∃ o, frBox ⟨mkCs 69 8 zMt⟩ (.tmp 0) T H.next = some (.ptr H.next 0, o) ∧ RdM (H.new o) H.next m ∧ Keep noB H (H.new o) := by
  obtain ⟨o1, e1, b1⟩ := frBox_el (enc := encMt) (e := 69) (z := zMt) encMt_len (x := .tmp 0) (T := T) (b0 := H.next) (a := m) hT
  exact ⟨o1, e1, ⟨o1, get_new_same _ _, b1⟩, Keep.new _ _ _⟩
def restM (m : Mt) : List Int := [m.root, m.count, m.free, m.listed, m.high]
def encI (n : Int) : List AV := [.int .i64 n]
def headM0 (m : Mt) : List UInt8 := [1, byteI m.engine, 0, 0, 69, 83, 80, 76] ++ fixedL (u64 m.page) 4 ++ fixedL (u64 m.txn) 8
theorem sumL_lt (l : List UInt8) : sumL l < 4294967296 := by
  rw [sumL, sumN_reg]
  exact xor_lt32 (regN_lt l (by omega)) (by omega)
end
end Go.Proofs.YtoigokkeaddceaaGreatDoor
namespace Go.Proofs.YtoigokkeaddceaaGreatDoor
open Go.Xq
noncomputable section
@[simp] theorem natOf_one : natOf (.int .i64 1) = some 1 := rfl
@[simp] theorem natOf_four : natOf (.int .i64 4) = some 4 := rfl
@[simp] theorem natOf_twelve : natOf (.int .i64 12) = some 12 := rfl
theorem extFree (g : Nat) (l : AV) (H : AH) (h : Nat.beq g 248 = false) (h2 : Nat.beq g 128 = false) (h3 : Nat.beq g 402 = false) : E.ext g l H = none := by
  show extFn g l H = none
  unfold extFn
  rw [h, h2, h3]
theorem newM (H : AH) : RdM (H.new (.cs 69 8 8 false zMt .e)) H.next zeroM :=
  ⟨_, get_new_same _ _, ElB.zeros (enc := encMt) (e := 69) (es := 8) (op := false) (z := zMt) encMt_len (a := zeroM) rfl 1⟩
theorem storeM {H : AH} {N : Nat} {m : Mt} (m' : Mt) (h : RdM H N m) : ∃ H2, stN 8 H (mA m') (.ptr N 0) = some H2 ∧ H2.next = H.next ∧ RdM H2 N m' ∧ Keep (fun b => b = N) H H2 := by
  obtain ⟨o, h1, h2⟩ := h.ex
  obtain ⟨o', s1, s2⟩ := stN_el encMt_len h2 h1 (i := 0) (by simp) (cells_mt m')
  exact ⟨_, by simpa [mA] using s1, by simp, ⟨o', get_set_same _ _ _, by simpa using s2⟩, Keep.set _ fun _ => rfl⟩
theorem i64_small {n : Nat} (h : n < 9223372036854775808) : i64 n = (n : Int) := by unfold i64; rw [if_pos h]
theorem read4_lt {b : List UInt8} {at_ : Nat} (h : at_ + 4 ≤ b.length) : readL (sub b at_ 4) < 4294967296 := readL_lt 4 _ (sub_len h)
def numV (l : List UInt8) : AV → AV
  | .cons _ (.cons (.int _ a) (.cons (.int _ w) .nil)) => .int .i64 ((readL (sub l a.toNat w.toNat) : Nat) : Int)
  | _ => .snil
end
end Go.Proofs.YtoigokkeaddceaaGreatDoor
