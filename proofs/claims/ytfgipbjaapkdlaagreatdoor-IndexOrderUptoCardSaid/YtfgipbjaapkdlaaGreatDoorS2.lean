/- A part of the proof of this seat's statement. Conditions: in each theorem. -/
import Derived.Test.YtfgipbjaapkdlaaGreatDoorS1
namespace Go.Proofs.YtfgipbjaapkdlaaGreatDoor
open Go.RowKit
def SumPost (len n : Nat) (w : World) (e : Ending) (w' : World) : Prop := e = .returned (.int .u32 ((Xq.sumN len n : Nat) : Int)) ∧ Below w.heap.size w w'
def SumRel (n X k r : Nat) : Prop := Xq.crcN (n - k) (X / 256 ^ k) r = Xq.crcN n X 4294967295
theorem sumRel_step {n X k r : Nat} (h : SumRel n X k r) (hlt : k < n) : SumRel n X (k + 1) (Xq.halfN (Xq.halfN (r ^^^ Xq.byteAt X k))) := by
  unfold SumRel at *
  obtain ⟨f, hf⟩ : ∃ f, n - k = f + 1 := ⟨n - k - 1, by omega⟩
  have hf2 : n - (k + 1) = f := by omega
  rw [hf] at h
  rw [hf2, ← h]
  have e1 : X / 256 ^ (k + 1) = Nat.div (X / 256 ^ k) 256 := by
    show _ = X / 256 ^ k / 256
    rw [Nat.div_div_eq_div_mul, Nat.pow_succ]
  have e2 : Xq.byteAt X k = Nat.mod (X / 256 ^ k) 256 := Xq.byteAt_eq X k
  rw [e1, e2]
  rfl
set_option maxHeartbeats 800000 in
theorem sum_any (b off c n pc X pb po : Nat) (w : World) (hpb : pb < w.heap.size) (hn : n < 17179869184)
    (hpart : w.cell? ⟨b, off, none⟩ = some (.slice (some ⟨pb, po, none⟩) n pc)) (hbytes : ∀ k, k < n → w.cell? ⟨pb, po + k, none⟩ = some (.int .u8 ((Xq.byteAt X k : Nat) : Int))) :
    Calls Tryz.prog 208 #[.slice (some ⟨b, off, none⟩) 1 c] w (SumPost n X w) := by
  have HB := Lib.hid hbytes
  clear hbytes
  go_enter Tryz.func208, Tryz.ntmps208
  go_wp2
  refine wp_loop_rounds 2 ?_
  rw [rounds_succ]
  go_wp2
  go_loopw [3, 16] (fun rv i wr => ∃ k r : Nat, k ≤ n ∧ r < 4294967296 ∧ i = .int .i64 k ∧ rv = .int .u32 (r : Int) ∧ SumRel n X k r ∧ Below w.heap.size w wr)
    (fun _ i _ => n - (intOf i).toNat)
  case atStart => exact ⟨0, 4294967295, Nat.zero_le _, by omega, rfl, rfl, by simp [SumRel], Below.refl _ _⟩
  case round =>
    obtain ⟨k, r, hk, hr, rfl, rfl, hrel', hbel⟩ := hrel
    by_cases hlt : k < n
    · have hcell : wr.cell? ⟨pb, po + k, none⟩ = some (.int .u8 ((Xq.byteAt X k : Nat) : Int)) := (hbel.cell (p := ⟨pb, po + k, none⟩) hpb).trans (HB.out k hlt)
      have hx := Xq.byteAt_lt X k
      have HX := Lib.hid (show Xq.byteAt X k = Xq.byteAt X k from rfl)
      generalize hxe : Xq.byteAt X k = x at hcell hx HX
      have HXe := Lib.hid hxe
      clear hxe HX
      have h1 := Xq.bits_xor_u32_nat r x hr (by omega)
      have hr1 := Xq.xor_lt32 hr (show x < 4294967296 by omega)
      generalize hr1e : r ^^^ x = r1 at h1 hr1
      have HR1 := Lib.hid hr1e
      clear hr1e
      have hx0 : (0 : Int) ≤ (x : Int) := by omega
      have hx1 : (x : Int) ≤ 255 := by omega
      have e1 : ((r1 : Int) / 16) = ((r1 / 16 : Nat) : Int) := by omega
      have h2 := Xq.bits_xor_u32_nat (Xq.tblN (r1 % 16)) (r1 / 16) (Xq.tblN_lt _) (by omega)
      rw [← e1, ← Xq.halfN_eq] at h2
      have hr2 := Xq.halfN_lt hr1
      generalize hr2e : Xq.halfN r1 = r2 at h2 hr2
      have HR2 := Lib.hid hr2e
      clear hr2e e1
      have e2 : ((r2 : Int) / 16) = ((r2 / 16 : Nat) : Int) := by omega
      have h3 := Xq.bits_xor_u32_nat (Xq.tblN (r2 % 16)) (r2 / 16) (Xq.tblN_lt _) (by omega)
      rw [← e2, ← Xq.halfN_eq] at h3
      have hr3 := Xq.halfN_lt hr2
      generalize hr3e : Xq.halfN r2 = r3 at h3 hr3
      have HR3 := Lib.hid hr3e
      clear hr3e e2
      go_wp2_with fail
      refine (half_any r1 wr hr1).mono ?_
      rintro e w1 ⟨rfl, hb1⟩
      go_wp2_with fail
      refine (half_any r2 w1 hr2).mono ?_
      rintro e w2 ⟨rfl, hb2⟩
      go_wp2
      go_roundw
      case rel =>
        have hstep := sumRel_step hrel' hlt
        rw [HXe.out, HR1.out, HR2.out, HR3.out] at hstep
        exact ⟨k + 1, r3, by omega, hr3, by go_num, rfl, hstep, (hbel.trans (hb1.mono hbel.size)).trans (hb2.mono (Nat.le_trans hbel.size hb1.size))⟩
      case measure => simp [intOf]; omega
    · have hkn : k = n := by omega
      subst hkn
      have hrr : r = Xq.crcN k X 4294967295 := by have := hrel'; unfold SumRel at this; rw [Nat.sub_self] at this; exact this
      have HRR := Lib.hid hrr
      clear hrr
      have hx := Xq.bits_xor_u32_nat 4294967295 r (by omega) hr
      generalize hz : 4294967295 ^^^ r = z at hx
      have HZ := Lib.hid hz
      clear hz
      go_wp2
      rw [rounds_succ]
      go_wp2
      go_ret
      refine ⟨?_, hbel⟩
      have hmax : IntKind.u32.max = 4294967295 := by decide
      have hs : Xq.sumN k X = z := by
        unfold Xq.sumN
        rw [← HRR.out, ← HZ.out]
        exact Nat.xor_comm r 4294967295
      rw [hs]
      show Ending.returned (Value.int IntKind.u32 (bits BinOp.xor IntKind.u32 IntKind.u32.max ↑r)) = _
      rw [hmax]
      exact congrArg (fun q => Ending.returned (Value.int IntKind.u32 q)) hx
set_option maxHeartbeats 800000 in
theorem sum_zero (b off c pc X : Nat) (pa : Option Addr) (w : World)
    (hpart : w.cell? ⟨b, off, none⟩ = some (.slice pa 0 pc)) :
    Calls Tryz.prog 208 #[.slice (some ⟨b, off, none⟩) 1 c] w (SumPost 0 X w) := by
  go_enter Tryz.func208, Tryz.ntmps208
  go_wp2
  refine wp_loop_rounds 2 ?_
  rw [rounds_succ]
  go_wp2
  refine wp_loop_rounds 1 ?_
  rw [rounds_succ]
  go_wp2
  rw [rounds_succ]
  go_wp2
  go_ret
  refine ⟨?_, Below.refl _ _⟩
  have hs : Xq.sumN 0 X = 0 := by kernel_rfl
  rw [hs]
  rfl
end Go.Proofs.YtfgipbjaapkdlaaGreatDoor
