/- A part of the proof of this seat's statement: what is particular to its program. Its conditions stand in each theorem. -/
import Derived.Test.YtcfpppleiikjhaaGreatDoorS1
namespace Go.Proofs.YtcfpppleiikjhaaGreatDoor
open Go.RowKit
theorem begun_zero (w : World) : Calls Tryz.prog 130 #[.int .u8 0] w fun e w' => e = .returned (.bool false) ∧ Below w.heap.size w w' := by
  go_enter Tryz.func130, Tryz.ntmps130
  go_wp2
  go_ret
  exact ⟨rfl, Below.refl _ _⟩
set_option maxHeartbeats 800000 in
theorem idx_zero (pa : Option Addr) (n c : Nat) (w : World) (hn : n < 4294967296) (hall : ∀ k, k < n → ∃ b o, pa = some ⟨b, o, none⟩ ∧ b < w.heap.size ∧ w.cell? ⟨b, o + k, none⟩ = some (.int .u8 0)) :
    Calls Tryz.prog 186 #[.slice pa n c, .func (.func 130) #[] #[]] w fun e w' => e = .returned (.int .i64 (-1)) ∧ Below w.heap.size w w' := by
  have HA := Lib.hid hall
  clear hall
  go_enter Tryz.func186, Tryz.ntmps186
  go_wp2
  go_loopw [8] (fun i wr => ∃ k : Nat, k ≤ n ∧ i = .int .i64 k ∧ Below w.heap.size w wr) (fun i _ => n - (intOf i).toNat)
  case atStart => exact ⟨0, Nat.zero_le _, rfl, Below.refl _ _⟩
  case round =>
    obtain ⟨k, hk, rfl, hbel⟩ := hrel
    by_cases hlt : k < n
    · obtain ⟨b, o, rfl, hb, hc⟩ := HA.out k hlt
      have hcell : wr.cell? ⟨b, o + k, none⟩ = some (.int .u8 0) := (hbel.cell (p := ⟨b, o + k, none⟩) hb).trans hc
      clear hc
      go_wp2_with fail
      refine (begun_zero wr).mono ?_
      rintro e w1 ⟨rfl, hb1⟩
      go_wp2
      go_roundw
      case rel => exact ⟨k + 1, by omega, by go_num, hbel.trans (hb1.mono hbel.size)⟩
      case measure => simp [intOf]; omega
    · have hkn : k = n := by omega
      subst hkn
      go_wp2
      go_ret
      exact ⟨rfl, hbel⟩
end Go.Proofs.YtcfpppleiikjhaaGreatDoor
