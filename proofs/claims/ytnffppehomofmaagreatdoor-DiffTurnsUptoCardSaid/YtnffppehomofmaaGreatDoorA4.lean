/- A part of the proof of this seat's statement: what is particular to its program. Its conditions stand in each theorem. -/
import Derived.Test.YtnffppehomofmaaGreatDoorS1
namespace Go.Proofs.YtnffppehomofmaaGreatDoor
open Go.RowKit
theorem wrap_quo (n pg : Nat) (hn : n < 4294967296) : wrap64 ((n : Int) / (pg : Int)) = ((n / pg : Nat) : Int) := by
  have h1 : (n : Int) / (pg : Int) = ((n / pg : Nat) : Int) := by simp
  have h2 : n / pg ≤ n := Nat.div_le_self _ _
  rw [h1]
  generalize n / pg = q at h2
  simp only [wrap64]
  omega
set_option maxHeartbeats 800000 in
theorem pages_any (b o n c pg : Nat) (ad : Option Addr) (w : World) (hpg : 0 < pg) (hpg2 : pg < 4294967296) (hn : n < 4294967296)
    (hd : w.cell? ⟨b, o + 1, none⟩ = some (.slice ad n c)) (hp : w.cell? ⟨b, o, none⟩ = some (.int .i64 (pg : Int))) :
    Calls Tryz.prog 105 #[.pointer (some ⟨b, o, none⟩)] w fun e w' => e = .returned (.int .i64 ((n / pg : Nat) : Int)) ∧ Below w.heap.size w w' := by
  go_enter Tryz.func105, Tryz.ntmps105
  go_wp2
  go_region
  all_goals (try go_wp2)
  go_ret
  exact ⟨congrArg (fun q => Ending.returned (.int .i64 q)) (wrap_quo n pg hn), (Below.refl _ _).drew⟩
set_option maxHeartbeats 1600000 in
theorem place_any (b o n c pg k A sb so : Nat) (w : World) (hpg : 0 < pg) (hpg2 : pg < 4294967296) (hk2 : k < 4294967296) (hn : c < 4294967296) (hc : A + pg ≤ c)
    (hA : (k : Int) * (pg : Int) = (A : Int)) (hB : ((k : Int) + 1) * (pg : Int) = (A : Int) + (pg : Int))
    (hd : w.cell? ⟨b, o + 1, none⟩ = some (.slice (some ⟨sb, so, none⟩) n c)) (hp : w.cell? ⟨b, o, none⟩ = some (.int .i64 (pg : Int))) :
    Calls Tryz.prog 168 #[.pointer (some ⟨b, o, none⟩), .int .i64 (k : Int)] w fun e w' => e = .returned (.slice (some ⟨sb, so + A, none⟩) pg (c - A)) ∧ Below w.heap.size w w' := by
  go_enter Tryz.func168, Tryz.ntmps168
  go_wp2
  go_region
  all_goals (try go_wp2)
  go_ret
  exact ⟨congrArg (fun q => Ending.returned (.slice (some ⟨sb, so + A, none⟩) q (c - A))) (Nat.add_sub_cancel_left A pg), (Below.refl _ _).drew⟩
end Go.Proofs.YtnffppehomofmaaGreatDoor
