/- A part of the proof of this seat's statement: what is particular to its program. Its conditions stand in each theorem. -/
import Derived.Test.YtoigokkeaddceaaGreatDoorS3
import Derived.Test.YtoigokkeaddceaaGreatDoorA2
import Derived.Test.YtoigokkeaddceaaGreatDoorY12
import Derived.KernelRfl
namespace Go.Proofs.YtoigokkeaddceaaGreatDoor
open Go.RowKit Go.Xq
noncomputable def envOf (ms : List Memo) : Env := Env.of Tryz.prog 10 10 (withMemo ms sumFn) extFn mulFn
theorem follows : Tryz.prog.follows .mixedOrders = true := by kernel_rfl
theorem envOk {ms : List Memo} (h : ∀ k ∈ ms, MemoOk Tryz.prog k) (d : Nat) : RecOk Tryz.prog (recA (envOf ms) d) :=
  recA_ok (E := envOf ms) (tyOk_of _ _ _ _ _) (fun g args H v h => extOk g args H v h) follows (fnsOk_of _ _ _ _ _) (fun f args H v H2 h2 => withMemo_ok (E := E) h sumOk f args H v H2 h2) d
noncomputable def ms0 : List Memo := []
theorem ms0_ok : ∀ k ∈ ms0, MemoOk Tryz.prog k := fun k h => by cases h
set_option maxRecDepth 100000 in
theorem ran : isG gl ((recA (envOf ms0) 60).call 6 .nil (H0of nx gl)) = true := by kernel_rfl
theorem walk {ads : List (Nat × Nat)} {w : World} (hrel : Rel (m0of ads) (H0of nx gl) w) (hl : GlobsAt (m0of ads) gl w) : Calls Tryz.prog 6 #[] w fun e w' => e = .returned (.bool true) ∧ KeptAll w w' :=
  calls_of_glob (envOk ms0_ok 60) ran hrel hl
end Go.Proofs.YtoigokkeaddceaaGreatDoor
