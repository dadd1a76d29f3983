/- A part of the proof of this seat's statement: what is particular to its program. Its conditions stand in each theorem. -/
import Derived.Test.YtnffppehomofmaaGreatDoorRows
import Derived.WalkKit
import Derived.ProofKit
import Derived.OpenShut
import Derived.LaidMore
import Derived.Lay
import Derived.Stop.Joined
import Derived.JoinedCond
import Derived.Deep.DeepHandedRow
import Derived.Carry
import Derived.Test.YtnffppehomofmaaGreatDoorE1
import Derived.Test.YtnffppehomofmaaGreatDoorS5b
import Derived.LaidHandle
namespace Go.Proofs.YtnffppehomofmaaGreatDoor
open Go.ChangeShapes Go.WideShapes Go.ChangeAt Go.RowKit
theorem own : ownKnob Tryz.prog.godebug = none := by kernel_rfl
/-- a world that meets the condition: the variables laid, the handle in its cell -/
noncomputable def laidWorld (os : Os) : World :=
  let w0 := World.laidAll Tryz.prog os (Rows.diffTurnsRow.laid.filter fun x => x.2.handleName?.isNone)
  { w0 with heap := w0.heap.modify 2 fun
      | .cells _ t frozen => .cells #[.iface 235 (.agg #[.pointer (some ⟨4, 71, none⟩)])] t frozen
      | o => o }
set_option maxRecDepth 100000 in
theorem laidWorld_met (os : Os) (args : Array Value) : laidMetH Tryz.prog Rows.diffTurnsRow.laid ((laidWorld os).forCall (fun _ _ => 0) ⟨#[], args, []⟩).memory :=
  laidMetH_of_parts (laidMet_of_run' 10 (by kernel_rfl) (by kernel_rfl)) (by kernel_rfl)
abbrev args0 : Array Value := #[.slice none 0 0, .slice none 0 0]
theorem reads (os : Os) {H : Type} (enc : TypeId × Value → H) : DataW.whole enc Tryz.prog ((laidWorld os).forCall (fun _ _ => 0) ⟨#[], args0, []⟩).memory Tryz.f3.params.toList Rows.diffTurnsSpec.vars false args0.toList 8 = some ([.nil, .nil], [], []) := by kernel_rfl
set_option maxRecDepth 100000 in
theorem witnessed (os : Os) {H : Type} (enc : TypeId × Value → H) : ∃ (w : World) (tape : Tape) (i : Input), w.os = os ∧ (w.forCall tape i).Shaped Tryz.checked.prog ∧ i.vars = [] ∧ Input.okWide Tryz.checked.prog (w.forCall tape i) .any w.heap.size 3 i ∧
      (Rows.OpenSpec.upto Rows.diffTurnsSpec).preRow enc Tryz.checked.prog Tryz.f3 Rows.diffTurnsUptoRow.domain false Rows.diffTurnsUptoRow.laid (w.forCall tape i).memory i.args ∧ ({} : Assume).holds Tryz.checked.prog (lone (Frame.enter Tryz.checked.prog 3 i.args .normal) [] (w.forCall tape i)) := by
  have hok : Input.okWideB Tryz.prog ((laidWorld os).forCall (fun _ _ => 0) ⟨#[], args0, []⟩) 3 ⟨#[], args0, []⟩ = true := by kernel_rfl
  refine ⟨laidWorld os, fun _ _ => 0, ⟨#[], args0, []⟩, World.laidAll_os _ _ _, World.shaped_of_ZipB (by kernel_rfl) (by kernel_rfl), (Input.okWide_of_okWideB (base := 0) hok).1, (Input.okWide_of_okWideB hok).2, ?_, ?_⟩
  · exact OpenSpec.preRow_of_cond 8 (reads os enc) (by kernel_rfl) (fun k hk => by cases hk; kernel_rfl) (by kernel_rfl) (laidWorld_met os args0)
  · simp only [Assume.holds]
    exact ⟨by simp, by simp, fun _ => Modest.zero, by simp, by simp⟩
theorem below_of {W W' : World} (h : Xq.KeptAll W W') : Below W.heap.size W { W' with tape := W.tape } := ⟨h.os, rfl, h.output, h.size, h.block⟩
set_option maxRecDepth 100000 in
theorem lifted (os : Os) (started : os.Started) (H : Type) (enc : TypeId × Value → H) (F : Stop.Interp) :
    ReturnsInHanded {} Tryz.checked os 3 .any ((Rows.OpenSpec.upto Rows.diffTurnsSpec).preRow enc Tryz.prog Tryz.f3 Rows.diffTurnsUptoRow.domain false Rows.diffTurnsUptoRow.laid)
      (((Rows.OpenSpec.upto Rows.diffTurnsSpec).at F).post enc Tryz.prog Tryz.f3 false true false false) := by
  refine returnsInHanded_of_row (C := Tryz.checked) (s := Rows.OpenSpec.upto Rows.diffTurnsSpec) own started (by kernel_rfl) Tryz.func3 (witnessed os enc) ?_
  intro W base args ds gs before hval0 hW _ hcond0 _ hX hS _
  have hk : Rows.uptoSmall H (ds ++ gs) = true := hcond0 _ rfl
  have hval : ∀ (j : Nat) t v, Tryz.f3.params[j]? = some t → args[j]? = some v → Value.okWide Tryz.prog W .any base t v := hval0
  have hW' := hW
  obtain ⟨p, q, hA0, hV, rfl, hfz, hnd⟩ := hW
  have hA : DataW.TrodAll enc Tryz.prog W 0 (fun _ => true) true Tryz.f3.params.toList args.toList ds p := hA0
  rw [Tryz.params3] at hA hval
  obtain ⟨v0, vs0, d0, ds0, p0, q0, hargs, rfl, rfl, h0, r0⟩ := trodAll_cons hA
  obtain ⟨v1, vs1, d1, ds1, p1, q1, rfl, rfl, rfl, h1, r1⟩ := trodAll_cons r0
  obtain ⟨rfl, rfl, rfl⟩ := trodAll_nil r1
  obtain rfl : args = #[v0, v1] := by cases args; simp_all
  obtain ⟨rfl, rfl⟩ := trodVars_none hV
  clear hA0 hval0
  have hlt0 : ∀ x ∈ p0, x.block < W.heap.size := fun x hx => hW'.lt x (by simp [hx])
  have hlt1 : ∀ x ∈ p1, x.block < W.heap.size := fun x hx => hW'.lt x (by simp [hx])
  have hbk : Rows.uptoBulkAll ([d0, d1] ++ []) ≤ 1048576 := of_decide_eq_true hk
  simp only [List.append_nil, Rows.uptoBulkAll] at hbk
  obtain ⟨a0, l0, c0, e0⟩ := okWide_slice Tryz.underlying22 (hval 0 22 v0 rfl rfl)
  obtain ⟨a1, l1, c1, e1⟩ := okWide_slice Tryz.underlying22 (hval 1 22 v1 rfl rfl)
  obtain ⟨k0, hk0⟩ := h0
  obtain ⟨k1, hk1⟩ := h1
  have hk0' : DataW.trod enc Tryz.prog W 0 (fun _ => true) true k0 22 [v0] = some (d0, p0) := by rw [e0] at hk0 ⊢; exact hk0
  have hk1' : DataW.trod enc Tryz.prog W 0 (fun _ => true) true k1 22 [v1] = some (d1, p1) := by rw [e1] at hk1 ⊢; exact hk1
  have hn0 : 0 < W.heap.size := by
    have := (holds_start hX hS).1
    have h4 : 4 < Xq.ngl := by decide
    omega
  obtain ⟨b0, cs0, gl0, x0, y0, z0, g0, o0⟩ := says_of hk0' (by simp only; omega) hn0
  obtain ⟨b1, cs1, gl1, x1, y1, z1, g1, o1⟩ := says_of hk1' (by simp only; omega) hn0
  refine (main_calls hX hS x0 y0 z0 g0 o0 x1 y1 z1 g1 o1).mono fun e W' ⟨he, hg⟩ => ?_
  subst he
  have hfn : ((Rows.OpenSpec.upto Rows.diffTurnsSpec).at F).fn H ([d0, d1] ++ []) = { results := [.lit (.bool true)], args := [d0, d1] } := rfl
  have t0 : DataW.Trod enc Tryz.prog W' 0 (fun b => decide (b < W.heap.size)) true 22 v0 d0 p0 := DataW.Trod.of_heap (w := { W' with tape := W.tape }) (w' := W') rfl (Below.trod fact2 (by kernel_rfl) (of_decide_eq_true (by kernel_rfl)) ⟨k0, hk0⟩ (below_of hg) hlt0)
  have t1 : DataW.Trod enc Tryz.prog W' 0 (fun b => decide (b < W.heap.size)) true 22 v1 d1 p1 := DataW.Trod.of_heap (w := { W' with tape := W.tape }) (w' := W') rfl (Below.trod fact2 (by kernel_rfl) (of_decide_eq_true (by kernel_rfl)) ⟨k1, hk1⟩ (below_of hg) hlt1)
  refine ⟨_, rfl, _, _, _, [], p0 ++ (p1 ++ []), [], hW', ?_, ?_, ?_, hg.but _, fun h => by cases h⟩
  · rw [hfn]; exact trodAll_cons_mk (shut_bool Tryz.underlying4 _) trodAll_mk0
  · rw [hfn]; exact trodAll_cons_mk t0 (trodAll_cons_mk t1 trodAll_mk0)
  · rw [hfn]; rfl
end Go.Proofs.YtnffppehomofmaaGreatDoor
