/- A part of the proof of this seat's statement: what is particular to its program. Its conditions stand in each theorem. -/
import Derived.Test.YtoigokkeaddceaaGreatDoorRows
import Derived.WalkKit
import Derived.ProofKit
import Derived.OpenShut
import Derived.LaidMore
import Derived.Lay
import Derived.Stop.Joined
import Derived.JoinedCond
import Derived.Deep.DeepHandedRow
import Derived.Carry
import Derived.Test.YtoigokkeaddceaaGreatDoorM4
import Derived.Test.YtoigokkeaddceaaGreatDoorS5b
import Derived.LaidHandle
namespace Go.Proofs.YtoigokkeaddceaaGreatDoor
open Go.ChangeShapes Go.WideShapes Go.ChangeAt Go.RowKit
theorem own : ownKnob Tryz.prog.godebug = none := by kernel_rfl
noncomputable def laidWorld (os : Os) : World :=
  let w0 := World.laidAll Tryz.prog os (Rows.shipDecodesRow.laid.filter fun x => x.2.handleName?.isNone)
  { w0 with heap := w0.heap.modify 2 fun
      | .cells _ t frozen => .cells #[.iface 268 (.agg #[.pointer (some ⟨4, 117, none⟩)])] t frozen
      | o => o }
set_option maxRecDepth 100000 in
theorem laidWorld_met (os : Os) (args : Array Value) : laidMetH Tryz.prog Rows.shipDecodesRow.laid ((laidWorld os).forCall (fun _ _ => 0) ⟨#[], args, []⟩).memory :=
  laidMetH_of_parts (laidMet_of_run' 10 (by kernel_rfl) (by kernel_rfl)) (by kernel_rfl)
abbrev args0 : Array Value := #[.slice none 0 0]
theorem reads (os : Os) {H : Type} (enc : TypeId × Value → H) : DataW.whole enc Tryz.prog ((laidWorld os).forCall (fun _ _ => 0) ⟨#[], args0, []⟩).memory Tryz.f4.params.toList Rows.shipDecodesSpec.vars false args0.toList 8 = some ([.nil], [], []) := by kernel_rfl
set_option maxRecDepth 100000 in
theorem witnessed (os : Os) {H : Type} (enc : TypeId × Value → H) : ∃ (w : World) (tape : Tape) (i : Input), w.os = os ∧ (w.forCall tape i).Shaped Tryz.checked.prog ∧ i.vars = [] ∧ Input.okWide Tryz.checked.prog (w.forCall tape i) .any w.heap.size 4 i ∧
      (Rows.OpenSpec.upto Rows.shipDecodesSpec).preRow enc Tryz.checked.prog Tryz.f4 Rows.shipDecodesUptoRow.domain false Rows.shipDecodesUptoRow.laid (w.forCall tape i).memory i.args ∧ ({} : Assume).holds Tryz.checked.prog (lone (Frame.enter Tryz.checked.prog 4 i.args .normal) [] (w.forCall tape i)) := by
  have hok : Input.okWideB Tryz.prog ((laidWorld os).forCall (fun _ _ => 0) ⟨#[], args0, []⟩) 4 ⟨#[], args0, []⟩ = true := by kernel_rfl
  refine ⟨laidWorld os, fun _ _ => 0, ⟨#[], args0, []⟩, World.laidAll_os _ _ _, World.shaped_of_ZipB (by kernel_rfl) (by kernel_rfl), (Input.okWide_of_okWideB (base := 0) hok).1, (Input.okWide_of_okWideB hok).2, ?_, ?_⟩
  · exact OpenSpec.preRow_of_cond 8 (reads os enc) (by kernel_rfl) (fun k hk => by cases hk; kernel_rfl) (by kernel_rfl) (laidWorld_met os args0)
  · simp only [Assume.holds]
    exact ⟨by simp, by simp, fun _ => Modest.zero, by simp, by simp⟩
theorem below_of {W W' : World} (h : Xq.KeptAll W W') : Below W.heap.size W { W' with tape := W.tape } := ⟨h.os, rfl, h.output, h.size, h.block⟩
set_option maxRecDepth 100000 in
theorem lifted (os : Os) (started : os.Started) (H : Type) (enc : TypeId × Value → H) (F : Stop.Interp) :
    ReturnsInHanded {} Tryz.checked os 4 .any ((Rows.OpenSpec.upto Rows.shipDecodesSpec).preRow enc Tryz.prog Tryz.f4 Rows.shipDecodesUptoRow.domain false Rows.shipDecodesUptoRow.laid)
      (((Rows.OpenSpec.upto Rows.shipDecodesSpec).at F).post enc Tryz.prog Tryz.f4 false true false false) := by
  refine returnsInHanded_of_row (C := Tryz.checked) (s := Rows.OpenSpec.upto Rows.shipDecodesSpec) own started (by kernel_rfl) Tryz.func4 (witnessed os enc) ?_
  intro W base args ds gs before hval0 hW _ hcond0 _ hX hS _
  have hval : ∀ (j : Nat) t v, Tryz.f4.params[j]? = some t → args[j]? = some v → Value.okWide Tryz.prog W .any base t v := hval0
  have hW' := hW
  obtain ⟨p, q, hA0, hV, rfl, hfz, hnd⟩ := hW
  have hA : DataW.TrodAll enc Tryz.prog W 0 (fun _ => true) true Tryz.f4.params.toList args.toList ds p := hA0
  rw [Tryz.params4] at hA hval
  obtain ⟨v0, vs0, d0, ds0, p0, q0, hargs, rfl, rfl, h0, r0⟩ := trodAll_cons hA
  obtain ⟨rfl, rfl, rfl⟩ := trodAll_nil r0
  obtain rfl : args = #[v0] := by cases args; simp_all
  obtain ⟨rfl, rfl⟩ := trodVars_none hV
  clear hA0 hval0
  have hlt0 : ∀ x ∈ p0, x.block < W.heap.size := fun x hx => hW'.lt x (by simp [hx])
  obtain ⟨a0, l0, c0, e0⟩ := okWide_slice Tryz.underlying23 (hval 0 23 v0 rfl rfl)
  obtain ⟨k0, hk0⟩ := h0
  have hk0' : DataW.trod enc Tryz.prog W 0 (fun _ => true) true k0 23 [v0] = some (d0, p0) := by rw [e0] at hk0 ⊢; exact hk0
  obtain ⟨b0, lb, x0, y0, _⟩ := Xq.rdS_of_trod Tryz.underlying23 Tryz.underlying5 (by kernel_rfl) hk0'
  refine (main_calls hX hS x0 y0 (slOk_of hk0' x0)).mono fun e W' ⟨he, hg⟩ => ?_
  subst he
  have hfn : ((Rows.OpenSpec.upto Rows.shipDecodesSpec).at F).fn H ([d0] ++ []) = { results := [.lit (.bool true)], args := [d0] } := rfl
  have t0 : DataW.Trod enc Tryz.prog W' 0 (fun b => decide (b < W.heap.size)) true 23 v0 d0 p0 := DataW.Trod.of_heap (w := { W' with tape := W.tape }) (w' := W') rfl (Below.trod fact2 (by kernel_rfl) (of_decide_eq_true (by kernel_rfl)) ⟨k0, hk0⟩ (below_of hg) hlt0)
  refine ⟨_, rfl, _, _, _, [], p0 ++ [], [], hW', ?_, ?_, ?_, hg.but _, fun h => by cases h⟩
  · rw [hfn]; exact trodAll_cons_mk (shut_bool Tryz.underlying4 _) trodAll_mk0
  · rw [hfn]; exact trodAll_cons_mk t0 trodAll_mk0
  · rw [hfn]; rfl
end Go.Proofs.YtoigokkeaddceaaGreatDoor
