/- A part of the proof of this seat's statement. Conditions: in each theorem. -/
import Derived.Test.YtfgipbjaapkdlaaGreatDoorRows
import Derived.WalkKit
import Derived.ProofKit
import Derived.OpenShut
import Derived.LaidMore
import Derived.Lay
import Derived.Stop.Joined
import Derived.JoinedCond
import Derived.Deep.DeepHandedRow
import Derived.Carry
import Derived.Test.YtfgipbjaapkdlaaGreatDoorM2
import Derived.Test.YtfgipbjaapkdlaaGreatDoorS5b
import Derived.LaidHandle
namespace Go.Proofs.YtfgipbjaapkdlaaGreatDoor
open Go.ChangeShapes Go.WideShapes Go.ChangeAt Go.RowKit
theorem own : ownKnob Tryz.prog.godebug = none := by kernel_rfl
noncomputable def laidWorld (os : Os) : World := World.laidAll Tryz.prog os Rows.indexOrderUptoRow.laid
set_option maxRecDepth 100000 in
theorem laidWorld_met (os : Os) (args : Array Value) : laidMetH Tryz.prog Rows.indexOrderUptoRow.laid ((laidWorld os).forCall (fun _ _ => 0) ⟨#[], args, []⟩).memory :=
  laidMet_of_run' 10 (by kernel_rfl) (by kernel_rfl)
abbrev args0 : Array Value := #[.agg #[.string ⟨#[]⟩, .slice none 0 0, .bool false], .agg #[.int .i64 0, .int .i64 0, .string ⟨#[]⟩, .slice none 0 0, .slice none 0 0], .agg #[.int .i64 0, .int .i64 0, .string ⟨#[]⟩, .slice none 0 0, .slice none 0 0]]
abbrev rec0 {H : Type} : DataW H := .agg [.agg [.lit (.int .i64 0), .lit (.int .i64 0), .lit (.string []), .nil], .nil]
theorem reads (os : Os) {H : Type} (enc : TypeId × Value → H) : DataW.whole enc Tryz.prog ((laidWorld os).forCall (fun _ _ => 0) ⟨#[], args0, []⟩).memory Tryz.f4.params.toList Rows.indexOrderSpec.vars false args0.toList 8 = some ([.agg [.lit (.string []), .nil, .lit (.bool false)], rec0, rec0], [], []) := by kernel_rfl
set_option maxRecDepth 100000 in
theorem witnessed (os : Os) {H : Type} (enc : TypeId × Value → H) : ∃ (w : World) (tape : Tape) (i : Input), w.os = os ∧ (w.forCall tape i).Shaped Tryz.checked.prog ∧ i.vars = [] ∧ Input.okWide Tryz.checked.prog (w.forCall tape i) .any w.heap.size 4 i ∧
      (Rows.OpenSpec.upto Rows.indexOrderSpec).preRow enc Tryz.checked.prog Tryz.f4 Rows.indexOrderUptoRow.domain false Rows.indexOrderUptoRow.laid (w.forCall tape i).memory i.args ∧ ({} : Assume).holds Tryz.checked.prog (lone (Frame.enter Tryz.checked.prog 4 i.args .normal) [] (w.forCall tape i)) := by
  have hok : Input.okWideB Tryz.prog ((laidWorld os).forCall (fun _ _ => 0) ⟨#[], args0, []⟩) 4 ⟨#[], args0, []⟩ = true := by kernel_rfl
  refine ⟨laidWorld os, fun _ _ => 0, ⟨#[], args0, []⟩, World.laidAll_os _ _ _, World.shaped_of_ZipB (by kernel_rfl) (by kernel_rfl), (Input.okWide_of_okWideB (base := 0) hok).1, (Input.okWide_of_okWideB hok).2, ?_, ?_⟩
  · exact OpenSpec.preRow_of_cond 8 (reads os enc) (by kernel_rfl) (fun k hk => by cases hk; kernel_rfl) (by kernel_rfl) (laidWorld_met os args0)
  · simp only [Assume.holds]
    exact ⟨by simp, by simp, fun _ => Modest.zero, by simp, by simp⟩
theorem below_of {W W' : World} (h : Xq.KeptAll W W') : Below W.heap.size W { W' with tape := W.tape } := ⟨h.os, rfl, h.output, h.size, h.block⟩
set_option maxRecDepth 100000 in
theorem lifted (os : Os) (started : os.Started) (H : Type) (enc : TypeId × Value → H) (F : Stop.Interp) :
    ReturnsInHanded {} Tryz.checked os 4 .any ((Rows.OpenSpec.upto Rows.indexOrderSpec).preRow enc Tryz.prog Tryz.f4 Rows.indexOrderUptoRow.domain false Rows.indexOrderUptoRow.laid)
      (((Rows.OpenSpec.upto Rows.indexOrderSpec).at F).post enc Tryz.prog Tryz.f4 false true false false) := by
  refine returnsInHanded_of_row (C := Tryz.checked) (s := Rows.OpenSpec.upto Rows.indexOrderSpec) own started (by kernel_rfl) Tryz.func4 (witnessed os enc) ?_
  intro W base args ds gs before hval0 hW _ hcond0 _ hX hS _
  have hval : ∀ (j : Nat) t v, Tryz.f4.params[j]? = some t → args[j]? = some v → Value.okWide Tryz.prog W .any base t v := hval0
  have hW' := hW
  obtain ⟨p, q, hA0, hV, rfl, hfz, hnd⟩ := hW
  have hA : DataW.TrodAll enc Tryz.prog W 0 (fun _ => true) true Tryz.f4.params.toList args.toList ds p := hA0
  rw [Tryz.params4] at hA hval
  obtain ⟨v0, vs0, d0, ds0, p0, q0, hargs, rfl, rfl, h0, r0⟩ := trodAll_cons hA
  obtain ⟨v1, vs1, d1, ds1, p1, q1, rfl, rfl, rfl, h1, r1⟩ := trodAll_cons r0
  obtain ⟨v2, vs2, d2, ds2, p2, q2, rfl, rfl, rfl, h2, r2⟩ := trodAll_cons r1
  obtain ⟨rfl, rfl, rfl⟩ := trodAll_nil r2
  obtain rfl : args = #[v0, v1, v2] := by cases args; simp_all
  obtain ⟨rfl, rfl⟩ := trodVars_none hV
  clear hA0 hval0
  have hlt0 : ∀ x ∈ p0, x.block < W.heap.size := fun x hx => hW'.lt x (by simp [hx])
  have hlt1 : ∀ x ∈ p1, x.block < W.heap.size := fun x hx => hW'.lt x (by simp [hx])
  have hlt2 : ∀ x ∈ p2, x.block < W.heap.size := fun x hx => hW'.lt x (by simp [hx])
  have hk : Rows.uptoSmall H ([d0, d1, d2] ++ []) = true := hcond0 _ rfl
  have hbk : Rows.uptoBulkAll ([d0, d1, d2] ++ []) ≤ 1048576 := of_decide_eq_true hk
  simp only [List.append_nil, Rows.uptoBulkAll] at hbk
  obtain ⟨c0, e0, s0⟩ := okWide_struct Tryz.underlying24 (hval 0 24 v0 rfl rfl)
  obtain ⟨c1, e1, s1⟩ := okWide_struct Tryz.underlying30 (hval 1 30 v1 rfl rfl)
  obtain ⟨c2, e2, s2⟩ := okWide_struct Tryz.underlying30 (hval 2 30 v2 rfl rfl)
  obtain ⟨k0, hk0⟩ := h0
  obtain ⟨k1, hk1⟩ := h1
  obtain ⟨k2, hk2⟩ := h2
  have hk0' : DataW.trod enc Tryz.prog W 0 (fun _ => true) true k0 24 c0.toList = some (d0, p0) := by rw [e0] at hk0; exact hk0
  have hk1' : DataW.trod enc Tryz.prog W 0 (fun _ => true) true k1 30 c1.toList = some (d1, p1) := by rw [e1] at hk1; exact hk1
  have hk2' : DataW.trod enc Tryz.prog W 0 (fun _ => true) true k2 30 c2.toList = some (d2, p2) := by rw [e2] at hk2; exact hk2
  obtain ⟨rx, ix, vl0, hi, hik, hkl⟩ := ix_of hk0' (by show Rows.uptoBulk d0 ≤ _; omega)
  obtain ⟨r1', x1, vl1, hr1, ok1, hf1⟩ := rec_of hk1' (by show Rows.uptoBulk d1 ≤ _; omega)
  obtain ⟨r2', x2, vl2, hr2, ok2, hf2⟩ := rec_of hk2' (by show Rows.uptoBulk d2 ≤ _; omega)
  have hcall := main_calls hX hS vl0 vl1 vl2 hi hr1 hr2 hik ok1 ok2 hkl hf1 hf2
  have hv0 : v0 = .agg c0.toList.toArray := by rw [e0]
  have hv1 : v1 = .agg c1.toList.toArray := by rw [e1]
  have hv2 : v2 = .agg c2.toList.toArray := by rw [e2]
  rw [← hv0, ← hv1, ← hv2] at hcall
  refine hcall.mono fun e W' ⟨he, hg⟩ => ?_
  subst he
  have hfn : ((Rows.OpenSpec.upto Rows.indexOrderSpec).at F).fn H ([d0, d1, d2] ++ []) = { results := [.lit (.bool true)], args := [d0, d1, d2] } := rfl
  have t0 : DataW.Trod enc Tryz.prog W' 0 (fun b => decide (b < W.heap.size)) true 24 v0 d0 p0 := DataW.Trod.of_heap (w := { W' with tape := W.tape }) (w' := W') rfl (Below.trod fact2 (by kernel_rfl) (of_decide_eq_true (by kernel_rfl)) ⟨k0, hk0⟩ (below_of hg) hlt0)
  have t1 : DataW.Trod enc Tryz.prog W' 0 (fun b => decide (b < W.heap.size)) true 30 v1 d1 p1 := DataW.Trod.of_heap (w := { W' with tape := W.tape }) (w' := W') rfl (Below.trod fact2 (by kernel_rfl) (of_decide_eq_true (by kernel_rfl)) ⟨k1, hk1⟩ (below_of hg) hlt1)
  have t2 : DataW.Trod enc Tryz.prog W' 0 (fun b => decide (b < W.heap.size)) true 30 v2 d2 p2 := DataW.Trod.of_heap (w := { W' with tape := W.tape }) (w' := W') rfl (Below.trod fact2 (by kernel_rfl) (of_decide_eq_true (by kernel_rfl)) ⟨k2, hk2⟩ (below_of hg) hlt2)
  refine ⟨_, rfl, _, _, _, [], p0 ++ (p1 ++ (p2 ++ [])), [], hW', ?_, ?_, ?_, hg.but _, fun h => by cases h⟩
  · rw [hfn]; exact trodAll_cons_mk (shut_bool Tryz.underlying4 _) trodAll_mk0
  · rw [hfn]; exact trodAll_cons_mk t0 (trodAll_cons_mk t1 (trodAll_cons_mk t2 trodAll_mk0))
  · rw [hfn]; rfl
end Go.Proofs.YtfgipbjaapkdlaaGreatDoor
