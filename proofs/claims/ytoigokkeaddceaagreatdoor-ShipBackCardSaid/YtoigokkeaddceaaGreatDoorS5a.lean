/- A part of the proof of this seat's statement: what is particular to its program. Its conditions stand in each theorem. -/
import Derived.Test.YtoigokkeaddceaaGreatDoorRows
import Derived.WalkKit
import Derived.ProofKit
import Derived.OpenShut
import Derived.LaidMore
import Derived.Lay
import Derived.Stop.Joined
import Derived.JoinedCond
import Derived.Deep.DeepHandedRow
import Derived.Carry
import Derived.Test.YtoigokkeaddceaaGreatDoorM4
import Derived.Test.YtoigokkeaddceaaGreatDoorS5b
import Derived.LaidHandle
namespace Go.Proofs.YtoigokkeaddceaaGreatDoor
open Go.ChangeShapes Go.WideShapes Go.ChangeAt Go.RowKit
theorem own : ownKnob Tryz.prog.godebug = none := by kernel_rfl
noncomputable def laidWorld (os : Os) : World :=
  let w0 := World.laidAll Tryz.prog os (Rows.shipBackRow.laid.filter fun x => x.2.handleName?.isNone)
  { w0 with heap := w0.heap.modify 2 fun
      | .cells _ t frozen => .cells #[.iface 268 (.agg #[.pointer (some ⟨4, 117, none⟩)])] t frozen
      | o => o }
set_option maxRecDepth 100000 in
theorem laidWorld_met (os : Os) (args : Array Value) : laidMetH Tryz.prog Rows.shipBackRow.laid ((laidWorld os).forCall (fun _ _ => 0) ⟨#[], args, []⟩).memory :=
  laidMetH_of_parts (laidMet_of_run' 10 (by kernel_rfl) (by kernel_rfl)) (by kernel_rfl)
abbrev args0 : Array Value := #[.agg #[.int .i64 0, .int .i64 0, .int .i64 0, .int .i64 0, .slice none 0 0, .slice none 0 0], .int .i64 0, .slice none 0 0]
theorem below_of {W W' : World} (h : Xq.KeptAll W W') : Below W.heap.size W { W' with tape := W.tape } := ⟨h.os, rfl, h.output, h.size, h.block⟩
set_option maxRecDepth 100000 in
theorem lifted (os : Os) (started : os.Started) (H : Type) (enc : TypeId × Value → H) :
    ReturnsInHanded {} Tryz.checked os 5 .any (fun w args => (Rows.shipBackSpec.pre enc Tryz.prog Tryz.f5 Rows.shipBackRow.domain false w args ∧ laidMetH Tryz.prog Rows.shipBackRow.laid w) ∧ sizedMet enc Tryz.prog Tryz.f5 (OpenSpec.ofChange Rows.shipBackSpec) false w args)
      (Rows.shipBackSpec.post enc Tryz.prog Tryz.f5 false true false false) := by
  refine Xq.handed_and_sized (C := Tryz.checked) (X := fun w _ => laidMetH Tryz.prog Rows.shipBackRow.laid w) (fun _ _ _ hh h => h.of_heap hh) own started (by kernel_rfl) Tryz.func5
    (ChangeSpec.witness_shaped (enc := enc) (C := Tryz.checked) (os := os) (X := fun w _ => laidMetH Tryz.prog Rows.shipBackRow.laid w) false (laidWorld os) args0 8 (World.laidAll_os _ _ _)
      (World.shaped_of_ZipB (by kernel_rfl) (by kernel_rfl)) (by kernel_rfl) (by kernel_rfl) (by kernel_rfl) (laidWorld_met os args0)) ?_
  intro W base args ds gs before hval0 hW hwt hX hS
  have hval : ∀ (j : Nat) t v, Tryz.f5.params[j]? = some t → args[j]? = some v → Value.okWide Tryz.prog W .any base t v := hval0
  have hW' := hW
  obtain ⟨p, q, hA0, hV, rfl, hfz, hnd⟩ := hW
  have hA : DataW.TrodAll enc Tryz.prog W 0 (fun _ => true) true Tryz.f5.params.toList args.toList ds p := hA0
  have hpl : Tryz.f5.params.toList = [25, 3, 23] := by rw [Tryz.params5]
  have hwt' : (DataW.weightsEach Tryz.prog (Tryz.f5.params.toList ++ Rows.shipBackSpec.plain.varTypes Tryz.prog) (ds ++ gs)).all (· ≤ reachBytes) = true := hwt
  rw [hpl] at hwt'
  rw [Tryz.params5] at hA hval
  obtain ⟨v0, vs0, d0, ds0, p0, q0, hargs, rfl, rfl, h0, r0⟩ := trodAll_cons hA
  obtain ⟨v1, vs1, d1, ds1, p1, q1, rfl, rfl, rfl, h1, r1⟩ := trodAll_cons r0
  obtain ⟨v2, vs2, d2, ds2, p2, q2, rfl, rfl, rfl, h2, r2⟩ := trodAll_cons r1
  obtain ⟨rfl, rfl, rfl⟩ := trodAll_nil r2
  obtain rfl : args = #[v0, v1, v2] := by cases args; simp_all
  obtain ⟨rfl, rfl⟩ := trodVars_none hV
  clear hA0 hval0
  have hlt0 : ∀ x ∈ p0, x.block < W.heap.size := fun x hx => hW'.lt x (by simp [hx])
  have hlt1 : ∀ x ∈ p1, x.block < W.heap.size := fun x hx => hW'.lt x (by simp [hx])
  have hlt2 : ∀ x ∈ p2, x.block < W.heap.size := fun x hx => hW'.lt x (by simp [hx])
  obtain ⟨c0, e0, s0⟩ := okWide_struct Tryz.underlying25 (hval 0 25 v0 rfl rfl)
  obtain ⟨n1, e1⟩ := okWide_int Tryz.underlying3 (hval 1 3 v1 rfl rfl)
  obtain ⟨a2, l2, c2, e2⟩ := okWide_slice Tryz.underlying23 (hval 2 23 v2 rfl rfl)
  obtain ⟨k0, hk0⟩ := h0
  obtain ⟨k2, hk2⟩ := h2
  have hk0' : DataW.trod enc Tryz.prog W 0 (fun _ => true) true k0 25 c0.toList = some (d0, p0) := by rw [e0] at hk0; exact hk0
  have hk2' : DataW.trod enc Tryz.prog W 0 (fun _ => true) true k2 23 [v2] = some (d2, p2) := by rw [e2] at hk2 ⊢; exact hk2
  have hw0 : Wt 25 d0 := fun n hn => by
    have hmem : n ∈ DataW.weightsEach Tryz.prog ([25, 3, 23] ++ Rows.shipBackSpec.plain.varTypes Tryz.prog) ([d0, d1, d2] ++ []) := DataW.weights_mem_each (j := 0) rfl rfl n hn
    exact of_decide_eq_true (List.all_eq_true.1 hwt' n hmem)
  obtain ⟨d, pv, mv, cs, hvl, hdl, hz, hm, hp, hps⟩ := delta_of hk0' hw0
  obtain ⟨b2, lb, x2, y2, _⟩ := Xq.rdS_of_trod Tryz.underlying23 Tryz.underlying5 (by kernel_rfl) hk2'
  have hrb := reachBytes_lt
  have hcall := main_calls (cs' := c0.toList) (at_ := n1) hX hS hvl hdl x2 y2 (by omega) (by omega) (fun p hp => by have := (hps p hp).1; omega)
  have hv0 : v0 = .agg c0.toList.toArray := by rw [e0]
  rw [← hv0, ← e1] at hcall
  refine hcall.mono fun e W' ⟨he, hg⟩ => ?_
  subst he
  have t0 : DataW.Trod enc Tryz.prog W' 0 (fun b => decide (b < W.heap.size)) true 25 v0 d0 p0 := DataW.Trod.of_heap (w := { W' with tape := W.tape }) (w' := W') rfl (Below.trod fact2 (by kernel_rfl) (of_decide_eq_true (by kernel_rfl)) ⟨k0, hk0⟩ (below_of hg) hlt0)
  have t1 : DataW.Trod enc Tryz.prog W' 0 (fun b => decide (b < W.heap.size)) true 3 v1 d1 p1 := DataW.Trod.of_heap (w := { W' with tape := W.tape }) (w' := W') rfl (Below.trod fact2 (by kernel_rfl) (of_decide_eq_true (by kernel_rfl)) h1 (below_of hg) hlt1)
  have t2 : DataW.Trod enc Tryz.prog W' 0 (fun b => decide (b < W.heap.size)) true 23 v2 d2 p2 := DataW.Trod.of_heap (w := { W' with tape := W.tape }) (w' := W') rfl (Below.trod fact2 (by kernel_rfl) (of_decide_eq_true (by kernel_rfl)) ⟨k2, hk2⟩ (below_of hg) hlt2)
  refine ⟨_, rfl, _, _, _, [], p0 ++ (p1 ++ (p2 ++ [])), [], hW', ?_, ?_, ?_, hg.but _, fun h => by cases h⟩
  · exact trodAll_cons_mk (shut_bool Tryz.underlying4 _) trodAll_mk0
  · exact trodAll_cons_mk t0 (trodAll_cons_mk t1 (trodAll_cons_mk t2 trodAll_mk0))
  · rfl
end Go.Proofs.YtoigokkeaddceaaGreatDoor
