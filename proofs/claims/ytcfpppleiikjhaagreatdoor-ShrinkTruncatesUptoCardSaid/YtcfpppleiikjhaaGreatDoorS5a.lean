/- A part of the proof of this seat's statement: what is particular to its program. Its conditions stand in each theorem. -/
import Derived.Test.YtcfpppleiikjhaaGreatDoorRows
import Derived.WalkKit
import Derived.ProofKit
import Derived.OpenShut
import Derived.LaidMore
import Derived.Lay
import Derived.Stop.Joined
import Derived.JoinedCond
import Derived.Deep.DeepHandedRow
import Derived.Carry
import Derived.Test.YtcfpppleiikjhaaGreatDoorM4
import Derived.Test.YtcfpppleiikjhaaGreatDoorS5b
import Derived.LaidHandle
namespace Go.Proofs.YtcfpppleiikjhaaGreatDoor
open Go.ChangeShapes Go.WideShapes Go.ChangeAt Go.RowKit
theorem own : ownKnob Tryz.prog.godebug = none := by kernel_rfl
noncomputable def laidWorld (os : Os) : World :=
  let w0 := World.laidAll Tryz.prog os (Rows.shrinkTruncatesRow.laid.filter fun x => x.2.handleName?.isNone)
  { w0 with heap := w0.heap.modify 2 fun
      | .cells _ t frozen => .cells #[.iface 277 (.agg #[.pointer (some ⟨4, 111, none⟩)])] t frozen
      | o => o }
set_option maxRecDepth 100000 in
theorem laidWorld_met (os : Os) (args : Array Value) : laidMetH Tryz.prog Rows.shrinkTruncatesRow.laid ((laidWorld os).forCall (fun _ _ => 0) ⟨#[], args, []⟩).memory :=
  laidMetH_of_parts (laidMet_of_run' 10 (by kernel_rfl) (by kernel_rfl)) (by kernel_rfl)
abbrev args0 : Array Value := #[.slice none 0 0, .int .i64 0, .slice none 0 0, .slice none 0 0]
theorem reads (os : Os) {H : Type} (enc : TypeId × Value → H) : DataW.whole enc Tryz.prog ((laidWorld os).forCall (fun _ _ => 0) ⟨#[], args0, []⟩).memory Tryz.f3.params.toList Rows.shrinkTruncatesSpec.vars false args0.toList 8 = some ([.nil, .lit (.int .i64 0), .nil, .nil], [], []) := by kernel_rfl
set_option maxRecDepth 100000 in
theorem witnessed (os : Os) {H : Type} (enc : TypeId × Value → H) : ∃ (w : World) (tape : Tape) (i : Input), w.os = os ∧ (w.forCall tape i).Shaped Tryz.checked.prog ∧ i.vars = [] ∧ Input.okWide Tryz.checked.prog (w.forCall tape i) .any w.heap.size 3 i ∧
      (Rows.OpenSpec.upto Rows.shrinkTruncatesSpec).preRow enc Tryz.checked.prog Tryz.f3 Rows.shrinkTruncatesUptoRow.domain false Rows.shrinkTruncatesUptoRow.laid (w.forCall tape i).memory i.args ∧ ({} : Assume).holds Tryz.checked.prog (lone (Frame.enter Tryz.checked.prog 3 i.args .normal) [] (w.forCall tape i)) := by
  have hok : Input.okWideB Tryz.prog ((laidWorld os).forCall (fun _ _ => 0) ⟨#[], args0, []⟩) 3 ⟨#[], args0, []⟩ = true := by kernel_rfl
  refine ⟨laidWorld os, fun _ _ => 0, ⟨#[], args0, []⟩, World.laidAll_os _ _ _, World.shaped_of_ZipB (by kernel_rfl) (by kernel_rfl), (Input.okWide_of_okWideB (base := 0) hok).1, (Input.okWide_of_okWideB hok).2, ?_, ?_⟩
  · exact OpenSpec.preRow_of_cond 8 (reads os enc) (by kernel_rfl) (fun k hk => by cases hk; kernel_rfl) (by kernel_rfl) (laidWorld_met os args0)
  · simp only [Assume.holds]
    exact ⟨by simp, by simp, fun _ => Modest.zero, by simp, by simp⟩
theorem below_of {W W' : World} (h : Xq.KeptAll W W') : Below W.heap.size W { W' with tape := W.tape } := ⟨h.os, rfl, h.output, h.size, h.block⟩
set_option maxRecDepth 100000 in
theorem lifted (os : Os) (started : os.Started) (H : Type) (enc : TypeId × Value → H) (F : Stop.Interp) :
    ReturnsInHanded {} Tryz.checked os 3 .any ((Rows.OpenSpec.upto Rows.shrinkTruncatesSpec).preRow enc Tryz.prog Tryz.f3 Rows.shrinkTruncatesUptoRow.domain false Rows.shrinkTruncatesUptoRow.laid)
      (((Rows.OpenSpec.upto Rows.shrinkTruncatesSpec).at F).post enc Tryz.prog Tryz.f3 false true false false) := by
  refine returnsInHanded_of_row (C := Tryz.checked) (s := Rows.OpenSpec.upto Rows.shrinkTruncatesSpec) own started (by kernel_rfl) Tryz.func3 (witnessed os enc) ?_
  intro W base args ds gs before hval0 hW _ hcond0 _ hX hS _
  have hval : ∀ (j : Nat) t v, Tryz.f3.params[j]? = some t → args[j]? = some v → Value.okWide Tryz.prog W .any base t v := hval0
  have hW' := hW
  obtain ⟨p, q, hA0, hV, rfl, hfz, hnd⟩ := hW
  have hA : DataW.TrodAll enc Tryz.prog W 0 (fun _ => true) true Tryz.f3.params.toList args.toList ds p := hA0
  rw [Tryz.params3] at hA hval
  obtain ⟨v0, vs0, d0, ds0, p0, q0, hargs, rfl, rfl, h0, r0⟩ := trodAll_cons hA
  obtain ⟨v1, vs1, d1, ds1, p1, q1, rfl, rfl, rfl, h1, r1⟩ := trodAll_cons r0
  obtain ⟨v2, vs2, d2, ds2, p2, q2, rfl, rfl, rfl, h2, r2⟩ := trodAll_cons r1
  obtain ⟨v3, vs3, d3, ds3, p3, q3, rfl, rfl, rfl, h3, r3⟩ := trodAll_cons r2
  obtain ⟨rfl, rfl, rfl⟩ := trodAll_nil r3
  obtain rfl : args = #[v0, v1, v2, v3] := by cases args; simp_all
  obtain ⟨rfl, rfl⟩ := trodVars_none hV
  clear hA0 hval0
  have hlt0 : ∀ x ∈ p0, x.block < W.heap.size := fun x hx => hW'.lt x (by simp [hx])
  have hlt1 : ∀ x ∈ p1, x.block < W.heap.size := fun x hx => hW'.lt x (by simp [hx])
  have hlt2 : ∀ x ∈ p2, x.block < W.heap.size := fun x hx => hW'.lt x (by simp [hx])
  have hlt3 : ∀ x ∈ p3, x.block < W.heap.size := fun x hx => hW'.lt x (by simp [hx])
  have hk : Rows.uptoSmall H ([d0, d1, d2, d3] ++ []) = true := hcond0 _ rfl
  have hbk : Rows.uptoBulkAll ([d0, d1, d2, d3] ++ []) ≤ 1048576 := of_decide_eq_true hk
  simp only [List.append_nil, Rows.uptoBulkAll] at hbk
  obtain ⟨a0, l0, c0, e0⟩ := okWide_slice Tryz.underlying22 (hval 0 22 v0 rfl rfl)
  obtain ⟨z1, e1⟩ := okWide_int Tryz.underlying3 (hval 1 3 v1 rfl rfl)
  obtain ⟨a2, l2, c2, e2⟩ := okWide_slice Tryz.underlying23 (hval 2 23 v2 rfl rfl)
  obtain ⟨a3, l3, c3, e3⟩ := okWide_slice Tryz.underlying22 (hval 3 22 v3 rfl rfl)
  obtain ⟨k0, hk0⟩ := h0
  obtain ⟨k1, hk1⟩ := h1
  obtain ⟨k2, hk2⟩ := h2
  obtain ⟨k3, hk3⟩ := h3
  have hk0' : DataW.trod enc Tryz.prog W 0 (fun _ => true) true k0 22 [v0] = some (d0, p0) := by rw [e0] at hk0 ⊢; exact hk0
  have hk2' : DataW.trod enc Tryz.prog W 0 (fun _ => true) true k2 23 [v2] = some (d2, p2) := by rw [e2] at hk2 ⊢; exact hk2
  have hk3' : DataW.trod enc Tryz.prog W 0 (fun _ => true) true k3 22 [v3] = some (d3, p3) := by rw [e3] at hk3 ⊢; exact hk3
  obtain ⟨b0, y0, x0, r0, g0⟩ := bytes_of hk0' (show Rows.uptoBulk d0 ≤ 1048576 by omega)
  obtain ⟨b2, cs2, ps2, x2, r2, g2, m2⟩ := pages_of hk2' (show Rows.uptoBulk d2 ≤ 1048576 by omega)
  obtain ⟨b3, y3, x3, r3, g3⟩ := bytes_of hk3' (show Rows.uptoBulk d3 ≤ 1048576 by omega)
  have hcap : cap = 1048576 := rfl
  refine (main_calls hX hS x0 r0 (slOk_of hk0' x0) e1 x2 r2 x3 r3 (slOk_of hk3' x3) (by omega) (by omega) (by omega) (fun p hp => by have := (m2 p hp).1; omega)).mono fun e W' ⟨he, hg⟩ => ?_
  subst he
  have hfn : ((Rows.OpenSpec.upto Rows.shrinkTruncatesSpec).at F).fn H ([d0, d1, d2, d3] ++ []) = { results := [.lit (.bool true)], args := [d0, d1, d2, d3] } := rfl
  have t0 : DataW.Trod enc Tryz.prog W' 0 (fun b => decide (b < W.heap.size)) true 22 v0 d0 p0 := DataW.Trod.of_heap (w := { W' with tape := W.tape }) (w' := W') rfl (Below.trod fact2 (by kernel_rfl) (of_decide_eq_true (by kernel_rfl)) ⟨k0, hk0⟩ (below_of hg) hlt0)
  have t1 : DataW.Trod enc Tryz.prog W' 0 (fun b => decide (b < W.heap.size)) true 3 v1 d1 p1 := DataW.Trod.of_heap (w := { W' with tape := W.tape }) (w' := W') rfl (Below.trod fact2 (by kernel_rfl) (of_decide_eq_true (by kernel_rfl)) ⟨k1, hk1⟩ (below_of hg) hlt1)
  have t2 : DataW.Trod enc Tryz.prog W' 0 (fun b => decide (b < W.heap.size)) true 23 v2 d2 p2 := DataW.Trod.of_heap (w := { W' with tape := W.tape }) (w' := W') rfl (Below.trod fact2 (by kernel_rfl) (of_decide_eq_true (by kernel_rfl)) ⟨k2, hk2⟩ (below_of hg) hlt2)
  have t3 : DataW.Trod enc Tryz.prog W' 0 (fun b => decide (b < W.heap.size)) true 22 v3 d3 p3 := DataW.Trod.of_heap (w := { W' with tape := W.tape }) (w' := W') rfl (Below.trod fact2 (by kernel_rfl) (of_decide_eq_true (by kernel_rfl)) ⟨k3, hk3⟩ (below_of hg) hlt3)
  refine ⟨_, rfl, _, _, _, [], p0 ++ (p1 ++ (p2 ++ (p3 ++ []))), [], hW', ?_, ?_, ?_, hg.but _, fun h => by cases h⟩
  · rw [hfn]; exact trodAll_cons_mk (shut_bool Tryz.underlying4 _) trodAll_mk0
  · rw [hfn]; exact trodAll_cons_mk t0 (trodAll_cons_mk t1 (trodAll_cons_mk t2 (trodAll_cons_mk t3 trodAll_mk0)))
  · rw [hfn]; rfl
end Go.Proofs.YtcfpppleiikjhaaGreatDoor
