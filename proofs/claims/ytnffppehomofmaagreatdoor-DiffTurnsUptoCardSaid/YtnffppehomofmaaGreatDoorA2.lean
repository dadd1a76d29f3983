/- A part of the proof of this seat's statement: what is particular to its program. Its conditions stand in each theorem. -/
import Derived.Test.YtnffppehomofmaaGreatDoorRows
import Derived.Test.YtnffppehomofmaaGreatDoorProg
import Derived.Stop.LaidErr
import Derived.KernelRfl
import Derived.Test.YtnffppehomofmaaGreatDoorY12
namespace Go.Proofs.YtnffppehomofmaaGreatDoor
open Go.RowKit Go.Xq
noncomputable def gl : List (Nat × AObj) := [(1, one1 71 (.ifc 466 (.ptr 5 0))),
  (0, one1 71 (.ifc 466 (.ptr 6 0))),
  (2, one1 160 (.ifc 235 (.agg (.cons (.ptr 4 71) .nil))))]
abbrev nx : Nat := 7
theorem gsize : Tryz.prog.globals.size = 4 := by kernel_rfl
theorem starES : "*" ++ "errors.errorString" = "*errors.errorString" := by decide
theorem rowES (u : TypeId) (h : Tryz.prog.typeName? 3 u = some "*errors.errorString") : u = 466 :=
  typeName_ptr_named (nm := "errors.errorString") (by rw [starES]; kernel_rfl) (by kernel_rfl) (by decide) u (by rw [starES]; exact h)
theorem glob_of_laid {W : World} (hL : laidMetH Tryz.prog Rows.diffTurnsRow.laid W) (hS : W.ShapedOpen Tryz.prog) : ∃ ads, Rel (m0of ads) (H0of nx gl) W ∧ GlobsAt (m0of ads) gl W := by
  have hsz : ngl ≤ W.heap.size := by
    have := size_of_shaped hS (by rw [gsize]; exact of_decide_eq_true (by kernel_rfl))
    rw [gsize] at this
    exact this
  have h0 : laidMet Tryz.prog (Rows.diffTurnsRow.laid.filter fun x => x.2.handleName?.isNone) W ∧ handlesMet Tryz.prog (Rows.diffTurnsRow.laid.filter fun x => x.2.handleName?.isSome) W := hL
  have h1 := h0.1
  have hh0 := handle_at (size := 503) (rt := 235) (ng := 4) (te := 71) (g := 2) h0.2 (List.mem_singleton.2 rfl) rfl rfl (by kernel_rfl) (by kernel_rfl) (by kernel_rfl) (by kernel_rfl) (by kernel_rfl)
  obtain ⟨a0, s0, hv0, hc0, _⟩ := laid_sentinel (g := 1) (ti := 71) (tp := 466) h1 (by kernel_rfl) (by kernel_rfl) Tryz.underlying71 rowES Tryz.underlying466 Tryz.underlying491 rfl rfl Tryz.underlying9 (by kernel_rfl) (by kernel_rfl)
  have hg0 : W.cell? ⟨1, 0, none⟩ = some (.iface 466 (.pointer (some a0))) := by simpa using World.var?_cell (by kernel_rfl) hv0 0
  obtain ⟨hl0, hp0⟩ := lt_of_cell hc0
  obtain ⟨b0, o0, sp0⟩ := a0
  have hp0 : sp0 = none := hp0
  subst hp0
  obtain ⟨a1, s1, hv1, hc1, _⟩ := laid_sentinel (g := 0) (ti := 71) (tp := 466) (laidMet.tail h1) (by kernel_rfl) (by kernel_rfl) Tryz.underlying71 rowES Tryz.underlying466 Tryz.underlying491 rfl rfl Tryz.underlying9 (by kernel_rfl) (by kernel_rfl)
  have hg1 : W.cell? ⟨0, 0, none⟩ = some (.iface 466 (.pointer (some a1))) := by simpa using World.var?_cell (by kernel_rfl) hv1 0
  obtain ⟨hl1, hp1⟩ := lt_of_cell hc1
  obtain ⟨b1, o1, sp1⟩ := a1
  have hp1 : sp1 = none := hp1
  subst hp1
  have hG : GlobsAt (m0of [(b0, o0), (b1, o1)]) gl W := by
    intro p hp
    simp only [gl, List.mem_cons, List.not_mem_nil, or_false] at hp
    rcases hp with rfl | rfl | rfl
    · refine ⟨by decide, _, _, _, rfl, rfl, glob_cell hS (by rw [gsize]; decide) (by kernel_rfl) hg0, ?_⟩
      have hv : VR (m0of [(b0, o0), (b1, o1)]) (.ptr 5 0) (.pointer (some ⟨b0, o0 + 0, none⟩)) := .ptr 5 0 ⟨b0, o0, 1, 1⟩ (m0of_ad (a := (b0, o0)) (j := 0) rfl)
      exact .ifc _ _ _ hv
    · refine ⟨by decide, _, _, _, rfl, rfl, glob_cell hS (by rw [gsize]; decide) (by kernel_rfl) hg1, ?_⟩
      have hv : VR (m0of [(b0, o0), (b1, o1)]) (.ptr 6 0) (.pointer (some ⟨b1, o1 + 0, none⟩)) := .ptr 6 0 ⟨b1, o1, 1, 1⟩ (m0of_ad (a := (b1, o1)) (j := 1) rfl)
      exact .ifc _ _ _ hv
    · refine ⟨by decide, _, _, _, rfl, rfl, glob_cell hS (by rw [gsize]; decide) (by kernel_rfl) hh0, ?_⟩
      have hv : VR (m0of [(b0, o0), (b1, o1)]) (.ptr 4 71) (.pointer (some ⟨4, 0 + 71, none⟩)) := .ptr 4 71 ⟨4, 0, 1, 1⟩ (m0of_lt (by decide))
      rw [Nat.zero_add] at hv
      exact .ifc _ _ _ (.agg _ _ (.cons _ _ _ _ hv .nil))
  refine ⟨[(b0, o0), (b1, o1)], rel_glob rfl hsz ?_ hG, hG⟩
  intro a ha
  simp only [List.mem_cons, List.not_mem_nil, or_false] at ha
  rcases ha with rfl | rfl
  · exact hl0
  · exact hl1
end Go.Proofs.YtnffppehomofmaaGreatDoor
