/- A part of the proof of this seat's statement: what is particular to its program. Its conditions stand in each theorem. -/
import Derived.Test.YtcfpppleiikjhaaGreatDoorA2
import Derived.Test.YtcfpppleiikjhaaGreatDoorM1
namespace Go.Proofs.YtcfpppleiikjhaaGreatDoor
open Go.RowKit Go.Xq
theorem glob2_of_laid {W : World} (hL : laidMetH Tryz.prog Rows.shrinkTruncatesUptoRow.laid W) (hS : W.ShapedOpen Tryz.prog) : ∃ a0 a1 : Nat × Nat, ngl ≤ W.heap.size ∧ GlobsAt (m0of [a0, a1]) gl W ∧ a0.1 < W.heap.size ∧ a1.1 < W.heap.size ∧
    W.heap[1]? = some (.cells #[.iface 455 (.pointer (some ⟨a0.1, a0.2, none⟩))] 111 (0, 0)) ∧ W.heap[0]? = some (.cells #[.iface 455 (.pointer (some ⟨a1.1, a1.2, none⟩))] 111 (0, 0)) ∧ ∃ u, W.heap[2]? = some (.cells #[u] 191 (0, 0)) := by
  have hsz : ngl ≤ W.heap.size := by
    have := size_of_shaped hS (by rw [gsize]; exact of_decide_eq_true (by kernel_rfl))
    rw [gsize] at this
    exact this
  have h0 : laidMet Tryz.prog (Rows.shrinkTruncatesUptoRow.laid.filter fun x => x.2.handleName?.isNone) W ∧ handlesMet Tryz.prog (Rows.shrinkTruncatesUptoRow.laid.filter fun x => x.2.handleName?.isSome) W := hL
  have h1 := h0.1
  have hh0 := handle_at (size := 509) (rt := 277) (ng := 4) (te := 111) (g := 2) h0.2 (List.mem_singleton.2 rfl) rfl rfl (by kernel_rfl) (by kernel_rfl) (by kernel_rfl) (by kernel_rfl) (by kernel_rfl)
  obtain ⟨a0, s0, hv0, hc0, _⟩ := laid_sentinel (g := 1) (ti := 111) (tp := 455) h1 (by kernel_rfl) (by kernel_rfl) Tryz.underlying111 rowES Tryz.underlying455 Tryz.underlying497 rfl rfl Tryz.underlying9 (by kernel_rfl) (by kernel_rfl)
  have hg0 : W.cell? ⟨1, 0, none⟩ = some (.iface 455 (.pointer (some a0))) := by simpa using World.var?_cell (by kernel_rfl) hv0 0
  obtain ⟨hl0, hp0⟩ := lt_of_cell hc0
  obtain ⟨b0, o0, sp0⟩ := a0
  have hp0 : sp0 = none := hp0
  subst hp0
  obtain ⟨a1, s1, hv1, hc1, _⟩ := laid_sentinel (g := 0) (ti := 111) (tp := 455) (laidMet.tail h1) (by kernel_rfl) (by kernel_rfl) Tryz.underlying111 rowES Tryz.underlying455 Tryz.underlying497 rfl rfl Tryz.underlying9 (by kernel_rfl) (by kernel_rfl)
  have hg1 : W.cell? ⟨0, 0, none⟩ = some (.iface 455 (.pointer (some a1))) := by simpa using World.var?_cell (by kernel_rfl) hv1 0
  obtain ⟨hl1, hp1⟩ := lt_of_cell hc1
  obtain ⟨b1, o1, sp1⟩ := a1
  have hp1 : sp1 = none := hp1
  subst hp1
  have hG : GlobsAt (m0of [(b0, o0), (b1, o1)]) gl W := by
    intro p hp
    simp only [gl, List.mem_cons, List.not_mem_nil, or_false] at hp
    rcases hp with rfl | rfl | rfl
    · refine ⟨by decide, _, _, _, rfl, rfl, glob_cell hS (by rw [gsize]; decide) (by kernel_rfl) hg0, ?_⟩
      have hv : VR (m0of [(b0, o0), (b1, o1)]) (.ptr 5 0) (.pointer (some ⟨b0, o0 + 0, none⟩)) := .ptr 5 0 ⟨b0, o0, 1, 1⟩ (m0of_ad (a := (b0, o0)) (j := 0) rfl)
      exact .ifc _ _ _ hv
    · refine ⟨by decide, _, _, _, rfl, rfl, glob_cell hS (by rw [gsize]; decide) (by kernel_rfl) hg1, ?_⟩
      have hv : VR (m0of [(b0, o0), (b1, o1)]) (.ptr 6 0) (.pointer (some ⟨b1, o1 + 0, none⟩)) := .ptr 6 0 ⟨b1, o1, 1, 1⟩ (m0of_ad (a := (b1, o1)) (j := 1) rfl)
      exact .ifc _ _ _ hv
    · refine ⟨by decide, _, _, _, rfl, rfl, glob_cell hS (by rw [gsize]; decide) (by kernel_rfl) hh0, ?_⟩
      have hv : VR (m0of [(b0, o0), (b1, o1)]) (.ptr 4 111) (.pointer (some ⟨4, 0 + 111, none⟩)) := .ptr 4 111 ⟨4, 0, 1, 1⟩ (m0of_lt (by decide))
      rw [Nat.zero_add] at hv
      exact .ifc _ _ _ (.agg _ _ (.cons _ _ _ _ hv .nil))
  exact ⟨(b0, o0), (b1, o1), hsz, hG, hl0, hl1, glob_cell hS (by rw [gsize]; decide) (by kernel_rfl) hg0, glob_cell hS (by rw [gsize]; decide) (by kernel_rfl) hg1, _, glob_cell hS (by rw [gsize]; decide) (by kernel_rfl) hh0⟩
theorem avOf_ifc {n b o : Nat} {t : TypeId} (h : b < n) : avOf n (.iface t (.pointer (some ⟨b, o, none⟩))) = some (.ifc t (.ptr b o)) := by
  show (if (none : Option Nat) = none ∧ b < n then _ else _) = _
  rw [if_pos ⟨rfl, h⟩]
theorem holds_start {W : World} (hL : laidMetH Tryz.prog Rows.shrinkTruncatesUptoRow.laid W) (hS : W.ShapedOpen Tryz.prog) : ngl ≤ W.heap.size ∧ ∃ a0 a1 : Nat × Nat, HoldsG W a0 a1 (HI W) := by
  obtain ⟨a0, a1, hsz, hG, l0, l1, g1, g0, u, g2⟩ := glob2_of_laid hL hS
  have h4 : 4 < ngl := by decide
  refine ⟨hsz, a0, a1, hG, fun g hg => ?_, ⟨_, _, hI_at g1 (by omega), ?_⟩, ⟨_, _, hI_at g0 (by omega), ?_⟩⟩
  · have : g = 0 ∨ g = 1 ∨ g = 2 := by omega
    rcases this with rfl | rfl | rfl
    · exact ⟨_, _, g0, hI_at g0 (by omega)⟩
    · exact ⟨_, _, g1, hI_at g1 (by omega)⟩
    · exact ⟨_, _, g2, hI_at g2 (by omega)⟩
  · exact avOf_ifc l0
  · exact avOf_ifc l1
end Go.Proofs.YtcfpppleiikjhaaGreatDoor
