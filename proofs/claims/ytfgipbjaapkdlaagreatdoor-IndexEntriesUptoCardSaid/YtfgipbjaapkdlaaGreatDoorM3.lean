/- A part of the proof of this seat's statement. Conditions: in each theorem. -/
import Derived.Test.YtfgipbjaapkdlaaGreatDoorM1
import Derived.Lib.LaidU8
namespace Go.Proofs.YtfgipbjaapkdlaaGreatDoor
open Go.RowKit Go.Xq
theorem first_data : Rows.laid_unicode_utf8_first = Go.Lib.firstData := by kernel_rfl
theorem accept_data : Rows.laid_unicode_utf8_acceptRanges = Go.Lib.acceptData := by kernel_rfl
theorem firstN_t : ∀ c : Fin 256, Go.Lib.firstT c.val = firstN c.val := by decide +kernel
theorem accLo_t : ∀ c : Fin 16, Go.Lib.accLo c.val = Go.Xq.accLo c.val := by decide +kernel
theorem accHi_t : ∀ c : Fin 16, Go.Lib.accHi c.val = Go.Xq.accHi c.val := by decide +kernel
theorem var_heap {P : Program} {W : World} {n : String} {g : Nat} {cs : Array Value} (hg : P.globalNamed n = some g) (h : W.var? P n = some cs) : ∃ t fr, W.heap[g]? = some (.cells cs t fr) := by
 unfold World.var? at h
 rw [hg] at h
 simp only [Option.bind_some] at h
 split at h
 ·rename_i c t fr e
  cases h
  exact ⟨_, _, e⟩
 ·cases h
theorem holds_start {W : World} (hL : laidMetH Tryz.prog Rows.indexEntriesUptoRow.laid W) (hS : W.ShapedOpen Tryz.prog) : ngl ≤ W.heap.size ∧ GlobU (HI W) := by
 have hsz : ngl ≤ W.heap.size := by
  have := size_of_shaped hS (by rw [gsize]; exact of_decide_eq_true (by kernel_rfl))
  rw [gsize] at this
  exact Nat.le_trans (by decide) this
 have h2 : 2 < ngl := by decide
 have h0 : laidMet Tryz.prog Rows.indexEntriesUptoRow.laid W := hL
 have r3 := Go.Lib.laidMet.reads h0 (n := "unicode/utf8.first") (d := Rows.laid_unicode_utf8_first) (.tail _ (.head _))
 have r4 := Go.Lib.laidMet.reads h0 (n := "unicode/utf8.acceptRanges") (d := Rows.laid_unicode_utf8_acceptRanges) (.head _)
 rw [first_data] at r3
 rw [accept_data] at r4
 refine ⟨hsz, by rw [HI_next]; omega, ?_, ?_⟩
 ·obtain ⟨g, t, cs, fuel, p, hg, hty, hvar, hd⟩ := r3
  obtain rfl := Option.some.inj ((by kernel_rfl : Tryz.prog.globalNamed "unicode/utf8.first" = some 1).symm.trans hg)
  obtain rfl := Option.some.inj ((by kernel_rfl : (Tryz.prog.globals[1]?).map (·.type) = some 251).symm.trans hty)
  have hcs := Go.Lib.cells_of_tab Tryz.underlying251 Tryz.underlying5 (by kernel_rfl) (by kernel_rfl) hd
  obtain ⟨tt, fr, hh⟩ := var_heap hg hvar
  refine ⟨_, hI_at hh (by omega), fun c hc => ?_⟩
  rw [rd_ro, ← Array.getElem?_toList, hcs]
  have := firstN_t ⟨c, hc⟩
  simp only at this
  simp [Go.Lib.firstTab, hc, this]
  rfl
 ·obtain ⟨g, t, cs, fuel, p, hg, hty, hvar, hd⟩ := r4
  obtain rfl := Option.some.inj ((by kernel_rfl : Tryz.prog.globalNamed "unicode/utf8.acceptRanges" = some 2).symm.trans hg)
  obtain rfl := Option.some.inj ((by kernel_rfl : (Tryz.prog.globals[2]?).map (·.type) = some 254).symm.trans hty)
  obtain ⟨tt, fr, hh⟩ := var_heap hg hvar
  refine ⟨_, hI_at hh (by omega), fun i hi => ?_⟩
  obtain ⟨fuel', d, q, hdi, he⟩ := Go.Lib.array_elem Tryz.underlying254 hd i hi
  simp only [List.getElem?_map, List.getElem?_range hi, Option.map_some, Option.some.injEq] at hdi
  subst hdi
  have hc253 : Tryz.prog.cellsOf 253 = 2 := by kernel_rfl
  have hc5 : Tryz.prog.cellsOf 5 = 1 := by kernel_rfl
  rw [hc253] at he
  have hcs := Go.Lib.ints_of_struct Tryz.underlying253 (fun j f hj => by
   match j, hj with
   | 0, hj => simp at hj; subst hj; exact ⟨Tryz.underlying5, rfl, hc5⟩
   | 1, hj => simp at hj; subst hj; exact ⟨Tryz.underlying5, rfl, hc5⟩
   | j + 2, hj => simp at hj) (by rw [hc253]; rfl) he
  have e0 := congrArg (·[0]?) hcs
  have e1 := congrArg (·[1]?) hcs
  simp only [List.getElem?_take, List.getElem?_drop] at e0 e1
  have a0 := accLo_t ⟨i, hi⟩
  have a1 := accHi_t ⟨i, hi⟩
  simp only at a0 a1
  have e0 : cs[2 * i]? = some (.int .u8 (Go.Xq.accLo i : Int)) := by
   rw [← a0, ← Array.getElem?_toList]
   simpa [Nat.mul_comm] using e0
  have e1 : cs[2 * i + 1]? = some (.int .u8 (Go.Xq.accHi i : Int)) := by
   rw [← a1, ← Array.getElem?_toList]
   simpa [Nat.mul_comm] using e1
  exact ⟨by rw [rd_ro, e0]; rfl, by rw [rd_ro, e1]; rfl⟩
end Go.Proofs.YtfgipbjaapkdlaaGreatDoor
