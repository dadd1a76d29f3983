/- A part of the proof of this seat's statement: what is particular to its program. Its conditions stand in each theorem. -/
import Derived.Test.YtnffppehomofmaaGreatDoorD2
import Derived.Test.YtnffppehomofmaaGreatDoorZ4
import Derived.Test.YtnffppehomofmaaGreatDoorRows
import Derived.Test.YtnffppehomofmaaGreatDoorA2
import Derived.Test.YtnffppehomofmaaGreatDoorD5
namespace Go.Proofs.YtnffppehomofmaaGreatDoor
open Go.Xq Go.ChangeShapes Go.Deep
noncomputable section
/-! ### What comes in -/
section
variable {H : Type} {enc : TypeId × Value → H} {w : World}
theorem one_le {H : Type} (d : DataW H) : 1 ≤ Rows.uptoBulk d := by
  cases d with
  | lit l => cases l <;> simp [Rows.uptoBulk]
  | nil => simp [Rows.uptoBulk]
  | ptr d => simp [Rows.uptoBulk]
  | slice elems spare => simp [Rows.uptoBulk]
  | agg parts => simp [Rows.uptoBulk]
  | iface t d => simp [Rows.uptoBulk]
  | map entries => simp [Rows.uptoBulk]
  | held h => simp [Rows.uptoBulk]
theorem part_le {H : Type} {d : DataW H} {l : List (DataW H)} (h : d ∈ l) : Rows.uptoBulk d ≤ Rows.uptoBulkAll l := by
  induction l with
  | nil => cases h
  | cons x r ih =>
    simp only [Rows.uptoBulkAll]
    cases List.mem_cons.1 h with
    | inl e => subst e; omega
    | inr e => have := ih e; omega
theorem length_le {H : Type} (l : List (DataW H)) : l.length ≤ Rows.uptoBulkAll l := by
  induction l with
  | nil => simp [Rows.uptoBulkAll]
  | cons x r ih => have := one_le x; simp only [Rows.uptoBulkAll, List.length_cons]; omega
theorem slice_le {H : Type} (elems spare : List (DataW H)) : Rows.uptoBulkAll elems + 1 ≤ Rows.uptoBulk (.slice elems spare) := by
  simp only [Rows.uptoBulk]
  omega
theorem avOf_blk {n : Nat} {v : Value} {a : AV} (hn : 0 < n) (h : avOf n v = some a) {b : Nat} (hb : blk a = some b) : b < n := by
  unfold avOf at h
  split at h
  · cases h; cases hb
  · cases h; cases hb
  · cases h; cases hb
  · cases h; cases hb
  · split at h
    · cases h; cases hb
    · cases h
  · split at h
    · cases h; cases hb; exact hn
    · split at h
      · rename_i e
        cases h; cases hb
        exact e.2
      · cases h
  · cases h
theorem trod_str {t : TypeId} {k : Nat} {v : Value} {x : DataW H × List MemPlace} (he : Tryz.prog.underlying t = some .string) (h : DataW.trod enc Tryz.prog w 0 (fun _ => true) true k t [v] = some x) : ∃ s, v = .string s := by
  cases k with
  | zero => simp [DataW.trod] at h
  | succ k =>
    unfold DataW.trod at h
    rw [he] at h
    split at h <;> simp_all
theorem trod_bool {t : TypeId} {k : Nat} {v : Value} {x : DataW H × List MemPlace} (he : Tryz.prog.underlying t = some .bool) (h : DataW.trod enc Tryz.prog w 0 (fun _ => true) true k t [v] = some x) : ∃ b, v = .bool b := by
  cases k with
  | zero => simp [DataW.trod] at h
  | succ k =>
    unfold DataW.trod at h
    rw [he] at h
    split at h <;> simp_all
theorem bytes_of {k : Nat} {v : Value} {x : DataW H × List MemPlace} (h : DataW.trod enc Tryz.prog w 0 (fun _ => true) true k 45 [v] = some x) :
    ∃ a l, avOf w.heap.size v = some a ∧ RdS (HI w) a l ∧ l.length ≤ Rows.uptoBulk x.1 := by
  obtain ⟨a, l, h1, h2, h3⟩ := rdS_of_trod Tryz.underlying45 Tryz.underlying5 (by kernel_rfl) h
  refine ⟨a, l, h1, h2, ?_⟩
  rcases h3 with rfl | ⟨el, sp, e, h4⟩
  · simp
  · rw [e, h4]
    have := length_le el
    have := slice_le el sp
    omega
set_option maxRecDepth 10000 in
theorem chg_of {k : Nat} {cs' : List Value} {y : DataW H × List MemPlace} (h : DataW.trod enc Tryz.prog w 0 (fun _ => true) true k 55 cs' = some y) :
    ∃ p : Cv × Ch, (∀ (j : Nat) (u : AV), (encC p.1)[j]? = some u → ∃ v, cs'[j]? = some v ∧ avOf w.heap.size v = some u) ∧ RdC (HI w) p.1 p.2 ∧
      p.2.k.length ≤ Rows.uptoBulk y.1 ∧ p.2.o.length ≤ Rows.uptoBulk y.1 ∧ p.2.w.length ≤ Rows.uptoBulk y.1 := by
  obtain ⟨xs, n, _, rfl, hl, hlen, hf⟩ := DataW.trod_struct Tryz.underlying55 h
  have hc : Tryz.prog.cellsOf 55 = 6 := by kernel_rfl
  rw [hc] at hl
  have hc9 : Tryz.prog.cellsOf 9 = 1 := by kernel_rfl
  have hc45 : Tryz.prog.cellsOf 45 = 1 := by kernel_rfl
  have hc4 : Tryz.prog.cellsOf 4 = 1 := by kernel_rfl
  match xs, hlen, cs', hl with
  | [y0, y1, y2, y3, y4, y5], _, [v0, v1, v2, v3, v4, v5], _ =>
    have f0 := hf 0 _ rfl
    have f1 := hf 1 _ rfl
    have f2 := hf 2 _ rfl
    have f3 := hf 3 _ rfl
    have f4 := hf 4 _ rfl
    have f5 := hf 5 _ rfl
    simp [hc9, hc45, hc4] at f0 f1 f2 f3 f4 f5
    obtain ⟨s, rfl⟩ := trod_str Tryz.underlying9 f0
    obtain ⟨a1, l1, p1, q1, r1⟩ := bytes_of f1
    obtain ⟨b2, rfl⟩ := trod_bool Tryz.underlying4 f2
    obtain ⟨b3, rfl⟩ := trod_bool Tryz.underlying4 f3
    obtain ⟨a4, l4, p4, q4, r4⟩ := bytes_of f4
    obtain ⟨a5, l5, p5, q5, r5⟩ := bytes_of f5
    have hb : ∀ z : DataW H × List MemPlace, z ∈ [y0, y1, y2, y3, y4, y5] → Rows.uptoBulk z.1 ≤ Rows.uptoBulk (DataW.agg (List.map (·.1) [y0, y1, y2, y3, y4, y5])) := fun z hz => by
      have := part_le (List.mem_map_of_mem (f := fun q : DataW H × List MemPlace => q.1) hz)
      simp only [Rows.uptoBulk]
      omega
    refine ⟨(⟨s.data.toList, a1, b2, b3, a4, a5⟩, ⟨s.data.toList, l1, b2, b3, l4, l5⟩), ?_, ⟨rfl, rfl, rfl, q1, q4, q5⟩, Nat.le_trans r1 (hb y1 (by simp)), Nat.le_trans r4 (hb y4 (by simp)), Nat.le_trans r5 (hb y5 (by simp))⟩
    intro j u hj
    match j, hj with
    | 0, hj => simp [encC] at hj; subst hj; exact ⟨_, rfl, rfl⟩
    | 1, hj => simp [encC] at hj; subst hj; exact ⟨_, rfl, p1⟩
    | 2, hj => simp [encC] at hj; subst hj; exact ⟨_, rfl, rfl⟩
    | 3, hj => simp [encC] at hj; subst hj; exact ⟨_, rfl, rfl⟩
    | 4, hj => simp [encC] at hj; subst hj; exact ⟨_, rfl, p4⟩
    | 5, hj => simp [encC] at hj; subst hj; exact ⟨_, rfl, p5⟩
    | j + 6, hj => simp [encC] at hj
theorem says_of {k : Nat} {v : Value} {x : DataW H × List MemPlace} (h : DataW.trod enc Tryz.prog w 0 (fun _ => true) true k 22 [v] = some x) (hbk : Rows.uptoBulk x.1 ≤ 1048576) (hn0 : 0 < w.heap.size) :
    ∃ a cs gl, avOf w.heap.size v = some a ∧ Says (HI w) a cs gl ∧ Small gl ∧ (∀ b, blk a = some b → b < w.heap.size) ∧ ∀ c ∈ cs, OutC (fun b => w.heap.size ≤ b) c := by
  have hc : Tryz.prog.cellsOf 55 = 6 := by kernel_rfl
  rcases open_slice Tryz.underlying22 h with ⟨e1, e2⟩ | ⟨a, len, cap, m, n, D, Pl, e1, hb, hl, hm, hmm, e2, hx⟩
  · cases e1
    exact ⟨.snil, [], [], rfl, ⟨.inl ⟨rfl, rfl⟩, rfl, fun i c g hc => by simp at hc⟩, ⟨by simp, fun g hg => by simp at hg⟩, fun b h => (by cases h), fun c h => (by simp at h)⟩
  · cases e1
    rw [if_pos rfl] at hmm
    subst hmm
    by_cases h0 : m = 0
    · subst h0
      obtain rfl : len = 0 := by omega
      exact ⟨.sl 0 0 0 (some 0), [], [], by simp [avOf], ⟨.inr ⟨0, 0, some 0, rfl, fun h => absurd rfl h⟩, rfl, fun i c g hc => by simp at hc⟩, ⟨by simp, fun g hg => by simp at hg⟩, fun b h => (by cases h; exact hn0), fun c h => (by simp at h)⟩
    · rw [hc] at hx
      have hx' : ∀ i, i < m → ∃ p : Cv × Ch, (∀ (j : Nat) (u : AV), (encC p.1)[j]? = some u → ∃ v, w.cell? (a.add (i * 6 + j)) = some v ∧ avOf w.heap.size v = some u) ∧ RdC (HI w) p.1 p.2 ∧
          p.2.k.length ≤ Rows.uptoBulk (D i) ∧ p.2.o.length ≤ Rows.uptoBulk (D i) ∧ p.2.w.length ≤ Rows.uptoBulk (D i) := fun i hi => by
        obtain ⟨cs', g1, g2⟩ := hx i hi
        obtain ⟨p, g3, g4, g5⟩ := chg_of g2
        obtain ⟨_, g6, g7⟩ := World.cells?_some g1
        refine ⟨p, fun j u hj => ?_, g4, g5⟩
        obtain ⟨v, g8, g9⟩ := g3 j u hj
        have hj6 : j < 6 := by have := get_lt g8; omega
        refine ⟨v, ?_, g9⟩
        rw [← g8, ← g7 j hj6, add_add]
      haveI : Inhabited (Cv × Ch) := ⟨(⟨[], .snil, false, false, .snil, .snil⟩, ⟨[], [], false, false, [], []⟩)⟩
      obtain ⟨f, hf⟩ := choose_lt hx'
      obtain ⟨u0, hc0, _⟩ := (hf 0 (by omega)).1 0 _ rfl
      rw [show a.add (0 * 6 + 0) = a by rfl] at hc0
      have hsp := spot_of hc0
      obtain ⟨b, off, sp⟩ := a
      have hsp : sp = none := hsp
      subst hsp
      obtain ⟨hbl, c, e', fr, hh, _⟩ := cell_at (q := 0) hc0
      have hlt : ∀ {i : Nat} {α : Type} {g : Nat → α} {z : α}, ((List.range len).map g)[i]? = some z → i < len ∧ z = g i := fun {i α g z} hz => by
        have hi : i < len := by have := get_lt hz; simpa using this
        simp [hi] at hz
        exact ⟨hi, hz.symm⟩
      refine ⟨.sl b off len (some m), (List.range len).map fun i => (f i).1, (List.range len).map fun i => (f i).2, ?_, ⟨.inr ⟨b, off, some m, by simp, fun _ => ⟨by rw [HI_next]; exact hbl, _, hI_at hh hbl, ?_⟩⟩, by simp, ?_⟩, ⟨?_, ?_⟩, fun b h => (by cases h; exact hbl), ?_⟩
      · show (if len = 0 ∧ m = 0 then _ else if (none : Option Nat) = none ∧ b < w.heap.size then _ else _) = _
        rw [if_neg (by omega), if_pos ⟨rfl, hbl⟩]
      · intro i z hz j u hu
        obtain ⟨hi, rfl⟩ := hlt hz
        obtain ⟨v, h1, h2⟩ := (hf i (by omega)).1 j u hu
        obtain ⟨_, c', e2', fr', hh', hc'⟩ := cell_at h1
        rw [hh] at hh'
        cases hh'
        rw [rd_ro, Nat.add_assoc, hc']
        exact h2
      · intro i z g hz hg
        obtain ⟨hi, rfl⟩ := hlt hz
        obtain ⟨_, rfl⟩ := hlt hg
        exact (hf i (by omega)).2.1
      · rw [e2] at hbk
        dsimp only at hbk
        have h1 := slice_le ((List.range len).map D) ((List.range (m - len)).map fun j => D (len + j))
        have h2 := length_le ((List.range len).map D)
        simp only [List.length_map, List.length_range] at h2 ⊢
        omega
      · intro g hg
        obtain ⟨i, hi⟩ := List.mem_iff_getElem?.1 hg
        obtain ⟨hil, hge⟩ := hlt hi
        subst hge
        rw [e2] at hbk
        dsimp only at hbk
        have h1 := slice_le ((List.range len).map D) ((List.range (m - len)).map fun j => D (len + j))
        have h2 : Rows.uptoBulk (D i) ≤ Rows.uptoBulkAll ((List.range len).map D) := part_le (List.mem_map_of_mem (by simpa using hil))
        have h3 := (hf i (by omega)).2.2
        refine ⟨?_, ?_, ?_⟩ <;> omega
      · intro z hz
        obtain ⟨i, hi⟩ := List.mem_iff_getElem?.1 hz
        obtain ⟨hi, rfl⟩ := hlt hi
        have hcell := (hf i (by omega)).1
        refine ⟨fun b' e h => ?_, fun b' e h => ?_, fun b' e h => ?_⟩
        · obtain ⟨v, _, hv⟩ := hcell 1 _ rfl
          have := avOf_blk hn0 hv e
          have h : w.heap.size ≤ b' := h
          omega
        · obtain ⟨v, _, hv⟩ := hcell 4 _ rfl
          have := avOf_blk hn0 hv e
          have h : w.heap.size ≤ b' := h
          omega
        · obtain ⟨v, _, hv⟩ := hcell 5 _ rfl
          have := avOf_blk hn0 hv e
          have h : w.heap.size ≤ b' := h
          omega
end
end
end Go.Proofs.YtnffppehomofmaaGreatDoor
namespace Go.Proofs.YtnffppehomofmaaGreatDoor
open Go.RowKit Go.Xq
theorem glob2_of_laid {W : World} (hL : laidMetH Tryz.prog Rows.diffTurnsRow.laid W) (hS : W.ShapedOpen Tryz.prog) : ∃ a0 a1 : Nat × Nat, ngl ≤ W.heap.size ∧ GlobsAt (m0of [a0, a1]) gl W ∧ a0.1 < W.heap.size ∧ a1.1 < W.heap.size ∧
    W.heap[1]? = some (.cells #[.iface 466 (.pointer (some ⟨a0.1, a0.2, none⟩))] 71 (0, 0)) ∧ W.heap[0]? = some (.cells #[.iface 466 (.pointer (some ⟨a1.1, a1.2, none⟩))] 71 (0, 0)) ∧ ∃ u, W.heap[2]? = some (.cells #[u] 160 (0, 0)) := by
  have hsz : ngl ≤ W.heap.size := by
    have := size_of_shaped hS (by rw [gsize]; exact of_decide_eq_true (by kernel_rfl))
    rw [gsize] at this
    exact this
  have h0 : laidMet Tryz.prog (Rows.diffTurnsRow.laid.filter fun x => x.2.handleName?.isNone) W ∧ handlesMet Tryz.prog (Rows.diffTurnsRow.laid.filter fun x => x.2.handleName?.isSome) W := hL
  have h1 := h0.1
  have hh0 := handle_at (size := 503) (rt := 235) (ng := 4) (te := 71) (g := 2) h0.2 (List.mem_singleton.2 rfl) rfl rfl (by kernel_rfl) (by kernel_rfl) (by kernel_rfl) (by kernel_rfl) (by kernel_rfl)
  obtain ⟨a0, s0, hv0, hc0, _⟩ := laid_sentinel (g := 1) (ti := 71) (tp := 466) h1 (by kernel_rfl) (by kernel_rfl) Tryz.underlying71 rowES Tryz.underlying466 Tryz.underlying491 rfl rfl Tryz.underlying9 (by kernel_rfl) (by kernel_rfl)
  have hg0 : W.cell? ⟨1, 0, none⟩ = some (.iface 466 (.pointer (some a0))) := by simpa using World.var?_cell (by kernel_rfl) hv0 0
  obtain ⟨hl0, hp0⟩ := lt_of_cell hc0
  obtain ⟨b0, o0, sp0⟩ := a0
  have hp0 : sp0 = none := hp0
  subst hp0
  obtain ⟨a1, s1, hv1, hc1, _⟩ := laid_sentinel (g := 0) (ti := 71) (tp := 466) (laidMet.tail h1) (by kernel_rfl) (by kernel_rfl) Tryz.underlying71 rowES Tryz.underlying466 Tryz.underlying491 rfl rfl Tryz.underlying9 (by kernel_rfl) (by kernel_rfl)
  have hg1 : W.cell? ⟨0, 0, none⟩ = some (.iface 466 (.pointer (some a1))) := by simpa using World.var?_cell (by kernel_rfl) hv1 0
  obtain ⟨hl1, hp1⟩ := lt_of_cell hc1
  obtain ⟨b1, o1, sp1⟩ := a1
  have hp1 : sp1 = none := hp1
  subst hp1
  have hG : GlobsAt (m0of [(b0, o0), (b1, o1)]) gl W := by
    intro p hp
    simp only [gl, List.mem_cons, List.not_mem_nil, or_false] at hp
    rcases hp with rfl | rfl | rfl
    · refine ⟨by decide, _, _, _, rfl, rfl, glob_cell hS (by rw [gsize]; decide) (by kernel_rfl) hg0, ?_⟩
      have hv : VR (m0of [(b0, o0), (b1, o1)]) (.ptr 5 0) (.pointer (some ⟨b0, o0 + 0, none⟩)) := .ptr 5 0 ⟨b0, o0, 1, 1⟩ (m0of_ad (a := (b0, o0)) (j := 0) rfl)
      exact .ifc _ _ _ hv
    · refine ⟨by decide, _, _, _, rfl, rfl, glob_cell hS (by rw [gsize]; decide) (by kernel_rfl) hg1, ?_⟩
      have hv : VR (m0of [(b0, o0), (b1, o1)]) (.ptr 6 0) (.pointer (some ⟨b1, o1 + 0, none⟩)) := .ptr 6 0 ⟨b1, o1, 1, 1⟩ (m0of_ad (a := (b1, o1)) (j := 1) rfl)
      exact .ifc _ _ _ hv
    · refine ⟨by decide, _, _, _, rfl, rfl, glob_cell hS (by rw [gsize]; decide) (by kernel_rfl) hh0, ?_⟩
      have hv : VR (m0of [(b0, o0), (b1, o1)]) (.ptr 4 71) (.pointer (some ⟨4, 0 + 71, none⟩)) := .ptr 4 71 ⟨4, 0, 1, 1⟩ (m0of_lt (by decide))
      rw [Nat.zero_add] at hv
      exact .ifc _ _ _ (.agg _ _ (.cons _ _ _ _ hv .nil))
  exact ⟨(b0, o0), (b1, o1), hsz, hG, hl0, hl1, glob_cell hS (by rw [gsize]; decide) (by kernel_rfl) hg0, glob_cell hS (by rw [gsize]; decide) (by kernel_rfl) hg1, _, glob_cell hS (by rw [gsize]; decide) (by kernel_rfl) hh0⟩
theorem avOf_ifc {n b o : Nat} {t : TypeId} (h : b < n) : avOf n (.iface t (.pointer (some ⟨b, o, none⟩))) = some (.ifc t (.ptr b o)) := by
  show (if (none : Option Nat) = none ∧ b < n then _ else _) = _
  rw [if_pos ⟨rfl, h⟩]
theorem holds_start {W : World} (hL : laidMetH Tryz.prog Rows.diffTurnsRow.laid W) (hS : W.ShapedOpen Tryz.prog) : ngl ≤ W.heap.size ∧ ∃ a0 a1 : Nat × Nat, HoldsG W a0 a1 (HI W) := by
  obtain ⟨a0, a1, hsz, hG, l0, l1, g1, g0, u, g2⟩ := glob2_of_laid hL hS
  have h4 : 4 < ngl := by decide
  refine ⟨hsz, a0, a1, hG, fun g hg => ?_, ⟨_, _, hI_at g1 (by omega), ?_⟩, ⟨_, _, hI_at g0 (by omega), ?_⟩⟩
  · have : g = 0 ∨ g = 1 ∨ g = 2 := by omega
    rcases this with rfl | rfl | rfl
    · exact ⟨_, _, g0, hI_at g0 (by omega)⟩
    · exact ⟨_, _, g1, hI_at g1 (by omega)⟩
    · exact ⟨_, _, g2, hI_at g2 (by omega)⟩
  · exact avOf_ifc l0
  · exact avOf_ifc l1
end Go.Proofs.YtnffppehomofmaaGreatDoor
namespace Go.Proofs.YtnffppehomofmaaGreatDoor
open Go.RowKit Go.Xq
theorem main_calls {W : World} {v0 v1 : Value} {b0 b1 : AV} {cs0 cs1 : List Cv} {gl0 gl1 : List Ch} (hL : laidMetH Tryz.prog Rows.diffTurnsRow.laid W) (hS : W.ShapedOpen Tryz.prog)
    (x0 : avOf W.heap.size v0 = some b0) (y0 : Says (HI W) b0 cs0 gl0) (z0 : Small gl0) (p0 : ∀ b, blk b0 = some b → b < W.heap.size) (q0 : ∀ c ∈ cs0, OutC (fun b => W.heap.size ≤ b) c)
    (x1 : avOf W.heap.size v1 = some b1) (y1 : Says (HI W) b1 cs1 gl1) (z1 : Small gl1) (p1 : ∀ b, blk b1 = some b → b < W.heap.size) (q1 : ∀ c ∈ cs1, OutC (fun b => W.heap.size ≤ b) c) :
    Calls Tryz.prog 3 #[v0, v1] W fun e W' => e = .returned (.bool true) ∧ KeptAll W W' := by
  obtain ⟨hsz, a0, a1, hG⟩ := holds_start hL hS
  have h4 : 4 < ngl := by decide
  obtain ⟨_, hx⟩ := main_ok hG y0 z0 (by rw [HI_next]; exact p0) (by rw [HI_next]; exact q0) y1 z1 (by rw [HI_next]; exact p1) (by rw [HI_next]; exact q1)
  intro cs
  obtain ⟨v, w', fr, ⟨v2, H2, ⟨rfl, hk⟩, m2, hst, hv⟩, hs, hk', hfn, hl⟩ := hx (mI W.heap.size) W [v0, v1] (rel_start hsz) (.cons _ _ _ _ (avOf_vr x0) (.cons _ _ _ _ (avOf_vr x1) .nil)) cs (.inl rfl)
  cases hv
  exact ⟨_, w', fr, ⟨rfl, kept_start hst fun b hb => hk.2 b (by rw [HI_next]; exact hb) id⟩, hs, hfn, hl.mode, hl.defers, hk', hl.fn⟩
end Go.Proofs.YtnffppehomofmaaGreatDoor
