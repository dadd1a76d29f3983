/- A part of the proof of this seat's statement: what is particular to its program. Its conditions stand in each theorem. -/
import Derived.Test.YtcfpppleiikjhaaGreatDoorL4
import Derived.Test.YtcfpppleiikjhaaGreatDoorZ4
import Derived.SizedLaws
import Derived.Test.YtcfpppleiikjhaaGreatDoorRows
namespace Go.Proofs.YtcfpppleiikjhaaGreatDoor
open Go.Xq Go.ChangeShapes Go.Deep
noncomputable section
section
variable {H : Type} {enc : TypeId × Value → H} {w : World}
def cap : Nat := 1048576
def Wt (_ : TypeId) (d : DataW H) : Prop := Rows.uptoBulk d ≤ cap
theorem one_le {H : Type} (d : DataW H) : 1 ≤ Rows.uptoBulk d := by
  cases d with
  | lit l => cases l <;> simp [Rows.uptoBulk]
  | nil => simp [Rows.uptoBulk]
  | ptr d => simp [Rows.uptoBulk]
  | slice elems spare => simp [Rows.uptoBulk]
  | agg parts => simp [Rows.uptoBulk]
  | iface t d => simp [Rows.uptoBulk]
  | map entries => simp [Rows.uptoBulk]
  | held h => simp [Rows.uptoBulk]
theorem part_le {H : Type} {d : DataW H} {l : List (DataW H)} (h : d ∈ l) : Rows.uptoBulk d ≤ Rows.uptoBulkAll l := by
  induction l with
  | nil => cases h
  | cons x r ih =>
    simp only [Rows.uptoBulkAll]
    cases List.mem_cons.1 h with
    | inl e => subst e; omega
    | inr e => have := ih e; omega
theorem length_le {H : Type} (l : List (DataW H)) : l.length ≤ Rows.uptoBulkAll l := by
  induction l with
  | nil => simp [Rows.uptoBulkAll]
  | cons x r ih => have := one_le x; simp only [Rows.uptoBulkAll, List.length_cons]; omega
theorem wt_elem {t e : TypeId} {elems spare : List (DataW H)} (_ : Tryz.prog.underlying t = some (.slice e)) (h : Wt t (.slice elems spare)) {d : DataW H} (hd : d ∈ elems) : Wt e d := by
  have h1 := part_le hd
  simp only [Wt, Rows.uptoBulk] at h ⊢
  omega
theorem wt_len {t e : TypeId} {elems spare : List (DataW H)} (_ : Tryz.prog.underlying t = some (.slice e)) (h : Wt t (.slice elems spare)) : elems.length ≤ cap := by
  have h1 := length_le elems
  simp only [Wt, Rows.uptoBulk] at h
  omega
theorem wt_part {t : TypeId} {fs : Array Field} {parts : List (DataW H)} (_ : Tryz.prog.underlying t = some (.struct fs)) (h : Wt t (.agg parts)) {j : Nat} {u : TypeId} {d : DataW H} (_ : (fs.toList.map (·.type))[j]? = some u) (hd : parts[j]? = some d) : Wt u d := by
  have h1 := part_le (List.mem_of_getElem? hd)
  simp only [Wt, Rows.uptoBulk] at h ⊢
  omega
theorem avOf_blk {n : Nat} {v : Value} {a : AV} (hn : 0 < n) (h : avOf n v = some a) {b : Nat} (hb : blk a = some b) : b < n := by
  unfold avOf at h
  split at h
  · cases h; cases hb
  · cases h; cases hb
  · cases h; cases hb
  · cases h; cases hb
  · split at h
    · cases h; cases hb
    · cases h
  · split at h
    · cases h; cases hb; exact hn
    · split at h
      · rename_i e
        cases h; cases hb
        exact e.2
      · cases h
  · cases h
theorem trod_int {t : TypeId} {k : Nat} {v : Value} {x : DataW H × List MemPlace} (he : Tryz.prog.underlying t = some (.int .i64)) (h : DataW.trod enc Tryz.prog w 0 (fun _ => true) true k t [v] = some x) : ∃ z : Int, v = .int .i64 z ∧ -9223372036854775808 ≤ z ∧ z ≤ 9223372036854775807 := by
  cases k with
  | zero => simp [DataW.trod] at h
  | succ k =>
    unfold DataW.trod at h
    rw [he] at h
    split at h <;> simp_all
    rename_i hk
    subst hk
    have hw := h.1.2
    obtain ⟨⟨rfl, _⟩, _⟩ := h
    simp [Lit.wf, IntKind.min, IntKind.max, IntKind.signed, IntKind.bits] at hw
    exact hw
set_option maxRecDepth 20000 in
theorem bytes_of {k : Nat} {v : Value} {x : DataW H × List MemPlace} (h : DataW.trod enc Tryz.prog w 0 (fun _ => true) true k 22 [v] = some x) (hw : Wt 22 x.1) :
    ∃ a l, avOf w.heap.size v = some a ∧ RdS (HI w) a l ∧ l.length ≤ cap := by
  obtain ⟨a, l, h1, h2, h3⟩ := rdS_of_trod Tryz.underlying22 Tryz.underlying5 (by kernel_rfl) h
  refine ⟨a, l, h1, h2, ?_⟩
  rcases h3 with rfl | ⟨el, sp, e, h4⟩
  · simp
  · rw [e] at hw
    have := wt_len Tryz.underlying22 hw
    omega
theorem slOk_of {k : Nat} {v : Value} {x : DataW H × List MemPlace} {a : AV} {G : AH} (h : DataW.trod enc Tryz.prog w 0 (fun _ => true) true k 22 [v] = some x) (ha : avOf w.heap.size v = some a) : SlOk G a := by
  rcases open_slice1 Tryz.underlying22 (by kernel_rfl) h with ⟨e1, e2⟩ | ⟨a', len, cap, m, n, V, D, Pl, e1, hb, hl, hm, hmm, e2, hx⟩
  · cases e1
    cases ha
    exact .inl rfl
  · cases e1
    rw [if_pos rfl] at hmm
    subst hmm
    unfold avOf at ha
    dsimp only at ha
    split at ha
    · cases ha
      exact .inr (.inl ⟨0, 0, 0, 0, rfl, Nat.le_refl _⟩)
    · split at ha
      · cases ha
        exact .inr (.inl ⟨_, _, _, _, rfl, hl⟩)
      · cases ha
set_option maxRecDepth 20000 in
theorem pg_of {k : Nat} {cs' : List Value} {y : DataW H × List MemPlace} (h : DataW.trod enc Tryz.prog w 0 (fun _ => true) true k 34 cs' = some y) (hw : Wt 34 y.1) :
    ∃ p : (Int × AV) × (Int × List UInt8), (∀ (j : Nat) (u : AV), (encP p.1)[j]? = some u → ∃ v, cs'[j]? = some v ∧ avOf w.heap.size v = some u) ∧ p.1.1 = p.2.1 ∧ RdS (HI w) p.1.2 p.2.2 ∧ p.2.2.length ≤ cap ∧ -9223372036854775808 ≤ p.2.1 ∧ p.2.1 ≤ 9223372036854775807 := by
  obtain ⟨xs, n, _, rfl, hl, hlen, hf⟩ := DataW.trod_struct Tryz.underlying34 h
  have hc : Tryz.prog.cellsOf 34 = 2 := by kernel_rfl
  rw [hc] at hl
  have hc3 : Tryz.prog.cellsOf 3 = 1 := by kernel_rfl
  have hc45 : Tryz.prog.cellsOf 22 = 1 := by kernel_rfl
  match xs, hlen, cs', hl with
  | [y0, y1], _, [v0, v1], _ =>
    have f0 := hf 0 _ rfl
    have f1 := hf 1 _ rfl
    simp [hc45, hc3] at f0 f1
    obtain ⟨z, rfl, z1, z2⟩ := trod_int Tryz.underlying3 f0
    obtain ⟨a1, l1, p1, q1, r1⟩ := bytes_of f1 (wt_part (j := 1) Tryz.underlying34 hw rfl rfl)
    refine ⟨((z, a1), (z, l1)), ?_, rfl, q1, r1, z1, z2⟩
    intro j u hj
    match j, hj with
    | 0, hj => simp [encP] at hj; subst hj; exact ⟨_, rfl, rfl⟩
    | 1, hj => simp [encP] at hj; subst hj; exact ⟨_, rfl, p1⟩
    | j + 2, hj => simp [encP] at hj
set_option maxRecDepth 20000 in
theorem pages_of {k : Nat} {v : Value} {x : DataW H × List MemPlace} (h : DataW.trod enc Tryz.prog w 0 (fun _ => true) true k 23 [v] = some x) (hw : Wt 23 x.1) :
    ∃ a cs ps, avOf w.heap.size v = some a ∧ SaysP (HI w) a cs ps ∧ ps.length ≤ cap ∧ ∀ p ∈ ps, p.2.length ≤ cap ∧ -9223372036854775808 ≤ p.1 ∧ p.1 ≤ 9223372036854775807 := by
  have hc : Tryz.prog.cellsOf 34 = 2 := by kernel_rfl
  rcases open_slice Tryz.underlying23 h with ⟨e1, e2⟩ | ⟨a, len, cap, m, n, D, Pl, e1, hb, hl, hm, hmm, e2, hx⟩
  · cases e1
    exact ⟨.snil, [], [], rfl, ⟨.inl ⟨rfl, rfl⟩, rfl, fun i c g hc => by simp at hc⟩, by simp, fun g hg => by simp at hg⟩
  · cases e1
    rw [if_pos rfl] at hmm
    subst hmm
    by_cases h0 : m = 0
    · subst h0
      obtain rfl : len = 0 := by omega
      exact ⟨.sl 0 0 0 (some 0), [], [], by simp [avOf], ⟨.inr ⟨0, 0, some 0, rfl, fun h => absurd rfl h⟩, rfl, fun i c g hc => by simp at hc⟩, by simp, fun g hg => by simp at hg⟩
    · rw [hc] at hx
      rw [e2] at hw
      dsimp only at hw
      have hx' : ∀ i, i < len → ∃ p : (Int × AV) × (Int × List UInt8), (∀ (j : Nat) (u : AV), (encP p.1)[j]? = some u → ∃ v, w.cell? (a.add (i * 2 + j)) = some v ∧ avOf w.heap.size v = some u) ∧ p.1.1 = p.2.1 ∧ RdS (HI w) p.1.2 p.2.2 ∧ p.2.2.length ≤ cap ∧ -9223372036854775808 ≤ p.2.1 ∧ p.2.1 ≤ 9223372036854775807 := fun i hi => by
        obtain ⟨cs', g1, g2⟩ := hx i (by omega)
        obtain ⟨p, g3, g4⟩ := pg_of g2 (wt_elem Tryz.underlying23 hw (List.mem_map_of_mem (by simpa using hi)))
        obtain ⟨_, g6, g7⟩ := World.cells?_some g1
        refine ⟨p, fun j u hj => ?_, g4⟩
        obtain ⟨v, g8, g9⟩ := g3 j u hj
        have hj6 : j < 2 := by have := get_lt g8; omega
        refine ⟨v, ?_, g9⟩
        rw [← g8, ← g7 j hj6, add_add]
      have hlen := wt_len Tryz.underlying23 hw
      have hlen2 : len ≤ cap := by
        simp only [List.length_map, List.length_range] at hlen
        omega
      have hcell0 : ∃ u, w.cell? a = some u := by
        obtain ⟨cs', g1, g2⟩ := hx 0 (by omega)
        obtain ⟨_, g6, g7⟩ := World.cells?_some g1
        have := g7 0 (by omega)
        rw [show (a.add (0 * 2)).add 0 = a by rfl] at this
        refine ⟨_, this.trans (List.getElem?_eq_getElem (by omega))⟩
      obtain ⟨u0, hc0⟩ := hcell0
      have hsp := spot_of hc0
      obtain ⟨b, off, sp⟩ := a
      have hsp : sp = none := hsp
      subst hsp
      obtain ⟨hbl, c, e', fr, hh, _⟩ := cell_at (q := 0) hc0
      haveI : Inhabited ((Int × AV) × (Int × List UInt8)) := ⟨((0, .snil), (0, []))⟩
      obtain ⟨f, hf⟩ := choose_lt hx'
      have hlt : ∀ {i : Nat} {α : Type} {g : Nat → α} {z : α}, ((List.range len).map g)[i]? = some z → i < len ∧ z = g i := fun {i α g z} hz => by
        have hi : i < len := by have := get_lt hz; simpa using this
        simp [hi] at hz
        exact ⟨hi, hz.symm⟩
      refine ⟨.sl b off len (some m), (List.range len).map fun i => (f i).1, (List.range len).map fun i => (f i).2, ?_, ⟨.inr ⟨b, off, some m, by simp, fun _ => ⟨by rw [HI_next]; exact hbl, _, hI_at hh hbl, ?_⟩⟩, by simp, ?_⟩, by simpa using hlen2, ?_⟩
      · show (if len = 0 ∧ m = 0 then _ else if (none : Option Nat) = none ∧ b < w.heap.size then _ else _) = _
        rw [if_neg (by omega), if_pos ⟨rfl, hbl⟩]
      · intro i z hz j u hu
        obtain ⟨hi, rfl⟩ := hlt hz
        obtain ⟨v, h1, h2⟩ := (hf i hi).1 j u hu
        obtain ⟨_, c', e2', fr', hh', hc'⟩ := cell_at h1
        rw [hh] at hh'
        cases hh'
        rw [rd_ro, Nat.add_assoc, hc']
        exact h2
      · intro i z g hz hg
        obtain ⟨hi, rfl⟩ := hlt hz
        obtain ⟨_, rfl⟩ := hlt hg
        exact ⟨(hf i hi).2.1, (hf i hi).2.2.1⟩
      · intro g hg
        obtain ⟨i, hi⟩ := List.mem_iff_getElem?.1 hg
        obtain ⟨hil, hge⟩ := hlt hi
        subst hge
        exact (hf i hil).2.2.2
end
end
end Go.Proofs.YtcfpppleiikjhaaGreatDoor
