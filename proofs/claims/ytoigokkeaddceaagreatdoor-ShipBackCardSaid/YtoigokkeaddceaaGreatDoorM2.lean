/- A part of the proof of this seat's statement: what is particular to its program. Its conditions stand in each theorem. -/
import Derived.Test.YtoigokkeaddceaaGreatDoorK8
import Derived.Test.YtoigokkeaddceaaGreatDoorZ4
import Derived.SizedLaws
import Derived.Test.YtoigokkeaddceaaGreatDoorRows
namespace Go.Proofs.YtoigokkeaddceaaGreatDoor
open Go.Xq Go.ChangeShapes Go.Deep
noncomputable section
section
variable {H : Type} {enc : TypeId × Value → H} {w : World}
def Wt (t : TypeId) (d : DataW H) : Prop := ∀ n ∈ d.weights Tryz.prog t, n ≤ reachBytes
theorem weightsAll_mem {e : TypeId} : ∀ {l : List (DataW H)} {d : DataW H}, d ∈ l → ∀ n ∈ d.weights Tryz.prog e, n ∈ DataW.weightsAll Tryz.prog e l
  | x :: r, d, h, n, hn => by
    simp only [DataW.weightsAll, List.mem_append]
    rcases List.mem_cons.1 h with rfl | h
    · exact .inl hn
    · exact .inr (weightsAll_mem h n hn)
theorem wt_elem {t e : TypeId} {elems spare : List (DataW H)} (hu : Tryz.prog.underlying t = some (.slice e)) (h : Wt t (.slice elems spare)) {d : DataW H} (hd : d ∈ elems) : Wt e d := fun n hn => by
  refine h n ?_
  simp only [DataW.weights, hu, List.mem_cons, List.mem_append]
  exact .inr (.inl (weightsAll_mem hd n hn))
theorem wt_len {t e : TypeId} {elems spare : List (DataW H)} (hu : Tryz.prog.underlying t = some (.slice e)) (h : Wt t (.slice elems spare)) : (elems.length + spare.length) * Tryz.prog.bytesOf e ≤ reachBytes := by
  refine h _ ?_
  simp only [DataW.weights, hu, List.mem_cons, true_or]
theorem wt_part {t : TypeId} {fs : Array Field} {parts : List (DataW H)} (hu : Tryz.prog.underlying t = some (.struct fs)) (h : Wt t (.agg parts)) {j : Nat} {u : TypeId} {d : DataW H} (hj : (fs.toList.map (·.type))[j]? = some u) (hd : parts[j]? = some d) : Wt u d := fun n hn => by
  refine h n ?_
  simp only [DataW.weights, hu]
  exact DataW.weights_mem_each hj hd n hn
theorem trod_int {t : TypeId} {k : Nat} {v : Value} {x : DataW H × List MemPlace} (he : Tryz.prog.underlying t = some (.int .i64)) (h : DataW.trod enc Tryz.prog w 0 (fun _ => true) true k t [v] = some x) : ∃ z : Int, v = .int .i64 z ∧ -9223372036854775808 ≤ z ∧ z ≤ 9223372036854775807 := by
  cases k with
  | zero => simp [DataW.trod] at h
  | succ k =>
    unfold DataW.trod at h
    rw [he] at h
    split at h <;> simp_all
    rename_i hk
    subst hk
    have hw := h.1.2
    obtain ⟨⟨rfl, _⟩, _⟩ := h
    simp [Lit.wf, IntKind.min, IntKind.max, IntKind.signed, IntKind.bits] at hw
    exact hw
theorem bytes_of {k : Nat} {v : Value} {x : DataW H × List MemPlace} (h : DataW.trod enc Tryz.prog w 0 (fun _ => true) true k 23 [v] = some x) (hw : Wt 23 x.1) :
    ∃ a l, avOf w.heap.size v = some a ∧ RdS (HI w) a l ∧ l.length ≤ reachBytes := by
  obtain ⟨a, l, h1, h2, h3⟩ := rdS_of_trod Tryz.underlying23 Tryz.underlying5 (by kernel_rfl) h
  refine ⟨a, l, h1, h2, ?_⟩
  rcases h3 with rfl | ⟨el, sp, e, h4⟩
  · simp
  · rw [e] at hw
    have := wt_len Tryz.underlying23 hw
    rw [show Tryz.prog.bytesOf 5 = 1 by kernel_rfl] at this
    omega
theorem slOk_of {k : Nat} {v : Value} {x : DataW H × List MemPlace} {a : AV} {G : AH} (h : DataW.trod enc Tryz.prog w 0 (fun _ => true) true k 23 [v] = some x) (ha : avOf w.heap.size v = some a) : SlOk G a := by
  rcases open_slice1 Tryz.underlying23 (by kernel_rfl) h with ⟨e1, e2⟩ | ⟨a', len, cap, m, n, V, D, Pl, e1, hb, hl, hm, hmm, e2, hx⟩
  · cases e1
    cases ha
    exact .inl rfl
  · cases e1
    rw [if_pos rfl] at hmm
    subst hmm
    unfold avOf at ha
    dsimp only at ha
    split at ha
    · cases ha
      exact .inr (.inl ⟨0, 0, 0, 0, rfl, Nat.le_refl _⟩)
    · split at ha
      · cases ha
        exact .inr (.inl ⟨_, _, _, _, rfl, hl⟩)
      · cases ha
set_option maxRecDepth 10000 in
theorem pg_of {k : Nat} {cs' : List Value} {y : DataW H × List MemPlace} (h : DataW.trod enc Tryz.prog w 0 (fun _ => true) true k 67 cs' = some y) (hw : Wt 67 y.1) :
    ∃ p : (Int × AV) × (Int × List UInt8), (∀ (j : Nat) (u : AV), (encP p.1)[j]? = some u → ∃ v, cs'[j]? = some v ∧ avOf w.heap.size v = some u) ∧ p.1.1 = p.2.1 ∧ RdS (HI w) p.1.2 p.2.2 ∧ p.2.2.length ≤ reachBytes ∧ -9223372036854775808 ≤ p.2.1 ∧ p.2.1 ≤ 9223372036854775807 := by
  obtain ⟨xs, n, _, rfl, hl, hlen, hf⟩ := DataW.trod_struct Tryz.underlying67 h
  have hc : Tryz.prog.cellsOf 67 = 2 := by kernel_rfl
  rw [hc] at hl
  have hc3 : Tryz.prog.cellsOf 3 = 1 := by kernel_rfl
  have hc45 : Tryz.prog.cellsOf 23 = 1 := by kernel_rfl
  match xs, hlen, cs', hl with
  | [y0, y1], _, [v0, v1], _ =>
    have f0 := hf 0 _ rfl
    have f1 := hf 1 _ rfl
    simp [hc45, hc3] at f0 f1
    obtain ⟨z, rfl, z1, z2⟩ := trod_int Tryz.underlying3 f0
    obtain ⟨a1, l1, p1, q1, r1⟩ := bytes_of f1 (wt_part (j := 1) Tryz.underlying67 hw rfl rfl)
    refine ⟨((z, a1), (z, l1)), ?_, rfl, q1, r1, z1, z2⟩
    intro j u hj
    match j, hj with
    | 0, hj => simp [encP] at hj; subst hj; exact ⟨_, rfl, rfl⟩
    | 1, hj => simp [encP] at hj; subst hj; exact ⟨_, rfl, p1⟩
    | j + 2, hj => simp [encP] at hj
theorem pages_of {k : Nat} {v : Value} {x : DataW H × List MemPlace} (h : DataW.trod enc Tryz.prog w 0 (fun _ => true) true k 22 [v] = some x) (hw : Wt 22 x.1) :
    ∃ a cs ps, avOf w.heap.size v = some a ∧ SaysP (HI w) a cs ps ∧ ps.length ≤ reachBytes ∧ ∀ p ∈ ps, p.2.length ≤ reachBytes ∧ -9223372036854775808 ≤ p.1 ∧ p.1 ≤ 9223372036854775807 := by
  have hc : Tryz.prog.cellsOf 67 = 2 := by kernel_rfl
  rcases open_slice Tryz.underlying22 h with ⟨e1, e2⟩ | ⟨a, len, cap, m, n, D, Pl, e1, hb, hl, hm, hmm, e2, hx⟩
  · cases e1
    exact ⟨.snil, [], [], rfl, ⟨.inl ⟨rfl, rfl⟩, rfl, fun i c g hc => by simp at hc⟩, by simp, fun g hg => by simp at hg⟩
  · cases e1
    rw [if_pos rfl] at hmm
    subst hmm
    by_cases h0 : m = 0
    · subst h0
      obtain rfl : len = 0 := by omega
      exact ⟨.sl 0 0 0 (some 0), [], [], by simp [avOf], ⟨.inr ⟨0, 0, some 0, rfl, fun h => absurd rfl h⟩, rfl, fun i c g hc => by simp at hc⟩, by simp, fun g hg => by simp at hg⟩
    · rw [hc] at hx
      rw [e2] at hw
      dsimp only at hw
      have hx' : ∀ i, i < len → ∃ p : (Int × AV) × (Int × List UInt8), (∀ (j : Nat) (u : AV), (encP p.1)[j]? = some u → ∃ v, w.cell? (a.add (i * 2 + j)) = some v ∧ avOf w.heap.size v = some u) ∧ p.1.1 = p.2.1 ∧ RdS (HI w) p.1.2 p.2.2 ∧ p.2.2.length ≤ reachBytes ∧ -9223372036854775808 ≤ p.2.1 ∧ p.2.1 ≤ 9223372036854775807 := fun i hi => by
        obtain ⟨cs', g1, g2⟩ := hx i (by omega)
        obtain ⟨p, g3, g4⟩ := pg_of g2 (wt_elem Tryz.underlying22 hw (List.mem_map_of_mem (by simpa using hi)))
        obtain ⟨_, g6, g7⟩ := World.cells?_some g1
        refine ⟨p, fun j u hj => ?_, g4⟩
        obtain ⟨v, g8, g9⟩ := g3 j u hj
        have hj6 : j < 2 := by have := get_lt g8; omega
        refine ⟨v, ?_, g9⟩
        rw [← g8, ← g7 j hj6, add_add]
      have hlen := wt_len Tryz.underlying22 hw
      have hbo : 1 ≤ Tryz.prog.bytesOf 67 := of_decide_eq_true (by kernel_rfl)
      have hlen2 : len ≤ reachBytes := by
        simp only [List.length_map, List.length_range] at hlen
        have : len * 1 ≤ (len + (m - len)) * Tryz.prog.bytesOf 67 := Nat.mul_le_mul (by omega) hbo
        omega
      have hcell0 : ∃ u, w.cell? a = some u := by
        obtain ⟨cs', g1, g2⟩ := hx 0 (by omega)
        obtain ⟨_, g6, g7⟩ := World.cells?_some g1
        have := g7 0 (by omega)
        rw [show (a.add (0 * 2)).add 0 = a by rfl] at this
        refine ⟨_, this.trans (List.getElem?_eq_getElem (by omega))⟩
      obtain ⟨u0, hc0⟩ := hcell0
      have hsp := spot_of hc0
      obtain ⟨b, off, sp⟩ := a
      have hsp : sp = none := hsp
      subst hsp
      obtain ⟨hbl, c, e', fr, hh, _⟩ := cell_at (q := 0) hc0
      haveI : Inhabited ((Int × AV) × (Int × List UInt8)) := ⟨((0, .snil), (0, []))⟩
      obtain ⟨f, hf⟩ := choose_lt hx'
      have hlt : ∀ {i : Nat} {α : Type} {g : Nat → α} {z : α}, ((List.range len).map g)[i]? = some z → i < len ∧ z = g i := fun {i α g z} hz => by
        have hi : i < len := by have := get_lt hz; simpa using this
        simp [hi] at hz
        exact ⟨hi, hz.symm⟩
      refine ⟨.sl b off len (some m), (List.range len).map fun i => (f i).1, (List.range len).map fun i => (f i).2, ?_, ⟨.inr ⟨b, off, some m, by simp, fun _ => ⟨by rw [HI_next]; exact hbl, _, hI_at hh hbl, ?_⟩⟩, by simp, ?_⟩, by simpa using hlen2, ?_⟩
      · show (if len = 0 ∧ m = 0 then _ else if (none : Option Nat) = none ∧ b < w.heap.size then _ else _) = _
        rw [if_neg (by omega), if_pos ⟨rfl, hbl⟩]
      · intro i z hz j u hu
        obtain ⟨hi, rfl⟩ := hlt hz
        obtain ⟨v, h1, h2⟩ := (hf i hi).1 j u hu
        obtain ⟨_, c', e2', fr', hh', hc'⟩ := cell_at h1
        rw [hh] at hh'
        cases hh'
        rw [rd_ro, Nat.add_assoc, hc']
        exact h2
      · intro i z g hz hg
        obtain ⟨hi, rfl⟩ := hlt hz
        obtain ⟨_, rfl⟩ := hlt hg
        exact ⟨(hf i hi).2.1, (hf i hi).2.2.1⟩
      · intro g hg
        obtain ⟨i, hi⟩ := List.mem_iff_getElem?.1 hg
        obtain ⟨hil, hge⟩ := hlt hi
        subst hge
        exact (hf i hil).2.2.2
set_option maxRecDepth 10000 in
theorem delta_of {k : Nat} {cs' : List Value} {y : DataW H × List MemPlace} (h : DataW.trod enc Tryz.prog w 0 (fun _ => true) true k 25 cs' = some y) (hw : Wt 25 y.1) :
    ∃ (d : Dl) (pv mv : AV) (cs : List (Int × AV)), VL (mI w.heap.size) (avl [.int .i64 d.engine, .int .i64 d.page, .int .i64 d.frm, .int .i64 d.to, pv, mv]) cs' ∧ DlAt (HI w) d pv mv cs ∧
      (∀ z ∈ [d.engine, d.page, d.frm, d.to], -9223372036854775808 ≤ z ∧ z ≤ 9223372036854775807) ∧ d.meta_.length ≤ reachBytes ∧ d.pages.length ≤ reachBytes ∧ ∀ p ∈ d.pages, p.2.length ≤ reachBytes ∧ -9223372036854775808 ≤ p.1 ∧ p.1 ≤ 9223372036854775807 := by
  obtain ⟨xs, n, _, rfl, hl, hlen, hf⟩ := DataW.trod_struct Tryz.underlying25 h
  have hc : Tryz.prog.cellsOf 25 = 6 := by kernel_rfl
  rw [hc] at hl
  have hc3 : Tryz.prog.cellsOf 3 = 1 := by kernel_rfl
  have hc45 : Tryz.prog.cellsOf 23 = 1 := by kernel_rfl
  have hc30 : Tryz.prog.cellsOf 22 = 1 := by kernel_rfl
  match xs, hlen, cs', hl with
  | [y0, y1, y2, y3, y4, y5], _, [v0, v1, v2, v3, v4, v5], _ =>
    have f0 := hf 0 _ rfl
    have f1 := hf 1 _ rfl
    have f2 := hf 2 _ rfl
    have f3 := hf 3 _ rfl
    have f4 := hf 4 _ rfl
    have f5 := hf 5 _ rfl
    simp [hc3, hc45, hc30] at f0 f1 f2 f3 f4 f5
    obtain ⟨z0, rfl, r0⟩ := trod_int Tryz.underlying3 f0
    obtain ⟨z1, rfl, r1⟩ := trod_int Tryz.underlying3 f1
    obtain ⟨z2, rfl, r2⟩ := trod_int Tryz.underlying3 f2
    obtain ⟨z3, rfl, r3⟩ := trod_int Tryz.underlying3 f3
    obtain ⟨pv, cs, ps, p4, q4, b4, s4⟩ := pages_of f4 (wt_part (j := 4) Tryz.underlying25 hw rfl rfl)
    obtain ⟨mv, ml, p5, q5, b5⟩ := bytes_of f5 (wt_part (j := 5) Tryz.underlying25 hw rfl rfl)
    refine ⟨⟨z0, z1, z2, z3, ps, ml⟩, pv, mv, cs, ?_, ⟨q4, q5, fun _ => slOk_of f5 p5⟩, ?_, b5, b4, s4⟩
    · exact .cons _ _ _ _ (.int _ _) (.cons _ _ _ _ (.int _ _) (.cons _ _ _ _ (.int _ _) (.cons _ _ _ _ (.int _ _) (.cons _ _ _ _ (avOf_vr p4) (.cons _ _ _ _ (avOf_vr p5) .nil)))))
    · intro z hz
      simp only [List.mem_cons, List.not_mem_nil, or_false] at hz
      rcases hz with rfl | rfl | rfl | rfl
      · exact r0
      · exact r1
      · exact r2
      · exact r3
end
end
end Go.Proofs.YtoigokkeaddceaaGreatDoor
