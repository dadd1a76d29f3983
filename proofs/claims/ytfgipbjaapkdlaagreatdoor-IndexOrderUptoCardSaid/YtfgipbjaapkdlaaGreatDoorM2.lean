/- A part of the proof of this seat's statement. Conditions: in each theorem. -/
import Derived.Test.YtfgipbjaapkdlaaGreatDoorM1
import Derived.Lib.LaidU8
import Derived.SizedLaws
import Derived.Test.YtfgipbjaapkdlaaGreatDoorRows
namespace Go.Proofs.YtfgipbjaapkdlaaGreatDoor
open Go.RowKit Go.Xq
theorem first_data : Rows.laid_unicode_utf8_first = Go.Lib.firstData := by kernel_rfl
theorem accept_data : Rows.laid_unicode_utf8_acceptRanges = Go.Lib.acceptData := by kernel_rfl
theorem firstN_t : ∀ c : Fin 256, Go.Lib.firstT c.val = firstN c.val := by decide +kernel
theorem accLo_t : ∀ c : Fin 16, Go.Lib.accLo c.val = Go.Xq.accLo c.val := by decide +kernel
theorem accHi_t : ∀ c : Fin 16, Go.Lib.accHi c.val = Go.Xq.accHi c.val := by decide +kernel
theorem var_heap {P : Program} {W : World} {n : String} {g : Nat} {cs : Array Value} (hg : P.globalNamed n = some g) (h : W.var? P n = some cs) : ∃ t fr, W.heap[g]? = some (.cells cs t fr) := by
  unfold World.var? at h
  rw [hg] at h
  simp only [Option.bind_some] at h
  split at h
  · rename_i c t fr e
    cases h
    exact ⟨_, _, e⟩
  · cases h
theorem holds_start {W : World} (hL : laidMetH Tryz.prog Rows.indexOrderUptoRow.laid W) (hS : W.ShapedOpen Tryz.prog) : ngl ≤ W.heap.size ∧ GlobU (HI W) := by
  have hsz : ngl ≤ W.heap.size := by
    have := size_of_shaped hS (by rw [gsize]; exact of_decide_eq_true (by kernel_rfl))
    rw [gsize] at this
    exact Nat.le_trans (by decide) this
  have h2 : 2 < ngl := by decide
  have h0 : laidMet Tryz.prog Rows.indexOrderUptoRow.laid W := hL
  have r3 := Go.Lib.laidMet.reads h0 (n := "unicode/utf8.first") (d := Rows.laid_unicode_utf8_first) (.tail _ (.head _))
  have r4 := Go.Lib.laidMet.reads h0 (n := "unicode/utf8.acceptRanges") (d := Rows.laid_unicode_utf8_acceptRanges) (.head _)
  rw [first_data] at r3
  rw [accept_data] at r4
  refine ⟨hsz, by rw [HI_next]; omega, ?_, ?_⟩
  · obtain ⟨g, t, cs, fuel, p, hg, hty, hvar, hd⟩ := r3
    obtain rfl := Option.some.inj ((by kernel_rfl : Tryz.prog.globalNamed "unicode/utf8.first" = some 1).symm.trans hg)
    obtain rfl := Option.some.inj ((by kernel_rfl : (Tryz.prog.globals[1]?).map (·.type) = some 251).symm.trans hty)
    have hcs := Go.Lib.cells_of_tab Tryz.underlying251 Tryz.underlying5 (by kernel_rfl) (by kernel_rfl) hd
    obtain ⟨tt, fr, hh⟩ := var_heap hg hvar
    refine ⟨_, hI_at hh (by omega), fun c hc => ?_⟩
    rw [rd_ro, ← Array.getElem?_toList, hcs]
    have := firstN_t ⟨c, hc⟩
    simp only at this
    simp [Go.Lib.firstTab, hc, this]
    rfl
  · obtain ⟨g, t, cs, fuel, p, hg, hty, hvar, hd⟩ := r4
    obtain rfl := Option.some.inj ((by kernel_rfl : Tryz.prog.globalNamed "unicode/utf8.acceptRanges" = some 2).symm.trans hg)
    obtain rfl := Option.some.inj ((by kernel_rfl : (Tryz.prog.globals[2]?).map (·.type) = some 254).symm.trans hty)
    obtain ⟨tt, fr, hh⟩ := var_heap hg hvar
    refine ⟨_, hI_at hh (by omega), fun i hi => ?_⟩
    obtain ⟨fuel', d, q, hdi, he⟩ := Go.Lib.array_elem Tryz.underlying254 hd i hi
    simp only [List.getElem?_map, List.getElem?_range hi, Option.map_some, Option.some.injEq] at hdi
    subst hdi
    have hc253 : Tryz.prog.cellsOf 253 = 2 := by kernel_rfl
    have hc5 : Tryz.prog.cellsOf 5 = 1 := by kernel_rfl
    rw [hc253] at he
    have hcs := Go.Lib.ints_of_struct Tryz.underlying253 (fun j f hj => by
      match j, hj with
      | 0, hj => simp at hj; subst hj; exact ⟨Tryz.underlying5, rfl, hc5⟩
      | 1, hj => simp at hj; subst hj; exact ⟨Tryz.underlying5, rfl, hc5⟩
      | j + 2, hj => simp at hj) (by rw [hc253]; rfl) he
    have e0 := congrArg (·[0]?) hcs
    have e1 := congrArg (·[1]?) hcs
    simp only [List.getElem?_take, List.getElem?_drop] at e0 e1
    have a0 := accLo_t ⟨i, hi⟩
    have a1 := accHi_t ⟨i, hi⟩
    simp only at a0 a1
    have e0 : cs[2 * i]? = some (.int .u8 (Go.Xq.accLo i : Int)) := by
      rw [← a0, ← Array.getElem?_toList]
      simpa [Nat.mul_comm] using e0
    have e1 : cs[2 * i + 1]? = some (.int .u8 (Go.Xq.accHi i : Int)) := by
      rw [← a1, ← Array.getElem?_toList]
      simpa [Nat.mul_comm] using e1
    exact ⟨by rw [rd_ro, e0]; rfl, by rw [rd_ro, e1]; rfl⟩
end Go.Proofs.YtfgipbjaapkdlaaGreatDoor
namespace Go.Proofs.YtfgipbjaapkdlaaGreatDoor
open Go.Xq Go.ChangeShapes Go.Deep
noncomputable section
section
variable {H : Type} {enc : TypeId × Value → H} {w : World}
def cap : Nat := 1048576
def Wt (_ : TypeId) (d : DataW H) : Prop := Rows.uptoBulk d ≤ cap
theorem one_le {H : Type} (d : DataW H) : 1 ≤ Rows.uptoBulk d := by
  cases d with
  | lit l => cases l <;> simp [Rows.uptoBulk]
  | nil => simp [Rows.uptoBulk]
  | ptr d => simp [Rows.uptoBulk]
  | slice elems spare => simp [Rows.uptoBulk]
  | agg parts => simp [Rows.uptoBulk]
  | iface t d => simp [Rows.uptoBulk]
  | map entries => simp [Rows.uptoBulk]
  | held h => simp [Rows.uptoBulk]
theorem part_le {H : Type} {d : DataW H} {l : List (DataW H)} (h : d ∈ l) : Rows.uptoBulk d ≤ Rows.uptoBulkAll l := by
  induction l with
  | nil => cases h
  | cons x r ih =>
    simp only [Rows.uptoBulkAll]
    cases List.mem_cons.1 h with
    | inl e => subst e; omega
    | inr e => have := ih e; omega
theorem length_le {H : Type} (l : List (DataW H)) : l.length ≤ Rows.uptoBulkAll l := by
  induction l with
  | nil => simp [Rows.uptoBulkAll]
  | cons x r ih => have := one_le x; simp only [Rows.uptoBulkAll, List.length_cons]; omega
theorem trod_int {t : TypeId} {k : Nat} {v : Value} {x : DataW H × List MemPlace} (he : Tryz.prog.underlying t = some (.int .i64)) (h : DataW.trod enc Tryz.prog w 0 (fun _ => true) true k t [v] = some x) : ∃ z : Int, v = .int .i64 z ∧ -9223372036854775808 ≤ z ∧ z ≤ 9223372036854775807 := by
  cases k with
  | zero => simp [DataW.trod] at h
  | succ k =>
    unfold DataW.trod at h
    rw [he] at h
    split at h <;> simp_all
    rename_i hk
    subst hk
    have hw := h.1.2
    obtain ⟨⟨rfl, _⟩, _⟩ := h
    simp [Lit.wf, IntKind.min, IntKind.max, IntKind.signed, IntKind.bits] at hw
    exact hw
theorem trod_i64 {t : TypeId} {k : Nat} {v : Value} {x : DataW H × List MemPlace} (he : Tryz.prog.underlying t = some (.int .i64)) (h : DataW.trod enc Tryz.prog w 0 (fun _ => true) true k t [v] = some x) : ∃ z : Int, v = .int .i64 z ∧ -9223372036854775808 ≤ z ∧ z < 9223372036854775808 := by
  obtain ⟨z, h1, h2, h3⟩ := trod_int he h
  exact ⟨z, h1, h2, by omega⟩
theorem trod_str {t : TypeId} {k : Nat} {v : Value} {x : DataW H × List MemPlace} (he : Tryz.prog.underlying t = some .string) (h : DataW.trod enc Tryz.prog w 0 (fun _ => true) true k t [v] = some x) : ∃ l : List UInt8, avOf w.heap.size v = some (sb l) ∧ Rows.uptoBulk x.1 = l.length + 1 := by
  obtain ⟨s, h1, h2, _⟩ := DataW.trod_string he h
  simp only [List.cons.injEq, and_true] at h1
  subst h1
  exact ⟨s.data.toList, rfl, by rw [h2]; simp [Rows.uptoBulk]⟩
theorem slice_of {β : Type} [Inhabited β] {en : β → List AV} {es : Nat} {t e : TypeId} (hl : ∀ p, (en p).length = es) (hes : 0 < es) (ht : Tryz.prog.underlying t = some (.slice e)) (hc : Tryz.prog.cellsOf e = es) {k : Nat} {v : Value} {x : DataW H × List MemPlace} (R : β → DataW H → Prop)
    (h : DataW.trod enc Tryz.prog w 0 (fun _ => true) true k t [v] = some x)
    (hel : ∀ (k' : Nat) (cs' : List Value) (y : DataW H × List MemPlace), (∃ els sp, x.1 = .slice els sp ∧ y.1 ∈ els) → DataW.trod enc Tryz.prog w 0 (fun _ => true) true k' e cs' = some y → ∃ p : β, (∀ (j : Nat) (u : AV), (en p)[j]? = some u → ∃ v, cs'[j]? = some v ∧ avOf w.heap.size v = some u) ∧ R p y.1) :
    ∃ a ps, avOf w.heap.size v = some a ∧ SaysE en es (HI w) (HI w).next a ps ∧ CutE es (HI w) (HI w).next a ∧ ((x.1 = .nil ∧ ps = []) ∨ ∃ els sp, x.1 = .slice els sp ∧ ps.length = els.length ∧ ∀ (i : Nat) (p : β), ps[i]? = some p → ∃ d, els[i]? = some d ∧ R p d) := by
  rcases open_slice ht h with ⟨e1, e2⟩ | ⟨a, len, cap, m, n, D, Pl, e1, hb, hlc, hm, hmm, e2, hx⟩
  · cases e1
    exact ⟨.snil, [], rfl, .inl ⟨rfl, rfl⟩, .inl rfl, .inl ⟨by rw [e2], rfl⟩⟩
  · cases e1
    rw [if_pos rfl] at hmm
    subst hmm
    by_cases h0 : m = 0
    · subst h0
      obtain rfl : len = 0 := by omega
      refine ⟨.sl 0 0 0 (some 0), [], by simp [avOf], .inr ⟨0, 0, some 0, rfl, fun h => absurd rfl h⟩, .inr (.inl ⟨0, 0, 0, 0, rfl, Nat.le_refl _⟩), .inr ⟨_, _, by rw [e2], by simp, fun i p hp => by simp at hp⟩⟩
    · rw [hc] at hx
      have hx' : ∀ i, i < len → ∃ p : β, (∀ (j : Nat) (u : AV), (en p)[j]? = some u → ∃ v, w.cell? (a.add (i * es + j)) = some v ∧ avOf w.heap.size v = some u) ∧ R p (D i) := fun i hi => by
        obtain ⟨cs', g1, g2⟩ := hx i (by omega)
        obtain ⟨p, g3, g4⟩ := hel n cs' _ ⟨(List.range len).map D, _, by rw [e2], (List.mem_map.2 ⟨i, List.mem_range.2 hi, rfl⟩ : D i ∈ (List.range len).map D)⟩ g2
        obtain ⟨_, g6, g7⟩ := World.cells?_some g1
        refine ⟨p, fun j u hj => ?_, g4⟩
        obtain ⟨v, g8, g9⟩ := g3 j u hj
        have hj6 : j < es := by have := get_lt hj; rw [hl] at this; exact this
        refine ⟨v, ?_, g9⟩
        rw [← g8, ← g7 j hj6, add_add]
      have hcell0 : ∃ u, w.cell? a = some u := by
        obtain ⟨cs', g1, g2⟩ := hx 0 (by omega)
        obtain ⟨_, g6, g7⟩ := World.cells?_some g1
        have := g7 0 hes
        rw [show (a.add (0 * es)).add 0 = a by rw [Nat.zero_mul]; rfl] at this
        refine ⟨_, this.trans (List.getElem?_eq_getElem (by omega))⟩
      obtain ⟨u0, hc0⟩ := hcell0
      have hsp := spot_of hc0
      obtain ⟨b, off, sp⟩ := a
      have hsp : sp = none := hsp
      subst hsp
      obtain ⟨hbl, c, e', fr, hh, _⟩ := cell_at (q := 0) hc0
      obtain ⟨f, hf⟩ := choose_lt hx'
      have hlt : ∀ {i : Nat} {α : Type} {g : Nat → α} {z : α}, ((List.range len).map g)[i]? = some z → i < len ∧ z = g i := fun {i α g z} hz => by
        have hi : i < len := by have := get_lt hz; simpa using this
        simp [hi] at hz
        exact ⟨hi, hz.symm⟩
      refine ⟨.sl b off len (some m), (List.range len).map f, ?_, .inr ⟨b, off, some m, by simp, fun _ => ⟨by rw [HI_next]; exact hbl, _, hI_at hh hbl, ?_⟩⟩, .inr (.inl ⟨b, off, len, m, rfl, hlc⟩), .inr ⟨_, _, by rw [e2], by simp, ?_⟩⟩
      · show (if len = 0 ∧ m = 0 then _ else if (none : Option Nat) = none ∧ b < w.heap.size then _ else _) = _
        rw [if_neg (by omega), if_pos ⟨rfl, hbl⟩]
      · intro i z hz j u hu
        obtain ⟨hi, rfl⟩ := hlt hz
        obtain ⟨v, h1, h2⟩ := (hf i hi).1 j u hu
        obtain ⟨_, c', e2', fr', hh', hc'⟩ := cell_at h1
        rw [hh] at hh'
        cases hh'
        rw [rd_ro, Nat.add_assoc, hc']
        exact h2
      · intro i p hp
        obtain ⟨hi, rfl⟩ := hlt hp
        exact ⟨D i, by simp [hi], (hf i hi).2⟩
theorem size_bulk : ∀ (l : List It) (els : List (DataW H)), (∀ (i : Nat) (y : It), l[i]? = some y → ∃ d, els[i]? = some d ∧ 1 + y.t.length + y.s.size ≤ Rows.uptoBulk d) → (Its.ofL l).size ≤ Rows.uptoBulkAll els
  | [], els, _ => by simp [Its.ofL, Its.size]
  | y :: r, els, h => by
    obtain ⟨d, h1, h2⟩ := h 0 y rfl
    match els, h1 with
    | d' :: els, h1 =>
      simp at h1
      subst h1
      have := size_bulk r els fun i z hz => h (i + 1) z (by simpa using hz)
      simp only [Its.ofL, Its.size, Rows.uptoBulkAll]
      omega
structure ItIn (w : World) (c : Iv) (y : It) (n : Nat) : Prop where
  k : c.k = y.k
  m : c.n = y.n
  t : c.t = y.t
  s : SaysI (HI w) (HI w).next c.v y.s
  z : 1 + y.t.length + y.s.size ≤ n
  r : (-9223372036854775808 ≤ y.n ∧ y.n < 9223372036854775808) ∧ y.s.rng
set_option maxRecDepth 20000 in
theorem it_of {k : Nat} {cs' : List Value} {y : DataW H × List MemPlace} (h : DataW.trod enc Tryz.prog w 0 (fun _ => true) true k 27 cs' = some y)
    (ih : ∀ (k' : Nat) (v : Value) (x : DataW H × List MemPlace), DataW.trod enc Tryz.prog w 0 (fun _ => true) true k' 25 [v] = some x → Rows.uptoBulk x.1 < Rows.uptoBulk y.1 → ∃ a l, avOf w.heap.size v = some a ∧ SaysI (HI w) (HI w).next a l ∧ l.size ≤ Rows.uptoBulk x.1 ∧ l.rng) :
    ∃ c x, (∀ (j : Nat) (u : AV), (encI c)[j]? = some u → ∃ v, cs'[j]? = some v ∧ avOf w.heap.size v = some u) ∧ ItIn w c x (Rows.uptoBulk y.1) := by
  obtain ⟨xs, n, _, rfl, hl, hlen, hf⟩ := DataW.trod_struct Tryz.underlying27 h
  have hc : Tryz.prog.cellsOf 27 = 4 := by kernel_rfl
  rw [hc] at hl
  have hc3 : Tryz.prog.cellsOf 3 = 1 := by kernel_rfl
  have hc2 : Tryz.prog.cellsOf 2 = 1 := by kernel_rfl
  have hc9 : Tryz.prog.cellsOf 9 = 1 := by kernel_rfl
  have hc25 : Tryz.prog.cellsOf 25 = 1 := by kernel_rfl
  match xs, hlen, cs', hl with
  | [y0, y1, y2, y3], _, [v0, v1, v2, v3], _ =>
    have f0 := hf 0 _ rfl
    have f1 := hf 1 _ rfl
    have f2 := hf 2 _ rfl
    have f3 := hf 3 _ rfl
    simp [hc2, hc3, hc9, hc25] at f0 f1 f2 f3
    obtain ⟨z0, rfl, _, _⟩ := trod_i64 Tryz.underlying3 f0
    obtain ⟨z1, rfl, r1, r2⟩ := trod_i64 Tryz.underlying2 f1
    obtain ⟨l2, q2, b2⟩ := trod_str Tryz.underlying9 f2
    have o0 := one_le y0.1
    have o1 := one_le y1.1
    have o2 := one_le y2.1
    have o3 := one_le y3.1
    have hbk : Rows.uptoBulk (DataW.agg ([y0, y1, y2, y3].map (·.1))) = Rows.uptoBulk y0.1 + (Rows.uptoBulk y1.1 + (Rows.uptoBulk y2.1 + (Rows.uptoBulk y3.1 + 0))) + 1 := rfl
    obtain ⟨a, l, p1, p2, p3, p4⟩ := ih _ v3 y3 f3 (by show _ < Rows.uptoBulk (DataW.agg _); rw [hbk]; omega)
    refine ⟨⟨z0, z1, l2, a, p2.cell⟩, ⟨z0, z1, l2, l⟩, ?_, ⟨rfl, rfl, rfl, p2, ?_, ⟨r1, r2⟩, p4⟩⟩
    · intro j u hj
      match j, hj with
      | 0, hj => simp [encI] at hj; subst hj; exact ⟨_, rfl, rfl⟩
      | 1, hj => simp [encI] at hj; subst hj; exact ⟨_, rfl, rfl⟩
      | 2, hj => simp [encI] at hj; subst hj; exact ⟨_, rfl, q2⟩
      | 3, hj => simp [encI] at hj; subst hj; exact ⟨_, rfl, p1⟩
      | j + 4, hj => simp [encI] at hj
    · show 1 + l2.length + l.size ≤ Rows.uptoBulk (DataW.agg _)
      rw [hbk]; omega
instance : Inhabited (Iv × It) := ⟨(zeroIv, ⟨0, 0, [], .nil⟩)⟩
theorem items_of : ∀ (z : Nat) (k : Nat) (v : Value) (x : DataW H × List MemPlace), Rows.uptoBulk x.1 ≤ z → DataW.trod enc Tryz.prog w 0 (fun _ => true) true k 25 [v] = some x → ∃ a l, avOf w.heap.size v = some a ∧ SaysI (HI w) (HI w).next a l ∧ l.size ≤ Rows.uptoBulk x.1 ∧ l.rng
  | 0, k, v, x, hz, h => by have := one_le x.1; omega
  | z + 1, k, v, x, hz, h => by
    obtain ⟨a, ps, h1, h2, _, h4⟩ := slice_of (β := Iv × It) (en := fun p => encI p.1) (es := 4) (fun p => encI_len _) (by omega) Tryz.underlying25 (by kernel_rfl) (fun p d => ItIn w p.1 p.2 (Rows.uptoBulk d)) h (fun k' cs' y ⟨els, sp, g1, g2⟩ hy => by
      have hb := part_le g2
      rw [g1] at hz
      simp only [Rows.uptoBulk] at hz
      obtain ⟨c, it, q1, q2⟩ := it_of hy fun k2 v2 x2 hx2 hlt => items_of z k2 v2 x2 (by omega) hx2
      exact ⟨(c, it), q1, q2⟩)
    have hS : SaysE encI 4 (HI w) (HI w).next a (ps.map (·.1)) := by
      rcases h2 with ⟨g1, g2⟩ | ⟨b, off, cap, g1, g2⟩
      · exact .inl ⟨g1, by rw [g2]; rfl⟩
      · refine .inr ⟨b, off, cap, by rw [g1]; simp, fun hne => ?_⟩
        obtain ⟨q1, o, q2, q3⟩ := g2 (by intro e; rw [e] at hne; exact hne rfl)
        refine ⟨q1, o, q2, fun i c hc j u hu => ?_⟩
        simp only [List.getElem?_map, Option.map_eq_some_iff] at hc
        obtain ⟨p, hp, rfl⟩ := hc
        exact q3 i p hp j u hu
    have hR : ∀ (i : Nat) (p : Iv × It), ps[i]? = some p → ∃ n, ItIn w p.1 p.2 n := fun i p hp => by
      rcases h4 with ⟨_, rfl⟩ | ⟨els, sp, _, _, g⟩
      · simp at hp
      · obtain ⟨d, _, g2⟩ := g i p hp; exact ⟨_, g2⟩
    have hA : AsIts (HI w) (HI w).next (ps.map (·.1)) (ps.map (·.2)) := by
      refine ⟨by simp, fun i c y hc hy => ?_⟩
      simp only [List.getElem?_map, Option.map_eq_some_iff] at hc hy
      obtain ⟨p, hp, rfl⟩ := hc
      obtain ⟨p', hp', rfl⟩ := hy
      rw [hp] at hp'; cases hp'
      obtain ⟨n, g⟩ := hR i p hp
      exact ⟨g.k, g.m, g.t, g.s⟩
    refine ⟨a, Its.ofL (ps.map (·.2)), h1, saysI_of hS hA (Nat.le_refl _), ?_, Its.rng_ofL fun y hy => ?_⟩
    · rcases h4 with ⟨_, rfl⟩ | ⟨els, sp, g1, _, g⟩
      · simp [Its.ofL, Its.size]
      · rw [g1]
        have := size_bulk (ps.map (·.2)) els fun i y hy => by
          simp only [List.getElem?_map, Option.map_eq_some_iff] at hy
          obtain ⟨p, hp, rfl⟩ := hy
          obtain ⟨d, q1, q2⟩ := g i p hp
          exact ⟨d, q1, q2.z⟩
        simp only [Rows.uptoBulk]; omega
    · obtain ⟨p, hp, rfl⟩ := List.mem_map.1 hy
      obtain ⟨i, hi⟩ := List.mem_iff_getElem?.1 hp
      obtain ⟨n, g⟩ := hR i p hi
      exact g.r
instance : Inhabited (Fv × Fld) := ⟨(zeroFv, ⟨[], ⟨0, 0, [], .nil⟩⟩)⟩
instance : Inhabited (List UInt8) := ⟨[]⟩
structure FlIn (w : World) (c : Fv) (f : Fld) (n : Nat) : Prop where
  nm : c.nm = f.nm
  k : c.k = f.it.k
  m : c.n = f.it.n
  t : c.t = f.it.t
  s : SaysI (HI w) (HI w).next c.v f.it.s
  z : f.nm.length + (1 + f.it.t.length + f.it.s.size) ≤ n
  r : (-9223372036854775808 ≤ f.it.n ∧ f.it.n < 9223372036854775808) ∧ f.it.s.rng
set_option maxRecDepth 20000 in
theorem fld_of {k : Nat} {cs' : List Value} {y : DataW H × List MemPlace} (h : DataW.trod enc Tryz.prog w 0 (fun _ => true) true k 76 cs' = some y) :
    ∃ c f, (∀ (j : Nat) (u : AV), (encF c)[j]? = some u → ∃ v, cs'[j]? = some v ∧ avOf w.heap.size v = some u) ∧ FlIn w c f (Rows.uptoBulk y.1) := by
  obtain ⟨xs, n, _, rfl, hl, hlen, hf⟩ := DataW.trod_struct Tryz.underlying76 h
  have hc : Tryz.prog.cellsOf 76 = 5 := by kernel_rfl
  rw [hc] at hl
  have hc9 : Tryz.prog.cellsOf 9 = 1 := by kernel_rfl
  have hc27 : Tryz.prog.cellsOf 27 = 4 := by kernel_rfl
  match xs, hlen, cs', hl with
  | [y0, y1], _, [v0, v1, v2, v3, v4], _ =>
    have f0 := hf 0 _ rfl
    have f1 := hf 1 _ rfl
    simp [hc9, hc27] at f0 f1
    obtain ⟨l0, q0, b0⟩ := trod_str Tryz.underlying9 f0
    obtain ⟨c, it, q1, q2⟩ := it_of f1 fun k2 v2 x2 hx2 _ => items_of _ k2 v2 x2 (Nat.le_refl _) hx2
    refine ⟨⟨l0, c.k, c.n, c.t, c.v, c.c⟩, ⟨l0, it⟩, ?_, ⟨rfl, q2.k, q2.m, q2.t, q2.s, ?_, q2.r⟩⟩
    · intro j u hj
      match j, hj with
      | 0, hj => simp [encF] at hj; subst hj; exact ⟨_, rfl, q0⟩
      | 1, hj => exact q1 0 u hj
      | 2, hj => exact q1 1 u hj
      | 3, hj => exact q1 2 u hj
      | 4, hj => exact q1 3 u hj
      | j + 5, hj => simp [encF] at hj
    · have hbk : Rows.uptoBulk (DataW.agg ([y0, y1].map (·.1))) = Rows.uptoBulk y0.1 + (Rows.uptoBulk y1.1 + 0) + 1 := rfl
      have := q2.z
      show l0.length + (1 + it.t.length + it.s.size) ≤ Rows.uptoBulk (DataW.agg _)
      rw [hbk]; omega
theorem flds_of {k : Nat} {v : Value} {x : DataW H × List MemPlace} (h : DataW.trod enc Tryz.prog w 0 (fun _ => true) true k 28 [v] = some x) :
    ∃ a l, avOf w.heap.size v = some a ∧ SaysFs (HI w) (HI w).next a l ∧ l.length ≤ Rows.uptoBulk x.1 ∧ ∀ f ∈ l, f.nm.length + (1 + f.it.t.length + f.it.s.size) ≤ Rows.uptoBulk x.1 ∧ (-9223372036854775808 ≤ f.it.n ∧ f.it.n < 9223372036854775808) ∧ f.it.s.rng := by
  obtain ⟨a, ps, h1, h2, _, h4⟩ := slice_of (β := Fv × Fld) (en := fun p => encF p.1) (es := 5) (fun p => encF_len _) (by omega) Tryz.underlying28 (by kernel_rfl) (fun p d => FlIn w p.1 p.2 (Rows.uptoBulk d)) h (fun k' cs' y ⟨els, sp, g1, g2⟩ hy => by
    obtain ⟨c, f, q1, q2⟩ := fld_of hy
    exact ⟨(c, f), q1, q2⟩)
  have hS : SaysE encF 5 (HI w) (HI w).next a (ps.map (·.1)) := by
    rcases h2 with ⟨g1, g2⟩ | ⟨b, off, cap, g1, g2⟩
    · exact .inl ⟨g1, by rw [g2]; rfl⟩
    · refine .inr ⟨b, off, cap, by rw [g1]; simp, fun hne => ?_⟩
      obtain ⟨q1, o, q2, q3⟩ := g2 (by intro e; rw [e] at hne; exact hne rfl)
      refine ⟨q1, o, q2, fun i c hc j u hu => ?_⟩
      simp only [List.getElem?_map, Option.map_eq_some_iff] at hc
      obtain ⟨p, hp, rfl⟩ := hc
      exact q3 i p hp j u hu
  have hR : ∀ (i : Nat) (p : Fv × Fld), ps[i]? = some p → ∃ n, n ≤ Rows.uptoBulk x.1 ∧ FlIn w p.1 p.2 n := fun i p hp => by
    rcases h4 with ⟨_, rfl⟩ | ⟨els, sp, e, _, g⟩
    · simp at hp
    · obtain ⟨d, g1, g2⟩ := g i p hp
      have := part_le (List.mem_of_getElem? g1)
      exact ⟨_, by rw [e]; simp only [Rows.uptoBulk]; omega, g2⟩
  refine ⟨a, ps.map (·.2), h1, ⟨ps.map (·.1), hS, by simp, fun i c y hc hy => ?_⟩, ?_, fun f hf => ?_⟩
  · simp only [List.getElem?_map, Option.map_eq_some_iff] at hc hy
    obtain ⟨p, hp, rfl⟩ := hc
    obtain ⟨p', hp', rfl⟩ := hy
    rw [hp] at hp'; cases hp'
    obtain ⟨n, _, g⟩ := hR i p hp
    exact ⟨g.nm, g.k, g.m, g.t, g.s⟩
  · rcases h4 with ⟨_, rfl⟩ | ⟨els, sp, e, g, _⟩
    · simp
    · have := length_le els
      rw [List.length_map, g, e]
      simp only [Rows.uptoBulk]; omega
  · obtain ⟨p, hp, rfl⟩ := List.mem_map.1 hf
    obtain ⟨i, hi⟩ := List.mem_iff_getElem?.1 hp
    obtain ⟨n, hn, g⟩ := hR i p hi
    exact ⟨Nat.le_trans g.z hn, g.r⟩
set_option maxRecDepth 20000 in
theorem rec_of {k : Nat} {cs' : List Value} {y : DataW H × List MemPlace} (h : DataW.trod enc Tryz.prog w 0 (fun _ => true) true k 30 cs' = some y) (hb : Rows.uptoBulk y.1 ≤ 1048576) :
    ∃ r x, VL (mI w.heap.size) (avl (encR r)) cs' ∧ RecAt (HI w) (HI w).next r x ∧ RecOk9 x ∧ x.fs.length < 1073741824 := by
  obtain ⟨xs, n, _, rfl, hl, hlen, hf⟩ := DataW.trod_struct Tryz.underlying30 h
  have hc : Tryz.prog.cellsOf 30 = 5 := by kernel_rfl
  rw [hc] at hl
  have hc28 : Tryz.prog.cellsOf 28 = 1 := by kernel_rfl
  have hc27 : Tryz.prog.cellsOf 27 = 4 := by kernel_rfl
  match xs, hlen, cs', hl with
  | [y0, y1], _, [v0, v1, v2, v3, v4], _ =>
    have f0 := hf 0 _ rfl
    have f1 := hf 1 _ rfl
    simp [hc28, hc27] at f0 f1
    obtain ⟨c, it, q1, q2⟩ := it_of f0 fun k2 v2 x2 hx2 _ => items_of _ k2 v2 x2 (Nat.le_refl _) hx2
    obtain ⟨a, l, p1, p2, p3, p4⟩ := flds_of f1
    have hbk : Rows.uptoBulk (DataW.agg ([y0, y1].map (·.1))) = Rows.uptoBulk y0.1 + (Rows.uptoBulk y1.1 + 0) + 1 := rfl
    have hb : Rows.uptoBulk (DataW.agg ([y0, y1].map (·.1))) ≤ 1048576 := hb
    rw [hbk] at hb
    obtain ⟨w0, g0, g0'⟩ := q1 0 _ rfl
    obtain ⟨w1, g1, g1'⟩ := q1 1 _ rfl
    obtain ⟨w2, g2, g2'⟩ := q1 2 _ rfl
    obtain ⟨w3, g3, g3'⟩ := q1 3 _ rfl
    simp at g0 g1 g2 g3
    subst g0 g1 g2 g3
    have hz := q2.z
    refine ⟨⟨c.k, c.n, c.t, c.v, a, c.c, p2.cell⟩, ⟨it, l⟩, .cons _ _ _ _ (avOf_vr g0') (.cons _ _ _ _ (avOf_vr g1') (.cons _ _ _ _ (avOf_vr g2') (.cons _ _ _ _ (avOf_vr g3') (.cons _ _ _ _ (avOf_vr p1) .nil)))), ⟨q2.k, q2.m, q2.t, q2.s, p2⟩, ⟨by simp only [Its.ofL, Its.size]; omega, q2.r, fun f hf => ?_, (by show l.length < 8589934592; omega)⟩, (by show l.length < 1073741824; omega)⟩
    obtain ⟨z1, z2⟩ := p4 f hf
    exact ⟨by omega, by omega, z2⟩
theorem texts_of {k : Nat} {v : Value} {x : DataW H × List MemPlace} (h : DataW.trod enc Tryz.prog w 0 (fun _ => true) true k 22 [v] = some x) :
    ∃ a l, avOf w.heap.size v = some a ∧ SaysE encT 1 (HI w) (HI w).next a l ∧ CutE 1 (HI w) (HI w).next a ∧ l.length ≤ Rows.uptoBulk x.1 ∧ ∀ t ∈ l, t.length ≤ Rows.uptoBulk x.1 := by
  obtain ⟨a, ps, h1, h2, h3, h4⟩ := slice_of (β := List UInt8) (en := encT) (es := 1) encT_len (by omega) Tryz.underlying22 (by kernel_rfl) (fun p d => p.length + 1 = Rows.uptoBulk d) h (fun k' cs' y ⟨els, sp, g1, g2⟩ hy => by
    obtain ⟨s, q1, q2, _⟩ := DataW.trod_string Tryz.underlying9 hy
    refine ⟨s.data.toList, fun j u hj => ?_, by rw [q2]; simp [Rows.uptoBulk]⟩
    match j, hj with
    | 0, hj => simp [encT] at hj; subst hj; rw [q1]; exact ⟨_, rfl, rfl⟩
    | j + 1, hj => simp [encT] at hj)
  refine ⟨a, ps, h1, h2, h3, ?_, fun t ht => ?_⟩
  · rcases h4 with ⟨_, rfl⟩ | ⟨els, sp, e, g, _⟩
    · simp
    · have := length_le els
      rw [g, e]
      simp only [Rows.uptoBulk]; omega
  · rcases h4 with ⟨_, rfl⟩ | ⟨els, sp, e, _, g⟩
    · simp at ht
    · obtain ⟨i, hi⟩ := List.mem_iff_getElem?.1 ht
      obtain ⟨d, g1, g2⟩ := g i t hi
      have := part_le (List.mem_of_getElem? g1)
      rw [e]; simp only [Rows.uptoBulk]; omega
set_option maxRecDepth 20000 in
theorem ix_of {k : Nat} {cs' : List Value} {y : DataW H × List MemPlace} (h : DataW.trod enc Tryz.prog w 0 (fun _ => true) true k 24 cs' = some y) (hb : Rows.uptoBulk y.1 ≤ 1048576) :
    ∃ r x, VL (mI w.heap.size) (avl (encX r)) cs' ∧ IxAt (HI w) (HI w).next r x ∧ IxOk x ∧ x.ks.length < 1073741824 := by
  obtain ⟨xs, n, _, rfl, hl, hlen, hf⟩ := DataW.trod_struct Tryz.underlying24 h
  have hc : Tryz.prog.cellsOf 24 = 3 := by kernel_rfl
  rw [hc] at hl
  have hc9 : Tryz.prog.cellsOf 9 = 1 := by kernel_rfl
  have hc22 : Tryz.prog.cellsOf 22 = 1 := by kernel_rfl
  have hc4 : Tryz.prog.cellsOf 4 = 1 := by kernel_rfl
  match xs, hlen, cs', hl with
  | [y0, y1, y2], _, [v0, v1, v2], _ =>
    have f0 := hf 0 _ rfl
    have f1 := hf 1 _ rfl
    have f2 := hf 2 _ rfl
    simp [hc9, hc22, hc4] at f0 f1 f2
    obtain ⟨l0, q0, b0⟩ := trod_str Tryz.underlying9 f0
    obtain ⟨a, l, p1, p2, p3, p4, p5⟩ := texts_of f1
    obtain ⟨b, e, _⟩ := DataW.trod_bool Tryz.underlying4 f2
    simp only [List.cons.injEq, and_true] at e
    subst e
    have hbk : Rows.uptoBulk (DataW.agg ([y0, y1, y2].map (·.1))) = Rows.uptoBulk y0.1 + (Rows.uptoBulk y1.1 + (Rows.uptoBulk y2.1 + 0)) + 1 := rfl
    have hb : Rows.uptoBulk (DataW.agg ([y0, y1, y2].map (·.1))) ≤ 1048576 := hb
    rw [hbk] at hb
    refine ⟨⟨l0, a, b, p2.cell⟩, ⟨l0, l, b⟩, .cons _ _ _ _ (avOf_vr q0) (.cons _ _ _ _ (avOf_vr p1) (.cons _ _ _ _ (.bool _) .nil)), ⟨rfl, rfl, p2, p3⟩, ⟨(by show l0.length < 17179869184; omega), fun t ht => (by have := p5 t ht; omega), (by show l.length < 8589934592; omega)⟩, (by show l.length < 1073741824; omega)⟩
end
end
end Go.Proofs.YtfgipbjaapkdlaaGreatDoor
namespace Go.Proofs.YtfgipbjaapkdlaaGreatDoor
open Go.RowKit Go.Xq
theorem main_calls {W : World} {c0 c1 c2 : List Value} {rx : Xv} {ix : Ixd} {r1 r2 : Rv} {x1 x2 : Rec9} (hL : laidMetH Tryz.prog Rows.indexOrderUptoRow.laid W) (hS : W.ShapedOpen Tryz.prog)
    (e0 : VL (mI W.heap.size) (avl (encX rx)) c0) (e1 : VL (mI W.heap.size) (avl (encR r1)) c1) (e2 : VL (mI W.heap.size) (avl (encR r2)) c2) (hi : IxAt (HI W) (HI W).next rx ix) (h1 : RecAt (HI W) (HI W).next r1 x1) (h2 : RecAt (HI W) (HI W).next r2 x2)
    (hik : IxOk ix) (ok1 : RecOk9 x1) (ok2 : RecOk9 x2) (hkl : ix.ks.length < 1073741824) (hf1 : x1.fs.length < 1073741824) (hf2 : x2.fs.length < 1073741824) :
    Calls Tryz.prog 4 #[.agg c0.toArray, .agg c1.toArray, .agg c2.toArray] W fun e W' => e = .returned (.bool true) ∧ KeptAll W W' := by
  obtain ⟨hsz, hG⟩ := holds_start hL hS
  obtain ⟨_, hx⟩ := order_ok hG hi h1 h2 hik ok1 ok2 hkl hf1 hf2
  intro cs'
  obtain ⟨v, w', fr, ⟨v2', H2, ⟨rfl, hk⟩, m2, hst, hv⟩, hs, hk', hfn, hl⟩ := hx (mI W.heap.size) W [.agg c0.toArray, .agg c1.toArray, .agg c2.toArray] (rel_start hsz) (.cons _ _ _ _ (.agg _ _ e0) (.cons _ _ _ _ (.agg _ _ e1) (.cons _ _ _ _ (.agg _ _ e2) .nil))) cs' (.inl rfl)
  cases hv
  exact ⟨_, w', fr, ⟨rfl, kept_start hst fun b hb => hk.2 b (by rw [HI_next]; exact hb) id⟩, hs, hfn, hl.mode, hl.defers, hk', hl.fn⟩
end Go.Proofs.YtfgipbjaapkdlaaGreatDoor
