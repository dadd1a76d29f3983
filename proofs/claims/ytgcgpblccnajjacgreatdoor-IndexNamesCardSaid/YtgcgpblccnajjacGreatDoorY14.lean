/- A part of the proof that what the evaluator answers is what the machine does. Its conditions stand in each theorem. -/
import Derived.Test.YtgcgpblccnajjacGreatDoorY13
namespace Go.Xq
section
variable {P : Program} {E : Env} (hE : TyOk P E) {o : Oper}

/-! ### Cells that are copied -/
def byteV (n k : Nat) : Value := .int .u8 (.ofNat (byteAt n k))
theorem lengthA_ok {m : Ren} {a : AV} {v : Value} {L : Nat} (hv : VR m a v) (h : lengthA a = some L) (w : World) : (Builtin.lenOf v).run P w = .ok L w := by
  cases a <;> simp [lengthA] at h
  · subst h; rw [hv.snil_inv]; rfl
  · subst h
    obtain ⟨s, rfl, e, _⟩ := hv.str_inv
    subst e
    have : s.size = s.data.toList.length := by simp
    simp only [Builtin.lenOf, Sem.run_pure, this]
  · subst h
    obtain ⟨a, c', rfl, _⟩ := hv.sl_inv
    rfl
theorem map_bytes (s : ByteArray) (n : Nat) (hn : n ≤ s.data.toList.length) : ((s.extract 0 n).data.map fun b => Value.int .u8 b.toNat) = ((List.range n).map (byteV (leNat s.data.toList))).toArray := by
  apply Array.ext_getElem?
  intro k
  by_cases hk : k < n
  · have h1 := bytes_vals s k (by omega)
    have hsz : n ≤ s.data.size := by simpa using hn
    simp only [Array.getElem?_map] at h1 ⊢
    rw [ByteArray.data_extract, Array.getElem?_extract]
    simp [hk, byteV]
    have hk' : k < s.data.size := by omega
    have hss : s.size = s.data.size := rfl
    rw [Array.getElem?_eq_getElem hk'] at h1 ⊢
    exact ⟨_, ⟨by omega, rfl⟩, by simpa using h1⟩
  · have hsz : n ≤ s.data.size := by simpa using hn
    rw [Array.getElem?_eq_none (by simp; omega), Array.getElem?_eq_none (by simp; omega)]
theorem run_loadBytes {w : World} {b o n num : Nat} (h : ∀ k, k < n → w.cell? ⟨b, o + k, none⟩ = some (byteV num k)) :
    (loadCells ⟨b, o, none⟩ n).run P w = .ok ((List.range n).map (byteV num)).toArray w := by
  have := run_loadCells (P := P) (w := w) (b := b) (o := o) (vs := (List.range n).map (byteV num)) (by
    intro k v hk
    have hk2 : k < n := by
      rcases Nat.lt_or_ge k n with h | h
      · exact h
      · rw [List.getElem?_eq_none (by simp; omega)] at hk; cases hk
    rw [List.getElem?_map, List.getElem?_range hk2] at hk
    simp at hk
    rw [h k hk2, hk])
  simpa using this
/-- the first bytes of a slice of bytes, or a text -/
theorem first_bytes {m : Ren} {H : AH} {w : World} (hr : Rel m H w) {a : AV} {v : Value} {L num n : Nat} (hv : VR m a v) (h : bytesA H a = some (L, num)) (hn : n ≤ L) :
    (Builtin.firstCells 1 n v).run P w = .ok ((List.range n).map (byteV num)).toArray w := by
  cases a <;> simp only [bytesA, Option.some.injEq, Prod.mk.injEq, reduceCtorEq] at h
  · obtain ⟨rfl, rfl⟩ := h
    have : n = 0 := by omega
    subst this
    rw [hv.snil_inv]; rfl
  · obtain ⟨rfl, rfl⟩ := h
    obtain ⟨s, rfl, rfl, rfl⟩ := hv.str_inv
    simp only [Builtin.firstCells, Sem.run_pure, map_bytes s n hn]
  · rename_i b off len c
    obtain ⟨ad, c', rfl, _, hcase⟩ := hv.sl_inv
    by_cases hl : len = 0
    · subst hl
      simp [bytesSl] at h
      have : n = 0 := by omega
      subst this
      simp [Builtin.firstCells, loadCells, loadCellsFrom]
    · rcases hcase with ⟨i, hi, rfl, _⟩ | ⟨e, _⟩
      · obtain ⟨e1, _, e3⟩ := bytesSl_ok hr (fun _ => hi) h
        subst e1
        simp only [Builtin.firstCells, Nat.mul_one]
        exact run_loadBytes fun k hk => e3 k (by omega)
      · exact absurd e hl
/-- the first elements of a slice, or of a text -/
theorem first_cells {m : Ren} {H : AH} {w : World} (hr : Rel m H w) {a l : AV} {v : Value} {es n L : Nat} (hv : VR m a v) (hL : lengthA a = some L) (hn : n ≤ L) (h : firstA H es n a = some l) :
    ∃ vs, (∀ w2 : World, w2.heap = w.heap → (Builtin.firstCells es n v).run P w2 = .ok vs.toArray w2) ∧ VL m l vs := by
  cases a <;> simp only [firstA, reduceCtorEq] at h
  · cases h
    rw [hv.snil_inv]
    exact ⟨[], fun _ _ => rfl, .nil⟩
  · rename_i len num
    obtain ⟨s, rfl, rfl, rfl⟩ := hv.str_inv
    simp [lengthA] at hL
    simp only [bt_some] at h
    obtain ⟨_, h⟩ := h
    have hb : ∀ (k j : Nat) (l : AV), rdCells (.bys 0 s.data.toList.length false (leNat s.data.toList)) k j = some l → VL m l ((List.range k).map fun t => byteV (leNat s.data.toList) (j + t)) := by
      intro k
      induction k with
      | zero => intro j l h; cases h; exact .nil
      | succ k ih =>
        intro j l h
        simp only [rdCells, ob_some, rdCell, onObj, rdBy, bt_some] at h
        obtain ⟨x, ⟨_, h1⟩, l', h2, h3⟩ := h
        cases h1; cases h3
        rw [List.range_succ_eq_map, List.map_cons, List.map_map]
        refine .cons _ _ _ _ (.int _ _) ?_
        have := ih (j + 1) l' h2
        have e : (fun t => byteV (leNat s.data.toList) (j + 1 + t)) = (fun t => byteV (leNat s.data.toList) (j + t)) ∘ Nat.succ := by
          funext t; simp only [Function.comp]; congr 1; omega
        rw [← e]; exact this
    refine ⟨_, fun w2 _ => ?_, hb _ _ _ h⟩
    simp only [Nat.zero_add]
    simp only [Builtin.firstCells, Sem.run_pure]
    rw [map_bytes s n (by simp; omega)]
  · rename_i b off len c
    obtain ⟨ad, c', rfl, _, hcase⟩ := hv.sl_inv
    simp [lengthA] at hL
    subst hL
    cases n with
    | zero =>
      simp at h; subst h
      exact ⟨[], fun w2 _ => by simp [Builtin.firstCells, loadCells, loadCellsFrom], .nil⟩
    | succ n =>
      simp only [nc_succ, ob_some] at h
      obtain ⟨x, hb, h⟩ := h
      rcases hcase with ⟨i, hi, rfl, _⟩ | ⟨e, _⟩
      · obtain ⟨vs, h1, h2, h3⟩ := hr.rds hb hi _ _ _ h
        refine ⟨vs, fun w2 hw2 => ?_, h2⟩
        simp only [Builtin.firstCells]
        have := run_loadCells (P := P) (w := w2) (fun j u hu => by
          have := h3 j u hu
          simp only [World.cell?] at this ⊢
          rw [hw2]; exact this)
        rw [h1] at this
        exact this
      · omega
/-- bytes laid over bytes -/
theorem OR.over {m : Ren} {c : Array Value} {e0 : TypeId} {fr : Nat × Nat} {e sz x off n num : Nat} {op : Bool} {i : BI} {o2 : AObj} (h : OR m (.cells c e0 fr) (.bys e sz op x) i) (hw : overBlk off n num e sz op x = some o2) :
    FZ fr c.size ∧ i.base + off + n ≤ c.size ∧ OR m (.cells (spl c (i.base + off) ((List.range n).map (byteV num))) e0 fr) o2 i := by
  cases h with | bys c fr e size opn nn i hc he hs hf h =>
  simp only [overBlk, bt_some, Option.some.injEq] at hw
  obtain ⟨h1, rfl⟩ := hw
  have h1 : off + n ≤ sz := Nat.le_of_ble_eq_true h1
  refine ⟨hc ▸ hf, by omega, .bys _ _ _ _ _ _ _ (by rw [spl_size]; exact hc) he hs hf ?_⟩
  intro k hk
  have hv : num.mod ((1 : Nat).shiftLeft (Nat.mul 8 n)) < 256 ^ n := by
    show num % (1 <<< (8 * n)) < _
    rw [Nat.shiftLeft_eq, Nat.one_mul, Nat.pow_mul]
    exact Nat.mod_lt _ (Nat.pow_pos (by decide))
  have hv2 : num.mod ((1 : Nat).shiftLeft (Nat.mul 8 n)) = num % 256 ^ n := by
    show num % (1 <<< (8 * n)) = _
    rw [Nat.shiftLeft_eq, Nat.one_mul, Nat.pow_mul]
  rw [spl_get _ _ _ _ (by simp; omega), byteAt_over _ _ _ _ _ hv, hv2]
  simp only [List.length_map, List.length_range]
  by_cases h3 : off ≤ k ∧ k < off + n
  · rw [if_pos (by omega), if_neg (by omega), if_pos (by omega)]
    rw [show i.base + k - (i.base + off) = k - off from by omega, List.getElem?_map, List.getElem?_range (by omega), byteAt_mod _ _ _ (by omega)]
    rfl
  · rw [if_neg (by omega), h k hk]
    by_cases h4 : k < off
    · rw [if_pos h4]
    · rw [if_neg h4, if_neg (by omega)]
theorem layA_ok {m : Ren} {H H2 : AH} {w : World} (hr : Rel m H w) {a : AV} {v : Value} {es b off n L : Nat} {i : BI} (hv : VR m a v) (hL : lengthA a = some L) (hn : n ≤ L) (hi : m b = some i) (h : layA H es b off n a = some H2) :
    ∃ vs w', (Builtin.firstCells es n v).run P w = .ok vs.toArray w ∧ (storeCells ⟨i.blk, i.base + off, none⟩ vs).run P w = .ok () w' ∧ St m H w m H2 w' := by
  simp only [layA, ob_some, onObj_some] at h
  obtain ⟨x, hb, h⟩ := h
  rcases h with ⟨e, s, p, y, rfl, h⟩ | ⟨e, a', s, p, z, t, rfl, h⟩
  · simp only [bt_some, ob_some, Option.some.injEq] at h
    obtain ⟨hes, ⟨L', num⟩, h1, o2, h2, rfl⟩ := h
    have hes := Nat.eq_of_beq_eq_true hes
    subst hes
    have hLL : L' = L := by
      cases a <;> simp [bytesA, lengthA] at h1 hL
      · omega
      · omega
      · rename_i b' off' len' c'
        subst hL
        cases len' with
        | zero => simp [bytesSl] at h1; omega
        | succ j =>
          obtain ⟨ad, c', e1, _, hcase⟩ := hv.sl_inv
          rcases hcase with ⟨i', hi', _⟩ | ⟨e, _⟩
          · exact (bytesSl_ok hr (fun _ => hi') h1).1
          · omega
    subst hLL
    obtain ⟨y, hy, hor⟩ := hr.live _ _ hb _ hi
    have hcells : ∃ c e fr, y = .cells c e fr := by cases hor; exact ⟨_, _, _, rfl⟩
    obtain ⟨c, e0, fr, rfl⟩ := hcells
    obtain ⟨g1, g2, g3⟩ := hor.over h2
    refine ⟨_, _, first_bytes hr hv h1 hn, run_storeCells (P := P) _ 0 c w (o := i.base + off) hy ?_ g1 (by simp; omega), St.upd hr hb hi g3 rfl rfl rfl⟩
    intro u hu
    simp only [List.mem_map] at hu
    obtain ⟨_, _, rfl⟩ := hu
    rfl
  · simp only [Option.some.injEq] at h
    obtain ⟨l, h1, o2, h2, rfl⟩ := h
    obtain ⟨vs, h3, h4⟩ := first_cells (P := P) hr hv hL hn h1
    obtain ⟨w', h5, h6⟩ := hr.wrs (P := P) hb hi h4 h2
    exact ⟨vs, w', h3 w rfl, h5, h6⟩
end
end Go.Xq
