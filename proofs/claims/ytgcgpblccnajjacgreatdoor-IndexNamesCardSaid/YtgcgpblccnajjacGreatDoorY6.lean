/- A part of the proof that what the evaluator answers is what the machine does. Its conditions stand in each theorem. -/
import Derived.Test.YtgcgpblccnajjacGreatDoorY5
namespace Go.Xq
section
variable {P : Program} {E : Env} (hE : TyOk P E) {o : Oper}
theorem look_slStr (hE : TyOk P E) {t : Nat} {x : Operand} {lo hi : Option Operand} {ti : TI} (h1 : tyOf E t = some ti) (h2 : ti.d = .string) (ho : o.op = .slice t x lo hi none) : LookOk P ⟨slStr x lo hi⟩ o := by
  intro m H w T ρ v hr he hk
  simp only [slStr, ob_some, onStr_some, Option.some.injEq] at hk
  obtain ⟨rlo, g1, rhi, g2, a, g3, l, n, rfl, ⟨l0, h0, m0⟩, g4, rfl⟩ := hk
  obtain ⟨s, e1, rfl, rfl⟩ := (he x _ g3).str_inv
  have hsz : s.size = s.data.toList.length := by rw [Array.length_toList]; rfl
  obtain ⟨m', hrun, hl, hh, hc, _, _⟩ := run_bounds (P := P) he (w := w) (isS := false) (mx := none) (rmx := none) g1 g2 rfl (by simp [hasHi]) g4 (Nat.le_refl _) (fun k hk => by cases hk; rfl)
  refine ⟨.string (s.extract l0 h0), ?_, ?_⟩
  · simp only [execOp, ho, e1]; apply run_v
    simp only [Instr.sliceAt, Sem.run_bind, run_underlying hE h1, Result.andThen, h2, Instr.slice]
    rw [← hsz] at hrun
    simp only [Option.map_none, Option.isSome_none] at hrun ⊢
    simp only [Bool.false_eq_true, if_false, Sem.run_bind, hrun, Result.andThen, Sem.run_pure]
  · have hd : (s.extract l0 h0).data.toList = (s.data.toList.drop l0).take (h0 - l0) := by
      simp [ByteArray.data_extract, List.extract_eq_take_drop]
    have := VR.str (m := m) (s.extract l0 h0)
    have hlen : ((s.data.toList.drop l0).take (h0 - l0)).length = h0 - l0 := by simp at hc ⊢; omega
    rw [hd, hlen] at this
    have e : cutN (leNat s.data.toList) l0 (Nat.sub h0 l0) = leNat ((s.data.toList.drop l0).take (h0 - l0)) := by
      have hb := bytesN_ext (n := cutN (leNat s.data.toList) l0 (h0 - l0)) hlen (fun k hk => by
        have hk2 : l0 + k < s.data.toList.length := by omega
        refine ⟨s.data.toList[l0 + k], ?_, ?_⟩
        · rw [List.getElem?_take_of_lt hk, List.getElem?_drop, List.getElem?_eq_getElem hk2]
        · rw [byteAt_cut _ _ _ _ hk, byteAt_leNat (List.getElem?_eq_getElem hk2)])
      rw [hb, leNat_bytesN _ _ (cutN_lt _ _ _)]; rfl
    rw [e]; exact this
/-- the room that a slice without a known end is said to have, it has -/
theorem room_ok {m : Ren} {H : AH} {w : World} (hr : Rel m H w) {b off len c' es room : Nat} {i : BI} (hi : m b = some i) (hc : i.base + off + c' * i.es = i.sz) (hl : len ≤ c')
    (h : roomOf H b off len es = some room) : i.es = es ∧ room ≤ c' := by
  simp only [roomOf, ob_some, onObj_some, bt_some, Nat.beq_eq] at h
  obtain ⟨o, hg, h⟩ := h
  obtain ⟨x, hx, hor⟩ := hr.live b o hg i hi
  rcases h with ⟨e, s, p, n, rfl, h1, h2⟩ | ⟨e, a, s, p, z, t, rfl, h1, h2⟩
  · cases hor with | bys c fr e size opn n i hcs hes hs hf h =>
    refine ⟨by omega, ?_⟩
    rw [hes] at hc
    cases p
    · cases h2; exact hl
    · cases h2
      exact Nat.max_le.2 ⟨hl, by show s - off ≤ c'; omega⟩
  · cases hor with | cs c fr e es' size opn z t i hcs hes hs hf h =>
    subst h1
    refine ⟨hes, ?_⟩
    cases p
    · cases h2; exact hl
    · cases h2
      refine Nat.max_le.2 ⟨hl, ?_⟩
      show (s - off) / es ≤ c'
      apply Nat.div_le_of_le_mul
      rw [← hes, Nat.mul_comm]; omega
theorem room_end {m : Ren} {H : AH} {w : World} (hr : Rel m H w) {b off es room : Nat} {i : BI} (hi : m b = some i) (hc : i.base + off = i.sz)
    (h : roomOf H b off 0 es = some room) : room = 0 := by
  simp only [roomOf, ob_some, onObj_some, bt_some, Nat.beq_eq] at h
  obtain ⟨o, hg, h⟩ := h
  obtain ⟨x, hx, hor⟩ := hr.live b o hg i hi
  rcases h with ⟨e, s, p, n, rfl, h1, h2⟩ | ⟨e, a, s, p, z, t, rfl, h1, h2⟩
  · cases hor with | bys c fr e size opn n i hcs hes hs hf h =>
    have : s - off = 0 := by omega
    cases p
    · cases h2; rfl
    · cases h2; show Nat.max 0 (s - off) = 0; rw [this]; rfl
  · cases hor with | cs c fr e es' size opn z t i hcs hes hs hf h =>
    have : s - off = 0 := by omega
    cases p
    · cases h2; rfl
    · cases h2; show Nat.max 0 ((s - off) / es) = 0; rw [this]; simp
/-- what a slice expression makes of an address -/
theorem addr_if (m' l b off n : Nat) : (if m' = l then (⟨b, off, none⟩ : Addr) else (⟨b, off, none⟩ : Addr).add n) = ⟨b, if m' = l then off else off + n, none⟩ := by
  split
  · rfl
  · rw [add_mk]
include hE
theorem look_slSl {t e : Nat} {x : Operand} {lo hi mx : Option Operand} {ti te : TI} (h1 : tyOf E t = some ti) (h2 : ti.d = .slice e) (h3 : tyOf E e = some te) (hx : hasHi hi mx = true)
    (ho : o.op = .slice t x lo hi mx) : LookOk P ⟨slSl te.size x lo hi mx⟩ o := by
  intro m H w T ρ v hr he hk
  simp only [slSl, ob_some] at hk
  obtain ⟨rlo, g1, rhi, g2, rmx, g3, a, g4, hk⟩ := hk
  rw [onSl_some] at hk
  have frame : ∀ {len c' l h m' : Nat} {base : Option Addr}, ρ x = .slice base len c' → (Instr.sliceBounds true len c' (lo.map ρ) (hi.map ρ) (mx.map ρ)).run P w = .ok (l, h, m') w →
      (execOp ρ o).run P w = .ok (.value (.slice (if m' = l then base else base.map (·.add (l * te.size))) (h - l) (m' - l))) w := by
    intro len c' l h m' base e1 hrun
    simp only [execOp, ho, e1]; apply run_v
    simp only [Instr.sliceAt, Sem.run_bind, run_underlying hE h1, Result.andThen, h2, Instr.slice, hrun, run_sizeOf hE h3, Sem.run_pure]
  rcases hk with ⟨rfl, hk⟩ | ⟨b, off, len, cap, rfl, hk⟩
  · simp only [ob_some, Option.some.injEq] at hk
    obtain ⟨⟨l, h, mm⟩, g5, rfl⟩ := hk
    have e1 := (he x _ g4).snil_inv
    obtain ⟨m', hrun, hl, hh, hc, _, _⟩ := run_bounds (P := P) he (w := w) (isS := true) g1 g2 g3 hx g5 (Nat.le_refl _) (fun k hk => by cases hk; rfl)
    have : l = 0 ∧ h = 0 ∧ m' = 0 := by omega
    obtain ⟨rfl, rfl, rfl⟩ := this
    exact ⟨_, frame e1 hrun, by simpa using VR.snil⟩
  · simp only [ob_some, Option.some.injEq] at hk
    obtain ⟨room, g6, ⟨l, h, mm⟩, g5, rfl⟩ := hk
    obtain ⟨ad, c', e1, hcap, hcase⟩ := (he x _ g4).sl_inv
    have hroom : room ≤ c' ∧ (cap = none → ∀ i, m b = some i → 0 < i.es → i.base + off + c' * i.es = i.sz → len ≤ c' → i.es = te.size) := by
      cases cap with
      | some k => simp at g6; subst g6; rw [hcap _ rfl]; exact ⟨Nat.le_refl _, by simp⟩
      | none =>
        simp only [oc_none] at g6
        rcases hcase with ⟨i, hi', _, hq⟩ | ⟨rfl, rfl, hq⟩
        · obtain ⟨q1, q2, q3⟩ := hq rfl
          have := room_ok hr hi' q2 q3 g6
          refine ⟨this.2, fun _ j hj _ _ _ => ?_⟩
          rw [hi'] at hj; cases hj; exact this.1
        · obtain ⟨i, q1, q2, q3⟩ := hq rfl
          have := room_end hr q1 q3 g6
          refine ⟨by omega, fun _ j hj _ p2 p3 => ?_⟩
          exact (room_ok hr hj p2 p3 g6).1
    obtain ⟨m', hrun, hl, hh, hc, hm1, hm2⟩ := run_bounds (P := P) he (w := w) (isS := true) g1 g2 g3 hx g5 hroom.1 (fun k hk => hcap k hk)
    refine ⟨_, frame e1 hrun, ?_⟩
    rcases hcase with ⟨i, hi', rfl, hq⟩ | ⟨rfl, rfl, hq⟩
    · cases mm with
      | some k =>
        have := hm1 k rfl; subst this
        have e2 : (if m' = l then some (⟨i.blk, i.base + off, none⟩ : Addr) else (some (⟨i.blk, i.base + off, none⟩ : Addr)).map (·.add (l * te.size))) = some ⟨i.blk, i.base + offOf (some m') off l te.size, none⟩ := by
          simp only [offOf, oc_some, bt_eq, Nat.beq_eq]
          split
          · rfl
          · simp [add_mk, Nat.add_assoc]
        rw [e2]
        exact .sl _ _ _ _ i hi'
      | none =>
        obtain ⟨rfl, hcp⟩ := hm2 rfl
        obtain ⟨q1, q2, q3⟩ := hq hcp
        have hes := hroom.2 hcp i hi' q1 q2 q3
        simp only [capLess, oc_none, offOf]
        by_cases e : m' = l
        · subst e
          rw [if_pos rfl, Nat.sub_self]
          have : h - m' = 0 := by omega
          rw [show Nat.sub h m' = 0 from this, this]
          exact .sle _ _ _ i hi' q1 (by rw [← hes]; show i.base + (off + m' * i.es) = i.sz; omega)
        · rw [if_neg e]
          simp only [Option.map_some, add_mk]
          have := VR.slo (m := m) b (off + l * te.size) (h - l) (m' - l) i hi' q1 (by
            rw [← hes, Nat.sub_mul]
            have : l * i.es ≤ m' * i.es := Nat.mul_le_mul_right _ (by omega)
            omega) (by omega)
          rw [Nat.add_assoc]; exact this
    · have : l = 0 ∧ h = 0 ∧ m' = 0 := by omega
      obtain ⟨rfl, rfl, rfl⟩ := this
      cases mm with
      | some k => have := hm1 k rfl; subst this; exact .slz _ _ _
      | none =>
        obtain ⟨_, hcp⟩ := hm2 rfl
        obtain ⟨i, q1, q2, q3⟩ := hq hcp
        exact .sle _ _ _ i q1 q2 (by simpa [offOf] using q3)
theorem look_slArr {t e n : Nat} {x : Operand} {lo hi mx : Option Operand} {ti te : TI} (h1 : tyOf E t = some ti) (h2 : ti.d = .array n e) (h3 : tyOf E e = some te) (hx : hasHi hi mx = true)
    (ho : o.op = .slice t x lo hi mx) : LookOk P ⟨slArr n te.size x lo hi mx⟩ o := by
  intro m H w T ρ v hr he hk
  simp only [slArr, ob_some, onPtr_some, Option.some.injEq] at hk
  obtain ⟨rlo, g1, rhi, g2, rmx, g3, a, g4, b, off, rfl, ⟨l, h, mm⟩, g5, rfl⟩ := hk
  obtain ⟨i, hi', e1⟩ := (he x _ g4).ptr_inv
  obtain ⟨m', hrun, hl, hh, hc, hm1, hm2⟩ := run_bounds (P := P) he (w := w) (isS := false) g1 g2 g3 hx g5 (Nat.le_refl _) (fun k hk => by cases hk; rfl)
  cases mm with
  | none => have := (hm2 rfl).2; cases this
  | some k =>
    have := hm1 k rfl; subst this
    refine ⟨.slice (some ⟨i.blk, i.base + offOf (some m') off l te.size, none⟩) (h - l) (m' - l), ?_, .sl _ _ _ _ i hi'⟩
    simp only [execOp, ho, e1]; apply run_v
    simp only [Instr.sliceAt, Sem.run_bind, run_underlying hE h1, Result.andThen, h2, Instr.sureAddr, hrun, run_sizeOf hE h3, Sem.run_pure, addr_if, offOf, oc_some, bt_eq, Nat.beq_eq]
    congr 4
    split <;> simp [Nat.add_assoc]
end
end Go.Xq
