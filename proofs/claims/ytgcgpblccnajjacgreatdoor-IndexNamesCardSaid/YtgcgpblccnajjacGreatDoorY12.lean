/- A part of the proof that what the evaluator answers is what the machine does. Its conditions stand in each theorem. -/
import Derived.Test.YtgcgpblccnajjacGreatDoorY11
namespace Go.Xq
section
variable {P : Program} {E : Env} (hE : TyOk P E) {o : Oper}
theorem fresh_map {t : Nat} (ho : o.op = .makeMap t none) : FreshOk P ⟨fun _ b0 => some (.mp b0, .mp [] 0)⟩ o := by
  intro m w T ρ b0 v b he hf
  cases hf
  refine ⟨.map (some w.heap.size), .map #[] 0, { w with heap := w.heap.push (.map #[] 0) }, ⟨w.heap.size, 0, 0, 0⟩, ?_, rfl, rfl, rfl, rfl, fun m' hle hm => ⟨.mp b0 _ hm, .mp _ _ _ _ .nil⟩⟩
  simp only [execOp, ho, Option.map_none]; apply run_v
  simp [Instr.makeMap, Result.andThen]
theorem bytes_vals (s : ByteArray) : ∀ k, k < s.data.toList.length → (s.data.map fun b => Value.int .u8 b.toNat)[k]? = some (.int .u8 (.ofNat (byteAt (leNat s.data.toList) k))) := by
  intro k hk
  have hk' : k < s.data.size := by simpa using hk
  rw [Array.getElem?_map, Array.getElem?_eq_getElem hk']
  have : s.data.toList[k]? = some s.data[k] := by simp
  rw [byteAt_leNat this]
  rfl
theorem run_cap (need sc : Nat) (e : TypeId) (w : World) : ∃ c, (choose (.appendCap need sc e)).run P w = .ok c { w with drawn := w.drawn + 1 } ∧ need ≤ c := by
  refine ⟨need + w.tape w.drawn (.appendCap need sc e) % (2 ^ 63 - need), ?_, Nat.le_add_right _ _⟩
  rw [run_choose]
  simp only [Question.forced, Question.cut, Bool.false_eq_true, if_false]
theorem run_markNew {w w0 : World} {c : Array Value} {e : TypeId} (hw : w = { w0 with heap := w0.heap.push (.cells c e) }) :
    (markStringish ⟨w0.heap.size, 0, none⟩).run P w = .ok () { w0 with heap := w0.heap.push (.cells c e (c.size, c.size + 1)) } := by
  subst hw
  simp only [markStringish, Sem.run_bind, run_shape, Result.andThen]
  have : ({ w0 with heap := w0.heap.push (.cells c e) } : World).shape? w0.heap.size = some (e, c.size) := by
    simp [World.shape?]
  rw [this]
  simp only [run_freeze]
  congr 1
  simp only [World.freeze]
  simp only [show (1 : Nat) ≠ 0 from by decide, if_false]
  congr 1
  apply Array.ext_getElem?
  intro k
  rw [Array.getElem?_modify]
  by_cases hk : w0.heap.size = k
  · subst hk; simp
  · rw [if_neg hk, Array.getElem?_push, Array.getElem?_push]
    simp [Ne.symm hk]
include hE
theorem fresh_str {s d e : Nat} {x : Operand} {ts td te : TI} (h1 : tyOf E s = some ts) (h2 : tyOf E d = some td) (hs : ts.d = .string) (hd : td.d = .slice e) (h3 : tyOf E e = some te) (hb : isByteD te.d = true)
    (ho : o.op = .convert s d x) : FreshOk P ⟨frStr e x⟩ o := by
  intro m w T ρ b0 v b he hf
  simp only [frStr, ob_some, onStr_some, Option.some.injEq, Prod.mk.injEq] at hf
  obtain ⟨a, g1, n, y, rfl, rfl, rfl⟩ := hf
  obtain ⟨st, e1, rfl, rfl⟩ := (he x _ g1).str_inv
  have hbd : te.d = .int .u8 := by
    unfold isByteD at hb
    split at hb
    · assumption
    · cases hb
  obtain ⟨cap, w1, q1, q2, q3, q4, q5⟩ : ∃ cap w1, (choose (.appendCap st.size 0 e)).run P w = .ok cap w1 ∧ st.size ≤ cap ∧ w1.heap = w.heap ∧ w1.os = w.os ∧ w1.output = w.output := by
    obtain ⟨c, h1, h2⟩ := run_cap (P := P) st.size 0 e w
    exact ⟨c, _, h1, h2, rfl, rfl, rfl⟩
  let cs : Array Value := (st.data.map fun b => Value.int .u8 b.toNat) ++ Array.replicate (cap - st.size) (.int .u8 0)
  have hcs : cs.size = cap := by simp [cs]; omega
  refine ⟨.slice (some ⟨w.heap.size, 0, none⟩) st.size cap, .cells cs e (cs.size, cs.size + 1), { w1 with heap := w1.heap.push (.cells cs e (cs.size, cs.size + 1)) }, ⟨w.heap.size, 0, cap, 1⟩, ?_, by rw [q3], q4, q5, rfl, ?_⟩
  · simp only [execOp, ho, e1]; apply run_v
    simp only [convert, Sem.run_bind, run_underlying hE h1, run_underlying hE h2, run_underlying hE h3, Result.andThen, hs, hd, hbd, Conv.stringToBytes, q1, run_newRow, Sem.run_pure]
    have := run_markNew (P := P) (w0 := w1) (c := cs) (e := e) rfl
    rw [this, q3]
  · intro m' hle hm
    have hsz : st.data.toList.length = st.size := by simp
    refine ⟨?_, ?_⟩
    · rw [hsz]
      have := VR.slo (m := m') b0 0 st.size cap _ hm Nat.one_pos (by simp) q2
      simpa using this
    · refine .bys _ _ _ _ _ _ _ hcs rfl (by simp; omega) (.inr (by simp [hcs])) ?_
      intro k hk
      have hk2 : k < (st.data.map fun b => Value.int .u8 b.toNat).size := by simpa using hk
      show cs[0 + k]? = _
      rw [Nat.zero_add, Array.getElem?_append_left hk2]
      exact bytes_vals st k hk
theorem freshK_ok {k : FrK} (h : freshK E o.op = some k) : FreshOk P k o := by
  unfold freshK at h
  split at h
  · rename_i ho; simp only [ob_some, Option.some.injEq] at h; obtain ⟨b, h1, rfl⟩ := h; exact fresh_alloc hE h1 ho
  · rename_i ho; simp only [ob_some, Option.some.injEq] at h; obtain ⟨b, h1, rfl⟩ := h; exact fresh_box h1 ho
  · rename_i ho
    simp only [ob_some] at h; obtain ⟨ti, h1, h⟩ := h
    split at h
    · rename_i hd
      simp only [ob_some] at h; obtain ⟨te, h3, z, hz, g, hg, k', hk', h⟩ := h
      split at h
      · rename_i hc
        cases h
        rw [Bool.and_eq_true] at hc
        exact fresh_slice hE h1 hd h3 hz hg hk' (Nat.le_of_ble_eq_true hc.1) (Nat.eq_of_beq_eq_true hc.2) ho
      · cases h
    · cases h
  · rename_i ho
    simp only [ob_some] at h; obtain ⟨ti, h1, h⟩ := h
    split at h
    · rename_i hd
      simp only [ob_some, Option.some.injEq] at h; obtain ⟨te, h3, rfl⟩ := h
      exact fresh_make hE h1 hd h3 ho
    · cases h
  · rename_i ho
    split at h
    · cases h; exact fresh_map ho
    · cases h
  · rename_i ho
    simp only [ob_some] at h; obtain ⟨ts, h1, td, h2, h⟩ := h
    split at h
    · rename_i hs hd
      simp only [ob_some] at h; obtain ⟨te, h3, h⟩ := h
      split at h
      · rename_i hb; cases h; exact fresh_str hE h1 h2 hs hd h3 hb ho
      · cases h
    · cases h
  · cases h
end
end Go.Xq
