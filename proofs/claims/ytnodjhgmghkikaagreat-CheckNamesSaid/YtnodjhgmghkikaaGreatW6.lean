/- A part of the proof of this seat's statement. Conditions: in each theorem. -/
import Derived.Test.YtnodjhgmghkikaaGreatW5
namespace Go.Xq
structure St (m : Ren) (H : AH) (w : World) (m2 : Ren) (H2 : AH) (w2 : World) : Prop where
  rel : Rel m2 H2 w2
  ext : Ext H.next m m2
  next : H.next ≤ H2.next
  os : w2.os = w.os
  out : w2.output = w.output
  size : w.heap.size ≤ w2.heap.size
  keep : ∀ k, k < w.heap.size → (∀ b i, m b = some i → H.get b ≠ none → i.blk ≠ k) → w2.heap[k]? = w.heap[k]?
  new : ∀ b i, m2 b = some i → H2.get b ≠ none → w.heap.size ≤ i.blk ∨ ∃ b0 i0, m b0 = some i0 ∧ H.get b0 ≠ none ∧ i0.blk = i.blk
section
variable {m m2 m3 : Ren} {H H2 H3 : AH} {w w2 w3 : World}
theorem St.le (hr : Rel m H w) (h : St m H w m2 H2 w2) : Le m m2 := hr.le h.ext
theorem St.refl (hr : Rel m H w) : St m H w m H w := ⟨hr, Ext.refl _ _, Nat.le_refl _, rfl, rfl, Nat.le_refl _, fun _ _ _ => rfl, fun b i h hl => .inr ⟨b, i, h, hl, rfl⟩⟩
theorem St.trans (h : St m H w m2 H2 w2) (h' : St m2 H2 w2 m3 H3 w3) : St m H w m3 H3 w3 := by
  refine ⟨h'.rel, h.ext.trans h'.ext h.next, Nat.le_trans h.next h'.next, h'.os.trans h.os, h'.out.trans h.out, Nat.le_trans h.size h'.size, ?_, ?_⟩
  · intro k hk hn
    rw [h'.keep k (Nat.lt_of_lt_of_le hk h.size), h.keep k hk hn]
    intro b i hb hl e
    rcases h.new b i hb hl with h1 | ⟨b0, i0, h1, h0, h2⟩
    · omega
    · exact hn b0 i0 h1 h0 (by omega)
  · intro b i hb hl
    rcases h'.new b i hb hl with h1 | ⟨b0, i0, h1, h0, h2⟩
    · exact .inl (Nat.le_trans h.size h1)
    · rcases h.new b0 i0 h1 h0 with h3 | ⟨b1, i1, h3, h5, h4⟩
      · exact .inl (by omega)
      · exact .inr ⟨b1, i1, h3, h5, by omega⟩
theorem St.world (hr : Rel m H w) (hh : w2.heap = w.heap) (ho : w2.os = w.os) (hp : w2.output = w.output) : St m H w m H w2 :=
  ⟨hr.world hh, Ext.refl _ _, Nat.le_refl _, ho, hp, by rw [hh]; exact Nat.le_refl _, fun k _ _ => by rw [hh], fun b i h hl => .inr ⟨b, i, h, hl, rfl⟩⟩
theorem St.upd (hr : Rel m H w) {b : Nat} {o o2 : AObj} {i : BI} {x2 : Obj} (hb : H.get b = some o) (hi : m b = some i)
    (ho : OR m x2 o2 i) (hw : w2.heap = w.heap.setIfInBounds i.blk x2) (hos : w2.os = w.os) (hout : w2.output = w.output) : St m H w m (H.set b o2) w2 := by
  refine ⟨hr.upd hb hi ho hw, Ext.refl _ _, by simp, hos, hout, by rw [hw]; simp, ?_, fun b' i' h hl => .inr ⟨b', i', h, ?_, rfl⟩⟩
  · intro k _ hn
    rw [hw, Array.getElem?_setIfInBounds_ne (hn b i hi (by rw [hb]; simp))]
  · by_cases e : b' = b
    · rw [e, hb]; simp
    · rw [AH.get_set, if_neg e] at hl; exact hl
theorem St.newBlk (hr : Rel m H w) {o : AObj} {x : Obj} {i : BI} (hi : i.blk = w.heap.size) (hw : w2.heap = w.heap.push x) (ho : OR (m.ext H.next i) x o i)
    (hos : w2.os = w.os) (hout : w2.output = w.output) : St m H w (m.ext H.next i) (H.new o) w2 := by
  refine ⟨hr.new hi hw ho, Ext.ext _ _ _, by simp, hos, hout, by rw [hw]; simp, ?_, ?_⟩
  · intro k hk _
    rw [hw, Array.getElem?_push, if_neg (by omega)]
  · intro b j hb hl
    by_cases e : b = H.next
    · subst e; rw [Ren.ext_same] at hb; cases hb; exact .inl (by omega)
    · rw [Ren.ext_ne _ _ e] at hb
      rw [AH.get_new, if_neg e] at hl
      exact .inr ⟨b, j, hb, hl, rfl⟩
theorem St.moved (hr : Rel m H w) {b : Nat} {o o2 : AObj} {i i2 : BI} {x2 : Obj} (hb : H.get b = some o) (hi : m b = some i) (hi2 : i2.blk = i.blk)
    (hw : w2.heap = w.heap.setIfInBounds i.blk x2) (ho : OR (m.ext H.next i2) x2 o2 i2) (hos : w2.os = w.os) (hout : w2.output = w.output) :
    St m H w (m.ext H.next i2) ((H.kill b).new o2) w2 := by
  refine ⟨hr.moved hb hi hi2 hw ho, Ext.ext _ _ _, by simp, hos, hout, by rw [hw]; simp, ?_, ?_⟩
  · intro k _ hn
    rw [hw, Array.getElem?_setIfInBounds_ne (hn b i hi (by rw [hb]; simp))]
  · intro b' j hb' hl
    by_cases e : b' = H.next
    · subst e; rw [Ren.ext_same] at hb'; cases hb'; exact .inr ⟨b, i, hi, by rw [hb]; simp, hi2.symm⟩
    · rw [Ren.ext_ne _ _ e] at hb'
      rw [AH.get_new, AH.next_kill, if_neg e, AH.get_kill] at hl
      by_cases e2 : b' = b
      · rw [if_pos e2] at hl; exact absurd rfl hl
      · rw [if_neg e2] at hl; exact .inr ⟨b', j, hb', hl, rfl⟩
theorem St.kill (hr : Rel m H w) (b : Nat) : St m H w m (H.kill b) w :=
  ⟨hr.kill b, Ext.refl _ _, by simp, rfl, rfl, Nat.le_refl _, fun _ _ _ => rfl, fun b' i h hl => .inr ⟨b', i, h, by
    rw [AH.get_kill] at hl
    by_cases e : b' = b
    · rw [if_pos e] at hl; exact absurd rfl hl
    · rw [if_neg e] at hl; exact hl, rfl⟩⟩
end
theorem toTr_get : ∀ {l : AV} {m : Ren} {vs : List Value} {i : Nat} {t : Tr AV} {k : Nat}, VL m l vs →
    (toTr l i t).get (bits k) = if i ≤ k ∧ k < i + vs.length then AV.nth (k - i) l else t.get (bits k)
  | _, _, _, i, t, k, .nil => by rw [if_neg (by simp)]; rfl
  | _, m, _, i, t, k, .cons a v l vs h hl => by
    show (toTr l (i + 1) (t.put (some a) (bits i))).get (bits k) = _
    rw [toTr_get hl]
    simp only [List.length_cons]
    by_cases e : k = i
    · subst e
      rw [if_neg (by omega), if_pos (by omega), Tr.get_put_same]
      simp [AV.nth, onCons]
    · rw [Tr.get_put_ne _ _ _ _ (bits_ne (Ne.symm e))]
      by_cases h1 : i + 1 ≤ k ∧ k < i + 1 + vs.length
      · rw [if_pos h1, if_pos (by omega)]
        obtain ⟨j, rfl⟩ : ∃ j, k = i + 1 + j := ⟨k - (i + 1), by omega⟩
        rw [show i + 1 + j - i = j + 1 from by omega, show i + 1 + j - (i + 1) = j from by omega]
        simp [AV.nth, onCons]
      · rw [if_neg h1, if_neg (by omega)]
theorem mkBy_ok {m : Ren} {e : Nat} {opn : Bool} {l : AV} {x : AObj} {vs more : List Value} {fr : Nat × Nat} {i : BI} (hl : VL m l vs) (h : mkBy e opn l = some x)
    (hi : i.base = 0) (hsz : i.sz = vs.length + more.length) (hes : i.es = 1) (hf : FZ fr i.sz) : OR m (.cells (vs ++ more).toArray e fr) x i := by
  simp only [mkBy, ob_some, Option.some.injEq] at h
  obtain ⟨n, h1, rfl⟩ := h
  obtain ⟨_, h2⟩ := leA_ok hl h1
  rw [hl.len]
  refine .bys _ _ _ _ _ _ _ (by simp [hsz]) hes (by omega) hf ?_
  intro k hk
  rw [hi, Nat.zero_add, List.getElem?_toArray, List.getElem?_append_left hk]
  exact h2 k hk
theorem mkCs_ok {m : Ren} {e es : Nat} {opn : Bool} {z l : AV} {x : AObj} {vs more : List Value} {i : BI} (hl : VL m l vs) (h : mkCs e es z opn l = some x)
    (hi : i.base = 0) (hsz : i.sz = vs.length + more.length) (hes : i.es = es) : OR m (.cells (vs ++ more).toArray e (0, 0)) x i := by
  cases h
  rw [hl.len]
  refine .cs _ _ _ _ _ _ _ _ _ (by simp [hsz]) hes (by omega) rfl ?_
  intro k v hk
  simp only [rdCs, bt_some] at hk
  obtain ⟨h1, h2⟩ := hk
  have hk : k < vs.length := by simpa [Nat.blt_eq] using h1
  rw [toTr_get hl, if_pos (by omega)] at h2
  simp only [Nat.sub_zero] at h2
  have : ∃ a, AV.nth k l = some a := by
    have aux : ∀ {l : AV} {vs : List Value} {k : Nat}, VL m l vs → k < vs.length → ∃ a, AV.nth k l = some a := by
      intro l vs k hl
      induction hl using VL.rec (motive_1 := fun _ _ _ => True) generalizing k with
      | nil => intro h; simp at h
      | cons a v l vs h hl _ ih =>
        intro h
        cases k with
        | zero => exact ⟨a, rfl⟩
        | succ k => simpa [AV.nth, onCons] using ih (by simpa using h)
      | _ => trivial
    exact aux hl hk
  obtain ⟨a, ha⟩ := this
  rw [ha] at h2
  simp only [oc_some, Option.some.injEq] at h2
  subst h2
  obtain ⟨u, hu, hv⟩ := hl.nth ha
  refine ⟨u, ?_, hv⟩
  rw [hi, Nat.zero_add, List.getElem?_toArray, List.getElem?_append_left hk]
  exact hu
def FreshOk (P : Program) (k : FrK) (o : Oper) : Prop :=
  ∀ (m : Ren) (w : World) (T : Tr AV) (ρ : Operand → Value) (b0 : Nat) (v : AV) (x : AObj), ER m T ρ → k.f T b0 = some (v, x) →
    ∃ v' y w' i, (execOp ρ o).run P w = .ok (.value v') w' ∧ w'.heap = w.heap.push y ∧ w'.os = w.os ∧ w'.output = w.output ∧ i.blk = w.heap.size ∧
      ∀ m', Le m m' → m' b0 = some i → VR m' v v' ∧ OR m' y x i
section
variable {P : Program} {E : Env} (hE : TyOk P E) {o : Oper}
theorem isZ8_eq {z : AV} (h : isZ8 z = true) : z = .int .u8 0 := by
  unfold isZ8 at h
  split at h
  · rename_i k x
    rw [Bool.and_eq_true] at h
    have h1 : kIx k = kIx .u8 := Nat.eq_of_beq_eq_true h.1
    rw [kIx_inj h1, eqI_iff.1 h.2]
  · cases h
theorem isByteT_eq {ti : TI} (h : isByteT ti = true) : ti.d = .int .u8 ∧ ti.size = 1 := by
  unfold isByteT at h
  rw [Bool.and_eq_true] at h
  refine ⟨?_, Nat.eq_of_beq_eq_true h.2⟩
  have := h.1
  unfold isByteD at this
  split at this
  · assumption
  · cases this
theorem wrap_i64 {n : Nat} (h : n < 9223372036854775808) : IntKind.i64.wrap (n : Int) = n := by
  rw [IntWalk.i64_in _ (by constructor <;> omega)]
theorem run_asInt {k : IntKind} {n : Int} {w : World} : (asInt (.int k n)).run P w = .ok n w := rfl
theorem run_newRow {e : TypeId} {c : Array Value} {w : World} : (newRow e c).run P w = .ok ⟨w.heap.size, 0, none⟩ { w with heap := w.heap.push (.cells c e) } := by
  simp [newRow, Result.andThen]
include hE
theorem mkZero_ok {e n : Nat} {x : AObj} (h : mkZero E e n = some x) (w : World) : ∃ ti i zv, tyOf E e = some ti ∧ (typeInfo e).run P w = .ok i w ∧ i.size = ti.size ∧ i.bytes = ti.bytes ∧ (zeroValue e).run P w = .ok zv w ∧ zv.cells.size = ti.size ∧
    ∀ (c : Array Value) (j : BI) (m : Ren), c.size = n * ti.size → (∀ k, k < n * ti.size → c[k]? = zv.cells[k % ti.size]?) → j.base = 0 → j.sz = n * ti.size → j.es = ti.size → OR m (.cells c e (0, 0)) x j := by
  simp only [mkZero, ob_some] at h
  obtain ⟨ti, h1, z, hz, h⟩ := h
  obtain ⟨i, g1, g2, g3, _⟩ := run_typeInfo (w := w) hE h1
  obtain ⟨zv, g4, g5, _⟩ := run_zeroValue (w := w) hE h1 hz
  split at h
  · rename_i hb
    simp only [bt_some, Option.some.injEq] at h
    obtain ⟨h2, rfl⟩ := h
    have hz8 := isZ8_eq h2; subst hz8
    have e1 : zv = .int .u8 0 := (g5 fun _ => none).int_inv
    obtain ⟨_, hs⟩ := isByteT_eq hb
    subst e1
    refine ⟨ti, i, _, h1, g1, g2, g3, g4, by simp [Value.cells, hs], fun c j m hc hall hj1 hj2 hj3 => ?_⟩
    refine .bys _ _ _ _ _ _ _ (by omega) (by omega) (by simp [hj1, hj2, hs]) (.inl rfl) ?_
    intro k hk
    rw [hj1, Nat.zero_add, hall k (by simp [hs, hk]), hs, Nat.mod_one, byteAt_zero]
    rfl
  · simp only [bt_some, Option.some.injEq] at h
    obtain ⟨h2, rfl⟩ := h
    have hl := (g5 fun _ => none).cellsT.len
    rw [Nat.eq_of_beq_eq_true h2] at hl
    refine ⟨ti, i, zv, h1, g1, g2, g3, g4, by simpa using hl.symm, fun c j m hc hall hj1 hj2 hj3 => ?_⟩
    refine .cs _ _ _ _ _ _ _ _ _ (by omega) hj3 (by simp [hj1, hj2]) rfl ?_
    intro k v hk
    simp only [rdCs, bt_some, Tr.get_e, oc_none] at hk
    obtain ⟨h3, h4⟩ := hk
    have hk : k < n * ti.size := by simpa [Nat.blt_eq] using h3
    obtain ⟨u, hu, hv⟩ := (g5 m).cellsT.nth h4
    refine ⟨u, ?_, hv⟩
    have hu' : zv.cells.toList[k % ti.size]? = some u := hu
    rw [hj1, Nat.zero_add, hall k hk]
    simpa using hu'
theorem fresh_alloc {t : Nat} {b : AObj} (h : mkZero E t 1 = some b) (ho : o.op = .alloc t) : FreshOk P ⟨frAlloc b⟩ o := by
  intro m w T ρ b0 v x he hk
  cases hk
  obtain ⟨ti, i, zv, h1, h2, h3, _, h4, h5, h6⟩ := mkZero_ok hE h w
  refine ⟨.pointer (some ⟨w.heap.size, 0, none⟩), .cells zv.cells t (0, 0), { w with heap := w.heap.push (.cells zv.cells t) }, ⟨w.heap.size, 0, ti.size, ti.size⟩, ?_, rfl, rfl, rfl, rfl, ?_⟩
  · simp only [execOp, ho]; apply run_v
    simp [Instr.alloc, h4, Result.andThen, newVar, run_newRow]
  · intro m' _ hm
    refine ⟨.ptr b0 0 _ hm, h6 _ _ _ (by omega) (fun k hk => by rw [Nat.mod_eq_of_lt (by omega)]) rfl (by simp) rfl⟩
omit hE in
theorem blkK_ok {e : Nat} {k : BK} (h : blkK E e = some k) {opn : Bool} {l : AV} {x : AObj} (hk : k.f opn l = some x) : ∃ ti, tyOf E e = some ti ∧
    ∀ (m : Ren) (vs more : List Value) (i : BI), VL m l vs → i.base = 0 → i.sz = vs.length + more.length → i.es = ti.size → OR m (.cells (vs ++ more).toArray e (0, 0)) x i := by
  simp only [blkK, ob_some] at h
  obtain ⟨ti, h1, h⟩ := h
  refine ⟨ti, h1, fun m vs more i hl hb hsz hes => ?_⟩
  split at h
  · rename_i hb2
    cases h
    exact mkBy_ok hl hk hb hsz (hes.trans (isByteT_eq hb2).2) (.inl rfl)
  · simp only [ob_some, Option.some.injEq] at h
    obtain ⟨z, _, rfl⟩ := h
    exact mkCs_ok hl hk hb hsz hes
omit hE in
theorem fresh_box {t : Nat} {x : Operand} {k : BK} (h : blkK E t = some k) (ho : o.op = .box t x) : FreshOk P ⟨frBox k x⟩ o := by
  intro m w T ρ b0 v b he hk
  simp only [frBox, ob_some, Option.some.injEq, Prod.mk.injEq] at hk
  obtain ⟨a, g1, b', g2, rfl, rfl⟩ := hk
  obtain ⟨ti, h1, h2⟩ := blkK_ok h g2
  refine ⟨.pointer (some ⟨w.heap.size, 0, none⟩), .cells (ρ x).cells t (0, 0), { w with heap := w.heap.push (.cells (ρ x).cells t) }, ⟨w.heap.size, 0, (ρ x).cells.size, ti.size⟩, ?_, rfl, rfl, rfl, rfl, ?_⟩
  · simp only [execOp, ho]; apply run_v
    simp [Instr.box, Result.andThen, newVar, run_newRow]
  · intro m' hle hm
    refine ⟨.ptr b0 0 _ hm, ?_⟩
    have := h2 m' (ρ x).cells.toList [] ⟨w.heap.size, 0, (ρ x).cells.size, ti.size⟩ (((he x a g1).mono hle).cellsT) rfl (by simp) rfl
    simpa using this
omit hE in
theorem zerosA_ok {m : Ren} {z : AV} {zs : List Value} (hz : VL m z zs) : ∀ n, VL m (zerosA z n) (List.replicate n zs).flatten
  | 0 => .nil
  | n + 1 => by rw [List.replicate_succ, List.flatten_cons]; exact hz.app (zerosA_ok hz n)
omit hE in
theorem zeros_flat (zs : List Value) : ∀ (n k : Nat), k < n * zs.length → (List.replicate n zs).flatten[k]? = zs[k % zs.length]?
  | 0, k, h => by simp at h
  | n + 1, k, h => by
    rw [List.replicate_succ, List.flatten_cons]
    by_cases hk : k < zs.length
    · rw [List.getElem?_append_left hk, Nat.mod_eq_of_lt hk]
    · rw [List.getElem?_append_right (by omega), zeros_flat zs n (k - zs.length) (by rw [Nat.succ_mul] at h; omega), ← Nat.mod_eq_sub_mod (by omega : k ≥ zs.length)]
omit hE in
theorem zeros_arr (zs : Array Value) (n : Nat) : ((Array.range (n * zs.size)).map fun i => zs[i % zs.size]!) = (List.replicate n zs.toList).flatten.toArray := by
  apply Array.ext_getElem?
  intro k
  have hlen : (List.replicate n zs.toList).flatten.length = n * zs.size := by simp
  by_cases hk : k < n * zs.size
  · have e0 : (List.replicate n zs.toList).flatten.toArray[k]? = zs.toList[k % zs.toList.length]? := by
      rw [List.getElem?_toArray, zeros_flat _ _ _ (by rw [Array.length_toList]; exact hk)]
    rw [e0]
    have hz : 0 < zs.size := by
      rcases Nat.eq_zero_or_pos zs.size with h | h
      · rw [h] at hk; simp at hk
      · exact h
    have hm : k % zs.size < zs.size := Nat.mod_lt _ hz
    simp [hk, hm]
  · rw [Array.getElem?_eq_none (by simp; omega), Array.getElem?_eq_none (by simp; omega)]
theorem fresh_slice {t e n : Nat} {ti te : TI} {z : AV} {parts : Array (Nat × Operand)} {g : FlK} {k : BK} (h1 : tyOf E t = some ti) (h2 : ti.d = .slice e) (h3 : tyOf E e = some te) (hz : te.zero = some z)
    (hg : fillK E (.array n e) parts.toList = some g) (hk : blkK E e = some k) (hs : n * te.size ≤ 16777216) (hl : AV.len (cellsA z) = te.size) (ho : o.op = .buildSlice t n parts) : FreshOk P ⟨frSlice n (zerosA (cellsA z) n) g k⟩ o := by
  intro m w T ρ b0 v b he hf
  simp only [frSlice, ob_some, Option.some.injEq, Prod.mk.injEq] at hf
  obtain ⟨l, g1, b', g2, rfl, rfl⟩ := hf
  obtain ⟨zv, q1, q2, _⟩ := run_zeroValue (w := w) hE h3 hz
  obtain ⟨te', h3', h4⟩ := blkK_ok hk g2
  rw [h3] at h3'; cases h3'
  have hzs : zv.cells.size = te.size := by have := (q2 m).cellsT.len; rw [hl] at this; simpa using this.symm
  obtain ⟨cs', h5, h6⟩ := fillK_ok (E := E) (pl := fun i => some (i * te.size, te.size)) (d := .array n e) (by
    intro i p hp
    simp only [placeOf, ob_some, Option.some.injEq] at hp
    obtain ⟨tf, h2, rfl⟩ := hp
    rw [h3] at h2; cases h2; rfl) he hg (cs := (List.replicate n zv.cells.toList).flatten.toArray) (by simpa using zerosA_ok (q2 m).cellsT n) g1
  refine ⟨.slice (some ⟨w.heap.size, 0, none⟩) n n, .cells cs' e (0, 0), { w with heap := w.heap.push (.cells cs' e) }, ⟨w.heap.size, 0, cs'.size, te.size⟩, ?_, rfl, rfl, rfl, rfl, ?_⟩
  · simp only [execOp, ho]; apply run_v
    have harr : ((Array.range (n * te.size)).map fun i => (if n * te.size = 0 then #[] else zv.cells)[i % (if n * te.size = 0 then #[] else zv.cells).size]!) = (List.replicate n zv.cells.toList).flatten.toArray := by
      by_cases h0 : n * te.size = 0
      · simp only [h0, if_true]
        have : (List.replicate n zv.cells.toList).flatten = [] := by
          apply List.eq_nil_of_length_eq_zero
          simp [hzs, h0]
        rw [this]; simp
      · simp only [h0, if_false]
        rw [← hzs]; exact zeros_arr _ _
    simp only [Instr.buildSlice, Sem.run_bind, run_underlying hE h1, Result.andThen, h2, run_sizeOf hE h3]
    rw [if_neg (by omega)]
    by_cases h0 : n * te.size = 0
    · simp only [if_pos h0] at harr ⊢
      simp only [Sem.run_bind, Sem.run_pure, Result.andThen, harr, Array.toList_map, h5, run_newRow]
    · simp only [if_neg h0] at harr ⊢
      simp only [Sem.run_bind, Sem.run_pure, Result.andThen, q1, harr, Array.toList_map, h5, run_newRow]
  · intro m' hle hm
    refine ⟨.sl b0 0 n n _ hm, ?_⟩
    have := h4 m' cs'.toList [] ⟨w.heap.size, 0, cs'.size, te.size⟩ (h6.mono hle) rfl (by simp) rfl
    simpa using this
theorem fresh_make {t e : Nat} {l c : Operand} {ti te : TI} (h1 : tyOf E t = some ti) (h2 : ti.d = .slice e) (h3 : tyOf E e = some te) (ho : o.op = .makeSlice t l c) : FreshOk P ⟨frMake E e te.bytes l c⟩ o := by
  intro m w T ρ b0 v b he hf
  simp only [frMake, ob_some, bt_some, Option.some.injEq, Prod.mk.injEq] at hf
  obtain ⟨al, g1, ac, g2, nl, g3, nc, g4, c1, c2, c3, b', g5, rfl, rfl⟩ := hf
  have c1 := Nat.le_of_ble_eq_true c1
  have c2 : te.bytes * nc ≤ 281474976710656 := Nat.le_of_ble_eq_true c2
  have c3 := Nat.le_of_ble_eq_true c3
  obtain ⟨kl, el⟩ := natOf_inv g3 (he l al g1)
  obtain ⟨kc, ec⟩ := natOf_inv g4 (he c ac g2)
  obtain ⟨te', i, zv, h3', q1, q2, q3, q4, q5, q6⟩ := mkZero_ok hE g5 w
  rw [h3] at h3'; cases h3'
  have w1 : IntKind.i64.wrap (nl : Int) = nl := wrap_i64 (by omega)
  have w2 : IntKind.i64.wrap (nc : Int) = nc := wrap_i64 (by omega)
  refine ⟨.slice (some ⟨w.heap.size, 0, none⟩) nl nc, .cells (List.replicate nc zv.cells.toList).flatten.toArray e (0, 0), { w with heap := w.heap.push (.cells (List.replicate nc zv.cells.toList).flatten.toArray e) },
    ⟨w.heap.size, 0, nc * te.size, te.size⟩, ?_, rfl, rfl, rfl, rfl, ?_⟩
  · simp only [execOp, ho]; apply run_v
    have harr : ((Array.range (nc * te.size)).map fun i => (if nc * te.size = 0 then #[] else zv.cells)[i % (if nc * te.size = 0 then #[] else zv.cells).size]!) = (List.replicate nc zv.cells.toList).flatten.toArray := by
      by_cases h0 : nc * te.size = 0
      · simp only [h0, if_true]
        have : (List.replicate nc zv.cells.toList).flatten = [] := by
          apply List.eq_nil_of_length_eq_zero
          simp [q5, h0]
        rw [this]; simp
      · simp only [h0, if_false]
        rw [← q5]; exact zeros_arr _ _
    simp only [Instr.makeSlice, Sem.run_bind, run_underlying hE h1, Result.andThen, h2, el, ec, run_asInt, q1, w1, w2, q3]
    rw [if_neg (by simp; omega)]
    simp only [Sem.run_bind, Result.andThen, run_askRoom, run_sizeOf hE h3, Int.toNat_natCast]
    by_cases h0 : nc * te.size = 0
    · simp only [if_pos h0] at harr ⊢
      simp only [Sem.run_bind, Sem.run_pure, Result.andThen, harr, run_newRow]
    · simp only [if_neg h0] at harr ⊢
      simp only [Sem.run_bind, Sem.run_pure, Result.andThen, q4, harr, run_newRow]
  · intro m' hle hm
    refine ⟨.sl b0 0 nl nc _ hm, q6 _ _ _ (by rw [List.size_toArray, List.length_flatten, List.map_replicate, List.sum_replicate_nat, Array.length_toList, q5]) ?_ rfl rfl rfl⟩
    intro k hk
    rw [List.getElem?_toArray, zeros_flat _ _ _ (by rw [Array.length_toList, q5]; exact hk)]
    simp [q5]
end
end Go.Xq
namespace Go.Xq
section
variable {P : Program} {E : Env} (hE : TyOk P E) {o : Oper}
theorem fresh_map {t : Nat} (ho : o.op = .makeMap t none) : FreshOk P ⟨fun _ b0 => some (.mp b0, .mp [] 0)⟩ o := by
  intro m w T ρ b0 v b he hf
  cases hf
  refine ⟨.map (some w.heap.size), .map #[] 0, { w with heap := w.heap.push (.map #[] 0) }, ⟨w.heap.size, 0, 0, 0⟩, ?_, rfl, rfl, rfl, rfl, fun m' hle hm => ⟨.mp b0 _ hm, .mp _ _ _ _ .nil⟩⟩
  simp only [execOp, ho, Option.map_none]; apply run_v
  simp [Instr.makeMap, Result.andThen]
theorem bytes_vals (s : ByteArray) : ∀ k, k < s.data.toList.length → (s.data.map fun b => Value.int .u8 b.toNat)[k]? = some (.int .u8 (.ofNat (byteAt (leNat s.data.toList) k))) := by
  intro k hk
  have hk' : k < s.data.size := by simpa using hk
  rw [Array.getElem?_map, Array.getElem?_eq_getElem hk']
  have : s.data.toList[k]? = some s.data[k] := by simp
  rw [byteAt_leNat this]
  rfl
theorem run_cap (need sc : Nat) (e : TypeId) (w : World) : ∃ c, (choose (.appendCap need sc e)).run P w = .ok c { w with drawn := w.drawn + 1 } ∧ need ≤ c := by
  refine ⟨need + w.tape w.drawn (.appendCap need sc e) % (2 ^ 63 - need), ?_, Nat.le_add_right _ _⟩
  rw [run_choose]
  simp only [Question.forced, Question.cut, Bool.false_eq_true, if_false]
theorem run_markNew {w w0 : World} {c : Array Value} {e : TypeId} (hw : w = { w0 with heap := w0.heap.push (.cells c e) }) :
    (markStringish ⟨w0.heap.size, 0, none⟩).run P w = .ok () { w0 with heap := w0.heap.push (.cells c e (c.size, c.size + 1)) } := by
  subst hw
  simp only [markStringish, Sem.run_bind, run_shape, Result.andThen]
  have : ({ w0 with heap := w0.heap.push (.cells c e) } : World).shape? w0.heap.size = some (e, c.size) := by
    simp [World.shape?]
  rw [this]
  simp only [run_freeze]
  congr 1
  simp only [World.freeze]
  simp only [show (1 : Nat) ≠ 0 from by decide, if_false]
  congr 1
  apply Array.ext_getElem?
  intro k
  rw [Array.getElem?_modify]
  by_cases hk : w0.heap.size = k
  · subst hk; simp
  · rw [if_neg hk, Array.getElem?_push, Array.getElem?_push]
    simp [Ne.symm hk]
include hE
theorem fresh_str {s d e : Nat} {x : Operand} {ts td te : TI} (h1 : tyOf E s = some ts) (h2 : tyOf E d = some td) (hs : ts.d = .string) (hd : td.d = .slice e) (h3 : tyOf E e = some te) (hb : isByteD te.d = true)
    (ho : o.op = .convert s d x) : FreshOk P ⟨frStr e x⟩ o := by
  intro m w T ρ b0 v b he hf
  simp only [frStr, ob_some, onStr_some, Option.some.injEq, Prod.mk.injEq] at hf
  obtain ⟨a, g1, n, y, rfl, rfl, rfl⟩ := hf
  obtain ⟨st, e1, rfl, rfl⟩ := (he x _ g1).str_inv
  have hbd : te.d = .int .u8 := by
    unfold isByteD at hb
    split at hb
    · assumption
    · cases hb
  obtain ⟨cap, w1, q1, q2, q3, q4, q5⟩ : ∃ cap w1, (choose (.appendCap st.size 0 e)).run P w = .ok cap w1 ∧ st.size ≤ cap ∧ w1.heap = w.heap ∧ w1.os = w.os ∧ w1.output = w.output := by
    obtain ⟨c, h1, h2⟩ := run_cap (P := P) st.size 0 e w
    exact ⟨c, _, h1, h2, rfl, rfl, rfl⟩
  let cs : Array Value := (st.data.map fun b => Value.int .u8 b.toNat) ++ Array.replicate (cap - st.size) (.int .u8 0)
  have hcs : cs.size = cap := by simp [cs]; omega
  refine ⟨.slice (some ⟨w.heap.size, 0, none⟩) st.size cap, .cells cs e (cs.size, cs.size + 1), { w1 with heap := w1.heap.push (.cells cs e (cs.size, cs.size + 1)) }, ⟨w.heap.size, 0, cap, 1⟩, ?_, by rw [q3], q4, q5, rfl, ?_⟩
  · simp only [execOp, ho, e1]; apply run_v
    simp only [convert, Sem.run_bind, run_underlying hE h1, run_underlying hE h2, run_underlying hE h3, Result.andThen, hs, hd, hbd, Conv.stringToBytes, q1, run_newRow, Sem.run_pure]
    have := run_markNew (P := P) (w0 := w1) (c := cs) (e := e) rfl
    rw [this, q3]
  · intro m' hle hm
    have hsz : st.data.toList.length = st.size := by simp
    refine ⟨?_, ?_⟩
    · rw [hsz]
      have := VR.slo (m := m') b0 0 st.size cap _ hm Nat.one_pos (by simp) q2
      simpa using this
    · refine .bys _ _ _ _ _ _ _ hcs rfl (by simp; omega) (.inr (by simp [hcs])) ?_
      intro k hk
      have hk2 : k < (st.data.map fun b => Value.int .u8 b.toNat).size := by simpa using hk
      show cs[0 + k]? = _
      rw [Nat.zero_add, Array.getElem?_append_left hk2]
      exact bytes_vals st k hk
theorem freshK_ok {k : FrK} (h : freshK E o.op = some k) : FreshOk P k o := by
  unfold freshK at h
  split at h
  · rename_i ho; simp only [ob_some, Option.some.injEq] at h; obtain ⟨b, h1, rfl⟩ := h; exact fresh_alloc hE h1 ho
  · rename_i ho; simp only [ob_some, Option.some.injEq] at h; obtain ⟨b, h1, rfl⟩ := h; exact fresh_box h1 ho
  · rename_i ho
    simp only [ob_some] at h; obtain ⟨ti, h1, h⟩ := h
    split at h
    · rename_i hd
      simp only [ob_some] at h; obtain ⟨te, h3, z, hz, g, hg, k', hk', h⟩ := h
      split at h
      · rename_i hc
        cases h
        rw [Bool.and_eq_true] at hc
        exact fresh_slice hE h1 hd h3 hz hg hk' (Nat.le_of_ble_eq_true hc.1) (Nat.eq_of_beq_eq_true hc.2) ho
      · cases h
    · cases h
  · rename_i ho
    simp only [ob_some] at h; obtain ⟨ti, h1, h⟩ := h
    split at h
    · rename_i hd
      simp only [ob_some, Option.some.injEq] at h; obtain ⟨te, h3, rfl⟩ := h
      exact fresh_make hE h1 hd h3 ho
    · cases h
  · rename_i ho
    split at h
    · cases h; exact fresh_map ho
    · cases h
  · rename_i ho
    simp only [ob_some] at h; obtain ⟨ts, h1, td, h2, h⟩ := h
    split at h
    · rename_i hs hd
      simp only [ob_some] at h; obtain ⟨te, h3, h⟩ := h
      split at h
      · rename_i hb; cases h; exact fresh_str hE h1 h2 hs hd h3 hb ho
      · cases h
    · cases h
  · cases h
end
end Go.Xq
