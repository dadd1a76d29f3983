/- A part of the proof of this seat's statement. Conditions: in each theorem. -/
import Derived.Test.YtnodjhgmghkikaaGreatW9
namespace Go.Xq
variable [Dealing]
section
variable {P : Program} {E : Env} (hE : TyOk P E) {o : Oper}
omit [Dealing] in
theorem rdCells_len {x : AObj} : ∀ {n i : Nat} {l : AV}, rdCells x n i = some l → AV.len l = n
  | 0, _, _, h => by cases h; rfl
  | n + 1, i, l, h => by
    simp only [rdCells, ob_some] at h
    obtain ⟨v, _, l', h2, h3⟩ := h
    cases h3
    show (AV.len l').succ = _
    rw [rdCells_len h2]
omit [Dealing] in
theorem firstA_len {H : AH} {es n L : Nat} {a l : AV} (hL : lengthA a = some L) (hn : n ≤ L) (h : firstA H es n a = some l) : AV.len l = n * es := by
  cases a <;> simp only [firstA, reduceCtorEq] at h
  · cases h; simp [lengthA] at hL; subst hL; have : n = 0 := by omega
    subst this; simp [AV.len]
  · simp only [bt_some, Nat.beq_eq] at h
    obtain ⟨h1, h2⟩ := h
    subst h1
    rw [rdCells_len h2, Nat.mul_one]
  · cases n with
    | zero => simp at h; subst h; simp [AV.len]
    | succ n =>
      simp only [nc_succ, ob_some] at h
      obtain ⟨x, _, h⟩ := h
      exact rdCells_len h
omit [Dealing] in
theorem bytesA_len {m : Ren} {H : AH} {w : World} (hr : Rel m H w) {a : AV} {v : Value} {L L' num : Nat} (hv : VR m a v) (hL : lengthA a = some L) (h : bytesA H a = some (L', num)) : L' = L ∧ num < 256 ^ L := by
  cases a <;> simp [bytesA, lengthA] at h hL
  · obtain ⟨rfl, rfl⟩ := h; subst hL; exact ⟨rfl, by simp⟩
  · obtain ⟨rfl, rfl⟩ := h; subst hL
    obtain ⟨s, _, rfl, rfl⟩ := hv.str_inv
    exact ⟨rfl, leNat_lt _⟩
  · rename_i b' off' len' c'
    subst hL
    cases len' with
    | zero => simp [bytesSl] at h; obtain ⟨rfl, rfl⟩ := h; exact ⟨rfl, by simp⟩
    | succ j =>
      obtain ⟨ad, c', e1, _, hcase⟩ := hv.sl_inv
      rcases hcase with ⟨i', hi', _⟩ | ⟨e, _⟩
      · have := bytesSl_ok hr (fun _ => hi') h
        exact ⟨this.1, this.2.1⟩
      · omega
omit [Dealing] in
theorem VL.nth_ex {m : Ren} : ∀ {k : Nat} {l : AV} {vs : List Value}, VL m l vs → k < vs.length → ∃ a, AV.nth k l = some a
  | _, _, _, .nil, h => by simp at h
  | 0, _, _, .cons a v l vs _ _, _ => ⟨a, rfl⟩
  | k + 1, _, _, .cons a v l vs _ hl, h => by simpa [AV.nth, onCons] using hl.nth_ex (k := k) (by simpa using h)
omit [Dealing] in
theorem mkCs_gen {m : Ren} {e es : Nat} {opn : Bool} {z l : AV} {x : AObj} {vs : List Value} {c : Array Value} {i : BI} (hl : VL m l vs) (h : mkCs e es z opn l = some x)
    (hc : c.size = i.sz) (hes : i.es = es) (hle : i.base + vs.length ≤ i.sz) (hall : ∀ k, k < vs.length → c[i.base + k]? = vs[k]?) : OR m (.cells c e (0, 0)) x i := by
  cases h
  rw [hl.len]
  refine .cs _ _ _ _ _ _ _ _ _ hc hes hle rfl ?_
  intro k v hk
  simp only [rdCs, bt_some] at hk
  obtain ⟨h1, h2⟩ := hk
  have hk : k < vs.length := by simpa [Nat.blt_eq] using h1
  rw [toTr_get hl, if_pos (by omega)] at h2
  simp only [Nat.sub_zero] at h2
  obtain ⟨a, ha⟩ := hl.nth_ex hk
  rw [ha] at h2
  simp only [oc_some, Option.some.injEq] at h2
  subst h2
  obtain ⟨u, hu, hv⟩ := hl.nth ha
  exact ⟨u, by rw [hall k hk]; exact hu, hv⟩
omit [Dealing] in
def GrowR (m : Ren) (e0 : TypeId) (es cnt : Nat) (vs : List Value) (o : AObj) : Prop :=
  ∀ m2, Le m m2 → ∀ (c : Array Value) (fr : Nat × Nat) (i : BI), c.size = i.sz → i.es = es → i.base + cnt * es ≤ i.sz → (∀ k, k < cnt * es → c[i.base + k]? = vs[k]?) → FZ fr i.sz →
    (isCs o = true → fr = (0, 0)) → OR m2 (.cells c e0 fr) o i
omit [Dealing] in
def eB : AObj → Nat
  | .bys e _ _ _ => e
  | .cs e _ _ _ _ _ => e
  | _ => 0
omit [Dealing] in
theorem allCell_ok {m : Ren} : ∀ {l : AV} {vs : List Value}, VL m l vs → allCell l = true → ∀ v ∈ vs, v.oneCell' = true
  | _, _, .nil, _ => by simp
  | _, _, .cons a v l vs h hl, hc => by
    simp only [allCell] at hc
    cases ha : isCell a with
    | false => rw [ha] at hc; cases hc
    | true =>
      rw [ha] at hc
      intro u hu
      rcases List.mem_cons.1 hu with rfl | hu
      · exact isCell_one h ha
      · exact allCell_ok hl hc u hu
omit [Dealing] in
theorem grown_ok {e : Nat} {te : TI} {g : GK} (h1 : tyOf E e = some te) (hg : grownK E e = some g) {m : Ren} {H : AH} {w : World} (hr : Rel m H w) {s x : AV} {sv xv : Value} {len n : Nat} {b : AObj}
    (hs : VR m s sv) (hx : VR m x xv) (hsl : lengthA s = some len) (hxl : lengthA x = some n) (h : g.f H s len n x = some b) :
    ∃ olds news : List Value, (∀ w2 : World, w2.heap = w.heap → (Builtin.firstCells te.size len sv).run P w2 = .ok olds.toArray w2) ∧ (∀ w2 : World, w2.heap = w.heap → (Builtin.firstCells te.size n xv).run P w2 = .ok news.toArray w2) ∧
      olds.length = len * te.size ∧ news.length = n * te.size ∧ (∀ v ∈ news, v.oneCell' = true) ∧ eB b = e ∧ GrowR m e te.size (len + n) (olds ++ news) b := by
  simp only [grownK, ob_some] at hg
  obtain ⟨te', h1', hg⟩ := hg
  rw [h1] at h1'; cases h1'
  split at hg
  · rename_i hb
    cases hg
    obtain ⟨_, hes⟩ := isByteT_eq hb
    simp only [grownBy, ob_some, Option.some.injEq] at h
    obtain ⟨⟨L1, n1⟩, h2, ⟨L2, n2⟩, h3, rfl⟩ := h
    obtain ⟨rfl, hn1⟩ := bytesA_len hr hs hsl h2
    obtain ⟨rfl, hn2⟩ := bytesA_len hr hx hxl h3
    refine ⟨(List.range L1).map (byteV n1), (List.range L2).map (byteV n2), fun w2 hw => ?_, fun w2 hw => ?_, by simp [hes], by simp [hes], ?_, rfl, ?_⟩
    · rw [hes]; exact first_bytes (hr.world hw) hs h2 (Nat.le_refl _)
    · rw [hes]; exact first_bytes (hr.world hw) hx h3 (Nat.le_refl _)
    · intro v hv
      simp only [List.mem_map] at hv
      obtain ⟨_, _, rfl⟩ := hv
      rfl
    · intro m2 _ c fr i hc hi hle hall hf _
      rw [hes] at hi hle hall
      refine .bys _ _ _ _ _ _ _ hc hi (by show i.base + (L1 + L2) ≤ _; omega) hf ?_
      intro k hk
      have hk : k < L1 + L2 := hk
      rw [hall k (by omega)]
      show _ = some (byteV (n1 + n2 <<< (8 * L1)) k)
      have e1 : n1 + n2 <<< (8 * L1) = n1 + 256 ^ L1 * n2 := by rw [Nat.shiftLeft_eq, Nat.pow_mul, Nat.mul_comm]
      rw [e1]
      by_cases h5 : k < L1
      · rw [List.getElem?_append_left (by simpa using h5), List.getElem?_map, List.getElem?_range h5]
        simp only [Option.map_some, byteV, byteAt_lo _ _ _ _ h5]
      · obtain ⟨j, rfl⟩ : ∃ j, k = L1 + j := ⟨k - L1, by omega⟩
        rw [List.getElem?_append_right (by simp)]
        simp only [List.length_map, List.length_range, Nat.add_sub_cancel_left]
        rw [List.getElem?_map, List.getElem?_range (by omega)]
        simp only [Option.map_some, byteV, byteAt_hi _ _ _ _ hn1]
  · rename_i hb
    simp only [ob_some, Option.some.injEq] at hg
    obtain ⟨k, hk, rfl⟩ := hg
    simp only [grownCs, ob_some, bt_some] at h
    obtain ⟨a, h2, c, h3, hac, h4⟩ := h
    obtain ⟨olds, o1, o2⟩ := first_cells (P := P) hr hs hsl (Nat.le_refl _) h2
    obtain ⟨news, o3, o4⟩ := first_cells (P := P) hr hx hxl (Nat.le_refl _) h3
    have l1 : olds.length = len * te.size := by rw [← o2.len]; exact firstA_len hsl (Nat.le_refl _) h2
    have l2 : news.length = n * te.size := by rw [← o4.len]; exact firstA_len hxl (Nat.le_refl _) h3
    refine ⟨olds, news, o1, o3, l1, l2, allCell_ok o4 hac, ?_⟩
    simp only [blkK, ob_some] at hk
    obtain ⟨te2, h5, hk⟩ := hk
    rw [h1] at h5; cases h5
    split at hk
    · rename_i hb2; rw [hb] at hb2; cases hb2
    · simp only [ob_some, Option.some.injEq] at hk
      obtain ⟨z, _, rfl⟩ := hk
      refine ⟨by simp only [mkCs, Option.some.injEq] at h4; subst h4; rfl, ?_⟩
      intro m2 hle cc fr i hc hi hlen hall hf hfr
      have hall2 := (o2.app o4).mono hle
      have hl : (olds ++ news).length = (len + n) * te.size := by rw [List.length_append, l1, l2, Nat.add_mul]
      have hcs : isCs b = true := by
        simp only [mkCs, Option.some.injEq] at h4
        subst h4; rfl
      rw [hfr hcs]
      exact mkCs_gen hall2 h4 hc hi (by rw [hl]; exact hlen) (fun k hk => hall k (by rw [← hl]; exact hk))
omit [Dealing] in
theorem growBy_le (n : Nat) : ∀ (r c : Nat), c ≤ 2 * n + 1000 → Builtin.growBy n r c ≤ 2 * n + 1000
  | 0, c, h => h
  | r + 1, c, h => by
    simp only [Builtin.growBy]
    split
    · exact h
    · exact growBy_le n r _ (by omega)
omit [Dealing] in
theorem nextcap_le {n c : Nat} (h : c < n) : Builtin.nextslicecap n c ≤ 2 * n + 1000 := by
  simp only [Builtin.nextslicecap]
  split
  · omega
  · split
    · omega
    · exact growBy_le _ _ _ (by omega)
include hE
omit [Dealing] in
theorem run_grow {c : Call} {t xt e : Nat} {ti tx te : TI} {s x : Operand} {ts : List Nat} {ρ : Operand → Value} {w : World} {base : Option Addr} {len n sCap : Nat} {z : AV} {olds news : List Value}
    (h1 : tyOf E t = some ti) (h2 : ti.d = .slice e) (h3 : tyOf E e = some te) (h4 : tyOf E xt = some tx) (h5 : isIntD tx.d = false) (hz : te.zero = some z) (hok : appOk te z = true)
    (ho : o.op = .call c) (hc : c.callee = .builtin .append) (ha : c.args.toList = [s, x]) (hty : c.argTypes.toList = t :: xt :: ts) (hs : ρ s = .slice base len sCap) (hn : (Builtin.lenOf (ρ x)).run P w = .ok n w)
    (hcap : sCap < len + n) (hmax : len + n ≤ 17179869184)
    (ho1 : ∀ w2 : World, w2.heap = w.heap → (Builtin.firstCells te.size len (ρ s)).run P w2 = .ok olds.toArray w2) (ho2 : ∀ w2 : World, w2.heap = w.heap → (Builtin.firstCells te.size n (ρ x)).run P w2 = .ok news.toArray w2) :
    ∃ cap more, len + n ≤ cap ∧ more.length = (cap - (len + n)) * te.size ∧
      (execOp ρ o).run P w = .ok (.value (.slice (some ⟨w.heap.size, 0, none⟩) (len + n) cap)) { w with heap := w.heap.push (.cells ((olds ++ news) ++ more).toArray e), drawn := w.drawn + 1 } := by
  have ea : c.args = #[s, x] := by rw [← ha]
  have et : c.argTypes[0]? = some t := by rw [← Array.getElem?_toList, hty]; rfl
  have et1 : c.argTypes[1]? = some xt := by rw [← Array.getElem?_toList, hty]; rfl
  obtain ⟨cap, q1, q2⟩ := run_cap (P := P) (len + n) sCap e w
  obtain ⟨i, g0, _, g3, _⟩ := info_of hE h3
  have g1 : ∀ w : World, (typeInfo e).run P w = .ok i w := fun w => by simp [typeInfo, g0]
  rw [hs] at ho1
  obtain ⟨zv, q3, q4, _⟩ := run_zeroValue (w := { w with drawn := w.drawn + 1 }) hE h3 hz
  simp only [appOk, Bool.and_eq_true] at hok
  obtain ⟨⟨b1, b2⟩, b3, b4⟩ := hok
  have b1 := Nat.le_of_ble_eq_true b1
  have hzs : zv.cells.size = te.size := by have := (q4 fun _ => none).cellsT.len; rw [Nat.eq_of_beq_eq_true b3] at this; simpa using this.symm
  have hnx := nextcap_le hcap
  have hbig : ¬ (Builtin.nextslicecap (len + n) sCap * i.bytes > 2 ^ 48) := by
    rw [g3]
    have : Builtin.nextslicecap (len + n) sCap * te.bytes ≤ 34359739368 * 4096 := Nat.mul_le_mul (by omega) b1
    omega
  refine ⟨cap, (Builtin.zeroCells zv.cells (cap - (len + n))).toList, q2, by simp [Builtin.zeroCells, hzs], run_builtin_v ho hc (fun _ => rfl) ?_⟩
  have hneed : ¬ (len + n ≤ sCap) := by omega
  simp only [Builtin.append_, et, et1, ea, List.map_toArray, List.map_cons, List.map_nil, List.getElem?_toArray, List.getElem?_cons_zero, List.getElem?_cons_succ, Sem.run_bind, run_underlying hE h1, Result.andThen, h2, hs, run_sizeOf hE h3,
    run_underlying hE h4, Sem.run_pure]
  rw [if_neg]
  rotate_left
  · intro hM
    revert hM
    cases hd : tx.d <;> simp_all [isIntD]
  simp only [hn, if_neg hneed, Sem.run_bind, Result.andThen, g1]
  rw [if_neg]
  rotate_left
  · rintro ⟨h, _⟩
    have : IntKind.i64.max = 9223372036854775807 := rfl
    omega
  simp only [Sem.run_bind, Result.andThen, g1]
  rw [if_neg hbig]
  simp only [Sem.run_bind, Result.andThen, q1, run_askRoom, g1]
  rw [ho1 { w with drawn := w.drawn + 1 } rfl]
  simp only []
  rw [if_pos]
  rotate_left
  · cases hd : tx.d <;> simp_all [isIntD]
  rw [ho2 { w with drawn := w.drawn + 1 } rfl]
  simp only [q3, run_newRow, Sem.run_pure]
  have harr : olds.toArray ++ news.toArray ++ Builtin.zeroCells zv.cells (cap - (len + n)) = ((olds ++ news) ++ (Builtin.zeroCells zv.cells (cap - (len + n))).toList).toArray := by
    apply Array.toList_inj.1; simp
  rw [harr]
omit hE in
omit [Dealing] in
theorem first_zero {m : Ren} {a : AV} {v : Value} {L es : Nat} (hv : VR m a v) (hL : lengthA a = some L) (w : World) : (Builtin.firstCells es 0 v).run P w = .ok #[] w := by
  cases a <;> simp [lengthA] at hL
  · rw [hv.snil_inv]; rfl
  · obtain ⟨st, e, _⟩ := hv.str_inv
    rw [e]
    simp [Builtin.firstCells]
  · obtain ⟨ad, c', e, _⟩ := hv.sl_inv
    rw [e]
    simp [Builtin.firstCells, loadCells, loadCellsFrom]
omit [Dealing] in
theorem run_place {c : Call} {t xt e : Nat} {ti tx te : TI} {s x : Operand} {ts : List Nat} {ρ : Operand → Value} {w w' : World} {base : Option Addr} {len n sCap : Nat} {news : List Value}
    (h1 : tyOf E t = some ti) (h2 : ti.d = .slice e) (h3 : tyOf E e = some te) (h4 : tyOf E xt = some tx) (h5 : isIntD tx.d = false)
    (ho : o.op = .call c) (hc : c.callee = .builtin .append) (ha : c.args.toList = [s, x]) (hty : c.argTypes.toList = t :: xt :: ts) (hs : ρ s = .slice base len sCap) (hn : (Builtin.lenOf (ρ x)).run P w = .ok n w)
    (hcap : len + n ≤ sCap) (ho2 : (Builtin.firstCells te.size n (ρ x)).run P w = .ok news.toArray w)
    (hst : (∃ a, base = some a ∧ (storeCells (a.add (len * te.size)) news).run P w = .ok () w') ∨ (base = none ∧ w' = w)) :
    (execOp ρ o).run P w = .ok (.value (.slice base (len + n) sCap)) w' := by
  have ea : c.args = #[s, x] := by rw [← ha]
  have et : c.argTypes[0]? = some t := by rw [← Array.getElem?_toList, hty]; rfl
  have et1 : c.argTypes[1]? = some xt := by rw [← Array.getElem?_toList, hty]; rfl
  refine run_builtin_v ho hc (fun _ => rfl) ?_
  simp only [Builtin.append_, et, et1, ea, List.map_toArray, List.map_cons, List.map_nil, List.getElem?_toArray, List.getElem?_cons_zero, List.getElem?_cons_succ, Sem.run_bind, run_underlying hE h1, Result.andThen, h2, hs, run_sizeOf hE h3,
    run_underlying hE h4, Sem.run_pure]
  rw [if_neg]
  rotate_left
  · intro hM
    revert hM
    cases hd : tx.d <;> simp_all [isIntD]
  simp only [hn, if_pos hcap, Sem.run_bind, Result.andThen]
  rw [if_pos]
  rotate_left
  · cases hd : tx.d <;> simp_all [isIntD]
  rw [ho2]
  rcases hst with ⟨a, rfl, hst⟩ | ⟨rfl, rfl⟩
  · simp only [Sem.run_bind, hst, Result.andThen, Sem.run_pure]
  · simp only [Sem.run_pure]
theorem hv_append {c : Call} {t xt : Nat} {s x : Operand} {ts : List Nat} {k : HvK} (h : hvAppendK E t xt s x = some k)
    (ho : o.op = .call c) (hc : c.callee = .builtin .append) (ha : c.args.toList = [s, x]) (hty : c.argTypes.toList = t :: xt :: ts) : HvOk P k o := by
  simp only [hvAppendK, ob_some] at h
  obtain ⟨ti, h1, tx, h4, h⟩ := h
  split at h
  · rename_i e h2 h5
    simp only [ob_some, bt_some, Option.some.injEq] at h
    obtain ⟨te, h3, g, hg, z, hz, hok, rfl⟩ := h
    intro R hR m H w T ρ res H2 hr he hk
    simp only [hvAppend, appendA, ob_some, bt_some] at hk
    obtain ⟨a, g1, b, g2, n, hn, _, hk⟩ := hk
    have e1 := he s a g1
    have e2 := he x b g2
    have hlen := lengthA_ok (P := P) e2 hn w
    have hpos : 0 < te.size := by
      simp only [appOk, Bool.and_eq_true] at hok
      simpa [Nat.blt_eq] using hok.2.2
    -- a new block
    have fresh : ∀ {base : Option Addr} {len sCap : Nat} {ab : AObj} {H' : AH}, ρ s = .slice base len sCap → lengthA a = some len → sCap < len + n → len + n ≤ 17179869184 → g.f H a len n b = some ab →
        St m H w m H' w → H'.next = H.next → Outc P (execOp ρ o) w (Post m H w (.sl H.next 0 (len + n) none) (H'.new ab)) := by
      intro base len sCap ab H' hs hal hcap hmax hgf hst hnx
      obtain ⟨olds, news, q1, q2, l1, l2, _, _, hG⟩ := grown_ok (P := P) h3 hg hr e1 e2 hal hn hgf
      obtain ⟨cap, more, c1, c2, c3⟩ := run_grow hE h1 h2 h3 h4 h5 hz hok ho hc ha hty hs hlen hcap hmax q1 q2
      let i : BI := ⟨w.heap.size, 0, cap * te.size, te.size⟩
      have hsz : ((olds ++ news) ++ more).toArray.size = cap * te.size := by
        simp only [List.size_toArray, List.length_append, l1, l2, c2]
        rw [← Nat.add_mul, ← Nat.add_mul]
        congr 1; omega
      have hst2 : St m H' w (m.ext H'.next i) (H'.new ab) { w with heap := w.heap.push (.cells ((olds ++ news) ++ more).toArray e), drawn := w.drawn + 1 } := by
        refine St.newBlk hst.rel rfl rfl ?_ rfl rfl
        refine hG _ (hst.rel.le (Ext.ext _ _ _)) _ _ _ hsz rfl ?_ ?_ (.inl rfl) (fun _ => rfl)
        · show 0 + (len + n) * te.size ≤ cap * te.size
          rw [Nat.zero_add]; exact Nat.mul_le_mul_right _ c1
        · intro k hk
          show ((olds ++ news) ++ more).toArray[0 + k]? = _
          rw [Nat.zero_add, List.getElem?_toArray, List.getElem?_append_left (by simp [l1, l2]; rw [← Nat.add_mul]; exact hk)]
      refine .value _ _ c3 ⟨_, hst.trans hst2, ?_⟩
      rw [← hnx]
      have := VR.slo (m := m.ext H'.next i) H'.next 0 (len + n) cap i (Ren.ext_same _ _ _) hpos (by show 0 + 0 + cap * te.size = cap * te.size; omega) c1
      simpa using this
    rw [onSl_some] at hk
    rcases hk with ⟨rfl, hk⟩ | ⟨bb, off, len, cap, rfl, hk⟩
    · have hs := e1.snil_inv
      cases n with
      | zero =>
        simp only [nc_zero, Option.some.injEq, Prod.mk.injEq] at hk
        obtain ⟨rfl, rfl⟩ := hk
        exact .value _ w (run_place hE h1 h2 h3 h4 h5 ho hc ha hty hs hlen (Nat.le_refl _) (news := []) (first_zero e2 hn w) (.inr ⟨rfl, rfl⟩)) ⟨m, St.refl hr, .snil⟩
      | succ n =>
        simp only [nc_succ, growA, ob_some, Option.some.injEq, Prod.mk.injEq] at hk
        obtain ⟨ab, hgf, rfl, rfl⟩ := hk
        rename_i hle
        exact fresh hs rfl (by omega) (by have := Nat.le_of_ble_eq_true hle; omega) hgf (St.refl hr) rfl
    · obtain ⟨ad, c', ex, hcap, hcase⟩ := e1.sl_inv
      simp only [appSl, bt_some] at hk
      obtain ⟨hmax, hk⟩ := hk
      have hmax : len + n ≤ 17179869184 := Nat.le_of_ble_eq_true hmax
      cases n with
      | zero =>
        simp only [nc_zero, bt_some, Option.some.injEq, Prod.mk.injEq] at hk
        obtain ⟨hle, rfl, rfl⟩ := hk
        have hle2 : len + 0 ≤ c' := by
          cases cap with
          | some k => rw [hcap k rfl]; exact Nat.le_of_ble_eq_true hle
          | none =>
            rcases hcase with ⟨i, _, _, h⟩ | ⟨h, _⟩
            · exact (h rfl).2.2
            · omega
        exact .value _ w (run_place hE h1 h2 h3 h4 h5 ho hc ha hty ex hlen hle2 (news := []) (first_zero e2 hn w) (.inl ⟨ad, rfl, rfl⟩)) ⟨m, St.refl hr, ex ▸ e1⟩
      | succ n =>
        simp only [nc_succ, ob_some] at hk
        obtain ⟨room, hroom, hk⟩ := hk
        have hrm : room ≤ c' ∧ (∀ i, m bb = some i → cap = none → i.es = te.size) ∧ (len = 0 → c' = 0 → room = 0 ∨ ∃ i, m bb = some i ∧ ad = ⟨i.blk, i.base + off, none⟩) := by
          cases cap with
          | some k =>
            simp only [oc_some, Option.some.injEq] at hroom
            have := hcap k rfl
            exact ⟨by omega, fun _ _ h => (by cases h), fun _ _ => .inl (by omega)⟩
          | none =>
            simp only [oc_none] at hroom
            rcases hcase with ⟨i, hi, had, h⟩ | ⟨rfl, rfl, h⟩
            · have := room_ok hr hi (h rfl).2.1 (h rfl).2.2 hroom
              exact ⟨this.2, fun j hj _ => by rw [hi] at hj; cases hj; exact this.1, fun _ _ => .inr ⟨i, hi, had⟩⟩
            · obtain ⟨i, hi, _, hend⟩ := h rfl
              have h0 := room_end hr hi hend hroom
              refine ⟨by omega, fun j hj _ => ?_, fun _ _ => .inl h0⟩
              simp only [roomOf, ob_some, onObj_some, bt_some, Nat.beq_eq] at hroom
              obtain ⟨o1, hg1, hroom⟩ := hroom
              obtain ⟨x1, hx1, hor1⟩ := hr.live bb o1 hg1 j hj
              rcases hroom with ⟨_, _, _, _, rfl, h1, _⟩ | ⟨_, _, _, _, _, _, rfl, h1, _⟩
              · cases hor1 with | bys c fr e size opn n i hcs hes hs hf h => omega
              · cases hor1 with | cs c fr e es' size opn z t i hcs hes hs hf h => omega
        cases hle : Nat.ble (len + (n + 1)) room with
        | true =>
          have hle := Nat.le_of_ble_eq_true hle
          rw [show Nat.add len (n + 1) = len + (n + 1) from rfl, show Nat.ble (len + (n + 1)) room = true from by simpa using hle] at hk
          simp only [bt_true, ob_some, Option.some.injEq, Prod.mk.injEq] at hk
          obtain ⟨H', hlay, rfl, rfl⟩ := hk
          rcases hcase with ⟨i, hi, rfl, hx⟩ | ⟨h, h', _⟩
          · obtain ⟨vs, w', p1, p2, p3⟩ := layA_ok (P := P) hr e2 hn (Nat.le_refl _) hi hlay
            have p2' : (storeCells ((⟨i.blk, i.base + off, none⟩ : Addr).add (len * te.size)) vs).run P w = .ok () w' := by
              rw [add_mk, Nat.add_assoc]; exact p2
            refine .value _ w' (run_place hE h1 h2 h3 h4 h5 ho hc ha hty ex hlen (by omega) p1 (.inl ⟨_, rfl, p2'⟩)) ⟨m, p3, ?_⟩
            cases cap with
            | some k => rw [hcap k rfl]; exact .sl bb off _ k i hi
            | none => exact .slo bb off _ c' i hi (hx rfl).1 (hx rfl).2.1 (by omega)
          · omega
        | false =>
          have hle : room < len + (n + 1) := by
            rcases Nat.lt_or_ge room (len + (n + 1)) with h | h
            · exact h
            · rw [Nat.ble_eq_true_of_le h] at hle; cases hle
          rw [show Nat.ble (Nat.add len (n + 1)) room = false from by
            cases hb : Nat.ble (Nat.add len (n + 1)) room with
            | false => rfl
            | true => have := Nat.le_of_ble_eq_true hb; have h' : len + (n + 1) ≤ room := this; omega] at hk
          simp only [bt_false, appGrow] at hk
          cases cap with
          | some k =>
            simp only [oc_some, growA, ob_some, Option.some.injEq, Prod.mk.injEq] at hk
            obtain ⟨ab, hgf, rfl, rfl⟩ := hk
            simp only [oc_some, Option.some.injEq] at hroom
            have := hcap k rfl
            exact fresh ex rfl (by omega) hmax hgf (St.refl hr) rfl
          | none =>
            simp only [oc_none, appMove, ob_some, bt_some, Option.some.injEq, Prod.mk.injEq] at hk
            obtain ⟨o0, hb0, ab, hgf, hal, rfl, rfl⟩ := hk
            by_cases hin : len + (n + 1) ≤ c'
            · rcases hcase with ⟨i, hi, rfl, hx⟩ | ⟨_, h', _⟩
              · obtain ⟨hes0, hsz, hll⟩ := hx rfl
                have hes := hrm.2.1 i hi rfl
                obtain ⟨olds, news, q1, q2, l1, l2, hone, heB, hG⟩ := grown_ok (P := P) h3 hg hr e1 e2 rfl hn hgf
                obtain ⟨y, hy, hor⟩ := hr.live _ _ hb0 _ hi
                have hcells : ∃ c0 fr, y = .cells c0 e fr ∧ c0.size = i.sz ∧ FZ fr i.sz ∧ (isCs ab = true → fr = (0, 0)) := by
                  cases hor with
                  | bys c0 fr e0 size opn nn i hc0 he0 hs0 hf0 h0 =>
                    cases ab <;> simp [alikeB] at hal
                    simp only [eB] at heB
                    subst heB; subst hal
                    exact ⟨c0, fr, rfl, hc0, hf0, fun h => by simp [isCs] at h⟩
                  | cs c0 fr e0 es size opn z t i hc0 he0 hs0 hf0 h0 =>
                    cases ab <;> simp [alikeB] at hal
                    simp only [eB] at heB
                    subst heB; subst hal
                    exact ⟨c0, fr, rfl, hc0, .inl hf0, fun _ => hf0⟩
                  | _ => simp [alikeB] at hal
                obtain ⟨c0, fr, rfl, hc0, hf0, hfr0⟩ := hcells
                rw [hes] at hsz
                have hmul : (len + (n + 1)) * te.size ≤ c' * te.size := Nat.mul_le_mul_right _ hin
                rw [Nat.add_mul] at hmul
                have hold : olds = (c0.toList.drop (i.base + off)).take (len * te.size) := by
                  have hl0 : ((c0.toList.drop (i.base + off)).take (len * te.size)).length = len * te.size := by
                    simp only [List.length_take, List.length_drop, Array.length_toList]; omega
                  have h7 := run_loadCells (P := P) (w := w) (b := i.blk) (o := i.base + off) (vs := (c0.toList.drop (i.base + off)).take (len * te.size)) (by
                    intro k v hk
                    have hk2 : k < len * te.size := by
                      rcases Nat.lt_or_ge k (len * te.size) with h | h
                      · exact h
                      · rw [List.getElem?_eq_none (by omega)] at hk; cases hk
                    rw [List.getElem?_take_of_lt hk2, List.getElem?_drop] at hk
                    rw [cell_of hy, ← Array.getElem?_toList]
                    exact hk)
                  rw [hl0] at h7
                  have h8 := q1 w rfl
                  rw [ex] at h8
                  simp only [Builtin.firstCells] at h8
                  rw [h7] at h8
                  injection h8 with h8
                  exact (List.toArray_inj h8).symm
                let i2 : BI := ⟨i.blk, i.base + off, i.sz, i.es⟩
                have hst := run_storeCells (P := P) (b := i.blk) (o := i.base + off + len * te.size) news 0 c0 w hy hone (by rw [hc0]; exact hf0) (by rw [hc0, l2]; omega)
                have hmv := St.moved (w2 := { w with heap := w.heap.setIfInBounds i.blk (.cells (spl c0 (i.base + off + len * te.size + 0) news) e fr) }) (i2 := i2) (o2 := ab) hr hb0 hi rfl rfl
                  (hG _ (hr.le (Ext.ext _ _ _)) (spl c0 (i.base + off + len * te.size + 0) news) fr i2 (by rw [spl_size]; exact hc0) hes (by show i.base + off + (len + (n + 1)) * te.size ≤ i.sz; rw [Nat.add_mul]; omega) (by
                    intro k hk
                    show (spl c0 (i.base + off + len * te.size + 0) news)[i.base + off + k]? = _
                    rw [Nat.add_mul] at hk
                    rw [spl_get _ _ _ _ (by rw [hc0, l2]; omega), l2]
                    by_cases h9 : k < len * te.size
                    · rw [if_neg (by omega), List.getElem?_append_left (by omega), hold, List.getElem?_take_of_lt h9, List.getElem?_drop, Array.getElem?_toList]
                    · rw [if_pos (by omega), List.getElem?_append_right (by omega), l1]
                      congr 1; omega) hf0 hfr0) rfl rfl
                refine .value _ _ (run_place hE h1 h2 h3 h4 h5 ho hc ha hty ex hlen hin (q2 w rfl) (.inl ⟨_, rfl, by rw [add_mk]; exact hst⟩)) ⟨_, hmv, ?_⟩
                have := VR.slo (m := m.ext H.next i2) H.next 0 (len + (n + 1)) c' i2 (Ren.ext_same _ _ _) (by show 0 < i.es; omega) (by show i.base + off + 0 + c' * i.es = i.sz; rw [hes]; omega) hin
                simpa [i2] using this
              · omega
            · exact fresh ex rfl (by omega) hmax hgf (St.kill hr bb) (AH.next_kill _ _)
  · cases h
end
end Go.Xq
namespace Go.Xq
variable [Dealing]
section
variable {P : Program} {E : Env} (hE : TyOk P E) {o : Oper}
include hE
theorem hv_range {t kt et : Nat} {x : Operand} {ti : TI} (h1 : tyOf E t = some ti) (h2 : ti.d = .map kt et) (ho : o.op = .range t x) : HvOk P ⟨hvRange x⟩ o := by
  intro R hR m H w T ρ res H2 hr he hk
  simp only [hvRange, ob_some, onMap_some, onMp_some, Option.some.injEq, Prod.mk.injEq] at hk
  obtain ⟨a, g1, hk⟩ := hk
  have e1 := he x a g1
  rcases hk with ⟨rfl, rfl, rfl⟩ | ⟨r, rfl, y, hg, es, clock, rfl, rfl, rfl⟩
  · let i : BI := ⟨w.heap.size, 0, 0, 0⟩
    refine .value (.pointer (some ⟨w.heap.size, 0, none⟩)) { w with heap := w.heap.push (.mapIter none 0 #[] 0) } ?_ ⟨m.ext H.next i, St.newBlk hr rfl rfl (.mitN 0 0 [] i rfl) rfl rfl, .ptr H.next 0 i (Ren.ext_same _ _ _)⟩
    simp only [execOp, ho, e1.mnil_inv]; apply run_v
    simp [Instr.range, run_underlying hE h1, h2, Result.andThen]
  · obtain ⟨j, hj, ex⟩ := e1.mp_inv
    obtain ⟨y, hy, hor⟩ := hr.live _ _ hg _ hj
    cases hor with | mp en _ _ _ hen =>
    let i : BI := ⟨w.heap.size, 0, 0, 0⟩
    have hrn : r ≠ H.next := fun e => by have := (hr.bnd _ _ hj).1; omega
    refine .value (.pointer (some ⟨w.heap.size, 0, none⟩)) { w with heap := w.heap.push (.mapIter (some j.blk) clock #[] clock) } ?_
      ⟨m.ext H.next i, St.newBlk hr rfl rfl (.mitS r clock clock [] i j (by rw [Ren.ext_ne _ _ hrn]; exact hj) rfl) rfl rfl, .ptr H.next 0 i (Ren.ext_same _ _ _)⟩
    simp only [execOp, ho, ex]; apply run_v
    simp [Instr.range, run_underlying hE h1, h2, Result.andThen, run_getObj hy]
omit hE
omit [Dealing] in
theorem hasN_eq (x : Nat) : ∀ l : List Nat, hasN x l = l.contains x
  | [] => rfl
  | y :: r => by
    simp only [hasN, List.contains_cons, hasN_eq x r]
    by_cases h : x = y
    · subst h; simp
    · have : Nat.beq x y = false := by
        cases hb : Nat.beq x y with
        | false => rfl
        | true => exact absurd (Nat.eq_of_beq_eq_true hb) h
      rw [this, bt_false]
      simp [h]
omit [Dealing] in
theorem leftOf_ok {m : Ren} (seen : List Nat) : ∀ {l : List MEnt} {k : List MapEntry}, EntsR m l k → EntsR m (leftOf seen l) (k.filter fun e => !(seen.reverse.toArray).contains e.born)
  | _, _, .nil => .nil
  | _, _, .cons e f l k h hl => by
    have ih := leftOf_ok seen hl
    cases h with | mk h1 h2 h3 =>
    have hs : (seen.reverse.toArray).contains f.born = hasN e.born seen := by
      rw [hasN_eq, h3]
      rw [Bool.eq_iff_iff]
      simp
    simp only [leftOf, List.filter_cons, hs]
    cases hasN e.born seen
    · simpa using EntsR.cons _ _ _ _ (.mk _ _ h1 h2 h3) ih
    · simpa using ih
omit [Dealing] in
theorem anyOld_ok {m : Ren} {st : Nat} : ∀ {l : List MEnt} {k : List MapEntry}, EntsR m l k → anyOld st l = true → k = [] ∨ (k.all fun e => decide (e.born ≥ st)) = false
  | _, _, .nil, _ => .inl rfl
  | _, _, .cons e f l k h hl, ha => by
    refine .inr ?_
    cases h with | mk h1 h2 h3 =>
    simp only [anyOld] at ha
    cases hb : Nat.blt e.born st with
    | true =>
      have : e.born < st := by simpa [Nat.blt_eq] using hb
      simp only [List.all_cons, Bool.and_eq_false_iff]
      left
      rw [← h3]; simp; omega
    | false =>
      rw [hb] at ha
      simp only [bt_false] at ha
      split at ha
      · cases ha
      · rcases anyOld_ok hl ha with h | h
        · subst h; cases hl
        · simp only [List.all_cons, h, Bool.and_false]
theorem hv_next {x : Operand} (ho : o.op = .next x false) : HvOk P ⟨nextA x⟩ o := by
  intro R hR m H w T ρ res H2 hr he hk
  simp only [nextA, ob_some] at hk
  obtain ⟨a, g1, hk⟩ := hk
  have e1 := he x a g1
  split at hk <;> try (cases hk; done)
  rename_i r
  obtain ⟨i, hi, ex⟩ := e1.ptr_inv
  split at hk
  · rename_i since seen st g2
    simp only [Option.some.injEq, Prod.mk.injEq] at hk
    obtain ⟨rfl, rfl⟩ := hk
    obtain ⟨y, hy, hor⟩ := hr.live _ _ g2 _ hi
    cases hor with | mitN _ _ _ _ hb0 =>
    refine .value (.tuple #[.bool false]) w ?_ ⟨m, St.refl hr, .tup _ [.bool false] (.cons _ _ _ _ (.bool false) .nil)⟩
    simp only [execOp, ho, ex, hb0]; apply run_v
    simp [Instr.next, run_getObj hy, Result.andThen]
  · rename_i mm since seen st g2
    obtain ⟨y, hy, hor⟩ := hr.live _ _ g2 _ hi
    cases hor with | mitS _ _ _ _ _ j hj hb0 =>
    split at hk <;> try (cases hk; done)
    rename_i es clock g3
    obtain ⟨y2, hy2, hor2⟩ := hr.live _ _ g3 _ hj
    cases hor2 with | mp en _ _ _ hen =>
    split at hk <;> try (cases hk; done)
    rename_i hcl
    simp only [Bool.and_eq_true] at hcl
    obtain ⟨⟨c1, c2⟩, c3⟩ := hcl
    have c1 := Nat.eq_of_beq_eq_true c1
    have c2 := Nat.eq_of_beq_eq_true c2
    subst c1; subst c2
    have hguard : (!seen.reverse.toArray.isEmpty && !en.isEmpty && en.all fun e => decide (e.born ≥ clock)) = false := by
      rcases anyOld_ok hen c3 with h | h
      · have : en.isEmpty = true := by simpa using h
        rw [this]; simp
      · have : (en.all fun e => decide (e.born ≥ clock)) = false := by rw [← Array.all_toList]; exact h
        rw [this]; simp
    have hleft := leftOf_ok seen hen
    split at hk
    · rename_i hl0
      rw [hl0] at hleft
      simp only [Option.some.injEq, Prod.mk.injEq] at hk
      obtain ⟨rfl, rfl⟩ := hk
      have hf : (en.filter fun e => !(seen.reverse.toArray).contains e.born) = #[] := by
        apply Array.toList_inj.1
        rw [Array.toList_filter]
        generalize en.toList.filter _ = q at hleft ⊢
        cases hleft; rfl
      refine .value (.tuple #[.bool false]) w ?_ ⟨m, St.refl hr, .tup _ [.bool false] (.cons _ _ _ _ (.bool false) .nil)⟩
      simp only [execOp, ho, ex, hb0]; apply run_v
      simp only [Instr.next, Sem.run_bind, run_getObj hy (by simp), Result.andThen, run_getObj hy2 (by simp), hguard, Bool.false_eq_true, if_false, hf]
      simp [run_choose, Question.forced]
    · rename_i e hl0
      rw [hl0] at hleft
      simp only [bt_some, Option.some.injEq, Prod.mk.injEq] at hk
      obtain ⟨hlt, rfl, rfl⟩ := hk
      have hlt : e.born < clock := by simpa [Nat.blt_eq] using hlt
      obtain ⟨f, hf, he1⟩ : ∃ f, (en.filter fun e => !(seen.reverse.toArray).contains e.born) = #[f] ∧ EntR m e f := by
        have : ∃ f, (en.toList.filter fun e => !(seen.reverse.toArray).contains e.born) = [f] ∧ EntR m e f := by
          generalize en.toList.filter _ = q at hleft ⊢
          cases hleft with | cons _ f _ k h hl =>
          cases hl
          exact ⟨f, rfl, h⟩
        obtain ⟨f, h1, h2⟩ := this
        exact ⟨f, by apply Array.toList_inj.1; rw [Array.toList_filter]; exact h1, h2⟩
      cases he1 with | mk k1 k2 k3 =>
      have hfb : f.born < clock := by omega
      refine .value (.tuple #[.bool true, f.key, f.val]) { w with heap := w.heap.setIfInBounds i.blk (.mapIter (some j.blk) clock (seen.reverse.toArray.push f.born) clock) } ?_
        ⟨m, St.upd hr g2 hi ?_ rfl rfl rfl, .tup _ [.bool true, f.key, f.val] (.cons _ _ _ _ (.bool true) (.cons _ _ _ _ k1 (.cons _ _ _ _ k2 .nil)))⟩
      · simp only [execOp, ho, ex, hb0]; apply run_v
        simp only [Instr.next, Sem.run_bind, run_getObj hy (by simp), Result.andThen, run_getObj hy2 (by simp), hguard, Bool.false_eq_true, if_false, hf]
        simp [run_choose, Question.forced, hfb, run_setObj _ hy, Result.andThen]
      · have := OR.mitS (m := m) mm clock clock (e.born :: seen) i j hj hb0
        rw [k3] at this ⊢
        have e2 : (f.born :: seen).reverse.toArray = seen.reverse.toArray.push f.born := by simp
        rw [e2] at this
        exact this
    · cases hk
  · cases hk
omit [Dealing] in
theorem St.touch {m : Ren} {H : AH} {w w2 : World} (hr : Rel m H w) {b : Nat} {ob : AObj} {i : BI} {x2 : Obj} (hb : H.get b = some ob) (hi : m b = some i)
    (ho : OR m x2 ob i) (hw : w2.heap = w.heap.setIfInBounds i.blk x2) (hos : w2.os = w.os) (hout : w2.output = w.output) : St m H w m H w2 := by
  refine ⟨⟨?_, hr.inj, fun b' j hj => by rw [hw, Array.size_setIfInBounds]; exact hr.bnd b' j hj, hr.glob⟩, Ext.refl _ _, Nat.le_refl _, hos, hout, by rw [hw]; simp, ?_, fun b' j hj hl => .inr ⟨b', j, hj, hl, rfl⟩⟩
  · intro b' o' hb' i' hi'
    obtain ⟨y, hy, hor⟩ := hr.live b' o' hb' i' hi'
    by_cases e : b' = b
    · subst e
      rw [hb] at hb'; cases hb'
      rw [hi] at hi'; cases hi'
      exact ⟨x2, by rw [hw]; simp [(hr.bnd _ _ hi).2], ho⟩
    · refine ⟨y, ?_, hor⟩
      rw [hw, Array.getElem?_setIfInBounds_ne]
      · exact hy
      · intro e2; exact e (hr.inj _ _ _ _ _ _ hb' hb hi' hi e2.symm)
  · intro k _ hn
    rw [hw, Array.getElem?_setIfInBounds_ne (hn b i hi (by rw [hb]; simp))]
include hE
theorem hv_same {s e : Nat} {x : Operand} {ts te : TI} (h1 : tyOf E s = some ts) (h2 : ts.d = .slice e) (h3 : tyOf E e = some te) (hb : isByteD te.d = true) (ho : o.op = .convert s s x) : HvOk P ⟨hvSame x⟩ o := by
  have hbd : te.d = .int .u8 := by
    unfold isByteD at hb
    split at hb
    · assumption
    · cases hb
  intro R hR m H w T ρ res H2 hr he hk
  simp only [hvSame, ob_some, onSl_some, reduceCtorEq, and_false, false_or, bt_some, Option.some.injEq, Prod.mk.injEq] at hk
  obtain ⟨a, g1, b, off, n, c, rfl, hn, y, hg, hby, rfl, rfl⟩ := hk
  have hn : 0 < n := by simpa [Nat.blt_eq] using hn
  have e1 := he x _ g1
  obtain ⟨ad, c', ex, _, hcase⟩ := e1.sl_inv
  rcases hcase with ⟨i, hi, rfl, _⟩ | ⟨h, _⟩
  · obtain ⟨z, hz, hor⟩ := hr.live _ _ hg _ hi
    cases hor with
    | bys c0 fr e0 size opn nn i hc0 he0 hs0 hf0 h0 =>
      obtain ⟨fr', hfr, hFZ⟩ : ∃ fr', ({ w with heap := w.heap } : World).freeze { block := i.blk, off := c0.size } 1 = { w with heap := w.heap.setIfInBounds i.blk (.cells c0 e0 fr') } ∧ FZ fr' i.sz := by
        obtain ⟨lo, hi2⟩ := fr
        refine ⟨if lo == hi2 then (c0.size, c0.size + 1) else (min lo c0.size, max hi2 (c0.size + 1)), ?_, ?_⟩
        · simp only [World.freeze]
          rw [if_neg (by decide)]
          congr 1
          apply Array.ext_getElem?
          intro k
          rw [Array.getElem?_modify, Array.getElem?_setIfInBounds]
          by_cases hk : i.blk = k
          · subst hk
            rw [if_pos rfl, if_pos rfl, hz, if_pos (hr.bnd _ _ hi).2]
            rfl
          · rw [if_neg hk, if_neg hk]
        · refine .inr ?_
          rcases hf0 with h | h
          · injection h with h1 h2; subst h1; subst h2; rw [← hc0]; rfl
          · injection h with h1 h2; subst h1; subst h2
            rw [← hc0]
            have : (c0.size == c0.size + 1) = false := by simp
            rw [this]; simp
      refine .value (ρ x) { w with heap := w.heap.setIfInBounds i.blk (.cells c0 e0 fr') } ?_ ⟨m, St.touch hr hg hi (.bys c0 fr' e0 size opn nn i hc0 he0 hs0 hFZ h0) rfl rfl rfl, e1⟩
      simp only [execOp, ho]; apply run_v
      have hsh : w.shape? i.blk = some (e0, c0.size) := by simp [World.shape?, hz]
      simp only [convert, Sem.run_bind, run_underlying hE h1, Result.andThen, h2, ex, run_underlying hE h3, hbd, beq_self_eq_true, markStringish, run_shape, hsh, run_freeze, Sem.run_pure]
      rw [← hfr]
    | _ => simp [isBy] at hby
  · omega
end
end Go.Xq
