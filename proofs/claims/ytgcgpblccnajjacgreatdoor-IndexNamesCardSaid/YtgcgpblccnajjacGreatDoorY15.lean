/- A part of the proof that what the evaluator answers is what the machine does. Its conditions stand in each theorem. -/
import Derived.Test.YtgcgpblccnajjacGreatDoorY14
namespace Go.Xq
section
variable {P : Program} {E : Env} (hE : TyOk P E) {o : Oper}
theorem run_setObj {w : World} {r : Nat} {x : Obj} (y : Obj) (h : w.heap[r]? = some x) (hx : ∀ c e f, x ≠ .cells c e f) : (setObj r y).run P w = .ok () { w with heap := w.heap.setIfInBounds r y } := by
  unfold setObj Sem.run
  rw [h]
  cases x <;> first | rfl | exact absurd rfl (hx _ _ _)
theorem run_builtin_v {c : Call} {b : Builtin} {s : Sem Value} (ho : o.op = .call c) (hc : c.callee = .builtin b) {ρ : Operand → Value}
    (hs : ∀ cs, builtin b c.argTypes o.type cs (c.args.map ρ) = (do pure (.value (← s)))) {w w' : World} {v : Value} (h : s.run P w = .ok v w') :
    (execOp ρ o).run P w = .ok (.value v) w' := by
  rw [run_builtin ho hc, hs]
  exact run_v h

/-! ### Maps that are written -/
theorem EntsR.append {m : Ren} {e : MEnt} {f : MapEntry} (he : EntR m e f) : ∀ {l : List MEnt} {k : List MapEntry}, EntsR m l k → EntsR m (l ++ [e]) (k ++ [f])
  | _, _, .nil => .cons _ _ _ _ he .nil
  | _, _, .cons e' f' l k h hl => .cons _ _ _ _ h (hl.append he)
theorem EntsR.erase {m : Ren} : ∀ {i : Nat} {l : List MEnt} {k : List MapEntry}, EntsR m l k → EntsR m (eraseN i l) (k.eraseIdx i)
  | 0, _, _, .nil => .nil
  | _ + 1, _, _, .nil => .nil
  | 0, _, _, .cons _ _ _ _ _ hl => hl
  | i + 1, _, _, .cons e f l k h hl => .cons _ _ _ _ h (hl.erase (i := i))
theorem EntsR.setN {m : Ren} {a b : AV} {u v : Value} (ha : VR m a u) (hb : VR m b v) : ∀ {i : Nat} {l : List MEnt} {k : List MapEntry}, EntsR m l k → EntsR m (Go.Xq.setN i a b l) (k.modify i fun e => { e with key := u, val := v })
  | 0, _, _, .nil => .nil
  | _ + 1, _, _, .nil => .nil
  | 0, _, _, .cons e f l k h hl => by
    cases h with | mk h1 h2 h3 =>
    exact .cons _ _ _ _ (.mk _ _ ha hb h3) hl
  | i + 1, _, _, .cons e f l k h hl => .cons _ _ _ _ h (hl.setN ha hb (i := i))
theorem findA_at {q : KyK} {H : AH} {k : AV} : ∀ {l : List MEnt} {i j : Nat} {a : AV}, findA q H k l i = some (some (j, a)) → ∃ d e, j = i + d ∧ l[d]? = some e ∧ q.f H k e.key = some true
  | [], i, j, a, h => by cases h
  | e :: l, i, j, a, h => by
    simp only [findA, ob_some] at h
    obtain ⟨s, hs, h⟩ := h
    cases s
    · obtain ⟨d, e', h1, h2, h3⟩ := findA_at (i := i + 1) h
      exact ⟨d + 1, e', by omega, by simpa using h2, h3⟩
    · simp only [bt_true, Option.some.injEq, Prod.mk.injEq] at h
      exact ⟨0, e, by omega, rfl, hs⟩
theorem key_same {t : Nat} {q : KyK} (hq : keyK E t = some q) {m : Ren} {H : AH} {k k2 : AV} {u u2 : Value} (h1 : VR m k u) (h2 : VR m k2 u2) (h : q.f H k k2 = some true) : u = u2 ∧ ∀ n, Instr.sameBits n u u = true := by
  simp only [keyK, ob_some] at hq
  obtain ⟨ti, _, hq⟩ := hq
  split at hq
  · cases hq
    simp only [kyInt] at h
    split at h
    · simp only [bt_some, Option.some.injEq] at h
      rw [h1.int_inv, h2.int_inv, kEq_iff.1 h.1, eqI_iff.1 h.2]
      exact ⟨rfl, fun n => by cases n <;> simp [Instr.sameBits]⟩
    · cases h
  · cases hq
    simp only [kyStr] at h
    split at h
    · obtain ⟨s1, e1, rfl, rfl⟩ := h1.str_inv
      obtain ⟨s2, e2, rfl, rfl⟩ := h2.str_inv
      simp only [Option.some.injEq, sEq_ok] at h
      subst e1; subst e2
      have : s1 = s2 := by
        have := eq_of_beq h
        exact ByteArray.ext (Array.toList_inj.1 this)
      subst this
      exact ⟨rfl, fun n => by cases n <;> simp [Instr.sameBits, beq_toListBytes]⟩
    · cases h
  · cases hq
    simp only [kyBool] at h
    split at h
    · simp only [Option.some.injEq, bEq_iff] at h
      rw [h1.bool_inv, h2.bool_inv, h]
      exact ⟨rfl, fun n => by cases n <;> simp [Instr.sameBits]⟩
    · cases h
  · simp only [ob_some] at hq
    obtain ⟨te, _, hq⟩ := hq
    split at hq
    · cases hq
    · cases hq
      simp only [kyPtr] at h
      split at h
      · rename_i b o' b' o2
        simp only [samePtrA] at h
        by_cases e : Nat.beq b b' = true
        · rw [e] at h
          simp only [bt_true, Option.some.injEq] at h
          have e1 := Nat.eq_of_beq_eq_true e
          have e2 := Nat.eq_of_beq_eq_true h
          subst e1; subst e2
          obtain ⟨i, hi, rfl⟩ := h1.ptr_inv
          obtain ⟨j, hj, rfl⟩ := h2.ptr_inv
          rw [hi] at hj; cases hj
          exact ⟨rfl, fun n => by cases n <;> simp [Instr.sameBits]⟩
        · have e : Nat.beq b b' = false := eq_false_of_ne_true e
          rw [e] at h
          simp only [bt_false, ob_some, bt_some] at h
          obtain ⟨_, _, _, _, _, _, h⟩ := h
          cases h
      · cases h
  · cases hq
include hE
theorem hv_mapSet {t kt et : Nat} {x k v : Operand} {ti : TI} {q : KyK} (h1 : tyOf E t = some ti) (h2 : ti.d = .map kt et) (hq : keyK E kt = some q) (ho : o.op = .mapUpdate t x k v ∨ o.op = .insert t x k v) : HvOk P ⟨mapSetA q x k v⟩ o := by
  intro R hR m H w T ρ res H2 hr he hk
  simp only [mapSetA, ob_some] at hk
  obtain ⟨a, g1, b, g2, c, g3, hk⟩ := hk
  have e1 := he x a g1
  have e2 := he k b g2
  have e3 := he v c g3
  have hop : (execOp ρ o) = (do Instr.mapUpdate t (ρ x) (ρ k) (ρ v); pure .skip) := by
    rcases ho with ho | ho <;> simp only [execOp, ho]
  simp only [onMap_some, reduceCtorEq, and_false, false_or, ob_some, onMp_some] at hk
  obtain ⟨r, rfl, y, hg, es, clock, rfl, s, hf, hk⟩ := hk
  obtain ⟨i, hi, ex⟩ := e1.mp_inv
  obtain ⟨y, hy, hor⟩ := hr.live _ _ hg _ hi
  cases hor with | mp en _ _ _ hen =>
  obtain ⟨r', q1, q2⟩ := findKey_ok hE hq hr e2 hen hf
  rw [hop, ex]
  cases q2 with
  | none =>
    simp only [oc_none, Option.some.injEq, Prod.mk.injEq] at hk
    obtain ⟨rfl, rfl⟩ := hk
    refine .skip _ (run_u (w2 := { w with heap := w.heap.setIfInBounds i.blk (.map (en.push { key := ρ k, val := ρ v, born := clock }) (clock + 1)) }) ?_) ⟨m, St.upd hr hg hi (.mp _ _ _ _ ?_) rfl rfl rfl, undef_ok m⟩
    · simp only [Instr.mapUpdate, Sem.run_bind, run_underlying hE h1, Result.andThen, h2, run_getObj hy (by simp), keyK_check hE hq, q1, run_setObj _ hy (by simp)]
    · rw [Array.toList_push]
      exact hen.append (.mk _ _ e2 e3 rfl)
  | some j av vv hv =>
    simp only [oc_some, Option.some.injEq, Prod.mk.injEq] at hk
    obtain ⟨rfl, rfl⟩ := hk
    obtain ⟨d, e, hd, he2, hsame⟩ := findA_at hf
    have hjd : d = j := by omega
    subst hjd
    obtain ⟨f, hf1, hf2⟩ := hen.get he2
    cases hf2 with | mk hf3 _ _ =>
    obtain ⟨hs1, hs2⟩ := key_same hq e2 hf3 hsame
    have hkey : (en[d]?.map (·.key)).getD (ρ k) = ρ k := by
      have : en[d]? = some f := by rw [← Array.getElem?_toList]; exact hf1
      rw [this]; simp [hs1]
    refine .skip _ (run_u (w2 := { w with heap := w.heap.setIfInBounds i.blk (.map (en.modify d fun e => { e with key := ρ k, val := ρ v }) clock) }) ?_) ⟨m, St.upd hr hg hi (.mp _ _ _ _ ?_) rfl rfl rfl, undef_ok m⟩
    · simp only [Instr.mapUpdate, Sem.run_bind, run_underlying hE h1, Result.andThen, h2, run_getObj hy (by simp), keyK_check hE hq, q1, hkey, Instr.keyThatStays, hs2, if_true, Sem.run_pure, run_setObj _ hy (by simp)]
    · rw [Array.toList_modify]
      exact hen.setN e2 e3
theorem hv_delete {c : Call} {x k : Operand} {t kt et : Nat} {ts : List Nat} {ti : TI} {q : KyK} (h1 : tyOf E t = some ti) (h2 : ti.d = .map kt et) (hq : keyK E kt = some q) (ho : o.op = .call c) (hc : c.callee = .builtin .delete)
    (ha : c.args.toList = [x, k]) (hty : c.argTypes.toList = t :: ts) : HvOk P ⟨deleteA q x k⟩ o := by
  have ea : c.args = #[x, k] := by rw [← ha]
  have et : c.argTypes[0]? = some t := by rw [← Array.getElem?_toList, hty]; rfl
  intro R hR m H w T ρ res H2 hr he hk
  simp only [deleteA, ob_some] at hk
  obtain ⟨a, g1, b, g2, hk⟩ := hk
  have e1 := he x a g1
  have e2 := he k b g2
  simp only [onMap_some, ob_some, onMp_some, Option.some.injEq, Prod.mk.injEq] at hk
  rcases hk with ⟨rfl, rfl, rfl⟩ | ⟨r, rfl, y, hg, es, clock, rfl, s, hf, hk⟩
  · refine .value undef w (run_builtin_v ho hc (fun _ => rfl) ?_) ⟨m, St.refl hr, undef_ok m⟩
    simp only [Builtin.delete_, et, ea, List.map_toArray, List.map_cons, List.map_nil, List.getElem?_toArray, List.getElem?_cons_zero, List.getElem?_cons_succ, Sem.run_bind, run_underlying hE h1, Result.andThen, h2, e1.mnil_inv, keyK_check hE hq, Sem.run_pure]
    rfl
  · obtain ⟨i, hi, ex⟩ := e1.mp_inv
    obtain ⟨y, hy, hor⟩ := hr.live _ _ hg _ hi
    cases hor with | mp en _ _ _ hen =>
    obtain ⟨r', q1, q2⟩ := findKey_ok hE hq hr e2 hen hf
    cases q2 with
    | none =>
      simp only [oc_none, Option.some.injEq, Prod.mk.injEq] at hk
      obtain ⟨rfl, rfl⟩ := hk
      refine .value undef { w with heap := w.heap.setIfInBounds i.blk (.map en clock) } (run_builtin_v ho hc (fun _ => rfl) ?_) ⟨m, St.world hr ?_ rfl rfl, undef_ok m⟩
      · simp only [Builtin.delete_, et, ea, ex, List.map_toArray, List.map_cons, List.map_nil, List.getElem?_toArray, List.getElem?_cons_zero, List.getElem?_cons_succ, Sem.run_bind, run_underlying hE h1, Result.andThen, h2,
          keyK_check hE hq, run_getObj hy (by simp), q1, run_setObj _ hy (by simp), Sem.run_pure]
        rfl
      · apply Array.ext_getElem?
        intro j
        rw [Array.getElem?_setIfInBounds]
        split
        · rename_i e; subst e; split
          · exact hy.symm
          · rename_i h2; rw [Array.getElem?_eq_none (by omega)]
        · rfl
    | some j av vv hv =>
      simp only [oc_some, Option.some.injEq, Prod.mk.injEq] at hk
      obtain ⟨rfl, rfl⟩ := hk
      refine .value undef { w with heap := w.heap.setIfInBounds i.blk (.map (en.eraseIdxIfInBounds j) clock) } (run_builtin_v ho hc (fun _ => rfl) ?_) ⟨m, St.upd hr hg hi (.mp _ _ _ _ ?_) rfl rfl rfl, undef_ok m⟩
      · simp only [Builtin.delete_, et, ea, ex, List.map_toArray, List.map_cons, List.map_nil, List.getElem?_toArray, List.getElem?_cons_zero, List.getElem?_cons_succ, Sem.run_bind, run_underlying hE h1, Result.andThen, h2,
          keyK_check hE hq, run_getObj hy (by simp), q1, run_setObj _ hy (by simp), Sem.run_pure]
        rfl
      · have : (en.eraseIdxIfInBounds j).toList = en.toList.eraseIdx j := by
          simp only [Array.eraseIdxIfInBounds]
          split
          · simp
          · rename_i hlt; rw [List.eraseIdx_of_length_le (by simpa using hlt)]
        rw [this]
        exact hen.erase
theorem hv_clear {c : Call} {x : Operand} {t : Nat} {ts : List Nat} {k : HvK} (h : clearK E t x = some k) (ho : o.op = .call c) (hc : c.callee = .builtin .clear)
    (ha : c.args.toList = [x]) (hty : c.argTypes.toList = t :: ts) : HvOk P k o := by
  have ea : c.args = #[x] := by rw [← ha]
  have et : c.argTypes[0]? = some t := by rw [← Array.getElem?_toList, hty]; rfl
  simp only [clearK, ob_some] at h
  obtain ⟨ti, h1, h⟩ := h
  intro R hR m H w T ρ res H2 hr he hk
  split at h
  · rename_i e hd
    simp only [ob_some, zeroA, Option.some.injEq] at h
    obtain ⟨z, ⟨te, h3, hz⟩, rfl⟩ := h
    simp only [clSlice, ob_some, onSl_some, Option.some.injEq, Prod.mk.injEq] at hk
    obtain ⟨a, g1, hk⟩ := hk
    have e1 := he x a g1
    obtain ⟨zv, q1, q2, _⟩ := run_zeroValue (w := w) hE h3 hz
    rcases hk with ⟨rfl, rfl, rfl⟩ | ⟨b, off, n, cp, rfl, hk⟩
    · refine .value undef w (run_builtin_v ho hc (fun _ => rfl) ?_) ⟨m, St.refl hr, undef_ok m⟩
      simp only [Builtin.clear_, et, ea, List.map_toArray, List.map_cons, List.map_nil, List.getElem?_toArray, List.getElem?_cons_zero, Sem.run_bind, run_underlying hE h1, Result.andThen, hd, e1.snil_inv, Sem.run_pure]
      rfl
    · obtain ⟨ad, c', ex, _, hcase⟩ := e1.sl_inv
      cases n with
      | zero =>
        simp only [nc_zero, Option.some.injEq, Prod.mk.injEq] at hk
        obtain ⟨rfl, rfl⟩ := hk
        refine .value undef w (run_builtin_v ho hc (fun _ => rfl) ?_) ⟨m, St.refl hr, undef_ok m⟩
        simp only [Builtin.clear_, et, ea, ex, List.map_toArray, List.map_cons, List.map_nil, List.getElem?_toArray, List.getElem?_cons_zero, Sem.run_bind, run_underlying hE h1, Result.andThen, hd, Sem.run_pure]
        rfl
      | succ n =>
        simp only [nc_succ, ob_some, storeAll, Option.some.injEq, Prod.mk.injEq] at hk
        obtain ⟨H', ⟨y, hb, y2, hw, rfl⟩, rfl, rfl⟩ := hk
        rcases hcase with ⟨i, hi, rfl, _⟩ | ⟨e, _⟩
        · obtain ⟨w', g2, g3⟩ := hr.wrs (P := P) hb hi (zerosA_ok (q2 m).cellsT (n + 1)) hw
          refine .value undef w' (run_builtin_v ho hc (fun _ => rfl) ?_) ⟨m, g3, undef_ok m⟩
          have hz : (Builtin.zeroCells zv.cells (n + 1)).toList = (List.replicate (n + 1) zv.cells.toList).flatten := by
            rw [Builtin.zeroCells, zeros_arr]
          simp only [Builtin.clear_, et, ea, ex, List.map_toArray, List.map_cons, List.map_nil, List.getElem?_toArray, List.getElem?_cons_zero, Sem.run_bind, run_underlying hE h1, Result.andThen, hd, q1, hz, g2, Sem.run_pure]
          rfl
        · omega
  · rename_i hd
    simp only [Option.some.injEq] at h
    subst h
    simp only [clMap, ob_some, onMap_some, onMp_some, Option.some.injEq, Prod.mk.injEq] at hk
    obtain ⟨a, g1, hk⟩ := hk
    have e1 := he x a g1
    rcases hk with ⟨rfl, rfl, rfl⟩ | ⟨r, rfl, y, hg, es, clock, rfl, rfl, rfl⟩
    · refine .value undef w (run_builtin_v ho hc (fun _ => rfl) ?_) ⟨m, St.refl hr, undef_ok m⟩
      simp only [Builtin.clear_, et, ea, List.map_toArray, List.map_cons, List.map_nil, List.getElem?_toArray, List.getElem?_cons_zero, Sem.run_bind, run_underlying hE h1, Result.andThen, hd, e1.mnil_inv, Sem.run_pure]
      rfl
    · obtain ⟨i, hi, ex⟩ := e1.mp_inv
      obtain ⟨y, hy, hor⟩ := hr.live _ _ hg _ hi
      cases hor with | mp en _ _ _ hen =>
      refine .value undef { w with heap := w.heap.setIfInBounds i.blk (.map #[] clock) } (run_builtin_v ho hc (fun _ => rfl) ?_) ⟨m, St.upd hr hg hi (.mp _ _ _ _ .nil) rfl rfl rfl, undef_ok m⟩
      simp only [Builtin.clear_, et, ea, ex, List.map_toArray, List.map_cons, List.map_nil, List.getElem?_toArray, List.getElem?_cons_zero, Sem.run_bind, run_underlying hE h1, Result.andThen, hd, run_getObj hy (by simp), run_setObj _ hy (by simp), Sem.run_pure]
      rfl
  · cases h
theorem hv_copy {c : Call} {d s : Operand} {t e : Nat} {ts : List Nat} {ti te : TI} (h1 : tyOf E t = some ti) (h2 : ti.d = .slice e) (h3 : tyOf E e = some te) (ho : o.op = .call c) (hc : c.callee = .builtin .copy)
    (ha : c.args.toList = [d, s]) (hty : c.argTypes.toList = t :: ts) : HvOk P ⟨hvCopy te.size d s⟩ o := by
  have ea : c.args = #[d, s] := by rw [← ha]
  have et : c.argTypes[0]? = some t := by rw [← Array.getElem?_toList, hty]; rfl
  intro R hR m H w T ρ res H2 hr he hk
  simp only [hvCopy, copyA, ob_some] at hk
  obtain ⟨a, g1, b, g2, L, hL, hk⟩ := hk
  have e1 := he d a g1
  have e2 := he s b g2
  have hlen := lengthA_ok (P := P) e2 hL w
  have zero : ∀ (w : World), (Builtin.firstCells te.size 0 (ρ s)).run P w = .ok #[] w := by
    intro w
    cases b <;> simp [lengthA] at hL
    · rw [e2.snil_inv]; rfl
    · obtain ⟨st, e, _⟩ := e2.str_inv
      rw [e]
      simp [Builtin.firstCells]
    · obtain ⟨ad, c', e, _⟩ := e2.sl_inv
      rw [e]
      simp [Builtin.firstCells, loadCells, loadCellsFrom]
  simp only [onSl_some, Option.some.injEq, Prod.mk.injEq] at hk
  rcases hk with ⟨rfl, rfl, rfl⟩ | ⟨bb, off, n, cp, rfl, hk⟩
  · refine .value (.int .i64 0) w (run_builtin_v ho hc (fun _ => rfl) ?_) ⟨m, St.refl hr, .int _ _⟩
    simp only [Builtin.copy_, et, ea, List.map_toArray, List.map_cons, List.map_nil, List.getElem?_toArray, List.getElem?_cons_zero, List.getElem?_cons_succ, Sem.run_bind, run_underlying hE h1, Result.andThen, h2, e1.snil_inv, Sem.run_pure, hlen,
      run_sizeOf hE h3, Nat.min_eq_min, Nat.min_zero, zero, goInt]
    rfl
  · obtain ⟨ad, c', ex, _, hcase⟩ := e1.sl_inv
    by_cases hmn : Nat.min L n = 0
    · rw [hmn] at hk
      simp only [nc_zero, Option.some.injEq, Prod.mk.injEq] at hk
      obtain ⟨rfl, rfl⟩ := hk
      refine .value (.int .i64 0) w (run_builtin_v ho hc (fun _ => rfl) ?_) ⟨m, St.refl hr, .int _ _⟩
      simp only [Builtin.copy_, et, ea, ex, List.map_toArray, List.map_cons, List.map_nil, List.getElem?_toArray, List.getElem?_cons_zero, List.getElem?_cons_succ, Sem.run_bind, run_underlying hE h1, Result.andThen, h2, Sem.run_pure, hlen,
        run_sizeOf hE h3, hmn, zero, goInt, storeCells]
      rfl
    · obtain ⟨j, hj⟩ : ∃ j, Nat.min L n = j + 1 := ⟨Nat.min L n - 1, by omega⟩
      rw [hj] at hk
      simp only [nc_succ, ob_some, Option.some.injEq, Prod.mk.injEq] at hk
      obtain ⟨H', hlay, rfl, rfl⟩ := hk
      have hle : j + 1 ≤ L ∧ j + 1 ≤ n := by rw [← hj]; exact ⟨Nat.min_le_left _ _, Nat.min_le_right _ _⟩
      rcases hcase with ⟨i, hi, rfl, _⟩ | ⟨e, _⟩
      · obtain ⟨vs, w', q1, q2, q3⟩ := layA_ok (P := P) hr e2 hL hle.1 hi hlay
        refine .value (goInt (j + 1 : Nat)) w' (run_builtin_v ho hc (fun _ => rfl) ?_) ⟨m, q3, .int _ _⟩
        simp only [Builtin.copy_, et, ea, ex, List.map_toArray, List.map_cons, List.map_nil, List.getElem?_toArray, List.getElem?_cons_zero, List.getElem?_cons_succ, Sem.run_bind, run_underlying hE h1, Result.andThen, h2, Sem.run_pure, hlen,
          run_sizeOf hE h3, hj, q1, q2]
      · omega
end
end Go.Xq
