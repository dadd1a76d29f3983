/- A part of the proof that the evaluator is right. Conditions: in each theorem. -/
import Derived.Test.YtfgipbjaapkdlaaGreatDoorY4
namespace Go.Xq
section
variable {P : Program} {E : Env} (hE : TyOk P E) {o : Oper}
include hE
theorem hv_range {t kt et : Nat} {x : Operand} {ti : TI} (h1 : tyOf E t = some ti) (h2 : ti.d = .map kt et) (ho : o.op = .range t x) : HvOk P ⟨hvRange x⟩ o := by
  intro R hR m H w T ρ res H2 hr he hk
  simp only [hvRange, ob_some, onMap_some, onMp_some, Option.some.injEq, Prod.mk.injEq] at hk
  obtain ⟨a, g1, hk⟩ := hk
  have e1 := he x a g1
  rcases hk with ⟨rfl, rfl, rfl⟩ | ⟨r, rfl, y, hg, es, clock, rfl, rfl, rfl⟩
  · let i : BI := ⟨w.heap.size, 0, 0, 0⟩
    refine .value (.pointer (some ⟨w.heap.size, 0, none⟩)) { w with heap := w.heap.push (.mapIter none 0 #[] 0) } ?_ ⟨m.ext H.next i, St.newBlk hr rfl rfl (.mitN 0 0 [] i rfl) rfl rfl, .ptr H.next 0 i (Ren.ext_same _ _ _)⟩
    simp only [execOp, ho, e1.mnil_inv]; apply run_v
    simp [Instr.range, run_underlying hE h1, h2, Result.andThen]
  · obtain ⟨j, hj, ex⟩ := e1.mp_inv
    obtain ⟨y, hy, hor⟩ := hr.live _ _ hg _ hj
    cases hor with | mp en _ _ _ hen =>
    let i : BI := ⟨w.heap.size, 0, 0, 0⟩
    have hrn : r ≠ H.next := fun e => by have := (hr.bnd _ _ hj).1; omega
    refine .value (.pointer (some ⟨w.heap.size, 0, none⟩)) { w with heap := w.heap.push (.mapIter (some j.blk) clock #[] clock) } ?_
      ⟨m.ext H.next i, St.newBlk hr rfl rfl (.mitS r clock clock [] i j (by rw [Ren.ext_ne _ _ hrn]; exact hj) rfl) rfl rfl, .ptr H.next 0 i (Ren.ext_same _ _ _)⟩
    simp only [execOp, ho, ex]; apply run_v
    simp [Instr.range, run_underlying hE h1, h2, Result.andThen, run_getObj hy]
omit hE
theorem hasN_eq (x : Nat) : ∀ l : List Nat, hasN x l = l.contains x
  | [] => rfl
  | y :: r => by
    simp only [hasN, List.contains_cons, hasN_eq x r]
    by_cases h : x = y
    · subst h; simp
    · have : Nat.beq x y = false := by
        cases hb : Nat.beq x y with
        | false => rfl
        | true => exact absurd (Nat.eq_of_beq_eq_true hb) h
      rw [this, bt_false]
      simp [h]
theorem leftOf_ok {m : Ren} (seen : List Nat) : ∀ {l : List MEnt} {k : List MapEntry}, EntsR m l k → EntsR m (leftOf seen l) (k.filter fun e => !(seen.reverse.toArray).contains e.born)
  | _, _, .nil => .nil
  | _, _, .cons e f l k h hl => by
    have ih := leftOf_ok seen hl
    cases h with | mk h1 h2 h3 =>
    have hs : (seen.reverse.toArray).contains f.born = hasN e.born seen := by
      rw [hasN_eq, h3]
      rw [Bool.eq_iff_iff]
      simp
    simp only [leftOf, List.filter_cons, hs]
    cases hasN e.born seen
    · simpa using EntsR.cons _ _ _ _ (.mk _ _ h1 h2 h3) ih
    · simpa using ih
theorem anyOld_ok {m : Ren} {st : Nat} : ∀ {l : List MEnt} {k : List MapEntry}, EntsR m l k → anyOld st l = true → k = [] ∨ (k.all fun e => decide (e.born ≥ st)) = false
  | _, _, .nil, _ => .inl rfl
  | _, _, .cons e f l k h hl, ha => by
    refine .inr ?_
    cases h with | mk h1 h2 h3 =>
    simp only [anyOld] at ha
    cases hb : Nat.blt e.born st with
    | true =>
      have : e.born < st := by simpa [Nat.blt_eq] using hb
      simp only [List.all_cons, Bool.and_eq_false_iff]
      left
      rw [← h3]; simp; omega
    | false =>
      rw [hb] at ha
      simp only [bt_false] at ha
      split at ha
      · cases ha
      · rcases anyOld_ok hl ha with h | h
        · subst h; cases hl
        · simp only [List.all_cons, h, Bool.and_false]
theorem hv_next {x : Operand} (ho : o.op = .next x false) : HvOk P ⟨nextA x⟩ o := by
  intro R hR m H w T ρ res H2 hr he hk
  simp only [nextA, ob_some] at hk
  obtain ⟨a, g1, hk⟩ := hk
  have e1 := he x a g1
  split at hk <;> try (cases hk; done)
  rename_i r
  obtain ⟨i, hi, ex⟩ := e1.ptr_inv
  split at hk
  · rename_i since seen st g2
    simp only [Option.some.injEq, Prod.mk.injEq] at hk
    obtain ⟨rfl, rfl⟩ := hk
    obtain ⟨y, hy, hor⟩ := hr.live _ _ g2 _ hi
    cases hor with | mitN _ _ _ _ hb0 =>
    refine .value (.tuple #[.bool false]) w ?_ ⟨m, St.refl hr, .tup _ [.bool false] (.cons _ _ _ _ (.bool false) .nil)⟩
    simp only [execOp, ho, ex, hb0]; apply run_v
    simp [Instr.next, run_getObj hy, Result.andThen]
  · rename_i mm since seen st g2
    obtain ⟨y, hy, hor⟩ := hr.live _ _ g2 _ hi
    cases hor with | mitS _ _ _ _ _ j hj hb0 =>
    split at hk <;> try (cases hk; done)
    rename_i es clock g3
    obtain ⟨y2, hy2, hor2⟩ := hr.live _ _ g3 _ hj
    cases hor2 with | mp en _ _ _ hen =>
    split at hk <;> try (cases hk; done)
    rename_i hcl
    simp only [Bool.and_eq_true] at hcl
    obtain ⟨⟨c1, c2⟩, c3⟩ := hcl
    have c1 := Nat.eq_of_beq_eq_true c1
    have c2 := Nat.eq_of_beq_eq_true c2
    subst c1; subst c2
    have hguard : (!seen.reverse.toArray.isEmpty && !en.isEmpty && en.all fun e => decide (e.born ≥ clock)) = false := by
      rcases anyOld_ok hen c3 with h | h
      · have : en.isEmpty = true := by simpa using h
        rw [this]; simp
      · have : (en.all fun e => decide (e.born ≥ clock)) = false := by rw [← Array.all_toList]; exact h
        rw [this]; simp
    have hleft := leftOf_ok seen hen
    split at hk
    · rename_i hl0
      rw [hl0] at hleft
      simp only [Option.some.injEq, Prod.mk.injEq] at hk
      obtain ⟨rfl, rfl⟩ := hk
      have hf : (en.filter fun e => !(seen.reverse.toArray).contains e.born) = #[] := by
        apply Array.toList_inj.1
        rw [Array.toList_filter]
        generalize en.toList.filter _ = q at hleft ⊢
        cases hleft; rfl
      refine .value (.tuple #[.bool false]) w ?_ ⟨m, St.refl hr, .tup _ [.bool false] (.cons _ _ _ _ (.bool false) .nil)⟩
      simp only [execOp, ho, ex, hb0]; apply run_v
      simp only [Instr.next, Sem.run_bind, run_getObj hy (by simp), Result.andThen, run_getObj hy2 (by simp), hguard, Bool.false_eq_true, if_false, hf]
      simp [run_choose, Question.forced]
    · rename_i e hl0
      rw [hl0] at hleft
      simp only [bt_some, Option.some.injEq, Prod.mk.injEq] at hk
      obtain ⟨hlt, rfl, rfl⟩ := hk
      have hlt : e.born < clock := by simpa [Nat.blt_eq] using hlt
      obtain ⟨f, hf, he1⟩ : ∃ f, (en.filter fun e => !(seen.reverse.toArray).contains e.born) = #[f] ∧ EntR m e f := by
        have : ∃ f, (en.toList.filter fun e => !(seen.reverse.toArray).contains e.born) = [f] ∧ EntR m e f := by
          generalize en.toList.filter _ = q at hleft ⊢
          cases hleft with | cons _ f _ k h hl =>
          cases hl
          exact ⟨f, rfl, h⟩
        obtain ⟨f, h1, h2⟩ := this
        exact ⟨f, by apply Array.toList_inj.1; rw [Array.toList_filter]; exact h1, h2⟩
      cases he1 with | mk k1 k2 k3 =>
      have hfb : f.born < clock := by omega
      refine .value (.tuple #[.bool true, f.key, f.val]) { w with heap := w.heap.setIfInBounds i.blk (.mapIter (some j.blk) clock (seen.reverse.toArray.push f.born) clock) } ?_
        ⟨m, St.upd hr g2 hi ?_ rfl rfl rfl, .tup _ [.bool true, f.key, f.val] (.cons _ _ _ _ (.bool true) (.cons _ _ _ _ k1 (.cons _ _ _ _ k2 .nil)))⟩
      · simp only [execOp, ho, ex, hb0]; apply run_v
        simp only [Instr.next, Sem.run_bind, run_getObj hy (by simp), Result.andThen, run_getObj hy2 (by simp), hguard, Bool.false_eq_true, if_false, hf]
        simp [run_choose, Question.forced, hfb, run_setObj _ hy, Result.andThen]
      · have := OR.mitS (m := m) mm clock clock (e.born :: seen) i j hj hb0
        rw [k3] at this ⊢
        have e2 : (f.born :: seen).reverse.toArray = seen.reverse.toArray.push f.born := by simp
        rw [e2] at this
        exact this
    · cases hk
  · cases hk
theorem St.touch {m : Ren} {H : AH} {w w2 : World} (hr : Rel m H w) {b : Nat} {ob : AObj} {i : BI} {x2 : Obj} (hb : H.get b = some ob) (hi : m b = some i)
    (ho : OR m x2 ob i) (hw : w2.heap = w.heap.setIfInBounds i.blk x2) (hos : w2.os = w.os) (hout : w2.output = w.output) : St m H w m H w2 := by
  refine ⟨⟨?_, hr.inj, fun b' j hj => by rw [hw, Array.size_setIfInBounds]; exact hr.bnd b' j hj, hr.glob⟩, Ext.refl _ _, Nat.le_refl _, hos, hout, by rw [hw]; simp, ?_, fun b' j hj hl => .inr ⟨b', j, hj, hl, rfl⟩⟩
  · intro b' o' hb' i' hi'
    obtain ⟨y, hy, hor⟩ := hr.live b' o' hb' i' hi'
    by_cases e : b' = b
    · subst e
      rw [hb] at hb'; cases hb'
      rw [hi] at hi'; cases hi'
      exact ⟨x2, by rw [hw]; simp [(hr.bnd _ _ hi).2], ho⟩
    · refine ⟨y, ?_, hor⟩
      rw [hw, Array.getElem?_setIfInBounds_ne]
      · exact hy
      · intro e2; exact e (hr.inj _ _ _ _ _ _ hb' hb hi' hi e2.symm)
  · intro k _ hn
    rw [hw, Array.getElem?_setIfInBounds_ne (hn b i hi (by rw [hb]; simp))]
include hE
theorem hv_same {s e : Nat} {x : Operand} {ts te : TI} (h1 : tyOf E s = some ts) (h2 : ts.d = .slice e) (h3 : tyOf E e = some te) (hb : isByteD te.d = true) (ho : o.op = .convert s s x) : HvOk P ⟨hvSame x⟩ o := by
  have hbd : te.d = .int .u8 := by
    unfold isByteD at hb
    split at hb
    · assumption
    · cases hb
  intro R hR m H w T ρ res H2 hr he hk
  simp only [hvSame, ob_some, onSl_some, reduceCtorEq, and_false, false_or, bt_some, Option.some.injEq, Prod.mk.injEq] at hk
  obtain ⟨a, g1, b, off, n, c, rfl, hn, y, hg, hby, rfl, rfl⟩ := hk
  have hn : 0 < n := by simpa [Nat.blt_eq] using hn
  have e1 := he x _ g1
  obtain ⟨ad, c', ex, _, hcase⟩ := e1.sl_inv
  rcases hcase with ⟨i, hi, rfl, _⟩ | ⟨h, _⟩
  · obtain ⟨z, hz, hor⟩ := hr.live _ _ hg _ hi
    cases hor with
    | bys c0 fr e0 size opn nn i hc0 he0 hs0 hf0 h0 =>
      obtain ⟨fr', hfr, hFZ⟩ : ∃ fr', ({ w with heap := w.heap } : World).freeze { block := i.blk, off := c0.size } 1 = { w with heap := w.heap.setIfInBounds i.blk (.cells c0 e0 fr') } ∧ FZ fr' i.sz := by
        obtain ⟨lo, hi2⟩ := fr
        refine ⟨if lo == hi2 then (c0.size, c0.size + 1) else (min lo c0.size, max hi2 (c0.size + 1)), ?_, ?_⟩
        · simp only [World.freeze]
          rw [if_neg (by decide)]
          congr 1
          apply Array.ext_getElem?
          intro k
          rw [Array.getElem?_modify, Array.getElem?_setIfInBounds]
          by_cases hk : i.blk = k
          · subst hk
            rw [if_pos rfl, if_pos rfl, hz, if_pos (hr.bnd _ _ hi).2]
            rfl
          · rw [if_neg hk, if_neg hk]
        · split
          · exact .inr (by rw [hc0]; exact Nat.le_refl _)
          · rename_i hne
            rcases hf0 with h | h
            · exact absurd h (by simpa using hne)
            · refine .inr ?_
              show i.sz ≤ min lo c0.size
              have h : i.sz ≤ lo := h
              omega
      refine .value (ρ x) { w with heap := w.heap.setIfInBounds i.blk (.cells c0 e0 fr') } ?_ ⟨m, St.touch hr hg hi (.bys c0 fr' e0 size opn nn i hc0 he0 hs0 hFZ h0) rfl rfl rfl, e1⟩
      simp only [execOp, ho]; apply run_v
      have hsh : w.shape? i.blk = some (e0, c0.size) := by simp [World.shape?, hz]
      simp only [convert, Sem.run_bind, run_underlying hE h1, Result.andThen, h2, ex, run_underlying hE h3, hbd, beq_self_eq_true, markStringish, run_shape, hsh, run_freeze, Sem.run_pure]
      rw [← hfr]
    | _ => simp [isBy] at hby
  · omega
end
end Go.Xq
namespace Go.Xq
section
variable {P : Program} {E : Env} (hE : TyOk P E) {o : Oper}
inductive PlR (m : Ren) : Bool → AV → Place → Prop
  | val (x : AV) (v : Value) (h : VR m x v) : PlR m false x (.val v)
  | var (b off : Nat) (i : BI) (h : m b = some i) : PlR m true (.ptr b off) (.var ⟨i.blk, i.base + off, none⟩)
theorem run_asAddr {a : Addr} {w : World} : (asAddr (.pointer (some a))).run P w = .ok a w := rfl
include hE
theorem follow_ok {m : Ren} {H : AH} {w : World} (hr : Rel m H w) : ∀ {path : List FieldStep} {t : Nat} {var : Bool} {k : FoK} {t2 : Nat} {var2 : Bool} {x x2 : AV} {pl : Place},
    followK E path t var = some (k, t2, var2) → PlR m var x pl → k.f H x = some x2 → ∃ pl2, (follow path t pl).run P w = .ok (t2, pl2) w ∧ PlR m var2 x2 pl2
  | [], t, var, k, t2, var2, x, x2, pl, h, hp, hk => by
    simp only [followK, Option.some.injEq, Prod.mk.injEq] at h
    obtain ⟨rfl, rfl, rfl⟩ := h
    cases hk
    exact ⟨pl, by simp [follow], hp⟩
  | s :: r, t, var, k, t2, var2, x, x2, pl, h, hp, hk => by
    simp only [followK, ob_some] at h
    obtain ⟨ts, h1, fd, h2, tf, h3, h⟩ := h
    obtain ⟨fs, hd, hfs⟩ := fields_of h1 h2
    split at h
    · -- a pointer's target
      rename_i hde
      split at h
      · cases h
      · rename_i n hn
        simp only [ob_some, Option.some.injEq, Prod.mk.injEq] at h
        obtain ⟨⟨k1, t1, v1⟩, h4, rfl, rfl, rfl⟩ := h
        cases hp with | val x v hv =>
        simp only at hk
        split at hk
        · rename_i b off
          obtain ⟨i, hi, rfl⟩ := hv.ptr_inv
          obtain ⟨pl2, q1, q2⟩ := follow_ok hr h4 (PlR.var b (off + fd.offset) i hi) hk
          refine ⟨pl2, ?_, q2⟩
          simp only [follow, Sem.run_bind, run_underlying hE h1, Result.andThen, hd, hfs, hde, if_true, Place.get, Sem.run_pure, run_asAddr, fieldPlace_ok hE h3 hn, Nat.add_assoc]
          exact q1
        · cases hk
    · rename_i hde
      split at h
      · cases h
      · rename_i n hn
        simp only [ob_some, Option.some.injEq, Prod.mk.injEq] at h
        obtain ⟨ld, hld, ⟨k1, t1, v1⟩, h4, rfl, rfl, rfl⟩ := h
        cases hp with | var b0 off0 i0 hi0 =>
        simp only [ob_some] at hk
        obtain ⟨p, hp1, hk⟩ := hk
        obtain ⟨a, v', hu, hrun, hv⟩ := ldK_ok hE hld hr (.ptr b0 off0 i0 hi0) hp1
        cases hu
        split at hk
        · rename_i b off
          obtain ⟨i, hi, rfl⟩ := hv.ptr_inv
          obtain ⟨pl2, q1, q2⟩ := follow_ok hr h4 (PlR.var b (off + fd.offset) i hi) hk
          refine ⟨pl2, ?_, q2⟩
          simp only [follow, Sem.run_bind, run_underlying hE h1, Result.andThen, hd, hfs, hde, if_true, Place.get, hrun, run_asAddr, fieldPlace_ok hE h3 hn, Nat.add_assoc]
          exact q1
        · cases hk
    · rename_i hde
      split at h
      · cases h
      · rename_i n hn
        simp only [ob_some, Option.some.injEq, Prod.mk.injEq] at h
        obtain ⟨⟨k1, t1, v1⟩, h4, rfl, rfl, rfl⟩ := h
        cases hp with | var b off i hi =>
        simp only at hk
        obtain ⟨pl2, q1, q2⟩ := follow_ok hr h4 (PlR.var b (off + fd.offset) i hi) hk
        refine ⟨pl2, ?_, q2⟩
        simp only [follow, Sem.run_bind, run_underlying hE h1, Result.andThen, hd, hfs, hde, Bool.false_eq_true, if_false, fieldPlace_ok hE h3 hn, Nat.add_assoc]
        exact q1
    · rename_i hde
      simp only [ob_some, Option.some.injEq, Prod.mk.injEq] at h
      obtain ⟨pk, hpk, ⟨k1, t1, v1⟩, h4, rfl, rfl, rfl⟩ := h
      cases hp with | val x v hv =>
      simp only at hk
      split at hk
      · rename_i cs
        simp only [ob_some] at hk
        obtain ⟨y, hy, hk⟩ := hk
        obtain ⟨vs, hvl, rfl⟩ := hv.agg_inv
        obtain ⟨u, hu, hvu⟩ := partK_ok (w := w) hE hpk hvl hy
        obtain ⟨pl2, q1, q2⟩ := follow_ok hr h4 (PlR.val y u hvu) hk
        refine ⟨pl2, ?_, q2⟩
        simp only [follow, Sem.run_bind, run_underlying hE h1, Result.andThen, hd, hfs, hde, Bool.false_eq_true, if_false, hu]
        exact q1
      · cases hk
omit hE in
theorem run_wrap {a : Addr} {w : World} {xt : TypeId} {nm : String} : (Builtin.ssaWrapNilChk_ #[xt] xt #[.pointer (some a), strVal "", strVal nm]).run P w = .ok (.pointer (some a)) w := rfl
theorem recv_ok {m : Ren} {H : AH} {w : World} (hr : Rel m H w) {xt : Nat} {var pr : Bool} {k : VK} {x r : AV} {pl : Place} (wr : Option String) (h : recvK E xt var pr = some k) (hp : PlR m var x pl) (hk : k.f H x = some r) :
    ∃ v, (receiverAt xt pl pr wr).run P w = .ok v w ∧ VR m r v := by
  simp only [recvK, ob_some] at h
  obtain ⟨ti, h1, h⟩ := h
  split at h
  · rename_i e hd
    split at h
    · cases hp with | var b off i hi =>
      obtain ⟨a, v', hu, hrun, hv⟩ := ldK_ok hE h hr (.ptr b off i hi) hk
      cases hu
      refine ⟨v', ?_, hv⟩
      simp only [receiverAt, Sem.run_bind, run_underlying hE h1, Result.andThen, hd, Place.get, hrun]
    · cases h; cases hk
      cases hp with | val x v hv =>
      refine ⟨v, ?_, hv⟩
      simp only [receiverAt, Sem.run_bind, run_underlying hE h1, Result.andThen, hd, Place.get, Sem.run_pure]
    · simp only [ob_some, Option.some.injEq] at h
      obtain ⟨a, ha, b', hb, rfl⟩ := h
      simp only [ob_some] at hk
      obtain ⟨p, hp1, hk⟩ := hk
      cases hp with | var b off i hi =>
      obtain ⟨a1, v1, hu, hrun, hv⟩ := ldK_ok hE ha hr (.ptr b off i hi) hp1
      cases hu
      obtain ⟨a2, v2, hu2, hrun2, hv2⟩ := ldK_ok hE hb hr hv hk
      subst hu2
      refine ⟨v2, ?_, hv2⟩
      cases wr <;> simp only [receiverAt, Sem.run_bind, run_underlying hE h1, Result.andThen, hd, Place.get, hrun, run_wrap, Sem.run_pure, run_asAddr, hrun2]
    · cases hp with | val x v hv =>
      obtain ⟨a2, v2, hu2, hrun2, hv2⟩ := ldK_ok hE h hr hv hk
      subst hu2
      refine ⟨v2, ?_, hv2⟩
      cases wr <;> simp only [receiverAt, Sem.run_bind, run_underlying hE h1, Result.andThen, hd, Place.get, run_wrap, Sem.run_pure, run_asAddr, hrun2]
  · rename_i hd
    split at h
    · cases h; cases hk
      cases hp with | var b off i hi =>
      refine ⟨_, ?_, .ptr b off i hi⟩
      simp only [receiverAt, Sem.run_bind, run_underlying hE h1, Result.andThen]
      cases hdd : ti.d <;> first | exact absurd hdd (hd _) | rfl
    · cases h
    · cases hp with | var b off i hi =>
      obtain ⟨a, v', hu, hrun, hv⟩ := ldK_ok hE h hr (.ptr b off i hi) hk
      cases hu
      refine ⟨v', ?_, hv⟩
      simp only [receiverAt, Sem.run_bind, run_underlying hE h1, Result.andThen]
      cases hdd : ti.d <;> first | exact absurd hdd (hd _) | (simp only [Place.get]; exact hrun)
    · cases h; cases hk
      cases hp with | val x v hv =>
      refine ⟨v, ?_, hv⟩
      simp only [receiverAt, Sem.run_bind, run_underlying hE h1, Result.andThen]
      cases hdd : ti.d <;> first | exact absurd hdd (hd _) | rfl
theorem method_ok {m : Ren} {H : AH} {w : World} (hr : Rel m H w) {t : Nat} {name : String} {k : MeK} {v r : AV} {u : Value} (h : methodK E t name = some k) (hv : VR m v u) (hk : k.f H v = some r) (fuel : Nat) :
    ∃ x, (method (fuel + 1) t u name).run P w = .ok (k.fid, x) w ∧ VR m r x := by
  simp only [methodK, ob_some] at h
  obtain ⟨ti, h1, me, h2, ⟨fo, t2, v2⟩, h3, h⟩ := h
  obtain ⟨i, q1, _, _, _, q2⟩ := run_typeInfo (w := w) hE h1
  have h5 : i.methods.find? (·.name == name) = some me := by rw [q2, ← Array.find?_toList]; exact findM_ok h2
  split at h
  · cases h
  · rename_i f pr hf
    simp only [ob_some, Option.some.injEq] at h
    obtain ⟨rk, h6, rfl⟩ := h
    simp only [ob_some] at hk
    obtain ⟨x, h7, h8⟩ := hk
    obtain ⟨pl2, g1, g2⟩ := follow_ok hE hr h3 (PlR.val v u hv) h7
    obtain ⟨y, g3, g4⟩ := recv_ok hE hr (if me.path.isEmpty then some ((name.splitOn ".").getLastD name) else none) h6 g2 h8
    refine ⟨y, ?_, g4⟩
    simp only [method, Sem.run_bind, q1, Result.andThen, h5, g1, hf, g3, Sem.run_pure]
end
end Go.Xq
namespace Go.Xq
def ExtOk (P : Program) (E : Env) : Prop :=
  ∀ g args H v, E.ext g args H = some v → ∀ m w vs, Rel m H w → VL m args vs → ∃ v', (callFunc g vs.toArray).run P w = .ok (.value v') w ∧ VR m v v'
section
variable {P : Program} {E : Env} (hE : TyOk P E) (hX : ExtOk P E) {o : Oper} {R : Rec} (hR : RecOk P R)
theorem Outc.congr {s s' : Sem Next} {w w2 : World} {Q : Value → World → Prop} (h : s.run P w = s'.run P w2) (ho : Outc P s' w2 Q) : Outc P s w Q := by
  cases ho with
  | value v w' h1 h2 => exact .value v w' (h.trans h1) h2
  | skip w' h1 h2 => exact .skip w' (h.trans h1) h2
  | enter f args w1 h1 h2 => exact .enter f args w1 (h.trans h1) h2
  | round l f tmps a b w1 h1 h2 => exact .round l f tmps a b w1 (h.trans h1) h2
theorem run_enter {f : FuncId} {args : Array Value} {w : World} (h : Enters P f) : (callFunc f args).run P w = .ok (.enter f args) w := by
  obtain ⟨fn, h1, h2, h3⟩ := h
  simp only [callFunc, Sem.run_bind, run_program, Result.andThen, h1, h2, h3, Bool.false_eq_true, if_false]
  rfl
include hR in
theorem call_ok {m : Ren} {H H2 : AH} {w : World} (hr : Rel m H w) {g : Nat} {l v : AV} {vs : List Value} (hl : VL m l vs) (h : R.call g l H = some (v, H2)) : Outc P (callFunc g vs.toArray) w (Post m H w v H2) := by
  obtain ⟨h1, h2⟩ := hR.call _ _ _ _ _ h
  exact .enter _ _ w (run_enter h1) (h2 m w vs hr hl)
include hX hR in
theorem callFA_ok {m : Ren} {H H2 : AH} {w : World} (hr : Rel m H w) {g : Nat} {l v : AV} {vs : List Value} (hl : VL m l vs) (h : callFA E R H g l = some (v, H2)) : Outc P (callFunc g vs.toArray) w (Post m H w v H2) := by
  simp only [callFA] at h
  cases he : E.ext g l H with
  | none => rw [he] at h; exact call_ok hR hr hl h
  | some x =>
    rw [he] at h
    simp only [oc_some, Option.some.injEq, Prod.mk.injEq] at h
    obtain ⟨rfl, rfl⟩ := h
    obtain ⟨v', h1, h2⟩ := hX _ _ _ _ he m w vs hr hl
    exact .value v' w h1 ⟨m, St.refl hr, h2⟩
include hE hX hR in
theorem callMA_ok {m : Ren} {H H2 : AH} {w : World} (hr : Rel m H w) {r l v : AV} {name : String} {rv : Value} {vs : List Value} (hv : VR m r rv) (hl : VL m l vs) (h : callMA E R H r name l = some (v, H2)) :
    Outc P (callMethod rv name vs.toArray) w (Post m H w v H2) := by
  simp only [callMA, onIfc_some, reduceCtorEq, and_false, false_or, ob_some] at h
  obtain ⟨t, a, rfl, k, hk, x, hx, h⟩ := h
  obtain ⟨u, hu, rfl⟩ := hv.ifc_inv
  obtain ⟨xv, h1, h2⟩ := method_ok hE hr hk hu hx (P.types.size + 99)
  refine Outc.congr ?_ (callFA_ok hX hR hr (VL.cons _ _ _ _ h2 hl) h)
  have h1' : (method (P.types.size + Made.depth) t u name).run P w = .ok (k.fid, xv) w := h1
  simp only [callMethod, Sem.run_bind, run_program, Result.andThen, h1']
  congr 2
  simp
include hE hX hR in
theorem callVA_ok {m : Ren} {H H2 : AH} {w : World} (hr : Rel m H w) {f l v : AV} {fv : Value} {vs : List Value} (hv : VR m f fv) (hl : VL m l vs) (h : callVA E R H f l = some (v, H2)) :
    Outc P (do let d ← Deferred.ofValue fv vs.toArray; invoke d.target d.args) w (Post m H w v H2) := by
  simp only [callVA, onFn_some] at h
  obtain ⟨q, first, cap, rfl, h⟩ := h
  obtain ⟨g, va, vc, hf, ha, hc, rfl⟩ := hv.fn_inv
  split at h
  · rename_i g'
    cases hf
    refine Outc.congr ?_ (callFA_ok hX hR hr (ha.app (hl.app hc)) h)
    simp only [Deferred.ofValue, Sem.run_bind, Sem.run_pure, Result.andThen, invoke]
    congr 2
    simp
  · rename_i l'
    cases hf with
    | same f h' => exact absurd rfl (h' _)
    | yield l i hi =>
      obtain ⟨f, tmps, a, b, h1, h2⟩ := hR.round _ _ _ _ _ h m w _ i hr (ha.app hl) hi
      refine .round i.blk f tmps a b w ?_ h2
      simp only [Deferred.ofValue, Sem.run_bind, Sem.run_pure, Result.andThen, invoke]
      have e : va.toArray ++ vs.toArray = (va ++ vs).toArray := by simp
      rw [e]; exact h1
  · rename_i name
    cases hf
    simp only [onCons_some, reduceCtorEq, and_false, false_or] at h
    obtain ⟨r, rest, e, h⟩ := h
    have hall := ha.app hl
    rw [e] at hall
    generalize hz : va ++ vs = zs at hall
    cases hall with | cons _ rv _ rest' hrv hrest =>
    refine Outc.congr ?_ (callMA_ok hE hX hR hr hrv hrest h)
    have e2 : va.toArray ++ vs.toArray = (rv :: rest').toArray := by rw [← hz]; simp
    simp only [Deferred.ofValue, Sem.run_bind, Sem.run_pure, Result.andThen, invoke, e2]
    have e3 : ((rv :: rest').toArray)[0]? = some rv := rfl
    have e4 : ((rv :: rest').toArray).extract 1 ((rv :: rest').toArray).size = rest'.toArray := by
      apply Array.toList_inj.1; simp
    simp only [e3, e4]
  · cases h
theorem run_map_ops {m : Ren} {T : Tr AV} {ρ : Operand → Value} (he : ER m T ρ) {args : Array Operand} {l : AV} (h : (opnds args.toList).f T = some l) : VL m l (args.map ρ).toList := by
  rw [Array.toList_map]; exact opnds_ok he h
include hE hX in
theorem heavyCall_ok {c : Call} {k : HvK} (h : heavyCall E c = some k) (ho : o.op = .call c) : HvOk P k o := by
  unfold heavyCall at h
  split at h
  · rename_i f0 hc
    split at h
    · rename_i g
      cases h
      intro R hR m H w T ρ v H2 hr he hk
      simp only [hvCallF, ob_some] at hk
      obtain ⟨l, hl, hk⟩ := hk
      have hvl := run_map_ops he hl
      refine Outc.congr ?_ (callFA_ok hX hR hr hvl hk)
      have hf : VR m (.fn (.func g) .nil .nil) (ρ (.func g)) := he (.func g) _ rfl
      obtain ⟨q, va, vc, hq, ha, hcc, e⟩ := hf.fn_inv
      cases hq; cases ha; cases hcc
      simp only [execOp, ho, resolve, hc, e, Deferred.ofValue, Sem.run_bind, Sem.run_pure, Result.andThen, invoke]
      congr 2
      apply Array.toList_inj.1; simp
    · rename_i fx hf
      cases h
      intro R hR m H w T ρ v H2 hr he hk
      simp only [hvCallV, ob_some] at hk
      obtain ⟨fa, hfa, l, hl, hk⟩ := hk
      refine Outc.congr ?_ (callVA_ok hE hX hR hr (he f0 fa hfa) (run_map_ops he hl) hk)
      simp only [execOp, ho, resolve, hc, Array.toArray_toList]
  · rename_i r name hc
    cases h
    intro R hR m H w T ρ v H2 hr he hk
    simp only [hvInvoke, ob_some] at hk
    obtain ⟨a, ha, l, hl, hk⟩ := hk
    refine Outc.congr ?_ (callMA_ok hE hX hR hr (he r a ha) (run_map_ops he hl) hk)
    simp only [execOp, ho, resolve, hc, Array.toArray_toList, Sem.run_bind, Sem.run_pure, Result.andThen, invoke]
    have e3 : (#[ρ r] ++ c.args.map ρ)[0]? = some (ρ r) := by rw [Array.getElem?_append_left (by exact Nat.one_pos)]; rfl
    have e4 : (#[ρ r] ++ c.args.map ρ).extract 1 (#[ρ r] ++ c.args.map ρ).size = c.args.map ρ := by
      apply Array.toList_inj.1
      simp only [Array.toList_extract, Array.toList_append, List.singleton_append, List.extract_eq_take_drop, List.drop_succ_cons, List.drop_zero]
      exact List.take_of_length_le (by simp)
    simp only [e3, e4]
  · rename_i b hc
    split at h
    · split at h
      · rename_i ha ht; exact hv_append hE h ho hc ha ht
      · cases h
    · split at h
      · rename_i ha ht
        simp only [hvCopyK, ob_some] at h
        obtain ⟨ti, h1, h⟩ := h
        split at h
        · rename_i hd
          simp only [ob_some, Option.some.injEq] at h
          obtain ⟨te, h3, rfl⟩ := h
          exact hv_copy hE h1 hd h3 ho hc ha ht
        · cases h
      · cases h
    · split at h
      · rename_i ha ht; exact hv_clear hE h ho hc ha ht
      · cases h
    · split at h
      · rename_i ha ht
        simp only [deleteK, ob_some] at h
        obtain ⟨ti, h1, h⟩ := h
        split at h
        · rename_i hd
          simp only [ob_some, Option.some.injEq] at h
          obtain ⟨q, hq, rfl⟩ := h
          exact hv_delete hE h1 hd hq ho hc ha ht
        · cases h
      · cases h
    · cases h
include hE in
theorem mapSetK_ok {t : Nat} {x k v : Operand} {g : HvK} (h : mapSetK E t x k v = some g) (ho : o.op = .mapUpdate t x k v ∨ o.op = .insert t x k v) : HvOk P g o := by
  simp only [mapSetK, ob_some] at h
  obtain ⟨ti, h1, h⟩ := h
  split at h
  · rename_i hd
    simp only [ob_some, Option.some.injEq] at h
    obtain ⟨q, hq, rfl⟩ := h
    exact hv_mapSet hE h1 hd hq ho
  · cases h
include hE hX in
theorem heavyK_ok {k : HvK} (h : heavyK E o.op = some k) : HvOk P k o := by
  unfold heavyK at h
  split at h
  · rename_i ho; simp only [ob_some, Option.some.injEq] at h; obtain ⟨g, hg, rfl⟩ := h; exact hv_store hE hg ho
  · rename_i ho; exact mapSetK_ok hE h (.inl ho)
  · rename_i ho; exact mapSetK_ok hE h (.inr ho)
  · rename_i ho
    split at h
    · cases h; exact hv_next ho
    · cases h
  · rename_i s d x ho
    split at h
    · rename_i he
      have he := Nat.eq_of_beq_eq_true he
      subst he
      simp only [ob_some] at h
      obtain ⟨ts, h1, h⟩ := h
      split at h
      · rename_i hd
        simp only [ob_some] at h
        obtain ⟨te, h3, h⟩ := h
        split at h
        · rename_i hb; cases h; exact hv_same hE h1 hd h3 hb ho
        · cases h
      · cases h
    · cases h
  · rename_i ho
    simp only [ob_some] at h
    obtain ⟨ti, h1, h⟩ := h
    split at h
    · rename_i hd; cases h; exact hv_range hE h1 hd ho
    · cases h
  · rename_i c ho; exact heavyCall_ok hE hX h ho
  · cases h
end
end Go.Xq
namespace Go.Xq
section
variable {P : Program} {E : Env} {b : Frame} {a : Act} {K : List Item} {cs : List Frame} {w : World}
theorem step_leave {fr c : Frame} {v : Value} (h : Leaves P fr w v) (hk : fr.kind = .normal) : step P (lone fr (c :: cs) w) = .next (lone (c.finish v) cs w) :=
  step_leave_returned ⟨h.mode, h.defers, hk, h.fn⟩
theorem step_leave_deferred {fr c : Frame} {v : Value} (h : Leaves P fr w v) (hk : fr.kind = .deferred) (hc : c.mode = .returning) : step P (lone fr (c :: cs) w) = .next (lone c cs w) := by
  obtain ⟨fn, hf, hr⟩ := h.fn
  exact step_lone_go (by simp [stepG, unwind, doReturn, h.mode, h.defers, hk, hf, hr, hc])
theorem step_op {ops : Array Oper} {i : Nat} {rest : List Nat} {o : Oper} {Q : Value → World → Prop} (ho : ops[i]? = some o) (hw : Region.wanted o (yielded ops a.tmps) = true) (hs : o.semAt b.roundOf a.eval = execOp a.eval o)
    (h : Outc P (execOp a.eval o) w Q) : ∃ v w', Q v w' ∧ Steps P (lone (b.atR a (.inRegion ops (i :: rest) :: K)) cs w) (lone (b.atR (a.put o.dst v) (.inRegion ops rest :: K)) cs w') := by
  have hg := stepGR_op (P := P) (b := b) (k := K) (cs := cs) (w := w) (rest := rest) ho hw
  rw [hs] at hg
  have hfin : ∀ v, (b.atR a (.inRegion ops (i :: rest) :: K)).finish v = b.atR (a.put o.dst v) (.inRegion ops rest :: K) := by
    intro v; rw [Frame.finish_atR, ho]; rfl
  cases h with
  | value v w' hr hq =>
    refine ⟨v, w', hq, .one (step_lone_go ?_)⟩
    rw [hg, ← hfin]; simp [stepG.apply, hr]
  | skip w' hr hq =>
    refine ⟨undef, w', hq, .one (step_lone_go ?_)⟩
    rw [hg, ← hfin]; simp [stepG.apply, hr]
  | enter f args w1 hr hx =>
    obtain ⟨v, w', fr, hq, hst, hk, _, hl⟩ := hx (b.atR a (.inRegion ops (i :: rest) :: K) :: cs) (.inl rfl)
    have henter : step P (lone (b.atR a (.inRegion ops (i :: rest) :: K)) cs w) = .next (lone (Frame.enter P f args .normal) (b.atR a (.inRegion ops (i :: rest) :: K) :: cs) w1) :=
      step_lone_go (by rw [hg]; simp [stepG.apply, hr, Frame.atR])
    refine ⟨v, w', hq, .head henter (hst.trans (.one ?_))⟩
    rw [← hfin]; exact step_leave hl hk
  | round l f tmps x y w1 hr hx =>
    obtain ⟨v, w', hq, hst⟩ := hx (b.atR a (.inRegion ops (i :: rest) :: K)) cs
    have henter : step P (lone (b.atR a (.inRegion ops (i :: rest) :: K)) cs w) = .next (lone (Frame.round l f tmps x y .normal) (b.atR a (.inRegion ops (i :: rest) :: K) :: cs) w1) :=
      step_lone_go (by rw [hg]; simp [stepG.apply, hr, Frame.atR])
    refine ⟨v, w', hq, .head henter ?_⟩
    rw [← hfin]; exact hst
theorem step_defer_op {ops : Array Oper} {i : Nat} {rest : List Nat} {o : Oper} {d : Deferred} {w' : World} (ho : ops[i]? = some o) (hw : Region.wanted o (yielded ops a.tmps) = true) (hb : b.roundOf = none)
    (hr : (execOp a.eval o).run P w = .ok (.defer d) w') :
    step P (lone (b.atR a (.inRegion ops (i :: rest) :: K)) cs w) = .next (lone (b.atR ({ a with defers := d :: a.defers }.put o.dst undef) (.inRegion ops rest :: K)) cs w') := by
  have hg := stepGR_op (P := P) (b := b) (k := K) (cs := cs) (w := w) (rest := rest) ho hw
  rw [hb, Oper.semAt_none] at hg
  have hfin := Frame.finish_atR b { a with defers := d :: a.defers } ops i rest K undef
  rw [ho] at hfin
  refine step_lone_go ?_
  rw [hg]; simp only [stepG.apply, Sem.runT_eq, hr, GStep.bare_after]
  exact congrArg (fun fr => GStep.go { frame := fr, callers := cs, status := .running, dying := none } w') hfin
theorem step_recover_op {ops : Array Oper} {i : Nat} {rest : List Nat} {o : Oper} {w' : World} (ho : ops[i]? = some o) (hw : Region.wanted o (yielded ops a.tmps) = true) (hb : b.roundOf = none) (hk : CsOk b.kind cs)
    (hr : (execOp a.eval o).run P w = .ok .recover w') :
    step P (lone (b.atR a (.inRegion ops (i :: rest) :: K)) cs w) = .next (lone (b.atR (a.put o.dst .nilIface) (.inRegion ops rest :: K)) cs w') := by
  have hg := stepGR_op (P := P) (b := b) (k := K) (cs := cs) (w := w) (rest := rest) ho hw
  rw [hb, Oper.semAt_none] at hg
  have hfin := Frame.finish_atR b a ops i rest K .nilIface
  rw [ho] at hfin
  have hro : (b.atR a (.inRegion ops (i :: rest) :: K)).roundOf = none := hb
  have htry : tryRecover (b.atR a (.inRegion ops (i :: rest) :: K)) cs = none := by
    have hkk : (b.atR a (.inRegion ops (i :: rest) :: K)).kind = b.kind := rfl
    rcases hk with h | ⟨h, c, r, rfl, hm⟩
    · unfold tryRecover; rw [hkk, h]
    · unfold tryRecover; rw [hkk, h]; simp [hm]
  refine step_lone_go ?_
  rw [hg]; simp only [stepG.apply, Sem.runT_eq, hr, GStep.bare_after, hro, htry]
  exact congrArg (fun fr => GStep.go { frame := fr, callers := cs, status := .running, dying := none } w') hfin
end
inductive DfR1 (m : Ren) : ADf → Deferred → Prop
  | mark (k : Nat) (i : BI) (f args : AV) (h : m k = some i) : DfR1 m { mark := some k, f, args } { target := .collected i.blk, args := #[] }
  | call (q g : Fn) (first cap args : AV) (vc vs : List Value) (hf : FR m q g) (hc : VL m cap vc) (ha : VL m args vs) : DfR1 m { mark := none, f := .fn q first cap, args } { target := .fn g vc.toArray, args := vs.toArray }
inductive DfR (m : Ren) : List ADf → List Deferred → Prop
  | nil : DfR m [] []
  | cons (x d l k) (h : DfR1 m x d) (hl : DfR m l k) : DfR m (x :: l) (d :: k)
theorem DfR1.mono {m m2 : Ren} (hm : Le m m2) {x d} (h : DfR1 m x d) : DfR1 m2 x d := by
  cases h with
  | mark k i f args h => exact .mark k i f args (hm _ _ h)
  | call q g first cap args vc vs hf hc ha => exact .call q g first cap args vc vs (hf.mono hm) (hc.mono hm) (ha.mono hm)
theorem DfR.mono {m m2 : Ren} (hm : Le m m2) : ∀ {l k}, DfR m l k → DfR m2 l k
  | _, _, .nil => .nil
  | _, _, .cons x d l k h hl => .cons x d l k (h.mono hm) (hl.mono hm)
structure Cx where
  n : Nat
  rd : Option Nat
  ro : Option Nat
def RdR (c : Cx) (m : Ren) : Prop := (c.rd = none ∧ c.ro = none) ∨ ∃ l i, c.rd = some l ∧ m l = some i ∧ c.ro = some i.blk
theorem RdR.mono {c : Cx} {m m2 : Ren} (hm : Le m m2) (h : RdR c m) : RdR c m2 := by
  rcases h with h | ⟨l, i, h1, h2, h3⟩
  · exact .inl h
  · exact .inr ⟨l, i, h1, hm _ _ h2, h3⟩
structure FrR (n : Cx) (m : Ren) (T : Tr AV) (D : List ADf) (a : Act) : Prop where
  t : TR n.n m T a.tmps
  d : DfR m D a.defers
  r : RdR n m
theorem FrR.mono {n : Cx} {m m2 : Ren} (hm : Le m m2) {T D a} (h : FrR n m T D a) : FrR n m2 T D a := ⟨h.t.mono hm, h.d.mono hm, h.r.mono hm⟩
theorem TR.put {n : Nat} {m : Ren} {T : Tr AV} {ts : Array Value} (h : TR n m T ts) {d : Nat} (hd : d < n) {v : AV} {x : Value} (hv : VR m v x) : TR n m (T.put (some v) (bits d)) (ts.setIfInBounds d x) := by
  refine ⟨by simpa using h.size, fun t q hq => ?_⟩
  by_cases e : t = d
  · subst e
    rw [Tr.get_put_same] at hq
    cases hq
    have : (ts.setIfInBounds t x).getD t undef = x := by
      simp [Array.getD_eq_getD_getElem?, h.size, hd]
    rw [this]; exact hv
  · rw [Tr.get_put_ne _ _ _ _ (bits_ne (Ne.symm e))] at hq
    have : (ts.setIfInBounds d x).getD t undef = ts.getD t undef := by
      simp [Array.getD_eq_getD_getElem?, Array.getElem?_setIfInBounds_ne (Ne.symm e)]
    rw [this]; exact h.at_ t q hq
theorem FrR.put {n : Cx} {m : Ren} {T : Tr AV} {D : List ADf} {a : Act} (h : FrR n m T D a) {dst : Option Nat} (hd : dstOk n.n dst = true) {v : AV} {x : Value} (hv : VR m v x) : FrR n m (putA T dst v) D (a.put dst x) := by
  cases dst with
  | none => exact h
  | some d => exact ⟨h.t.put (by simpa [dstOk, Nat.blt_eq] using hd) hv, h.d, h.r⟩
theorem FrR.er {n : Cx} {m : Ren} {H : AH} {w : World} (hr : Rel m H w) {T D} {a : Act} (h : FrR n m T D a) : ER m T a.eval := ER.of hr.glob h.t
end Go.Xq
