/- A part of the proof that what the evaluator answers is what the machine does. Its conditions stand in each theorem. -/
import Derived.Test.YtgcgpblccnajjacGreatDoorY16
namespace Go.Xq
section
variable {P : Program} {E : Env} (hE : TyOk P E) {o : Oper}
include hE
theorem hv_range {t kt et : Nat} {x : Operand} {ti : TI} (h1 : tyOf E t = some ti) (h2 : ti.d = .map kt et) (ho : o.op = .range t x) : HvOk P ⟨hvRange x⟩ o := by
  intro R hR m H w T ρ res H2 hr he hk
  simp only [hvRange, ob_some, onMap_some, onMp_some, Option.some.injEq, Prod.mk.injEq] at hk
  obtain ⟨a, g1, hk⟩ := hk
  have e1 := he x a g1
  rcases hk with ⟨rfl, rfl, rfl⟩ | ⟨r, rfl, y, hg, es, clock, rfl, rfl, rfl⟩
  · let i : BI := ⟨w.heap.size, 0, 0, 0⟩
    refine .value (.pointer (some ⟨w.heap.size, 0, none⟩)) { w with heap := w.heap.push (.mapIter none 0 #[] 0) } ?_ ⟨m.ext H.next i, St.newBlk hr rfl rfl (.mitN 0 0 [] i rfl) rfl rfl, .ptr H.next 0 i (Ren.ext_same _ _ _)⟩
    simp only [execOp, ho, e1.mnil_inv]; apply run_v
    simp [Instr.range, run_underlying hE h1, h2, Result.andThen]
  · obtain ⟨j, hj, ex⟩ := e1.mp_inv
    obtain ⟨y, hy, hor⟩ := hr.live _ _ hg _ hj
    cases hor with | mp en _ _ _ hen =>
    let i : BI := ⟨w.heap.size, 0, 0, 0⟩
    have hrn : r ≠ H.next := fun e => by have := (hr.bnd _ _ hj).1; omega
    refine .value (.pointer (some ⟨w.heap.size, 0, none⟩)) { w with heap := w.heap.push (.mapIter (some j.blk) clock #[] clock) } ?_
      ⟨m.ext H.next i, St.newBlk hr rfl rfl (.mitS r clock clock [] i j (by rw [Ren.ext_ne _ _ hrn]; exact hj) rfl) rfl rfl, .ptr H.next 0 i (Ren.ext_same _ _ _)⟩
    simp only [execOp, ho, ex]; apply run_v
    simp [Instr.range, run_underlying hE h1, h2, Result.andThen, run_getObj hy]
omit hE
theorem hasN_eq (x : Nat) : ∀ l : List Nat, hasN x l = l.contains x
  | [] => rfl
  | y :: r => by
    simp only [hasN, List.contains_cons, hasN_eq x r]
    by_cases h : x = y
    · subst h; simp
    · have : Nat.beq x y = false := by
        cases hb : Nat.beq x y with
        | false => rfl
        | true => exact absurd (Nat.eq_of_beq_eq_true hb) h
      rw [this, bt_false]
      simp [h]
theorem leftOf_ok {m : Ren} (seen : List Nat) : ∀ {l : List MEnt} {k : List MapEntry}, EntsR m l k → EntsR m (leftOf seen l) (k.filter fun e => !(seen.reverse.toArray).contains e.born)
  | _, _, .nil => .nil
  | _, _, .cons e f l k h hl => by
    have ih := leftOf_ok seen hl
    cases h with | mk h1 h2 h3 =>
    have hs : (seen.reverse.toArray).contains f.born = hasN e.born seen := by
      rw [hasN_eq, h3]
      rw [Bool.eq_iff_iff]
      simp
    simp only [leftOf, List.filter_cons, hs]
    cases hasN e.born seen
    · simpa using EntsR.cons _ _ _ _ (.mk _ _ h1 h2 h3) ih
    · simpa using ih
theorem anyOld_ok {m : Ren} {st : Nat} : ∀ {l : List MEnt} {k : List MapEntry}, EntsR m l k → anyOld st l = true → k = [] ∨ (k.all fun e => decide (e.born ≥ st)) = false
  | _, _, .nil, _ => .inl rfl
  | _, _, .cons e f l k h hl, ha => by
    refine .inr ?_
    cases h with | mk h1 h2 h3 =>
    simp only [anyOld] at ha
    cases hb : Nat.blt e.born st with
    | true =>
      have : e.born < st := by simpa [Nat.blt_eq] using hb
      simp only [List.all_cons, Bool.and_eq_false_iff]
      left
      rw [← h3]; simp; omega
    | false =>
      rw [hb] at ha
      simp only [bt_false] at ha
      split at ha
      · cases ha
      · rcases anyOld_ok hl ha with h | h
        · subst h; cases hl
        · simp only [List.all_cons, h, Bool.and_false]
theorem hv_next {x : Operand} (ho : o.op = .next x false) : HvOk P ⟨nextA x⟩ o := by
  intro R hR m H w T ρ res H2 hr he hk
  simp only [nextA, ob_some] at hk
  obtain ⟨a, g1, hk⟩ := hk
  have e1 := he x a g1
  split at hk <;> try (cases hk; done)
  rename_i r
  obtain ⟨i, hi, ex⟩ := e1.ptr_inv
  split at hk
  · rename_i since seen st g2
    simp only [Option.some.injEq, Prod.mk.injEq] at hk
    obtain ⟨rfl, rfl⟩ := hk
    obtain ⟨y, hy, hor⟩ := hr.live _ _ g2 _ hi
    cases hor with | mitN _ _ _ _ hb0 =>
    refine .value (.tuple #[.bool false]) w ?_ ⟨m, St.refl hr, .tup _ [.bool false] (.cons _ _ _ _ (.bool false) .nil)⟩
    simp only [execOp, ho, ex, hb0]; apply run_v
    simp [Instr.next, run_getObj hy, Result.andThen]
  · rename_i mm since seen st g2
    obtain ⟨y, hy, hor⟩ := hr.live _ _ g2 _ hi
    cases hor with | mitS _ _ _ _ _ j hj hb0 =>
    split at hk <;> try (cases hk; done)
    rename_i es clock g3
    obtain ⟨y2, hy2, hor2⟩ := hr.live _ _ g3 _ hj
    cases hor2 with | mp en _ _ _ hen =>
    split at hk <;> try (cases hk; done)
    rename_i hcl
    simp only [Bool.and_eq_true] at hcl
    obtain ⟨⟨c1, c2⟩, c3⟩ := hcl
    have c1 := Nat.eq_of_beq_eq_true c1
    have c2 := Nat.eq_of_beq_eq_true c2
    subst c1; subst c2
    have hguard : (!seen.reverse.toArray.isEmpty && !en.isEmpty && en.all fun e => decide (e.born ≥ clock)) = false := by
      rcases anyOld_ok hen c3 with h | h
      · have : en.isEmpty = true := by simpa using h
        rw [this]; simp
      · have : (en.all fun e => decide (e.born ≥ clock)) = false := by rw [← Array.all_toList]; exact h
        rw [this]; simp
    have hleft := leftOf_ok seen hen
    split at hk
    · rename_i hl0
      rw [hl0] at hleft
      simp only [Option.some.injEq, Prod.mk.injEq] at hk
      obtain ⟨rfl, rfl⟩ := hk
      have hf : (en.filter fun e => !(seen.reverse.toArray).contains e.born) = #[] := by
        apply Array.toList_inj.1
        rw [Array.toList_filter]
        generalize en.toList.filter _ = q at hleft ⊢
        cases hleft; rfl
      refine .value (.tuple #[.bool false]) w ?_ ⟨m, St.refl hr, .tup _ [.bool false] (.cons _ _ _ _ (.bool false) .nil)⟩
      simp only [execOp, ho, ex, hb0]; apply run_v
      simp only [Instr.next, Sem.run_bind, run_getObj hy (by simp), Result.andThen, run_getObj hy2 (by simp), hguard, Bool.false_eq_true, if_false, hf]
      simp [run_choose, Question.forced]
    · rename_i e hl0
      rw [hl0] at hleft
      simp only [bt_some, Option.some.injEq, Prod.mk.injEq] at hk
      obtain ⟨hlt, rfl, rfl⟩ := hk
      have hlt : e.born < clock := by simpa [Nat.blt_eq] using hlt
      obtain ⟨f, hf, he1⟩ : ∃ f, (en.filter fun e => !(seen.reverse.toArray).contains e.born) = #[f] ∧ EntR m e f := by
        have : ∃ f, (en.toList.filter fun e => !(seen.reverse.toArray).contains e.born) = [f] ∧ EntR m e f := by
          generalize en.toList.filter _ = q at hleft ⊢
          cases hleft with | cons _ f _ k h hl =>
          cases hl
          exact ⟨f, rfl, h⟩
        obtain ⟨f, h1, h2⟩ := this
        exact ⟨f, by apply Array.toList_inj.1; rw [Array.toList_filter]; exact h1, h2⟩
      cases he1 with | mk k1 k2 k3 =>
      have hfb : f.born < clock := by omega
      refine .value (.tuple #[.bool true, f.key, f.val]) { w with heap := w.heap.setIfInBounds i.blk (.mapIter (some j.blk) clock (seen.reverse.toArray.push f.born) clock) } ?_
        ⟨m, St.upd hr g2 hi ?_ rfl rfl rfl, .tup _ [.bool true, f.key, f.val] (.cons _ _ _ _ (.bool true) (.cons _ _ _ _ k1 (.cons _ _ _ _ k2 .nil)))⟩
      · simp only [execOp, ho, ex, hb0]; apply run_v
        simp only [Instr.next, Sem.run_bind, run_getObj hy (by simp), Result.andThen, run_getObj hy2 (by simp), hguard, Bool.false_eq_true, if_false, hf]
        simp [run_choose, Question.forced, hfb, run_setObj _ hy, Result.andThen]
      · have := OR.mitS (m := m) mm clock clock (e.born :: seen) i j hj hb0
        rw [k3] at this ⊢
        have e2 : (f.born :: seen).reverse.toArray = seen.reverse.toArray.push f.born := by simp
        rw [e2] at this
        exact this
    · cases hk
  · cases hk
theorem St.touch {m : Ren} {H : AH} {w w2 : World} (hr : Rel m H w) {b : Nat} {ob : AObj} {i : BI} {x2 : Obj} (hb : H.get b = some ob) (hi : m b = some i)
    (ho : OR m x2 ob i) (hw : w2.heap = w.heap.setIfInBounds i.blk x2) (hos : w2.os = w.os) (hout : w2.output = w.output) : St m H w m H w2 := by
  refine ⟨⟨?_, hr.inj, fun b' j hj => by rw [hw, Array.size_setIfInBounds]; exact hr.bnd b' j hj, hr.glob⟩, Ext.refl _ _, Nat.le_refl _, hos, hout, by rw [hw]; simp, ?_, fun b' j hj => .inr ⟨b', j, hj, rfl⟩⟩
  · intro b' o' hb' i' hi'
    obtain ⟨y, hy, hor⟩ := hr.live b' o' hb' i' hi'
    by_cases e : b' = b
    · subst e
      rw [hb] at hb'; cases hb'
      rw [hi] at hi'; cases hi'
      exact ⟨x2, by rw [hw]; simp [(hr.bnd _ _ hi).2], ho⟩
    · refine ⟨y, ?_, hor⟩
      rw [hw, Array.getElem?_setIfInBounds_ne]
      · exact hy
      · intro e2; exact e (hr.inj _ _ _ _ _ _ hb' hb hi' hi e2.symm)
  · intro k _ hn
    rw [hw, Array.getElem?_setIfInBounds_ne (hn b i hi)]
include hE
theorem hv_same {s e : Nat} {x : Operand} {ts te : TI} (h1 : tyOf E s = some ts) (h2 : ts.d = .slice e) (h3 : tyOf E e = some te) (hb : isByteD te.d = true) (ho : o.op = .convert s s x) : HvOk P ⟨hvSame x⟩ o := by
  have hbd : te.d = .int .u8 := by
    unfold isByteD at hb
    split at hb
    · assumption
    · cases hb
  intro R hR m H w T ρ res H2 hr he hk
  simp only [hvSame, ob_some, onSl_some, reduceCtorEq, and_false, false_or, bt_some, Option.some.injEq, Prod.mk.injEq] at hk
  obtain ⟨a, g1, b, off, n, c, rfl, hn, y, hg, hby, rfl, rfl⟩ := hk
  have hn : 0 < n := by simpa [Nat.blt_eq] using hn
  have e1 := he x _ g1
  obtain ⟨ad, c', ex, _, hcase⟩ := e1.sl_inv
  rcases hcase with ⟨i, hi, rfl, _⟩ | ⟨h, _⟩
  · obtain ⟨z, hz, hor⟩ := hr.live _ _ hg _ hi
    cases hor with
    | bys c0 fr e0 size opn nn i hc0 he0 hs0 hf0 h0 =>
      obtain ⟨fr', hfr, hFZ⟩ : ∃ fr', ({ w with heap := w.heap } : World).freeze { block := i.blk, off := c0.size } 1 = { w with heap := w.heap.setIfInBounds i.blk (.cells c0 e0 fr') } ∧ FZ fr' i.sz := by
        obtain ⟨lo, hi2⟩ := fr
        refine ⟨if lo == hi2 then (c0.size, c0.size + 1) else (min lo c0.size, max hi2 (c0.size + 1)), ?_, ?_⟩
        · simp only [World.freeze]
          rw [if_neg (by decide)]
          congr 1
          apply Array.ext_getElem?
          intro k
          rw [Array.getElem?_modify, Array.getElem?_setIfInBounds]
          by_cases hk : i.blk = k
          · subst hk
            rw [if_pos rfl, if_pos rfl, hz, if_pos (hr.bnd _ _ hi).2]
            rfl
          · rw [if_neg hk, if_neg hk]
        · split
          · exact .inr (by rw [hc0]; exact Nat.le_refl _)
          · rename_i hne
            rcases hf0 with h | h
            · exact absurd h (by simpa using hne)
            · refine .inr ?_
              show i.sz ≤ min lo c0.size
              have h : i.sz ≤ lo := h
              omega
      refine .value (ρ x) { w with heap := w.heap.setIfInBounds i.blk (.cells c0 e0 fr') } ?_ ⟨m, St.touch hr hg hi (.bys c0 fr' e0 size opn nn i hc0 he0 hs0 hFZ h0) rfl rfl rfl, e1⟩
      simp only [execOp, ho]; apply run_v
      have hsh : w.shape? i.blk = some (e0, c0.size) := by simp [World.shape?, hz]
      simp only [convert, Sem.run_bind, run_underlying hE h1, Result.andThen, h2, ex, run_underlying hE h3, hbd, beq_self_eq_true, markStringish, run_shape, hsh, run_freeze, Sem.run_pure]
      rw [← hfr]
    | _ => simp [isBy] at hby
  · omega
end
end Go.Xq
