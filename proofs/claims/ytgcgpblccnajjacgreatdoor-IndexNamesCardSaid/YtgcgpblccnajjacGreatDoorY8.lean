/- A part of the proof that what the evaluator answers is what the machine does. Its conditions stand in each theorem. -/
import Derived.Test.YtgcgpblccnajjacGreatDoorY7
import Derived.WideLaws
namespace Go.Xq
section
variable {P : Program} {E : Env} (hE : TyOk P E) {o : Oper}

/-! ### Maps -/
theorem run_getObj {w : World} {r : Nat} {x : Obj} (h : w.heap[r]? = some x) (hx : ∀ c e f, x ≠ .cells c e f) : (getObj r).run P w = .ok x w := by
  unfold getObj Sem.run
  rw [h]
  cases x <;> first | rfl | exact absurd rfl (hx _ _ _)
theorem Rel.ents {m : Ren} {H : AH} {w : World} (hr : Rel m H w) {a : AV} {v : Value} {es : List MEnt} (hv : VR m a v) (h : entsOf H a = some es) :
    (v = .map none ∧ es = []) ∨ ∃ r en clock, v = .map (some r) ∧ w.heap[r]? = some (.map en clock) ∧ EntsR m es en.toList := by
  simp only [entsOf, onMap_some, Option.some.injEq, ob_some, onMp_some] at h
  rcases h with ⟨rfl, rfl⟩ | ⟨r, rfl, o, hg, es', c, rfl, rfl⟩
  · exact .inl ⟨hv.mnil_inv, rfl⟩
  · obtain ⟨i, hi, rfl⟩ := hv.mp_inv
    obtain ⟨x, hx, hor⟩ := hr.live _ _ hg _ hi
    cases hor with | mp en clock es i h => exact .inr ⟨i.blk, en, _, rfl, hx, h⟩
/-- a key that is no struct, array nor interface value needs no look -/
theorem run_checkKey (hE : TyOk P E) {t : Nat} {ti : TI} (h1 : tyOf E t = some ti) (h2 : (∃ k, ti.d = .int k) ∨ ti.d = .string ∨ ti.d = .bool ∨ ∃ e, ti.d = .pointer e) (b : Bool) (v : Value) (w : World) (n : Nat) :
    (Instr.checkKey b (n + 1) t v).run P w = .ok () w := by
  simp only [Instr.checkKey, Sem.run_bind, run_underlying hE h1, Result.andThen]
  rcases h2 with ⟨k, h2⟩ | h2 | h2 | ⟨e, h2⟩ <;> rw [h2] <;> cases v <;> rfl
theorem EntsR.get : ∀ {m : Ren} {l : List MEnt} {k : List MapEntry} {i : Nat} {e : MEnt}, EntsR m l k → l[i]? = some e → ∃ f, k[i]? = some f ∧ EntR m e f
  | _, _, _, _, _, .nil, h => by simp at h
  | _, _, _, 0, _, .cons e f l k h hl, hh => by simp at hh; subst hh; exact ⟨f, rfl, h⟩
  | _, _, _, i + 1, _, .cons e f l k h hl, hh => by
    simp at hh; obtain ⟨g, h1, h2⟩ := hl.get hh; exact ⟨g, by simpa using h1, h2⟩
/-- what is found for a key -/
inductive FoundR (m : Ren) : Option (Nat × AV) → Option (Nat × Value) → Prop
  | none : FoundR m none none
  | some (i : Nat) (a : AV) (v : Value) (h : VR m a v) : FoundR m (some (i, a)) (some (i, v))
theorem find_now {t : Nat} {ti : TI} {q : KyK} (h1 : tyOf E t = some ti) (h2 : (∃ k, ti.d = .int k) ∨ ti.d = .string ∨ ti.d = .bool) (hq : keyK E t = some q) {m : Ren} {H : AH} {k : AV} {kv : Value} (hk : VR m k kv) :
    ∀ {l : List MEnt} {en : List MapEntry} {i : Nat} {r : Option (Nat × AV)}, EntsR m l en → findA q H k l i = some r → ∃ r', Instr.findNow ti.d kv en i = some r' ∧ FoundR m r r'
  | [], _, i, r, .nil, h => by cases h; exact ⟨_, rfl, .none⟩
  | e :: l, _, i, r, .cons _ f _ en he hl, h => by
    simp only [findA, ob_some] at h
    obtain ⟨s, hs, h⟩ := h
    cases he with | mk hke hve hbe =>
    have hsame : Instr.sameNow ti.d kv f.key = some s := by
      simp only [keyK, h1, ob_some'] at hq
      rcases h2 with ⟨kk, h2⟩ | h2 | h2 <;> rw [h2] at hq <;> simp only [Option.some.injEq] at hq <;> subst hq
      · simp only [kyInt] at hs
        split at hs
        · rename_i a x b y hx hy
          simp only [bt_some, Option.some.injEq] at hs
          obtain ⟨hkl, rfl⟩ := hs
          have := kEq_iff.1 hkl; subst this
          rw [hy] at hke
          rw [hk.int_inv, hke.int_inv, h2]
          simp [Instr.sameNow]
          rw [Bool.eq_iff_iff, eqI_iff, beq_iff_eq]
        · cases hs
      · simp only [kyStr] at hs
        split at hs
        · rename_i a x b y hx hy
          cases hs
          rw [hy] at hke
          obtain ⟨s1, e1, rfl, rfl⟩ := hk.str_inv
          obtain ⟨s2, e2, g1, g2⟩ := hke.str_inv
          rw [e1, e2, h2, g1, g2, sEq_ok]
          simp only [Instr.sameNow, beq_toListBytes, ByteArray.toList_eq]
        · cases hs
      · simp only [kyBool] at hs
        split at hs
        · rename_i a b hx hy
          cases hs
          rw [hy] at hke
          rw [hk.bool_inv, hke.bool_inv, h2, bEq_eq]
          rfl
        · cases hs
    simp only [Instr.findNow, hsame]
    cases s
    · simp only [bt_false] at h
      exact find_now h1 h2 hq hk hl h
    · simp only [bt_true, Option.some.injEq] at h
      subst h
      exact ⟨_, rfl, .some _ _ _ hve⟩
include hE
theorem find_ask {t e : Nat} {ti te : TI} (h1 : tyOf E t = some ti) (h2 : ti.d = .pointer e) (h3 : tyOf E e = some te) {n : Nat} (hn : te.size = n + 1) {m : Ren} {H : AH} {w : World} (hr : Rel m H w) {k : AV} {kv : Value} (hk : VR m k kv) :
    ∀ {l : List MEnt} {en : List MapEntry} {i : Nat} {r : Option (Nat × AV)}, EntsR m l en → findA ⟨kyPtr⟩ H k l i = some r → ∃ r', (Instr.findAsking t kv en i).run P w = .ok r' w ∧ FoundR m r r'
  | [], _, i, r, .nil, h => by cases h; exact ⟨_, rfl, .none⟩
  | e' :: l, _, i, r, .cons _ f _ en he hl, h => by
    simp only [findA, ob_some] at h
    obtain ⟨s, hs, h⟩ := h
    cases he with | mk hke hve hbe =>
    have heq : (Op.equal t kv f.key).run P w = .ok s w := by
      simp only [kyPtr] at hs
      split at hs
      · rename_i kk b1 o1 b2 o2 hy
        have hx' := hk
        have hy' := hke
        rw [hy] at hy'
        have := eq_ptr (x := .tmp 0) (y := .tmp 0) hE h1 h2 h3 m H w _ _ kv f.key s hr hx' hy' (by rw [hn]; exact hs)
        obtain ⟨_, q2, _⟩ := this
        obtain ⟨i1, _, e1⟩ := hx'.ptr_inv
        obtain ⟨i2, _, e2⟩ := hy'.ptr_inv
        rw [e1, e2] at q2 ⊢
        have e3 : binOp .eql t (.pointer (some ⟨i1.blk, i1.base + o1, none⟩)) (.pointer (some ⟨i2.blk, i2.base + o2, none⟩)) = (do pure (.bool (← Op.equal t (.pointer (some ⟨i1.blk, i1.base + o1, none⟩)) (.pointer (some ⟨i2.blk, i2.base + o2, none⟩))))) := rfl
        rw [e3] at q2
        simp only [Sem.run_bind] at q2
        generalize (Op.equal t (.pointer (some ⟨i1.blk, i1.base + o1, none⟩)) (.pointer (some ⟨i2.blk, i2.base + o2, none⟩))).run P w = rr at q2 ⊢
        cases rr with
        | ok b w' => simp [Result.andThen] at q2; obtain ⟨rfl, rfl⟩ := q2; rfl
        | halt x w' => simp [Result.andThen] at q2
      · cases hs
    simp only [Instr.findAsking, Sem.run_bind, heq, Result.andThen]
    cases s
    · simp only [bt_false] at h
      simpa using find_ask h1 h2 h3 hn hr hk hl h
    · simp only [bt_true, Option.some.injEq] at h
      subst h
      exact ⟨some (i, f.val), by simp, .some _ _ _ hve⟩
theorem findKey_ok {t : Nat} {q : KyK} (hq : keyK E t = some q) {m : Ren} {H : AH} {w : World} (hr : Rel m H w) {k : AV} {kv : Value} (hk : VR m k kv)
    {l : List MEnt} {en : List MapEntry} {r : Option (Nat × AV)} (hl : EntsR m l en) (h : findA q H k l 0 = some r) :
    ∃ r', (Instr.findKey t kv en).run P w = .ok r' w ∧ FoundR m r r' := by
  have hq0 := hq
  simp only [keyK, ob_some] at hq
  obtain ⟨ti, h1, hq⟩ := hq
  have atoms : ((∃ k, ti.d = .int k) ∨ ti.d = .string ∨ ti.d = .bool) → ∃ r', (Instr.findKey t kv en).run P w = .ok r' w ∧ FoundR m r r' := by
    intro hd
    obtain ⟨r', h2, h3⟩ := find_now h1 hd hq0 hk hl h
    exact ⟨r', by simp [Instr.findKey, run_underlying hE h1, Result.andThen, h2], h3⟩
  cases hd : ti.d <;> rw [hd] at hq <;> simp only [reduceCtorEq] at hq
  case int k => exact atoms (.inl ⟨k, hd⟩)
  case string => exact atoms (.inr (.inl hd))
  case bool => exact atoms (.inr (.inr hd))
  case pointer e =>
    simp only [ob_some] at hq
    obtain ⟨te, h3, hq⟩ := hq
    cases hn : te.size with
    | zero => rw [hn] at hq; simp at hq
    | succ n =>
      rw [hn] at hq; simp only [Option.some.injEq] at hq
      subst hq
      obtain ⟨r', h5, h6⟩ := find_ask hE h1 hd h3 hn hr hk hl h
      cases hl with
      | nil =>
        cases h
        exact ⟨none, by simp [Instr.findKey, run_underlying hE h1, Result.andThen, Instr.findNow], .none⟩
      | cons e' f l en he hl' =>
        have hnow : Instr.findNow (.pointer e) kv (f :: en) 0 = none := by
          simp [Instr.findNow, Instr.sameNow]
        refine ⟨r', ?_, h6⟩
        simp only [Instr.findKey, Sem.run_bind, run_underlying hE h1, Result.andThen, hd, hnow]
        exact h5
theorem keyK_check {t : Nat} {q : KyK} (hq : keyK E t = some q) (b : Bool) (v : Value) (w : World) : (Instr.checkKey b 10000 t v).run P w = .ok () w := by
  simp only [keyK, ob_some] at hq
  obtain ⟨ti, h1, hq⟩ := hq
  refine run_checkKey hE h1 ?_ b v w 9999
  cases hd : ti.d <;> rw [hd] at hq <;> simp_all
theorem look_lk {t kt et : Nat} {x k : Operand} {ok : Bool} {ti te : TI} {q : KyK} {z : AV} (h1 : tyOf E t = some ti) (h2 : ti.d = .map kt et) (hq : keyK E kt = some q) (h3 : tyOf E et = some te) (hz : te.zero = some z)
    (ho : o.op = .lookup t x k ok) : LookOk P ⟨lkA q z ok x k⟩ o := by
  intro m H w T ρ v hr he hk
  simp only [lkA, ob_some, Option.some.injEq] at hk
  obtain ⟨a, g1, b, g2, es, g3, r, g4, rfl⟩ := hk
  have hv1 := he x a g1
  have hv2 := he k b g2
  obtain ⟨zv, hz1, hz2, _⟩ := run_zeroValue (w := w) hE h3 hz
  rcases hr.ents hv1 g3 with ⟨e1, rfl⟩ | ⟨rr, en, clock, e1, hh, hents⟩
  · cases g4
    have : (Instr.findKey kt (ρ k) (#[] : Array MapEntry).toList).run P w = .ok none w := by
      obtain ⟨r', q1, q2⟩ := findKey_ok hE hq hr hv2 EntsR.nil (r := none) rfl
      cases q2; exact q1
    cases ok
    · refine ⟨zv, ?_, hz2 m⟩
      simp only [execOp, ho, e1]; apply run_v
      simp only [Instr.lookup, Sem.run_bind, run_underlying hE h1, Result.andThen, h2, Sem.run_pure, keyK_check hE hq, this, hz1]
      rfl
    · refine ⟨_, ?_, .tup _ [zv, .bool false] (.cons _ _ _ _ (hz2 m) (.cons _ _ _ _ (.bool false) .nil))⟩
      simp only [execOp, ho, e1]; apply run_v
      simp only [Instr.lookup, Sem.run_bind, run_underlying hE h1, Result.andThen, h2, Sem.run_pure, keyK_check hE hq, this, hz1]
      rfl
  · obtain ⟨r', q1, q2⟩ := findKey_ok hE hq hr hv2 hents g4
    cases q2 with
    | none =>
      cases ok
      · refine ⟨zv, ?_, hz2 m⟩
        simp only [execOp, ho, e1]; apply run_v
        simp only [Instr.lookup, Sem.run_bind, run_underlying hE h1, Result.andThen, h2, Sem.run_pure, run_getObj hh (by simp), keyK_check hE hq, q1, hz1]
        rfl
      · refine ⟨_, ?_, .tup _ [zv, .bool false] (.cons _ _ _ _ (hz2 m) (.cons _ _ _ _ (.bool false) .nil))⟩
        simp only [execOp, ho, e1]; apply run_v
        simp only [Instr.lookup, Sem.run_bind, run_underlying hE h1, Result.andThen, h2, Sem.run_pure, run_getObj hh (by simp), keyK_check hE hq, q1, hz1]
        rfl
    | some i a v hv =>
      cases ok
      · refine ⟨v, ?_, hv⟩
        simp only [execOp, ho, e1]; apply run_v
        simp only [Instr.lookup, Sem.run_bind, run_underlying hE h1, Result.andThen, h2, Sem.run_pure, run_getObj hh (by simp), keyK_check hE hq, q1]
        rfl
      · refine ⟨_, ?_, .tup _ [v, .bool true] (.cons _ _ _ _ hv (.cons _ _ _ _ (.bool true) .nil))⟩
        simp only [execOp, ho, e1]; apply run_v
        simp only [Instr.lookup, Sem.run_bind, run_underlying hE h1, Result.andThen, h2, Sem.run_pure, run_getObj hh (by simp), keyK_check hE hq, q1]
        rfl
end
end Go.Xq
