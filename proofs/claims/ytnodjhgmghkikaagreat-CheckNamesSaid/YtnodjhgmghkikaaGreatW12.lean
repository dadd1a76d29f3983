/- A part of the proof of this seat's statement. Conditions: in each theorem. -/
import Derived.Test.YtnodjhgmghkikaaGreatW11
namespace Go.Xq
section
variable {P : Program} {E : Env} (hE : TyOk P E)
def NN : Value → Prop
  | .int .. => False
  | .float .. => False
  | .complex .. => False
  | .string _ => False
  | _ => True
theorem binEq_un {t : TypeId} {u v : Value} (h : NN u) : binOp .eql t u v = (do pure (.bool (← Op.equal t u v))) ∧ binOp .neq t u v = (do pure (.bool (!(← Op.equal t u v)))) := by
  cases u <;> first | exact h.elim | (cases v <;> exact ⟨rfl, rfl⟩)
include hE
theorem eqK_q {t : Nat} {c : Bool} {k : EK} (h : eqK E t c = some k) : EqQ P k t ∧ ∀ (m : Ren) (H : AH) (a b : AV) (u : Value) (r : Bool), VR m a u → k.f H a b = some r → NN u := by
  simp only [eqK, ob_some] at h
  obtain ⟨ti, h1, h⟩ := h
  split at h
  · rename_i hd; cases h
    refine ⟨eqq_bool, fun m H a b u r hu hk => ?_⟩
    cases a <;> first | (cases hu <;> trivial) | (simp [eqBool] at hk)
  · rename_i hd; simp only [ob_some, Option.some.injEq] at h; obtain ⟨te, h3, rfl⟩ := h
    refine ⟨eqq_ptr hE h1 hd h3, fun m H a b u r hu hk => ?_⟩
    cases a <;> first | (cases hu <;> trivial) | (simp [eqPtr] at hk)
  · rename_i hd; cases h
    refine ⟨eqq_iface hE h1 hd, fun m H a b u r hu hk => ?_⟩
    cases a <;> first | (cases hu <;> trivial) | (simp [eqIface] at hk)
  · rename_i hd; cases h
    refine ⟨eqq_sl hE h1 hd, fun m H a b u r hu hk => ?_⟩
    cases a <;> first | (cases hu <;> trivial) | (simp [eqSl] at hk)
  · rename_i hd; cases h
    refine ⟨eqq_map hE h1 hd, fun m H a b u r hu hk => ?_⟩
    cases a <;> first | (cases hu <;> trivial) | (simp [eqMap] at hk)
  · rename_i hd; cases h
    refine ⟨eqq_fn hE h1 hd, fun m H a b u r hu hk => ?_⟩
    cases a <;> first | (cases hu <;> trivial) | (simp [eqFn] at hk)
  · rename_i hd
    simp only [bt_some, ob_some, Option.some.injEq] at h
    obtain ⟨hp, l, hl, rfl⟩ := h
    refine ⟨eqq_agg hE h1 hd hp hl, fun m H a b u r hu hk => ?_⟩
    simp only [eqAgg, onAgg_some] at hk
    obtain ⟨l, rfl, _⟩ := hk
    cases hu <;> trivial
  · cases h
omit hE in
theorem plain_binInt {op : BinOp} {t : TypeId} {k l : IntKind} {a b : Int} : Plain P (binOp op t (.int k a) (.int l b)) := by
  have h1 : ∀ {s : Sem Value}, Plain P s → Plain P (if k ≠ l then stuck "BinOp: operands of different kinds" else s) := fun h => by
    split
    · exact plain_stuck
    · exact h
  have e1 : binOp .shl t (.int k a) (.int l b) = Op.shift .shl k a l b := rfl
  have e2 : binOp .shr t (.int k a) (.int l b) = Op.shift .shr k a l b := rfl
  cases op
  case shl => rw [e1]; exact plain_shift
  case shr => rw [e2]; exact plain_shift
  all_goals first | exact h1 plain_intArith | exact h1 plain_intDiv | exact h1 plain_intBits | exact h1 plain_intCmp
omit hE in
theorem plain_binStr {op : BinOp} {t : TypeId} {a b : ByteArray} : Plain P (binOp op t (.string a) (.string b)) := by
  have e : binOp op t (.string a) (.string b) = Op.stringOp op a b := by cases op <;> rfl
  rw [e]; exact plain_stringOp
theorem binK_q {op : BinOp} {t : Nat} {x y : Operand} {u : Nat} {k : LK} (h : binK E op t x y = some k) {o : Oper} (ho : o.op = .binOp op t x y u) {m : Ren} {H : AH} {w : World} {T : Tr AV} {ρ : Operand → Value} {v : AV} (hr : Rel m H w) (he : ER m T ρ) (hk : k.f T H = some v) :
    QG P (execOp ρ o) w := by
  have fr : QG P (do eqGuard op t x y (ρ x) (ρ y); binOp op t (ρ x) (ρ y)) w → QG P (execOp ρ o) w := fun hq => by
    simp only [execOp, ho]; exact QG.v hq
  have ints : ∀ {k l : IntKind} {a b : Int}, ρ x = .int k a → ρ y = .int l b → QG P (execOp ρ o) w := fun e1 e2 => fr (by
    rw [e1, e2]; exact QG.bind plain_eqGuard.qg fun _ _ _ => plain_binInt.qg)
  have eqs : ∀ {neg : Bool} {k : EK}, (op = if neg then .neq else .eql) → eqK E t (isC x || isC y) = some k → (binEq k neg x y) T H = some v → QG P (execOp ρ o) w := by
    intro neg k hop hk2 hk
    simp only [binEq, ob_some, Option.some.injEq] at hk
    obtain ⟨a, g1, b, g2, r, g3, rfl⟩ := hk
    obtain ⟨q1, q2⟩ := eqK_q hE hk2
    have hu := he x a g1
    have hq : QG P (Op.equal t (ρ x) (ρ y)) w := q1 m H w a b (ρ x) (ρ y) r hr hu (he y b g2) g3 9998
    obtain ⟨e1, e2⟩ := binEq_un (t := t) (v := ρ y) (q2 m H a b _ r hu g3)
    have hg := (eqK_ok (x := x) (y := y) hE hk2 m H w a b (ρ x) (ρ y) r hr hu (he y b g2) g3).1 op
    refine fr (QG.after plain_eqGuard hg ?_)
    cases neg
    · simp only [Bool.false_eq_true, if_false] at hop; subst hop
      rw [e1]; exact QG.bind hq fun _ _ _ => QG.pure
    · simp only [if_true] at hop; subst hop
      rw [e2]; exact QG.bind hq fun _ _ _ => QG.pure
  simp only [binK, ob_some] at h
  obtain ⟨ti, h1, h⟩ := h
  split at h
  · split at h
    · cases h
      simp only [binShl, ob_some, onInt_some] at hk
      obtain ⟨a, g1, b, g2, k, n, rfl, l, n', rfl, _⟩ := hk
      exact ints (he x _ g1).int_inv (he y _ g2).int_inv
    · cases h
      simp only [binShr, ob_some, onInt_some] at hk
      obtain ⟨a, g1, b, g2, k, n, rfl, l, n', rfl, _⟩ := hk
      exact ints (he x _ g1).int_inv (he y _ g2).int_inv
    · simp only [ob_some, Option.some.injEq] at h
      obtain ⟨g, h2, rfl⟩ := h
      simp only [binInt, ob_some, onInt_some] at hk
      obtain ⟨a, g1, b, g2, k, n, rfl, l, n', rfl, _⟩ := hk
      exact ints (he x _ g1).int_inv (he y _ g2).int_inv
  · simp only [ob_some, Option.some.injEq] at h
    obtain ⟨g, h2, rfl⟩ := h
    simp only [binStr, ob_some, onStr_some] at hk
    obtain ⟨a, g1, b, g2, l, n, rfl, l', n', rfl, _⟩ := hk
    obtain ⟨s, e1, _⟩ := (he x _ g1).str_inv
    obtain ⟨z, e2, _⟩ := (he y _ g2).str_inv
    refine fr ?_
    rw [e1, e2]
    exact QG.bind plain_eqGuard.qg fun _ _ _ => plain_binStr.qg
  · split at h
    · simp only [ob_some, Option.some.injEq] at h
      obtain ⟨g, h2, rfl⟩ := h
      exact eqs (neg := false) rfl h2 hk
    · simp only [ob_some, Option.some.injEq] at h
      obtain ⟨g, h2, rfl⟩ := h
      exact eqs (neg := true) rfl h2 hk
    · cases h
theorem convK_q {s d : Nat} {x : Operand} {k : LK} (h : convK E s d x = some k) {o : Oper} (ho : o.op = .convert s d x) {m : Ren} {H : AH} {w : World} {T : Tr AV} {ρ : Operand → Value} {v : AV} (hr : Rel m H w) (he : ER m T ρ) (hk : k.f T H = some v) :
    QG P (execOp ρ o) w := by
  have _ := hr
  have fr : QG P (convert s d (ρ x)) w → QG P (execOp ρ o) w := fun hq => by simp only [execOp, ho]; exact QG.v hq
  simp only [convK, ob_some] at h
  obtain ⟨ts, h1, td, h2, h⟩ := h
  have r1 := run_underlying (w := w) hE h1
  have r2 := run_underlying (w := w) hE h2
  refine fr ?_
  unfold convert
  refine QG.after plain_underlying r1 (QG.after plain_underlying r2 ?_)
  split at h
  · rename_i e1 e2; cases h
    simp only [cvInt, ob_some, onInt_some] at hk
    obtain ⟨a, g1, j, n, rfl, _⟩ := hk
    rw [e1, e2, (he x _ g1).int_inv]
    exact plain_intToInt.qg
  · rename_i e1 e2
    simp only [ob_some] at h
    obtain ⟨te, h3, h⟩ := h
    split at h
    · rename_i hb; cases h
      have hbd : te.d = .int .u8 := by
        cases hq : te.d <;> rw [hq] at hb <;> simp [isByteD] at hb
        rename_i k; cases k <;> simp at hb; rfl
      have r3 := run_underlying (w := w) hE h3
      rw [hbd] at r3
      simp only [cvStr, ob_some, onSl_some, Option.some.injEq] at hk
      obtain ⟨a, g1, hk⟩ := hk
      have hs : ∃ ad l c, ρ x = .slice ad l c := by
        rcases hk with ⟨rfl, _⟩ | ⟨b, off, len, c, rfl, _⟩
        · exact ⟨_, _, _, (he x _ g1).snil_inv⟩
        · obtain ⟨ad, c', e1, _⟩ := (he x _ g1).sl_inv
          exact ⟨_, _, _, e1⟩
      obtain ⟨ad, l, c, e3⟩ := hs
      rw [e1, e2, e3]
      exact QG.after plain_underlying r3 plain_bytesToString.qg
    · cases h
  · rename_i e1 e2; cases h
    rw [e1, e2]
    simp only [cvSS, ob_some, onStr_some] at hk
    obtain ⟨a, g1, l, n, rfl, _⟩ := hk
    obtain ⟨s, e3, _⟩ := (he x _ g1).str_inv
    rw [e3]
    exact QG.pure
  · cases h
theorem fieldAt_q {s f : Nat} {ti tf : TI} {fd : Field} {n : Nat} (h1 : tyOf E s = some ti) (h2 : fieldOf ti.d f = some fd) (h3 : tyOf E fd.type = some tf) (hn : tf.size = n + 1) {v : Value} {w : World} : QG P (Instr.fieldAt s v f) w := by
  obtain ⟨fs, hd, hfs⟩ := fields_of h1 h2
  have r1 := run_underlying (w := w) hE h1
  unfold Instr.fieldAt
  refine QG.after plain_underlying r1 ?_
  rw [hd]
  dsimp only
  rw [hfs]
  dsimp only
  refine QG.bind plain_sureAddr.qg fun a w1 _ => ?_
  have r3 := run_sizeOf (w := w1) hE h3
  refine QG.bind ?_ fun _ _ _ => QG.pure
  unfold fieldPlace
  refine QG.after plain_sizeOf r3 ?_
  rw [if_neg (by omega)]
  exact QG.pure
theorem findKey_q {t : Nat} {q : KyK} (hq : keyK E t = some q) {m : Ren} {H : AH} {w : World} (hr : Rel m H w) {k : AV} {kv : Value} (hk : VR m k kv)
    {l : List MEnt} {en : List MapEntry} {r : Option (Nat × AV)} (hl : EntsR m l en) (h : findA q H k l 0 = some r) : QG P (Instr.findKey t kv en) w := by
  have hq0 := hq
  simp only [keyK, ob_some] at hq
  obtain ⟨ti, h1, hq⟩ := hq
  have r1 := run_underlying (w := w) hE h1
  have atoms : ((∃ k, ti.d = .int k) ∨ ti.d = .string ∨ ti.d = .bool) → QG P (Instr.findKey t kv en) w := by
    intro hd
    obtain ⟨r', h2, _⟩ := find_now h1 hd hq0 hk hl h
    unfold Instr.findKey
    refine QG.after plain_underlying r1 ?_
    rw [h2]
    exact QG.pure
  cases hd : ti.d <;> rw [hd] at hq <;> simp only [reduceCtorEq] at hq
  case int k => exact atoms (.inl ⟨k, hd⟩)
  case string => exact atoms (.inr (.inl hd))
  case bool => exact atoms (.inr (.inr hd))
  case pointer e =>
    simp only [ob_some] at hq
    obtain ⟨te, h3, hq⟩ := hq
    cases hn : te.size with
    | zero => rw [hn] at hq; simp at hq
    | succ n =>
      rw [hn] at hq; simp only [Option.some.injEq] at hq
      subst hq
      have ask : ∀ {l : List MEnt} {en : List MapEntry} {i : Nat} {r : Option (Nat × AV)}, EntsR m l en → findA ⟨kyPtr⟩ H k l i = some r → QG P (Instr.findAsking t kv en i) w := by
        intro l
        induction l with
        | nil => intro en i r hl _; cases hl; exact QG.pure
        | cons e' l ih =>
          intro en i r hl h
          cases hl with | cons _ f _ en he hl =>
          simp only [findA, ob_some] at h
          obtain ⟨s, hs, h⟩ := h
          cases he with | mk hke hve hbe =>
          have hs' : (eqPtr te.size) H k e'.key = some s := by
            simp only [kyPtr] at hs
            split at hs
            · rename_i b1 o1 b2 o2 hy _
              rw [hn, hy]; exact hs
            · cases hs
          have hqe : QG P (Op.equal t kv f.key) w := eqq_ptr hE h1 hd h3 m H w _ _ kv f.key s hr hk hke hs' 9998
          unfold Instr.findAsking
          refine QG.bind hqe fun b w1 hb => ?_
          have hww : w1 = w ∧ b = s := by
            have := (eq_ptr (x := .tmp 0) (y := .tmp 0) hE h1 hd h3 m H w _ _ kv f.key s hr hk hke hs').2.1
            have hnn : NN kv := by
              simp only [kyPtr] at hs
              split at hs
              · cases hk; trivial
              · cases hs
            rw [(binEq_un hnn).1, Sem.run_bind, hb] at this
            simp only [Result.andThen, Sem.run_pure, Result.ok.injEq, Value.bool.injEq] at this
            exact ⟨this.2, this.1⟩
          obtain ⟨rfl, rfl⟩ := hww
          cases b
          · simp only [bt_false] at h
            exact ih hl h
          · exact QG.pure
      unfold Instr.findKey
      refine QG.after plain_underlying r1 ?_
      rw [hd]
      cases hl with
      | nil => exact QG.pure
      | cons e' f l en he hl' =>
        have hnow : Instr.findNow (.pointer e) kv (f :: en) 0 = none := by simp [Instr.findNow, Instr.sameNow]
        rw [hnow]
        exact ask (.cons _ _ _ _ he hl') h
end
end Go.Xq
namespace Go.Xq
section
variable {P : Program} {E : Env} (hE : TyOk P E)
include hE in
theorem lookK_q {o : Oper} {k : LK} (h : lookK E o.op = some k) {m : Ren} {H : AH} {w : World} {T : Tr AV} {ρ : Operand → Value} {v : AV} (hr : Rel m H w) (he : ER m T ρ) (hk : k.f T H = some v) : QG P (execOp ρ o) w := by
  unfold lookK at h
  split at h
  · rename_i ho; simp only [execOp, ho]; exact QG.pure
  · rename_i ho; simp only [execOp, ho]; exact QG.pure
  · rename_i ho; simp only [execOp, ho]; exact Plain.qg (by refine plain_asBool.bind fun _ => ?_; (repeat' first | exact Pl.p | assumption | exact plain_newObj ⟨rfl, fun _ _ => by simp⟩ | exact plain_setObj ⟨rfl, fun _ _ => by simp⟩ | (with_reducible refine plain_forInL ?_ _ _) | (with_reducible refine plain_forInR ?_ _ _) | (with_reducible refine plain_forInA ?_ _ _) | (with_reducible refine plain_mapMA ?_ _) | (with_reducible refine plain_map ?_) | (with_reducible refine plain_pure_bind ?_) | (with_reducible refine Plain.bind ?_ ?_) | intro _ | split | dsimp only))
  · rename_i ho; simp only [execOp, ho]; exact QG.v plain_build.qg
  · rename_i ho; simp only [execOp, ho]; exact QG.v plain_loadAt.qg
  · rename_i ho
    simp only [execOp, ho]
    refine Plain.qg ?_
    split <;> first | exact plain_runtimePanic | exact plain_pure | (split <;> first | exact plain_runtimePanic | exact plain_pure | (repeat' first | exact Pl.p | assumption | exact plain_newObj ⟨rfl, fun _ _ => by simp⟩ | exact plain_setObj ⟨rfl, fun _ _ => by simp⟩ | (with_reducible refine plain_forInL ?_ _ _) | (with_reducible refine plain_forInR ?_ _ _) | (with_reducible refine plain_forInA ?_ _ _) | (with_reducible refine plain_mapMA ?_ _) | (with_reducible refine plain_map ?_) | (with_reducible refine plain_pure_bind ?_) | (with_reducible refine Plain.bind ?_ ?_) | intro _ | split | dsimp only))
  · rename_i ho; exact binK_q hE h ho hr he hk
  · rename_i ho; simp only [execOp, ho]; exact QG.v plain_unary.qg
  · rename_i ho; exact convK_q hE h ho hr he hk
  · rename_i ho; simp only [execOp, ho]; exact QG.v plain_makeInterface.qg
  · rename_i ho; simp only [execOp, ho]; exact QG.v QG.pure
  · rename_i ho; simp only [execOp, ho]; exact QG.v plain_sliceAt.qg
  · rename_i ho
    simp only [fieldAddrK, ob_some] at h; obtain ⟨ti, h1, fd, h2, tf, h3, h⟩ := h
    split at h
    · rename_i n hn; simp only [execOp, ho]; exact QG.v (fieldAt_q hE h1 h2 h3 hn)
    · cases h
  · rename_i ho; simp only [execOp, ho]; exact QG.v plain_field.qg
  · rename_i ho; simp only [execOp, ho]; exact QG.v plain_indexAt.qg
  · rename_i ho; simp only [execOp, ho]; exact QG.v plain_index.qg
  · rename_i t x i ok ho
    simp only [execOp, ho]
    refine QG.v ?_
    simp only [lookupK, ob_some] at h
    obtain ⟨ti, h1, h⟩ := h
    split at h
    · rename_i hd
      simp only [ob_some, Option.some.injEq] at h
      obtain ⟨q, hq, z, _, rfl⟩ := h
      simp only [lkA, ob_some, Option.some.injEq] at hk
      obtain ⟨a, g1, b, g2, es, g3, r, g4, rfl⟩ := hk
      have hv1 := he x a g1
      have hv2 := he i b g2
      have r1 := run_underlying (w := w) hE h1
      rw [hd] at r1
      unfold Instr.lookup
      refine QG.after plain_underlying r1 ?_
      rcases hr.ents hv1 g3 with ⟨e1, rfl⟩ | ⟨rr, en, clock, e1, hh, hents⟩
      · rw [e1]
        refine QG.after plain_pure (Sem.run_pure _ _ _) (QG.after (plain_checkKey) (keyK_check hE hq _ _ _) (QG.bind (findKey_q hE hq hr hv2 EntsR.nil g4) fun x w1 _ => Plain.qg ?_))
        (repeat' first | exact Pl.p | assumption | exact plain_newObj ⟨rfl, fun _ _ => by simp⟩ | exact plain_setObj ⟨rfl, fun _ _ => by simp⟩ | (with_reducible refine plain_forInL ?_ _ _) | (with_reducible refine plain_forInR ?_ _ _) | (with_reducible refine plain_forInA ?_ _ _) | (with_reducible refine plain_mapMA ?_ _) | (with_reducible refine plain_map ?_) | (with_reducible refine plain_pure_bind ?_) | (with_reducible refine Plain.bind ?_ ?_) | intro _ | split | dsimp only)
      · rw [e1]
        refine QG.after plain_getObj (run_getObj hh (by simp)) (QG.after plain_pure (Sem.run_pure _ _ _) (QG.after (plain_checkKey) (keyK_check hE hq _ _ _) (QG.bind (findKey_q hE hq hr hv2 hents g4) fun x w1 _ => Plain.qg ?_)))
        (repeat' first | exact Pl.p | assumption | exact plain_newObj ⟨rfl, fun _ _ => by simp⟩ | exact plain_setObj ⟨rfl, fun _ _ => by simp⟩ | (with_reducible refine plain_forInL ?_ _ _) | (with_reducible refine plain_forInR ?_ _ _) | (with_reducible refine plain_forInA ?_ _ _) | (with_reducible refine plain_mapMA ?_ _) | (with_reducible refine plain_map ?_) | (with_reducible refine plain_pure_bind ?_) | (with_reducible refine Plain.bind ?_ ?_) | intro _ | split | dsimp only)
    · cases h
  · rename_i ho; simp only [execOp, ho]; exact QG.v plain_typeAssert.qg
  · rename_i ho; simp only [execOp, ho]; exact QG.v plain_extract.qg
  · rename_i ho; simp only [execOp, ho]; exact QG.v plain_entry.qg
  · rename_i c ho
    split at h
    · rename_i b hc
      simp only [execOp, ho]
      refine QG.after plain_resolve (a := { target := .builtin b c.argTypes o.type (c.args.map fun | .const _ => true | _ => false), args := c.args.map ρ }) (w1 := w) (by unfold resolve; rw [hc]; rfl) ?_
      unfold lookBuiltin at h
      split at h <;> first | exact QG.v plain_len.qg | exact QG.v plain_cap.qg | exact QG.v plain_min.qg | exact QG.v plain_max.qg | cases h
    · cases h
  · cases h
theorem FZ.not {fr : Nat × Nat} {c : Array Value} {e : TypeId} (h : FZ fr c.size) : ¬ Dead (.cells c e fr) ∧ ¬ Shr (.cells c e fr) := by
  refine ⟨?_, ?_⟩
  · rintro ⟨e', n, h'⟩
    injection h' with h1 h2 h3
    subst h3
    rcases h with h | h
    · simp at h
    · injection h with a b; omega
  · rintro ⟨c', e', h'⟩
    injection h' with h1 h2 h3
    subst h1; subst h3
    rcases h with h | h
    · injection h with a b; omega
    · injection h with a b; omega
theorem qg_mark {w : World} {a : Addr} (h : ∃ c e fr, w.heap[a.block]? = some (.cells c e fr) ∧ FZ fr c.size) : QG P (markStringish a) w := by
  obtain ⟨c, e, fr, h, hf⟩ := h
  have h1 : QG P (shape a.block) w := by
    intro r w' hn hr
    cases hr
    exact ⟨⟨⟨_, h, hf.not.1⟩, trivial⟩, hn⟩
  have h2 : (shape a.block).run P w = .ok (some (e, c.size)) w := by show Result.ok (w.shape? a.block) w = _; simp [World.shape?, h]
  refine QG.next h1 h2 ?_
  intro r w' hn hr
  cases hr
  exact ⟨⟨⟨_, h, hf.not⟩, trivial⟩, hn.freeze⟩
include hE in
theorem freshK_q {o : Oper} {k : FrK} (h : freshK E o.op = some k) {T : Tr AV} {ρ : Operand → Value} {m : Ren} {w : World} {b0 : Nat} {r : AV × AObj} (he : ER m T ρ) (hk : k.f T b0 = some r) : QG P (execOp ρ o) w := by
  unfold freshK at h
  split at h
  · rename_i ho; simp only [execOp, ho]; exact QG.v plain_alloc.qg
  · rename_i ho; simp only [execOp, ho]; exact QG.v plain_box.qg
  · rename_i ho; simp only [execOp, ho]; exact QG.v plain_buildSlice.qg
  · rename_i ho; simp only [execOp, ho]; exact QG.v plain_makeSlice.qg
  · rename_i r0 ho
    split at h
    · simp only [execOp, ho, Option.map_none]; exact QG.v plain_makeMap.qg
    · cases h
  · rename_i ho
    simp only [execOp, ho]
    refine QG.v ?_
    simp only [ob_some] at h; obtain ⟨ts, h1, td, h2, h⟩ := h
    have r1 := run_underlying (w := w) hE h1
    have r2 := run_underlying (w := w) hE h2
    split at h
    · rename_i hs hd
      simp only [ob_some] at h; obtain ⟨te, h3, h⟩ := h
      have r3 := run_underlying (w := w) hE h3
      split at h
      · rename_i hb
        cases h
        have hbd : te.d = .int .u8 := by
          unfold isByteD at hb
          split at hb
          · assumption
          · cases hb
        simp only [frStr, ob_some, onStr_some, Option.some.injEq] at hk
        obtain ⟨a, g1, n, y, rfl, rfl⟩ := hk
        obtain ⟨st, e1, rfl, rfl⟩ := (he _ _ g1).str_inv
        rw [e1]
        unfold convert
        rw [hs] at r1; rw [hd] at r2; rw [hbd] at r3
        refine QG.after plain_underlying r1 (QG.after plain_underlying r2 (QG.after plain_underlying r3 ?_))
        show QG P (Conv.stringToBytes _ st) w
        unfold Conv.stringToBytes
        refine QG.bind plain_choose.qg fun cap w1 _ => QG.bind plain_newRow.qg fun a w2 h2 => QG.bind (qg_mark ?_) fun _ _ _ => QG.pure
        rw [run_newRow] at h2
        cases h2
        exact ⟨_, _, _, Array.getElem?_push_size, .inl rfl⟩
      · cases h
    · cases h
  · cases h
end
end Go.Xq
namespace Go.Xq
variable [Dealing]
omit [Dealing] in
def ExtQ (P : Program) (E : Env) : Prop := ∀ g args H v, E.ext g args H = some v → ∀ m w vs, Rel m H w → VL m args vs → QG P (callFunc g vs.toArray) w
section
variable {P : Program} {E : Env} (hE : TyOk P E) (hQ : ExtQ P E) {R : Rec} (hR : RecOk P R)
omit [Dealing] in
theorem qg_never_bind {α β : Type} {s : Sem α} {f : α → Sem β} {w : World} (h : ∀ a w1 r w', (f a).run P w1 ≠ .ok r w') : QG P (s >>= f) w :=
  QG.never fun r w' e => by obtain ⟨a, w1, _, h2⟩ := run_bind_inv e; exact h a w1 r w' h2
omit [Dealing] in
theorem qg_mayShare {x y z : Nat} {b : Option Addr} {u : Value} {f : Bool → Sem Unit} {w : World} (h : ∀ b w1 r w', (f b).run P w1 ≠ .ok r w') : QG P (Builtin.mayShare x y z b u >>= f) w := qg_never_bind h
omit [Dealing] in
theorem append_q {a : Array TypeId} {t : TypeId} {v : Array Value} {w : World} : QG P (Builtin.append_ a t v) w := by
  unfold Builtin.append_
  split
  · refine QG.bind plain_underlying.qg fun _ _ _ => ?_
    split
    · split
      · rename_i base sLen sCap _
        refine QG.bind plain_sizeOf.qg fun size w1 _ => ?_
        extract_lets jp0 jp1
        have h1 : ∀ z w, QG P (jp1 z) w := by
          intro z w
          unfold jp1
          extract_lets jp2
          have h2 : ∀ n w, QG P (jp2 n) w := by
            intro n w
            unfold jp2
            extract_lets app need jpA jpB jpC
            have ha : Plain P app := by
              unfold app
              split
              · exact plain_firstCells
              · split
                · exact plain_pure
                · exact plain_zeroValue.bind fun _ => plain_pure
            have hB : ∀ u w, QG P (jpB u) w := by
              intro u w
              unfold jpB
              refine Plain.qg (plain_choose.bind fun _ => plain_typeInfo.bind fun _ => plain_askRoom.bind fun _ => plain_firstCells.bind fun _ => ha.bind fun _ => plain_zeroValue.bind fun _ => ?_)
              exact plain_newRow.bind fun _ => plain_pure
            have hC : ∀ u w, QG P (jpC u) w := by
              intro u w
              unfold jpC
              refine QG.bind plain_typeInfo.qg fun _ _ _ => ?_
              split
              · refine QG.bind ?_ fun _ _ _ => hB () _
                split
                · exact plain_runtimePanic.qg
                · refine qg_mayShare ?_
                  intro b _ _ _ e
                  cases b <;> cases e
              · exact hB () _
            split
            · refine QG.bind ha.qg fun _ _ _ => ?_
              split
              · exact QG.bind plain_storeCells.qg fun _ _ _ => QG.pure
              · exact QG.pure
            · refine QG.bind plain_typeInfo.qg fun _ _ _ => ?_
              split
              · exact QG.bind plain_runtimePanic.qg fun _ _ _ => hC () _
              · exact hC () _
          split
          · refine QG.bind plain_asInt.qg fun _ _ _ => ?_
            extract_lets l jpD jpE
            have hD : ∀ u w, QG P (jpD u) w := fun u w => QG.bind QG.pure fun _ _ _ => h2 _ _
            have hE : ∀ u w, QG P (jpE u) w := by
              intro u w
              unfold jpE
              refine QG.bind plain_typeInfo.qg fun _ _ _ => ?_
              split
              · exact QG.bind plain_choose.qg fun _ _ _ => QG.bind plain_runtimePanic.qg fun _ _ _ => hD () _
              · exact hD () _
            split
            · exact QG.bind plain_runtimePanic.qg fun _ _ _ => hE () _
            · exact hE () _
          · exact QG.bind plain_lenOf.qg fun _ _ _ => h2 _ _
        split
        · exact QG.bind plain_underlying.qg fun _ _ _ => QG.bind QG.pure fun _ _ _ => h1 _ _
        · exact QG.bind QG.pure fun _ _ _ => h1 _ _
      · exact Plain.qg plain_stuck
    · exact Plain.qg plain_stuck
  · exact Plain.qg plain_stuck
include hE in
omit [Dealing] in
theorem fieldPlace_q {fd : Field} {tf : TI} {n : Nat} (h : tyOf E fd.type = some tf) (hn : tf.size = n + 1) {a : Addr} {w : World} : QG P (fieldPlace a fd) w := by
  unfold fieldPlace
  refine QG.after plain_sizeOf (run_sizeOf hE h) ?_
  rw [if_neg (by omega)]
  exact QG.pure
omit [Dealing] in
def plK : Place → Bool
  | .val _ => false
  | .var _ => true
omit hE in
omit [Dealing] in
theorem plain_get {t : TypeId} {x : Place} : Plain P (x.get t) := by cases x <;> first | exact plain_pure | exact plain_loadVar
include hE in
omit [Dealing] in
theorem follow_q : ∀ {path : List FieldStep} {t : Nat} {var : Bool} {k : FoK} {t2 : Nat} {var2 : Bool} {pl : Place} {w : World}, followK E path t var = some (k, t2, var2) → plK pl = var → QG P (follow path t pl) w
  | [], _, _, _, _, _, _, _, _, _ => QG.pure
  | s :: r, t, var, k, t2, var2, pl, w, h, hp => by
    simp only [followK, ob_some] at h
    obtain ⟨ts, h1, fd, h2, tf, h3, h⟩ := h
    obtain ⟨fs, hd, hfs⟩ := fields_of h1 h2
    have r1 := run_underlying (w := w) hE h1
    rw [hd] at r1
    unfold follow
    refine QG.after plain_underlying r1 ?_
    dsimp only
    rw [hfs]
    dsimp only
    split at h
    · rename_i hde
      split at h
      · cases h
      · rename_i n hn
        simp only [ob_some, Option.some.injEq, Prod.mk.injEq] at h
        obtain ⟨⟨k1, t1, v1⟩, h4, rfl, rfl, rfl⟩ := h
        rw [hde, if_pos rfl]
        exact QG.bind plain_get.qg fun _ _ _ => QG.bind plain_asAddr.qg fun _ _ _ => QG.bind (fieldPlace_q hE h3 hn) fun _ _ _ => follow_q h4 rfl
    · rename_i hde
      split at h
      · cases h
      · rename_i n hn
        simp only [ob_some, Option.some.injEq, Prod.mk.injEq] at h
        obtain ⟨ld, hld, ⟨k1, t1, v1⟩, h4, rfl, rfl, rfl⟩ := h
        rw [hde, if_pos rfl]
        exact QG.bind plain_get.qg fun _ _ _ => QG.bind plain_asAddr.qg fun _ _ _ => QG.bind (fieldPlace_q hE h3 hn) fun _ _ _ => follow_q h4 rfl
    · rename_i hde
      split at h
      · cases h
      · rename_i n hn
        simp only [ob_some, Option.some.injEq, Prod.mk.injEq] at h
        obtain ⟨⟨k1, t1, v1⟩, h4, rfl, rfl, rfl⟩ := h
        rw [hde, if_neg (by simp)]
        cases pl with
        | val v => simp [plK] at hp
        | var a => exact QG.bind (fieldPlace_q hE h3 hn) fun _ _ _ => follow_q h4 rfl
    · rename_i hde
      simp only [ob_some, Option.some.injEq, Prod.mk.injEq] at h
      obtain ⟨pk, hpk, ⟨k1, t1, v1⟩, h4, rfl, rfl, rfl⟩ := h
      rw [hde, if_neg (by simp)]
      cases pl with
      | var a => simp [plK] at hp
      | val v => cases v <;> first | exact QG.bind plain_part.qg fun _ _ _ => follow_q h4 rfl | exact plain_stuck.qg
omit hE in
omit [Dealing] in
theorem plain_wrapNil {u t : TypeId} {v : Value} {x y : ByteArray} : Plain P (Builtin.ssaWrapNilChk_ #[u] t #[v, .string x, .string y]) := by
  cases v with
  | pointer p =>
    cases p with
    | some a => exact plain_pure
    | none =>
      refine Plain.bind (s := choose (.extern "ssa:wrapnilchk.dereferenced" 2)) plain_choose fun _ => ?_
      (repeat' first | exact Pl.p | assumption | exact plain_newObj ⟨rfl, fun _ _ => by simp⟩ | exact plain_setObj ⟨rfl, fun _ _ => by simp⟩ | (with_reducible refine plain_forInL ?_ _ _) | (with_reducible refine plain_forInR ?_ _ _) | (with_reducible refine plain_forInA ?_ _ _) | (with_reducible refine plain_mapMA ?_ _) | (with_reducible refine plain_map ?_) | (with_reducible refine plain_pure_bind ?_) | (with_reducible refine Plain.bind ?_ ?_) | intro _ | split | dsimp only)
  | _ => exact plain_stuck
omit hE in
omit [Dealing] in
theorem plain_receiverAt {t : TypeId} {x : Place} {b : Bool} {s : Option String} : Plain P (receiverAt t x b s) := by
  unfold receiverAt
  refine plain_underlying.bind fun _ => ?_
  split
  · exact plain_get
  · refine plain_get.bind fun _ => ?_
    split
    · exact plain_wrapNil.bind fun _ => plain_asAddr.bind fun _ => plain_loadVar
    · exact plain_pure.bind fun _ => plain_asAddr.bind fun _ => plain_loadVar
  · exact plain_pure
  · exact plain_stuck
  · exact plain_get
include hE in
omit [Dealing] in
theorem method_q {t : Nat} {name : String} {k : MeK} (h : methodK E t name = some k) {u : Value} {fuel : Nat} {w : World} : QG P (method (fuel + 1) t u name) w := by
  simp only [methodK, ob_some] at h
  obtain ⟨ti, h1, me, h2, ⟨fo, t2, v2⟩, h3, h⟩ := h
  obtain ⟨i, q1, _, _, _, q2⟩ := run_typeInfo (w := w) hE h1
  have h5 : i.methods.find? (·.name == name) = some me := by rw [q2, ← Array.find?_toList]; exact findM_ok h2
  split at h
  · cases h
  · rename_i f pr hf
    unfold method
    refine QG.after plain_typeInfo q1 ?_
    rw [h5]
    dsimp only
    refine QG.bind (follow_q hE h3 rfl) fun _ _ _ => ?_
    rw [hf]
    exact QG.bind plain_receiverAt.qg fun _ _ _ => QG.pure
omit hE in
omit [Dealing] in
theorem enter_q {f : FuncId} {args : Array Value} {w : World} (h : Enters P f) : QG P (callFunc f args) w := by
  obtain ⟨fn, h1, h2, h3⟩ := h
  unfold callFunc
  refine QG.after plain_program (show program.run P w = .ok P w from rfl) ?_
  rw [h1]
  dsimp only
  rw [h2, h3]
  exact QG.pure
include hQ hR in
theorem callFA_q {m : Ren} {H H2 : AH} {w : World} (hr : Rel m H w) {g : Nat} {l v : AV} {vs : List Value} (hl : VL m l vs) (h : callFA E R H g l = some (v, H2)) : QG P (callFunc g vs.toArray) w := by
  simp only [callFA] at h
  cases he : E.ext g l H with
  | none => rw [he] at h; exact enter_q (hR.call _ _ _ _ _ h).1
  | some x => exact hQ _ _ _ _ he m w vs hr hl
include hE hQ hR in
theorem callMA_q {m : Ren} {H H2 : AH} {w : World} (hr : Rel m H w) {r l v : AV} {name : String} {rv : Value} {vs : List Value} (hv : VR m r rv) (hl : VL m l vs) (h : callMA E R H r name l = some (v, H2)) :
    QG P (callMethod rv name vs.toArray) w := by
  simp only [callMA, onIfc_some, reduceCtorEq, and_false, false_or, ob_some] at h
  obtain ⟨t, a, rfl, k, hk, x, hx, h⟩ := h
  obtain ⟨u, hu, rfl⟩ := hv.ifc_inv
  obtain ⟨xv, h1, h2⟩ := method_ok hE hr hk hu hx (P.types.size + 99)
  have h1' : (method (P.types.size + Made.depth) t u name).run P w = .ok (k.fid, xv) w := h1
  have hq : QG P (method (P.types.size + Made.depth) t u name) w := method_q hE hk
  have := callFA_q hQ hR hr (VL.cons _ _ _ _ h2 hl) h
  refine QG.after plain_program (show program.run P w = .ok P w from rfl) (QG.next hq h1' ?_)
  have e : #[xv] ++ vs.toArray = (xv :: vs).toArray := by simp
  dsimp only
  rw [e]; exact this
include hE hQ hR in
theorem callVA_q {m : Ren} {H H2 : AH} {w : World} (hr : Rel m H w) {f l v : AV} {fv : Value} {vs : List Value} (hv : VR m f fv) (hl : VL m l vs) (h : callVA E R H f l = some (v, H2)) :
    QG P (do let d ← Deferred.ofValue fv vs.toArray; invoke d.target d.args) w := by
  simp only [callVA, onFn_some] at h
  obtain ⟨q, first, cap, rfl, h⟩ := h
  obtain ⟨g, va, vc, hf, ha, hc, rfl⟩ := hv.fn_inv
  refine QG.after plain_ofValue (Sem.run_pure _ _ _) ?_
  split at h
  · rename_i g'
    cases hf
    have := callFA_q hQ hR hr (ha.app (hl.app hc)) h
    have e : va.toArray ++ vs.toArray ++ vc.toArray = (va ++ (vs ++ vc)).toArray := by simp
    show QG P (callFunc g' (va.toArray ++ vs.toArray ++ vc.toArray)) w
    rw [e]; exact this
  · rename_i l'
    cases hf with
    | same f h' => exact absurd rfl (h' _)
    | yield l i hi => exact plain_yield.qg
  · rename_i name
    cases hf
    simp only [onCons_some, reduceCtorEq, and_false, false_or] at h
    obtain ⟨r, rest, e, h⟩ := h
    have hall := ha.app hl
    rw [e] at hall
    generalize hz : va ++ vs = zs at hall
    cases hall with | cons _ rv _ rest' hrv hrest =>
    have := callMA_q hE hQ hR hr hrv hrest h
    have e2 : va.toArray ++ vs.toArray = (rv :: rest').toArray := by rw [← hz]; simp
    have e4 : ((rv :: rest').toArray).extract 1 ((rv :: rest').toArray).size = rest'.toArray := by
      apply Array.toList_inj.1; simp
    show QG P (invoke (.fn (.method name) vc.toArray) (va.toArray ++ vs.toArray)) w
    rw [e2]
    unfold invoke
    have e3 : ((rv :: rest').toArray)[0]? = some rv := rfl
    rw [e3]
    dsimp only
    rw [e4]; exact this
  · cases h
end
end Go.Xq
namespace Go.Xq
variable [Dealing]
section
variable {P : Program} {E : Env} (hE : TyOk P E) (hQ : ExtQ P E) {R : Rec} (hR : RecOk P R)
include hE in
omit [Dealing] in
theorem mapUpdate_q {t : Nat} {x k v : Operand} {g : HvK} (h : mapSetK E t x k v = some g) {m : Ren} {H : AH} {w : World} {T : Tr AV} {ρ : Operand → Value} {r : AV × AH} (hr : Rel m H w) (he : ER m T ρ) (hk : g.f R T H = some r) :
    QG P (Instr.mapUpdate t (ρ x) (ρ k) (ρ v)) w := by
  simp only [mapSetK, ob_some] at h
  obtain ⟨ti, h1, h⟩ := h
  have r1 := run_underlying (w := w) hE h1
  split at h
  · rename_i hd
    simp only [ob_some, Option.some.injEq] at h
    obtain ⟨q, hq, rfl⟩ := h
    simp only [mapSetA, ob_some] at hk
    obtain ⟨a, g1, b, g2, c, g3, hk⟩ := hk
    have e1 := he x a g1
    have e2 := he k b g2
    simp only [onMap_some, reduceCtorEq, and_false, false_or, ob_some, onMp_some] at hk
    obtain ⟨rr, rfl, y, hg, es, clock, rfl, s, hf, hk⟩ := hk
    obtain ⟨i, hi, ex⟩ := e1.mp_inv
    obtain ⟨y, hy, hor⟩ := hr.live _ _ hg _ hi
    cases hor with | mp en _ _ _ hen =>
    rw [hd] at r1
    unfold Instr.mapUpdate
    refine QG.after plain_underlying r1 ?_
    rw [ex]
    refine QG.after plain_getObj (run_getObj hy (by simp)) (QG.after plain_checkKey (keyK_check hE hq _ _ _) (QG.bind (findKey_q hE hq hr e2 hen hf) fun z w1 _ => Plain.qg ?_))
    split
    · refine Plain.bind ?_ fun _ => plain_setObj ⟨rfl, fun _ _ => by simp⟩
      unfold Instr.keyThatStays
      (repeat' first | exact Pl.p | assumption | exact plain_newObj ⟨rfl, fun _ _ => by simp⟩ | exact plain_setObj ⟨rfl, fun _ _ => by simp⟩ | (with_reducible refine plain_forInL ?_ _ _) | (with_reducible refine plain_forInR ?_ _ _) | (with_reducible refine plain_forInA ?_ _ _) | (with_reducible refine plain_mapMA ?_ _) | (with_reducible refine plain_map ?_) | (with_reducible refine plain_pure_bind ?_) | (with_reducible refine Plain.bind ?_ ?_) | intro _ | split | dsimp only)
    · exact plain_setObj ⟨rfl, fun _ _ => by simp⟩
  · cases h
include hE in
omit [Dealing] in
theorem delete_q {t : Nat} {x k : Operand} {ts : List Nat} {g : HvK} (h : deleteK E t x k = some g) {c : Call} (ha : c.args.toList = [x, k]) (hty : c.argTypes.toList = t :: ts) {m : Ren} {H : AH} {w : World} {T : Tr AV} {ρ : Operand → Value} {r : AV × AH} (hr : Rel m H w) (he : ER m T ρ) (hk : g.f R T H = some r) (ty : TypeId) :
    QG P (Builtin.delete_ c.argTypes ty (c.args.map ρ)) w := by
  have ea : c.args = #[x, k] := by rw [← ha]
  have et : c.argTypes[0]? = some t := by rw [← Array.getElem?_toList, hty]; rfl
  simp only [deleteK, ob_some] at h
  obtain ⟨ti, h1, h⟩ := h
  have r1 := run_underlying (w := w) hE h1
  split at h
  · rename_i hd
    simp only [ob_some, Option.some.injEq] at h
    obtain ⟨q, hq, rfl⟩ := h
    simp only [deleteA, ob_some] at hk
    obtain ⟨a, g1, b, g2, hk⟩ := hk
    have e1 := he x a g1
    have e2 := he k b g2
    rw [hd] at r1
    unfold Builtin.delete_
    simp only [et, ea, List.map_toArray, List.map_cons, List.map_nil, List.getElem?_toArray, List.getElem?_cons_zero, List.getElem?_cons_succ]
    refine QG.after plain_underlying r1 ?_
    simp only [onMap_some, ob_some, onMp_some, Option.some.injEq] at hk
    rcases hk with ⟨rfl, _⟩ | ⟨rr, rfl, y, hg, es, clock, rfl, s, hf, hk⟩
    · rw [e1.mnil_inv]
      exact QG.bind plain_checkKey.qg fun _ _ _ => QG.pure
    · obtain ⟨i, hi, ex⟩ := e1.mp_inv
      obtain ⟨y, hy, hor⟩ := hr.live _ _ hg _ hi
      cases hor with | mp en _ _ _ hen =>
      rw [ex]
      refine QG.after plain_getObj (run_getObj hy (by simp)) (QG.after plain_checkKey (keyK_check hE hq _ _ _) (QG.bind (findKey_q hE hq hr e2 hen hf) fun z w1 _ => Plain.qg ?_))
      (repeat' first | exact Pl.p | assumption | exact plain_newObj ⟨rfl, fun _ _ => by simp⟩ | exact plain_setObj ⟨rfl, fun _ _ => by simp⟩ | (with_reducible refine plain_forInL ?_ _ _) | (with_reducible refine plain_forInR ?_ _ _) | (with_reducible refine plain_forInA ?_ _ _) | (with_reducible refine plain_mapMA ?_ _) | (with_reducible refine plain_map ?_) | (with_reducible refine plain_pure_bind ?_) | (with_reducible refine Plain.bind ?_ ?_) | intro _ | split | dsimp only)
  · cases h
omit [Dealing] in
theorem plain_clear {a : Array TypeId} {t : TypeId} {v : Array Value} : Plain P (Builtin.clear_ a t v) := by unfold Builtin.clear_; (repeat' first | exact Pl.p | assumption | exact plain_newObj ⟨rfl, fun _ _ => by simp⟩ | exact plain_setObj ⟨rfl, fun _ _ => by simp⟩ | (with_reducible refine plain_forInL ?_ _ _) | (with_reducible refine plain_forInR ?_ _ _) | (with_reducible refine plain_forInA ?_ _ _) | (with_reducible refine plain_mapMA ?_ _) | (with_reducible refine plain_map ?_) | (with_reducible refine plain_pure_bind ?_) | (with_reducible refine Plain.bind ?_ ?_) | intro _ | split | dsimp only)
include hE hQ hR in
theorem heavyCall_q {c : Call} {k : HvK} (h : heavyCall E c = some k) {o : Oper} (ho : o.op = .call c) {m : Ren} {H : AH} {w : World} {T : Tr AV} {ρ : Operand → Value} {v : AV} {H2 : AH} (hr : Rel m H w) (he : ER m T ρ) (hk : k.f R T H = some (v, H2)) : QG P (execOp ρ o) w := by
  have hx : execOp ρ o = (do let d ← resolve ρ c o.type; invoke d.target d.args) := by simp only [execOp, ho]
  rw [hx]
  unfold heavyCall at h
  have blt : ∀ (b : Builtin) (hc : c.callee = .builtin b) (s : Sem Value), (∀ d : Deferred, d.target = .builtin b c.argTypes o.type (c.args.map fun | .const _ => true | _ => false) → d.args = c.args.map ρ → invoke d.target d.args = (do pure (.value (← s)))) → QG P s w →
      QG P (do let d ← resolve ρ c o.type; invoke d.target d.args) w := by
    intro b hc s hi hs
    refine QG.after plain_resolve (a := { target := .builtin b c.argTypes o.type (c.args.map fun | .const _ => true | _ => false), args := c.args.map ρ }) (w1 := w) (by unfold resolve; rw [hc]; rfl) ?_
    rw [hi _ rfl rfl]
    exact QG.v hs
  split at h
  · rename_i f0 hc
    have hres : resolve ρ c o.type = Deferred.ofValue (ρ f0) (c.args.map ρ) := by simp only [resolve, hc]
    rw [hres]
    split at h
    · rename_i g
      cases h
      simp only [hvCallF, ob_some] at hk
      obtain ⟨l, hl, hk⟩ := hk
      have hvl := run_map_ops he hl
      have hf : VR m (.fn (.func g) .nil .nil) (ρ (.func g)) := he (.func g) _ rfl
      obtain ⟨q, va, vc, hq, ha, hcc, e⟩ := hf.fn_inv
      cases hq; cases ha; cases hcc
      have := callFA_q hQ hR hr hvl hk
      rw [Array.toArray_toList] at this
      rw [e]
      refine QG.after plain_ofValue (Sem.run_pure _ _ _) ?_
      show QG P (callFunc g (#[] ++ c.args.map ρ ++ #[])) w
      have e5 : #[] ++ c.args.map ρ ++ #[] = c.args.map ρ := by simp
      rw [e5]; exact this
    · rename_i fx hf
      cases h
      simp only [hvCallV, ob_some] at hk
      obtain ⟨fa, hfa, l, hl, hk⟩ := hk
      have := callVA_q hE hQ hR hr (he f0 fa hfa) (run_map_ops he hl) hk
      rw [Array.toArray_toList] at this
      exact this
  · rename_i r name hc
    cases h
    simp only [hvInvoke, ob_some] at hk
    obtain ⟨a, ha, l, hl, hk⟩ := hk
    have := callMA_q hE hQ hR hr (he r a ha) (run_map_ops he hl) hk
    refine QG.after plain_resolve (a := { target := .fn (.method name) #[], args := #[ρ r] ++ c.args.map ρ }) (w1 := w) (by unfold resolve; rw [hc]; rfl) ?_
    have e3 : (#[ρ r] ++ c.args.map ρ)[0]? = some (ρ r) := by rw [Array.getElem?_append_left (by exact Nat.one_pos)]; rfl
    have e4 : (#[ρ r] ++ c.args.map ρ).extract 1 (#[ρ r] ++ c.args.map ρ).size = c.args.map ρ := by
      apply Array.toList_inj.1
      simp only [Array.toList_extract, Array.toList_append, List.singleton_append, List.extract_eq_take_drop, List.drop_succ_cons, List.drop_zero]
      exact List.take_of_length_le (by simp)
    show QG P (invoke (.fn (.method name) #[]) (#[ρ r] ++ c.args.map ρ)) w
    unfold invoke
    rw [e3]
    dsimp only
    rw [e4]
    rw [Array.toArray_toList] at this
    exact this
  · rename_i b hc
    split at h
    · split at h
      · exact blt _ hc _ (fun d h1 h2 => by rw [h1, h2]; rfl) append_q
      · cases h
    · split at h
      · exact blt _ hc _ (fun d h1 h2 => by rw [h1, h2]; rfl) plain_copy.qg
      · cases h
    · split at h
      · exact blt _ hc _ (fun d h1 h2 => by rw [h1, h2]; rfl) plain_clear.qg
      · cases h
    · split at h
      · rename_i ha ht
        exact blt _ hc _ (fun d h1 h2 => by rw [h1, h2]; rfl) (delete_q hE h ha ht hr he hk _)
      · cases h
    · cases h
include hE hQ hR in
theorem heavyK_q {o : Oper} {k : HvK} (h : heavyK E o.op = some k) {m : Ren} {H : AH} {w : World} {T : Tr AV} {ρ : Operand → Value} {v : AV} {H2 : AH} (hr : Rel m H w) (he : ER m T ρ) (hk : k.f R T H = some (v, H2)) : QG P (execOp ρ o) w := by
  unfold heavyK at h
  split at h
  · rename_i ho; simp only [execOp, ho]; exact QG.u plain_storeAt.qg
  · rename_i ho; simp only [execOp, ho]; exact QG.u (mapUpdate_q hE h hr he hk)
  · rename_i ho; simp only [execOp, ho]; exact QG.u (mapUpdate_q hE h hr he hk)
  · rename_i ho; simp only [execOp, ho]; exact QG.v plain_next.qg
  · rename_i s d x ho
    simp only [execOp, ho]
    refine QG.v ?_
    split at h
    · rename_i hee
      have hee := Nat.eq_of_beq_eq_true hee
      subst hee
      simp only [ob_some] at h
      obtain ⟨ts, h1, h⟩ := h
      have r1 := run_underlying (w := w) hE h1
      split at h
      · rename_i hd
        simp only [ob_some] at h
        obtain ⟨te, h3, h⟩ := h
        have r3 := run_underlying (w := w) hE h3
        split at h
        · rename_i hb
          cases h
          have hbd : te.d = .int .u8 := by
            unfold isByteD at hb
            split at hb
            · assumption
            · cases hb
          simp only [hvSame, ob_some, onSl_some, reduceCtorEq, and_false, false_or, bt_some, Option.some.injEq, Prod.mk.injEq] at hk
          obtain ⟨a, g1, b, off, n, c, rfl, hn, y, hg, hby, rfl, rfl⟩ := hk
          have hn : 0 < n := by simpa [Nat.blt_eq] using hn
          have e1 := he x _ g1
          obtain ⟨ad, c', ex, _, hcase⟩ := e1.sl_inv
          rcases hcase with ⟨i, hi, rfl, _⟩ | ⟨h, _⟩
          · obtain ⟨z, hz, hor⟩ := hr.live _ _ hg _ hi
            cases hor with
            | bys c0 fr e0 size opn nn i hc0 he0 hs0 hf0 h0 =>
              rw [hd] at r1; rw [hbd] at r3
              rw [ex]
              unfold convert
              refine QG.after plain_underlying r1 (QG.after plain_underlying r1 (QG.after plain_underlying r3 ?_))
              simp only [beq_self_eq_true]
              exact QG.bind (qg_mark ⟨c0, e0, fr, hz, by rw [hc0]; exact hf0⟩) fun _ _ _ => QG.pure
            | _ => simp [isBy] at hby
          · omega
        · cases h
      · cases h
    · cases h
  · rename_i ho; simp only [execOp, ho]; exact QG.v plain_range.qg
  · rename_i c ho; exact heavyCall_q hE hQ hR h ho hr he hk
  · cases h
end
end Go.Xq
