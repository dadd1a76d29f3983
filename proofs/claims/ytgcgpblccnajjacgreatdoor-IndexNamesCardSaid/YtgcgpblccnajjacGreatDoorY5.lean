/- A part of the proof that what the evaluator answers is what the machine does. Its conditions stand in each theorem. -/
import Derived.Test.YtgcgpblccnajjacGreatDoorY4
namespace Go.Xq
section
variable {P : Program} {E : Env} (hE : TyOk P E) {o : Oper}

/-! ### Parts of structs, fields, places in memory -/
include hE
theorem partK_ok {t : Nat} {k : PK} (h : partK E t = some k) {m : Ren} {w : World} {off : Nat} {l a : AV} {vs : List Value} (hl : VL m l vs) (hk : k.f off l = some a) :
    ∃ v, (part t vs.toArray off).run P w = .ok v w ∧ VR m a v := by
  simp only [partK, ob_some] at h
  obtain ⟨ti, ht, h⟩ := h
  split at h
  · rename_i hd
    cases h
    simp only [partN, Option.some.injEq] at hk
    subst hk
    refine ⟨.agg (vs.toArray.extract off (off + ti.size)), ?_, ?_⟩
    · simp [part, run_isAgg hE ht, Result.andThen, hd, run_sizeOf hE ht]
    · have e : vs.toArray.extract off (off + ti.size) = ((vs.drop off).take ti.size).toArray := by
        apply Array.toList_inj.1
        simp
      rw [e]
      exact .agg _ _ (VL.take (VL.drop hl))
  · rename_i hd
    cases h
    obtain ⟨v, hv, hr⟩ := hl.nth (show AV.nth off l = some a from hk)
    refine ⟨v, ?_, hr⟩
    simp [part, run_isAgg hE ht, Result.andThen, hd, hv]
omit hE in
theorem fields_of {t f : Nat} {ti : TI} {fd : Field} (_ : tyOf E t = some ti) (hf : fieldOf ti.d f = some fd) : ∃ fs, ti.d = .struct fs ∧ fs[f]? = some fd := by
  unfold fieldOf at hf
  split at hf
  · rename_i fs hd; exact ⟨fs, hd, by simpa using hf⟩
  · cases hf
theorem look_fVal {s : Nat} {x : Operand} {f : Nat} {ti : TI} {fd : Field} {k : PK} (h1 : tyOf E s = some ti) (h2 : fieldOf ti.d f = some fd) (h3 : partK E fd.type = some k) (ho : o.op = .field s x f) :
    LookOk P ⟨fVal k fd.offset x⟩ o := by
  intro m H w T ρ v hr he hk
  simp only [fVal, ob_some, onAgg_some] at hk
  obtain ⟨a, g1, l, rfl, g2⟩ := hk
  obtain ⟨vs, hvl, e⟩ := (he x _ g1).agg_inv
  obtain ⟨u, hu, hv⟩ := partK_ok (w := w) hE h3 hvl g2
  obtain ⟨fs, hd, hfs⟩ := fields_of h1 h2
  refine ⟨u, ?_, hv⟩
  simp only [execOp, ho, e]; apply run_v
  simp [Instr.field, run_underlying hE h1, Result.andThen, hd, hfs, asAgg, hu]
theorem fieldPlace_ok {fd : Field} {tf : TI} {n : Nat} (h : tyOf E fd.type = some tf) (hn : tf.size = n + 1) {w : World} (b off : Nat) :
    (fieldPlace ⟨b, off, none⟩ fd).run P w = .ok ⟨b, off + fd.offset, none⟩ w := by
  simp [fieldPlace, run_sizeOf hE h, Result.andThen, hn, add_mk]
theorem look_fAddr {s : Nat} {x : Operand} {f : Nat} {ti tf : TI} {fd : Field} {n : Nat} (h1 : tyOf E s = some ti) (h2 : fieldOf ti.d f = some fd) (h3 : tyOf E fd.type = some tf) (hn : tf.size = n + 1)
    (ho : o.op = .fieldAddr s x f) : LookOk P ⟨fAddr x fd.offset⟩ o := by
  intro m H w T ρ v hr he hk
  simp only [fAddr, ob_some, onPtr_some, Option.some.injEq] at hk
  obtain ⟨a, g1, b, off, rfl, rfl⟩ := hk
  obtain ⟨i, hi, e⟩ := (he x _ g1).ptr_inv
  obtain ⟨fs, hd, hfs⟩ := fields_of h1 h2
  refine ⟨_, ?_, .ptr b _ i hi⟩
  simp only [execOp, ho, e]; apply run_v
  simp [Instr.fieldAt, run_underlying hE h1, Result.andThen, hd, hfs, Instr.sureAddr, fieldPlace_ok hE h3 hn, Nat.add_assoc]
omit hE in
theorem natOf_inv {m : Ren} {a : AV} {n : Nat} {v : Value} (h : natOf a = some n) (hv : VR m a v) : ∃ k, v = .int k (n : Int) := by
  simp only [natOf, onInt_some] at h
  obtain ⟨k, i, rfl, h⟩ := h
  cases i with
  | negSucc j => simp at h
  | ofNat j => rw [ic_ofNat] at h; cases h; exact ⟨k, hv.int_inv⟩
theorem look_ixSl {t e : Nat} {x i : Operand} {ti te : TI} (h1 : tyOf E t = some ti) (h2 : ti.d = .slice e) (h3 : tyOf E e = some te) (ho : o.op = .indexAddr t x i) : LookOk P ⟨ixSl te.size x i⟩ o := by
  intro m H w T ρ v hr he hk
  simp only [ixSl, ob_some, onSl_some, bt_some, Option.some.injEq, reduceCtorEq, and_false, false_or] at hk
  obtain ⟨a, g1, j, g2, b, off, len, c, rfl, n, g3, g4, rfl⟩ := hk
  obtain ⟨ad, c', e1, _, hc⟩ := (he x _ g1).sl_inv
  obtain ⟨k, e2⟩ := natOf_inv g3 (he i _ g2)
  have hlt : n < len := by simpa [Nat.blt_eq] using g4
  rcases hc with ⟨q, hq, rfl, _⟩ | ⟨h0, _, _⟩
  · refine ⟨_, ?_, .ptr b _ q hq⟩
    simp only [execOp, ho, e1, e2]; apply run_v
    simp [Instr.indexAt, asIntOf, run_underlying hE h1, Result.andThen, h2, hlt, run_sizeOf hE h3, add_mk, Nat.add_assoc]
  · omega
theorem look_ixArr {t e n : Nat} {x i : Operand} {ti te : TI} (h1 : tyOf E t = some ti) (h2 : ti.d = .array n e) (h3 : tyOf E e = some te) (ho : o.op = .indexAddr t x i) : LookOk P ⟨ixArr n te.size x i⟩ o := by
  intro m H w T ρ v hr he hk
  simp only [ixArr, ob_some, onPtr_some, bt_some, Option.some.injEq] at hk
  obtain ⟨a, g1, j, g2, b, off, rfl, k, g3, g4, rfl⟩ := hk
  obtain ⟨q, hq, e1⟩ := (he x _ g1).ptr_inv
  obtain ⟨kk, e2⟩ := natOf_inv g3 (he i _ g2)
  have hlt : k < n := by simpa [Nat.blt_eq] using g4
  refine ⟨_, ?_, .ptr b _ q hq⟩
  simp only [execOp, ho, e1, e2]; apply run_v
  simp [Instr.indexAt, asIntOf, run_underlying hE h1, Result.andThen, h2, Instr.sureAddr, hlt, run_sizeOf hE h3, add_mk, Nat.add_assoc]
theorem look_ixAgg {t e n : Nat} {x i : Operand} {ti te : TI} {k : PK} (h1 : tyOf E t = some ti) (h2 : ti.d = .array n e) (h3 : tyOf E e = some te) (h4 : partK E e = some k) (ho : o.op = .index t x i) :
    LookOk P ⟨ixAgg n te.size k x i⟩ o := by
  intro m H w T ρ v hr he hk
  simp only [ixAgg, ob_some, onAgg_some, bt_some] at hk
  obtain ⟨a, g1, j, g2, l, rfl, q, g3, g4, g5⟩ := hk
  obtain ⟨vs, hvl, e1⟩ := (he x _ g1).agg_inv
  obtain ⟨kk, e2⟩ := natOf_inv g3 (he i _ g2)
  have hlt : q < n := by simpa [Nat.blt_eq] using g4
  obtain ⟨u, hu, hv⟩ := partK_ok (w := w) hE h4 hvl g5
  refine ⟨u, ?_, hv⟩
  simp only [execOp, ho, e1, e2]; apply run_v
  have hu' : (part e vs.toArray (q * te.size)).run P w = .ok u w := hu
  simp [Instr.index, asIntOf, run_underlying hE h1, Result.andThen, h2, hlt, run_sizeOf hE h3, hu']
theorem look_ixStr {t : Nat} {x i : Operand} {ti : TI} (h1 : tyOf E t = some ti) (h2 : ti.d = .string) (ho : o.op = .index t x i) : LookOk P ⟨ixStr x i⟩ o := by
  intro m H w T ρ v hr he hk
  simp only [ixStr, ob_some, onStr_some, bt_some, Option.some.injEq] at hk
  obtain ⟨a, g1, j, g2, l, n, rfl, q, g3, g4, rfl⟩ := hk
  obtain ⟨s, e1, rfl, rfl⟩ := (he x _ g1).str_inv
  obtain ⟨kk, e2⟩ := natOf_inv g3 (he i _ g2)
  have hlt : q < s.data.toList.length := by simpa [Nat.blt_eq] using g4
  have hlt2 : q < s.size := by rw [Array.length_toList] at hlt; exact hlt
  have hb : s[q]? = some s.data.toList[q] := by
    rw [getElem?_pos s q hlt2]; congr 1
  refine ⟨.int .u8 (s.data.toList[q]).toNat, ?_, ?_⟩
  · simp only [execOp, ho, e1, e2]; apply run_v
    simp [Instr.index, asIntOf, run_underlying hE h1, Result.andThen, h2, hb]
  · rw [byteAt_leNat (List.getElem?_eq_getElem hlt)]; exact .int _ _
omit hE in
theorem look_ex {x : Operand} {i : Nat} (ho : o.op = .extract x i) : LookOk P ⟨exA x i⟩ o := by
  intro m H w T ρ v hr he hk
  simp only [exA, ob_some, onTup_some] at hk
  obtain ⟨a, g1, l, rfl, g2⟩ := hk
  obtain ⟨vs, hvl, e⟩ := (he x _ g1).tup_inv
  obtain ⟨u, hu, hv⟩ := hvl.nth g2
  refine ⟨u, ?_, hv⟩
  simp only [execOp, ho, e]; apply run_v
  simp [Instr.extract, hu]
theorem look_makeIface {t : Nat} {x : Operand} {ti : TI} (h1 : tyOf E t = some ti) (h2 : isIfaceD ti.d = false) (ho : o.op = .makeInterface t x) : LookOk P ⟨fun T _ => ob (opnd x T) fun v => some (.ifc t v)⟩ o := by
  intro m H w T ρ v hr he hk
  simp only [ob_some, Option.some.injEq] at hk
  obtain ⟨a, g1, rfl⟩ := hk
  refine ⟨_, ?_, .ifc t a _ (he x a g1)⟩
  simp only [execOp, ho]; apply run_v
  simp only [Instr.makeInterface, Sem.run_bind, run_underlying hE h1, Result.andThen]
  cases hd : ti.d <;> first | rfl | (rw [hd] at h2; simp [isIfaceD] at h2)
omit hE in
theorem look_makeFn {f : Fn} {a c : Array Operand} (hf : ∀ l, f ≠ .yield l) (ho : o.op = .makeFunc f a c) : LookOk P ⟨makeFn f (opnds a.toList) (opnds c.toList)⟩ o := by
  intro m H w T ρ v hr he hk
  simp only [makeFn, ob_some, Option.some.injEq] at hk
  obtain ⟨x, g1, y, g2, rfl⟩ := hk
  have := VR.fn f f x y _ _ (.same f hf) (opnds_ok he g1) (opnds_ok he g2)
  refine ⟨_, ?_, this⟩
  simp only [execOp, ho]; apply run_v
  simp only [Instr.makeFunc, Sem.run_pure]
  congr 2 <;> (apply Array.toList_inj.1; simp)

/-! ### Slices -/
omit hE in
theorem optNat_inv {m : Ren} {T : Tr AV} {ρ : Operand → Value} (he : ER m T ρ) {x : Option Operand} {r : Option Nat} (h : optNat T x = some r) :
    (x = none ∧ r = none) ∨ ∃ y n k, x = some y ∧ r = some n ∧ ρ y = .int k (n : Int) := by
  cases x with
  | none => cases h; exact .inl ⟨rfl, rfl⟩
  | some y =>
    simp only [optNat, ob_some, Option.some.injEq] at h
    obtain ⟨v, h1, n, h2, rfl⟩ := h
    obtain ⟨k, hk⟩ := natOf_inv h2 (he y v h1)
    exact .inr ⟨y, n, k, rfl, rfl, hk⟩
omit hE in
theorem run_sliceBound {w : World} {k : IntKind} {n y : Nat} {c : BoundsCode} (h : n ≤ y) : (Instr.sliceBound (.int k (n : Int)) y c).run P w = .ok n w := by
    simp [Instr.sliceBound, asIntOf, h]
omit hE in
/-- the bounds of a slice expression, at a capacity that is at least what was reckoned with -/
theorem run_bounds {m : Ren} {T : Tr AV} {ρ : Operand → Value} (he : ER m T ρ) {w : World} {isS : Bool} {lo hi mx : Option Operand} {rlo rhi rmx : Option Nat} {len c' room l h : Nat} {cp mm : Option Nat}
    (h1 : optNat T lo = some rlo) (h2 : optNat T hi = some rhi) (h3 : optNat T mx = some rmx) (hx : hasHi hi mx = true) (hb : boundsA len cp room rlo rhi rmx = some (l, h, mm))
    (hroom : room ≤ c') (hcap : ∀ k, cp = some k → c' = k) :
    ∃ m', (Instr.sliceBounds isS len c' (lo.map ρ) (hi.map ρ) (mx.map ρ)).run P w = .ok (l, h, m') w ∧ l ≤ h ∧ h ≤ m' ∧ m' ≤ c' ∧ (∀ k, mm = some k → m' = k) ∧ (mm = none → m' = c' ∧ cp = none) := by
  simp only [boundsA, ob_some, bt_some, Option.some.injEq, Prod.mk.injEq, Nat.ble_eq] at hb
  obtain ⟨q, hq, hb1, hb2, rfl, rfl, rfl⟩ := hb
  rcases optNat_inv he h3 with ⟨rfl, rfl⟩ | ⟨y3, n3, k3, rfl, rfl, hy3⟩
  · simp at hq
    subst hq
    have hh : oc rhi len id ≤ c' := by
      cases cp with
      | none => exact Nat.le_trans hb1 hroom
      | some k => rw [hcap k rfl]; exact hb1
    refine ⟨c', ?_, hb2, hh, Nat.le_refl _, hcap, fun e => ⟨rfl, e⟩⟩
    rcases optNat_inv he h2 with ⟨rfl, rfl⟩ | ⟨y2, n2, k2, rfl, rfl, hy2⟩ <;> rcases optNat_inv he h1 with ⟨rfl, rfl⟩ | ⟨y1, n1, k1, rfl, rfl, hy1⟩ <;>
      simp only [oc_none, oc_some, id] at hh hb2 ⊢
    · simp [Instr.sliceBounds]
    · simp [Instr.sliceBounds, Result.andThen, hy1, run_sliceBound hb2]
    · simp [Instr.sliceBounds, Result.andThen, hy2, run_sliceBound hh]
    · simp [Instr.sliceBounds, Result.andThen, hy1, hy2, run_sliceBound hh, run_sliceBound hb2]
  · simp only [oc_some, bt_some, Option.some.injEq, Nat.ble_eq] at hq
    obtain ⟨hn, rfl⟩ := hq
    have hn' : n3 ≤ c' := by omega
    simp only [oc_some, id] at hb1
    refine ⟨n3, ?_, hb2, hb1, hn', by simp, by simp⟩
    rcases optNat_inv he h2 with ⟨rfl, rfl⟩ | ⟨y2, n2, k2, rfl, rfl, hy2⟩
    · simp [hasHi] at hx
    · rcases optNat_inv he h1 with ⟨rfl, rfl⟩ | ⟨y1, n1, k1, rfl, rfl, hy1⟩ <;> simp only [oc_none, oc_some, id] at hb1 hb2 ⊢
      · simp [Instr.sliceBounds, Result.andThen, hy2, hy3, run_sliceBound hb1, run_sliceBound hn']
      · simp [Instr.sliceBounds, Result.andThen, hy1, hy2, hy3, run_sliceBound hb1, run_sliceBound hb2, run_sliceBound hn']
end
end Go.Xq
