/- A part of the proof that what the evaluator answers is what the machine does. Its conditions stand in each theorem. -/
import Derived.Test.YtgcgpblccnajjacGreatDoorY2
namespace Go.Xq

/-! ### The tables are the program's -/
structure TyOk (P : Program) (E : Env) : Prop where
  ty : ∀ t ti, tyOf E t = some ti → mkTI P t = some ti
theorem tyOk_of (P : Program) (dt df : Nat) (s e) : TyOk P (Env.of P dt df s e) :=
  ⟨fun t ti h => by
    have h1 : Tr.get (bits t) (Tr.tab dt (mkTI P)) = some ti := h
    have := Tr.get_tab _ _ _ _ h1
    rwa [dec_bits] at this⟩
theorem ofA_ok {m : Ren} {v : Value} {a : AV} (h : ofA v = some a) : VR m a v := by
  cases v with
  | bool b => cases h; exact .bool b
  | int k n => cases h; exact .int k n
  | string s => cases h; exact .str s
  | pointer a => cases a with
    | none => cases h; exact .pnil
    | some a => cases h
  | slice a l c => cases a with
    | none => cases l with
      | zero => cases c with
        | zero => cases h; exact .snil
        | succ n => cases h
      | succ n => cases h
    | some a => cases h
  | map r => cases r with
    | none => cases h; exact .mnil
    | some r => cases h
  | nilFunc => cases h; exact .fnil
  | nilIface => cases h; exact .inil
  | _ => cases h
theorem ofL_ok {m : Ren} : ∀ {vs : List Value} {a : AV}, ofL vs = some a → VL m a vs
  | [], a, h => by cases h; exact .nil
  | v :: vs, a, h => by
    simp only [ofL, ob_some] at h
    obtain ⟨x, h1, l, h2, h3⟩ := h
    cases h3
    exact .cons _ _ _ _ (ofA_ok h1) (ofL_ok h2)
theorem ofV_ok {m : Ren} {v : Value} {a : AV} (h : ofV v = some a) : VR m a v := by
  unfold ofV at h
  split at h
  · rename_i cs
    simp only [ob_some] at h
    obtain ⟨l, h1, h2⟩ := h
    cases h2
    exact .agg l cs.toList (ofL_ok h1)
  · exact ofA_ok h
theorem ofA_notup {v : Value} {a : AV} (h : ofA v = some a) : ∀ l, a ≠ .tup l := by
  intro l e; subst e
  cases v with
  | pointer a => cases a <;> cases h
  | slice a l c => cases a <;> cases l <;> cases c <;> cases h
  | map r => cases r <;> cases h
  | _ => cases h
theorem ofV_notup {v : Value} {a : AV} (h : ofV v = some a) : ∀ l, a ≠ .tup l := by
  unfold ofV at h
  split at h
  · intro l
    simp only [ob_some] at h
    obtain ⟨k, _, h2⟩ := h
    cases h2
    exact fun e => by cases e
  · exact ofA_notup h

section
variable {P : Program} {E : Env} (hE : TyOk P E) {w : World} {t : Nat} {ti : TI}
include hE
theorem run_underlying (h : tyOf E t = some ti) : (underlying t).run P w = .ok ti.d w := by
  have := hE.ty t ti h
  unfold mkTI at this
  split at this
  · rename_i d i h1 h2; cases this; simp [underlying, h1]
  · cases this
theorem info_of (h : tyOf E t = some ti) : ∃ i, P.info? t = some i ∧ i.size = ti.size ∧ i.bytes = ti.bytes ∧ ti.zero = ob i.zero ofV ∧ i.methods = ti.methods := by
  have := hE.ty t ti h
  unfold mkTI at this
  split at this
  · rename_i d i h1 h2; cases this; exact ⟨i, h2, rfl, rfl, rfl, rfl⟩
  · cases this
theorem plain_of (h : tyOf E t = some ti) (hp : ti.plainEq = true) : P.stoodInHeld t = false ∧ P.eqGuardType P.depth t = false := by
  have := hE.ty t ti h
  unfold mkTI at this
  split at this
  · rename_i d i h1 h2; cases this; simpa using hp
  · cases this
theorem under_of (h : tyOf E t = some ti) : P.underlying t = some ti.d := by
  have := hE.ty t ti h
  unfold mkTI at this
  split at this
  · rename_i d i h1 h2; cases this; exact h1
  · cases this
theorem run_typeInfo (h : tyOf E t = some ti) : ∃ i, (typeInfo t).run P w = .ok i w ∧ i.size = ti.size ∧ i.bytes = ti.bytes ∧ ti.zero = ob i.zero ofV ∧ i.methods = ti.methods := by
  obtain ⟨i, h1, h2⟩ := info_of hE h
  exact ⟨i, by simp [typeInfo, h1], h2⟩
theorem run_sizeOf (h : tyOf E t = some ti) : (sizeOf t).run P w = .ok ti.size w := by
  obtain ⟨i, h1, h2, _⟩ := run_typeInfo (w := w) hE h
  simp [sizeOf, h1, Result.andThen, h2]
theorem run_zeroValue {z : AV} (h : tyOf E t = some ti) (hz : ti.zero = some z) : ∃ v, (zeroValue t).run P w = .ok v w ∧ (∀ m, VR m z v) ∧ ∀ l, z ≠ .tup l := by
  obtain ⟨i, h1, _, _, h4, _⟩ := run_typeInfo (w := w) hE h
  rw [h4] at hz
  obtain ⟨v, h5, h6⟩ := ob_some.1 hz
  exact ⟨v, by simp [zeroValue, h1, Result.andThen, h5], fun m => ofV_ok h6, ofV_notup h6⟩
theorem run_isAgg (h : tyOf E t = some ti) : (isAgg t).run P w = .ok (isAggD ti.d) w := by
  simp only [isAgg, Sem.run_bind, run_underlying hE h, Result.andThen]
  cases ti.d <;> rfl
end

/-! ### Operands -/
def ER (m : Ren) (T : Tr AV) (ρ : Operand → Value) : Prop := ∀ x v, opnd x T = some v → VR m v (ρ x)
theorem ER.mono {m m2 : Ren} (hm : Le m m2) {T ρ} (h : ER m T ρ) : ER m2 T ρ := fun x v hx => (h x v hx).mono hm
theorem ER.of {m : Ren} {n : Nat} {T : Tr AV} {a : Act} (hg : ∀ g, g < ngl → ∃ i, m g = some i ∧ i.blk = g ∧ i.base = 0) (h : TR n m T a.tmps) : ER m T a.eval := by
  intro x v hx
  cases x with
  | tmp t =>
    have h1 : oc (T.get (bits t)) (some undefA) some = some v := hx
    have h2 := h.at_ t
    have e : oc (T.get (bits t)) undefA id = v := by
      cases hg : T.get (bits t) <;> rw [hg] at h1 <;> simpa using h1
    rw [e] at h2
    exact h2
  | const c =>
    simp only [opnd, opndK] at hx
    split at hx
    · rename_i a ha; cases hx; exact ofV_ok ha
    · cases hx
  | global g =>
    simp only [opnd, opndK] at hx
    split at hx
    · rename_i hlt
      cases hx
      obtain ⟨i, h1, h2, h3⟩ := hg g (by simpa [Nat.blt_eq] using hlt)
      have := VR.ptr (m := m) g 0 i h1
      rw [h2, h3] at this
      exact this
    · cases hx
  | func f =>
    cases hx
    exact .fn (.func f) (.func f) .nil .nil [] [] (.same _ (by simp)) .nil .nil
theorem opnds_ok {m : Ren} {T : Tr AV} {ρ : Operand → Value} (h : ER m T ρ) : ∀ {xs : List Operand} {l : AV}, (opnds xs).f T = some l → VL m l (xs.map ρ)
  | [], l, hx => by cases hx; exact .nil
  | x :: xs, l, hx => by
    simp only [opnds, ob_some] at hx
    obtain ⟨v, h1, k, h2, h3⟩ := hx
    cases h3
    exact .cons _ _ _ _ (h x v h1) (opnds_ok h h2)

/-! ### Operations that only look -/
def LookOk (P : Program) (k : LK) (o : Oper) : Prop :=
  ∀ (m : Ren) (H : AH) (w : World) (T : Tr AV) (ρ : Operand → Value) (v : AV), Rel m H w → ER m T ρ → k.f T H = some v →
    ∃ v', (execOp ρ o).run P w = .ok (.value v') w ∧ VR m v v'
theorem run_v {P : Program} {s : Sem Value} {w w2 : World} {x : Value} (h : s.run P w = .ok x w2) : (do pure (Next.value (← s)) : Sem Next).run P w = .ok (.value x) w2 := by
  simp [h, Result.andThen]
theorem run_u {P : Program} {s : Sem Unit} {w w2 : World} (h : s.run P w = .ok () w2) : (do s; pure Next.skip : Sem Next).run P w = .ok .skip w2 := by
  simp [h, Result.andThen]

section
variable {P : Program} {E : Env} (hE : TyOk P E) {o : Oper}
theorem look_move {x : Operand} (ho : o.op = .move x ∨ o.op = .assign x) : LookOk P ⟨fun T _ => opnd x T⟩ o := by
  intro m H w T ρ v hr he hk
  refine ⟨ρ x, ?_, he x v hk⟩
  rcases ho with ho | ho <;> simp [execOp, ho]
theorem VR.bool_inv {m : Ren} {b : Bool} {v : Value} (h : VR m (.bool b) v) : v = .bool b := by cases h; rfl
theorem VR.int_inv {m : Ren} {k n} {v : Value} (h : VR m (.int k n) v) : v = .int k n := by cases h; rfl
theorem VR.ptr_inv {m : Ren} {b o} {v : Value} (h : VR m (.ptr b o) v) : ∃ i, m b = some i ∧ v = .pointer (some ⟨i.blk, i.base + o, none⟩) := by
  cases h with | ptr _ _ i h => exact ⟨i, h, rfl⟩
theorem VR.agg_inv {m : Ren} {l} {v : Value} (h : VR m (.agg l) v) : ∃ vs, VL m l vs ∧ v = .agg vs.toArray := by
  cases h with | agg _ vs h => exact ⟨vs, h, rfl⟩
theorem VR.tup_inv {m : Ren} {l} {v : Value} (h : VR m (.tup l) v) : ∃ vs, VL m l vs ∧ v = .tuple vs.toArray := by
  cases h with | tup _ vs h => exact ⟨vs, h, rfl⟩
theorem VR.str_inv {m : Ren} {l n} {v : Value} (h : VR m (.str l n) v) : ∃ s : ByteArray, v = .string s ∧ l = s.data.toList.length ∧ n = leNat s.data.toList := by
  cases h with | str s => exact ⟨s, rfl, rfl, rfl⟩
theorem VR.mp_inv {m : Ren} {r} {v : Value} (h : VR m (.mp r) v) : ∃ i, m r = some i ∧ v = .map (some i.blk) := by
  cases h with | mp _ i h => exact ⟨i, h, rfl⟩
theorem VR.ifc_inv {m : Ren} {t a} {v : Value} (h : VR m (.ifc t a) v) : ∃ u, VR m a u ∧ v = .iface t u := by
  cases h with | ifc _ _ u h => exact ⟨u, h, rfl⟩
theorem VR.fn_inv {m : Ren} {f a c} {v : Value} (h : VR m (.fn f a c) v) : ∃ g va vc, FR m f g ∧ VL m a va ∧ VL m c vc ∧ v = .func g va.toArray vc.toArray := by
  cases h with | fn _ g _ _ va vc hf ha hc => exact ⟨g, va, vc, hf, ha, hc, rfl⟩
theorem VR.snil_inv {m : Ren} {v : Value} (h : VR m .snil v) : v = .slice none 0 0 := by cases h; rfl
theorem VR.pnil_inv {m : Ren} {v : Value} (h : VR m .pnil v) : v = .pointer none := by cases h; rfl
theorem VR.mnil_inv {m : Ren} {v : Value} (h : VR m .mnil v) : v = .map none := by cases h; rfl
theorem VR.fnil_inv {m : Ren} {v : Value} (h : VR m .fnil v) : v = .nilFunc := by cases h; rfl
theorem VR.inil_inv {m : Ren} {v : Value} (h : VR m .inil v) : v = .nilIface := by cases h; rfl
/-- a slice's own data -/
theorem VR.sl_inv {m : Ren} {b o l c} {v : Value} (h : VR m (.sl b o l c) v) : ∃ a c', v = .slice (some a) l c' ∧ (∀ k, c = some k → c' = k) ∧
    ((∃ i, m b = some i ∧ a = ⟨i.blk, i.base + o, none⟩ ∧ (c = none → 0 < i.es ∧ i.base + o + c' * i.es = i.sz ∧ l ≤ c')) ∨
      (l = 0 ∧ c' = 0 ∧ (c = none → ∃ i, m b = some i ∧ 0 < i.es ∧ i.base + o = i.sz))) := by
  cases h with
  | sl b off len k i h => exact ⟨_, _, rfl, by simp, .inl ⟨i, h, rfl, by simp⟩⟩
  | slo b off len k i h he hc hl => exact ⟨_, _, rfl, by simp, .inl ⟨i, h, rfl, fun _ => ⟨he, hc, hl⟩⟩⟩
  | sle b off a i h he hc => exact ⟨a, 0, rfl, by simp, .inr ⟨rfl, rfl, fun _ => ⟨i, h, he, hc⟩⟩⟩
  | slz b off a => exact ⟨a, 0, rfl, by simp, .inr ⟨rfl, rfl, by simp⟩⟩
theorem look_pick {c a b : Operand} (ho : o.op = .pick c a b) : LookOk P ⟨pickA c a b⟩ o := by
  intro m H w T ρ v hr he hk
  simp only [pickA, ob_some, onBool_some] at hk
  obtain ⟨u, h1, t, rfl, h2⟩ := hk
  have h3 := (he c _ h1).bool_inv
  cases t
  · exact ⟨ρ b, by simp [execOp, ho, h3, asBool], he b v h2⟩
  · exact ⟨ρ a, by simp [execOp, ho, h3, asBool], he a v h2⟩
include hE
theorem ldK_ok {t : Nat} {k : VK} (h : ldK E t = some k) {m : Ren} {H : AH} {w : World} {p v : AV} {u : Value} (hr : Rel m H w) (hp : VR m p u) (hk : k.f H p = some v) :
    ∃ a v', u = .pointer (some a) ∧ (loadVar t a).run P w = .ok v' w ∧ VR m v v' := by
  simp only [ldK, ob_some] at h
  obtain ⟨ti, ht, h⟩ := h
  have hagg := run_isAgg (w := w) hE ht
  split at h
  · rename_i hd
    cases h
    simp only [ldN, onPtr_some, ob_some] at hk
    obtain ⟨b, off, rfl, ob, h1, l, h2, h3⟩ := hk
    cases h3
    obtain ⟨i, hi, rfl⟩ := hp.ptr_inv
    obtain ⟨vs, hl, hvl, hall⟩ := hr.rds h1 hi _ _ _ h2
    refine ⟨_, .agg vs.toArray, rfl, ?_, .agg _ _ hvl⟩
    have := run_loadCells (P := P) hall
    rw [hl] at this
    simp [loadVar, hagg, Result.andThen, hd, run_sizeOf hE ht, this]
  · rename_i hd
    cases h
    simp only [ld1, onPtr_some, ob_some] at hk
    obtain ⟨b, off, rfl, ob, h1, h2⟩ := hk
    obtain ⟨i, hi, rfl⟩ := hp.ptr_inv
    obtain ⟨x, hx, hv⟩ := hr.rd h1 hi h2
    refine ⟨_, x, rfl, ?_, hv⟩
    simp only [loadVar, Sem.run_bind, hagg, Result.andThen, hd]
    exact run_load_cell hx
theorem look_load {t : Nat} {x : Operand} {k : VK} (h : ldK E t = some k) (ho : o.op = .load t x) : LookOk P ⟨ldA k x⟩ o := by
  intro m H w T ρ v hr he hk
  simp only [ldA, ob_some] at hk
  obtain ⟨p, h1, h2⟩ := hk
  obtain ⟨a, v', hu, hrun, hv⟩ := ldK_ok hE h hr (he x p h1) h2
  refine ⟨v', ?_, hv⟩
  simp only [execOp, ho]
  apply run_v
  simp [Instr.loadAt, hu, Instr.sureAddr, hrun]
end
end Go.Xq
