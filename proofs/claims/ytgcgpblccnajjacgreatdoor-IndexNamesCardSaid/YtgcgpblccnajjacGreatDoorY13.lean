/- A part of the proof that what the evaluator answers is what the machine does. Its conditions stand in each theorem. -/
import Derived.Test.YtgcgpblccnajjacGreatDoorY12
namespace Go.Xq

/-! ### Contracts of calls, at the machine -/
structure Leaves (P : Program) (fr : Frame) (w : World) (v : Value) : Prop where
  mode : fr.mode = .returning
  defers : fr.defers = []
  fn : ∃ fn, P.funcs[fr.fn]? = some fn ∧ (results fn fr.tmps).run P w = .ok v w
def CsOk (kind : CallKind) (cs : List Frame) : Prop := kind = .normal ∨ (kind = .deferred ∧ ∃ c r, cs = c :: r ∧ c.mode = .returning)
/-- a call that comes back with a value -/
def XC (P : Program) (kind : CallKind) (f : FuncId) (args : Array Value) (w : World) (Q : Value → World → Prop) : Prop :=
  ∀ cs, CsOk kind cs → ∃ v w' fr, Q v w' ∧ Steps P (lone (Frame.enter P f args kind) cs w) (lone fr cs w') ∧ fr.kind = kind ∧ fr.fn = f ∧ Leaves P fr w' v
/-- a round of a loop that comes back with a value -/
def XR (P : Program) (l : Nat) (f : FuncId) (tmps : Array Value) (a b : Code) (w : World) (Q : Value → World → Prop) : Prop :=
  ∀ c cs, ∃ v w', Q v w' ∧ Steps P (lone (Frame.round l f tmps a b .normal) (c :: cs) w) (lone (c.finish v) cs w')
theorem XC.mono {P : Program} {kind f args w} {Q Q' : Value → World → Prop} (h : XC P kind f args w Q) (hq : ∀ v w', Q v w' → Q' v w') : XC P kind f args w Q' :=
  fun cs hc => let ⟨v, w', fr, q, r⟩ := h cs hc; ⟨v, w', fr, hq v w' q, r⟩
theorem XR.mono {P : Program} {l f tmps a b w} {Q Q' : Value → World → Prop} (h : XR P l f tmps a b w Q) (hq : ∀ v w', Q v w' → Q' v w') : XR P l f tmps a b w Q' :=
  fun c cs => let ⟨v, w', q, r⟩ := h c cs; ⟨v, w', hq v w' q, r⟩
/-- what carrying out an operation comes to -/
inductive Outc (P : Program) (s : Sem Next) (w : World) (Q : Value → World → Prop) : Prop
  | value (v : Value) (w' : World) (h : s.run P w = .ok (.value v) w') (hq : Q v w')
  | skip (w' : World) (h : s.run P w = .ok .skip w') (hq : Q undef w')
  | enter (f : FuncId) (args : Array Value) (w1 : World) (h : s.run P w = .ok (.enter f args) w1) (hx : XC P .normal f args w1 Q)
  | round (l : Nat) (f : FuncId) (tmps : Array Value) (a b : Code) (w1 : World) (h : s.run P w = .ok (.round l f tmps a b) w1) (hx : XR P l f tmps a b w1 Q)
def Post (m : Ren) (H : AH) (w : World) (v : AV) (H2 : AH) : Value → World → Prop := fun v' w' => ∃ m2, St m H w m2 H2 w' ∧ VR m2 v v'
def Enters (P : Program) (f : FuncId) : Prop := ∃ fn, P.funcs[f]? = some fn ∧ (fn.name == "runtime.NumGoroutine") = false ∧ fn.body.isNone = false
structure RecOk (P : Program) (R : Rec) : Prop where
  call : ∀ f args H v H2, R.call f args H = some (v, H2) → Enters P f ∧ ∀ m w vs, Rel m H w → VL m args vs → XC P .normal f vs.toArray w (Post m H w v H2)
  dcall : ∀ f args H v H2, R.dcall f args H = some (v, H2) → Enters P f ∧ ∀ m w vs, Rel m H w → VL m args vs → XC P .deferred f vs.toArray w (Post m H w v H2)
  round : ∀ l args H v H2, R.round l args H = some (v, H2) → ∀ m w vs i, Rel m H w → VL m args vs → m l = some i →
    ∃ f tmps a b, (Instr.yield i.blk vs.toArray).run P w = .ok (.round i.blk f tmps a b) w ∧ XR P i.blk f tmps a b w (Post m H w v H2)
def HvOk (P : Program) (k : HvK) (o : Oper) : Prop :=
  ∀ (R : Rec), RecOk P R → ∀ (m : Ren) (H : AH) (w : World) (T : Tr AV) (ρ : Operand → Value) (v : AV) (H2 : AH), Rel m H w → ER m T ρ → k.f R T H = some (v, H2) →
    Outc P (execOp ρ o) w (Post m H w v H2)
theorem undef_ok (m : Ren) : VR m undefA undef := .tup .nil [] .nil

section
variable {P : Program} {E : Env} (hE : TyOk P E) {o : Oper}
/-! ### Stores -/
theorem Rel.wrs {m : Ren} {H : AH} {w : World} (hr : Rel m H w) {b : Nat} {x x2 : AObj} {i : BI} {k : Nat} {l : AV} {vs : List Value} (hb : H.get b = some x) (hi : m b = some i) (hv : VL m l vs) (h : wrCells l x k = some x2) :
    ∃ w', (storeCells ⟨i.blk, i.base + k, none⟩ vs).run P w = .ok () w' ∧ St m H w m (H.set b x2) w' := by
  obtain ⟨y, hy, hor⟩ := hr.live _ _ hb _ hi
  by_cases hc : ∃ c e fr, y = .cells c e fr
  · obtain ⟨c, e, fr, rfl⟩ := hc
    obtain ⟨g1, g2, g3, g4⟩ := hor.wrs hv h
    by_cases hn : vs = []
    · subst hn
      refine ⟨w, by simp [storeCells], St.upd hr hb hi g4 ?_ rfl rfl⟩
      apply Array.ext_getElem?
      intro j
      rw [Array.getElem?_setIfInBounds]
      split
      · rename_i e; subst e; split
        · exact hy
        · rename_i h2; rw [Array.getElem?_eq_none (by omega)]
      · rfl
    · have := run_storeCells (P := P) vs 0 c w (o := i.base + k) hy g1 (g2 hn) (by have := g3 hn; omega)
      exact ⟨_, this, St.upd hr hb hi g4 rfl rfl rfl⟩
  · cases hv with
    | nil =>
      simp [wrCells] at h; subst h
      refine ⟨w, by simp [storeCells], St.upd hr hb hi hor ?_ rfl rfl⟩
      apply Array.ext_getElem?
      intro j
      rw [Array.getElem?_setIfInBounds]
      split
      · rename_i e; subst e; split
        · exact hy
        · rename_i h2; rw [Array.getElem?_eq_none (by omega)]
      · rfl
    | cons a v l vs h1 h2 =>
      simp only [wrCells, ob_some] at h
      obtain ⟨o1, h3, _⟩ := h
      obtain ⟨c, e, fr, h4, _⟩ := hor.wr h3 h1
      exact absurd ⟨c, e, fr, h4⟩ hc
include hE
theorem stK_ok {t : Nat} {k : WK} (h : stK E t = some k) {m : Ren} {H H2 : AH} {w : World} {p v : AV} {u x : Value} (hr : Rel m H w) (hp : VR m p u) (hv : VR m v x) (hk : k.f H v p = some H2) :
    ∃ a w', u = .pointer (some a) ∧ (storeVar t a x).run P w = .ok () w' ∧ St m H w m H2 w' := by
  simp only [stK, ob_some] at h
  obtain ⟨ti, ht, h⟩ := h
  have key : ∀ n, n = ti.size → stN n H v p = some H2 → ∃ a w', u = .pointer (some a) ∧ (storeVar t a x).run P w = .ok () w' ∧ St m H w m H2 w' := by
    intro n hn hk
    simp only [stN, onPtr_some, ob_some, bt_some, Option.some.injEq] at hk
    obtain ⟨b, off, rfl, y, hb, hl, y2, hw, rfl⟩ := hk
    obtain ⟨i, hi, rfl⟩ := hp.ptr_inv
    obtain ⟨w', h1, h2⟩ := hr.wrs (P := P) hb hi hv.cellsT hw
    have hsz : x.cells.size = ti.size := by
      have := hv.cellsT.len; rw [Nat.eq_of_beq_eq_true hl] at this; rw [← hn, this]; simp
    refine ⟨_, w', rfl, ?_, h2⟩
    simp only [storeVar, Sem.run_bind, run_sizeOf hE ht, Result.andThen]
    rw [if_neg (by simp [hsz])]
    exact h1
  split at h
  · rename_i hn
    cases h
    have hn : ti.size = 1 := Nat.eq_of_beq_eq_true hn
    simp only [st1'] at hk
    cases hag : aggB v with
    | true => rw [hag] at hk; exact key 1 hn.symm hk
    | false =>
      rw [hag] at hk
      have hc : cellsA v = .cons v .nil := by cases v <;> first | rfl | (simp [aggB] at hag; done)
      apply key 1 hn.symm
      simp only [bt_false, st1, onPtr_some, ob_some, Option.some.injEq] at hk
      obtain ⟨b, off, rfl, y, hb, y2, hw, rfl⟩ := hk
      simp [stN, onPtr, hb, hc, AV.len, wrCells, hw]
  · cases h
    exact key _ rfl hk
theorem hv_store {t : Nat} {a x : Operand} {k : WK} (h : stK E t = some k) (ho : o.op = .store t a x) : HvOk P ⟨hvStore k a x⟩ o := by
  intro R hR m H w T ρ v H2 hr he hk
  simp only [hvStore, ob_some, Option.some.injEq, Prod.mk.injEq] at hk
  obtain ⟨p, g1, y, g2, H', g3, rfl, rfl⟩ := hk
  obtain ⟨ad, w', e1, h1, h2⟩ := stK_ok hE h hr (he a p g1) (he x y g2) g3
  refine .skip w' ?_ ⟨m, h2, undef_ok m⟩
  simp only [execOp, ho]; apply run_u
  simp [Instr.storeAt, e1, Instr.sureAddr, h1]
end
end Go.Xq
