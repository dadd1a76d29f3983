/- A part of the proof that what the evaluator answers is what the machine does. Its conditions stand in each theorem. -/
import Derived.Test.YtgcgpblccnajjacGreatDoorY19
namespace Go.Xq
section
variable {P : Program} {E : Env} {b : Frame} {a : Act} {K : List Item} {cs : List Frame} {w : World}

/-! ### Steps of the machine -/
theorem step_leave {fr c : Frame} {v : Value} (h : Leaves P fr w v) (hk : fr.kind = .normal) : step P (lone fr (c :: cs) w) = .next (lone (c.finish v) cs w) :=
  step_leave_returned ⟨h.mode, h.defers, hk, h.fn⟩
theorem step_leave_deferred {fr c : Frame} {v : Value} (h : Leaves P fr w v) (hk : fr.kind = .deferred) (hc : c.mode = .returning) : step P (lone fr (c :: cs) w) = .next (lone c cs w) := by
  obtain ⟨fn, hf, hr⟩ := h.fn
  exact step_lone_go (by simp [stepG, unwind, doReturn, h.mode, h.defers, hk, hf, hr, hc])
/-- an operation's outcome, carried out in a frame -/
theorem step_op {ops : Array Oper} {i : Nat} {rest : List Nat} {o : Oper} {Q : Value → World → Prop} (ho : ops[i]? = some o) (hw : Region.wanted o (yielded ops a.tmps) = true) (hs : o.semAt b.roundOf a.eval = execOp a.eval o)
    (h : Outc P (execOp a.eval o) w Q) : ∃ v w', Q v w' ∧ Steps P (lone (b.atR a (.inRegion ops (i :: rest) :: K)) cs w) (lone (b.atR (a.put o.dst v) (.inRegion ops rest :: K)) cs w') := by
  have hg := stepGR_op (P := P) (b := b) (k := K) (cs := cs) (w := w) (rest := rest) ho hw
  rw [hs] at hg
  have hfin : ∀ v, (b.atR a (.inRegion ops (i :: rest) :: K)).finish v = b.atR (a.put o.dst v) (.inRegion ops rest :: K) := by
    intro v; rw [Frame.finish_atR, ho]; rfl
  cases h with
  | value v w' hr hq =>
    refine ⟨v, w', hq, .one (step_lone_go ?_)⟩
    rw [hg, ← hfin]; simp [stepG.apply, hr]
  | skip w' hr hq =>
    refine ⟨undef, w', hq, .one (step_lone_go ?_)⟩
    rw [hg, ← hfin]; simp [stepG.apply, hr]
  | enter f args w1 hr hx =>
    obtain ⟨v, w', fr, hq, hst, hk, _, hl⟩ := hx (b.atR a (.inRegion ops (i :: rest) :: K) :: cs) (.inl rfl)
    have henter : step P (lone (b.atR a (.inRegion ops (i :: rest) :: K)) cs w) = .next (lone (Frame.enter P f args .normal) (b.atR a (.inRegion ops (i :: rest) :: K) :: cs) w1) :=
      step_lone_go (by rw [hg]; simp [stepG.apply, hr, Frame.atR])
    refine ⟨v, w', hq, .head henter (hst.trans (.one ?_))⟩
    rw [← hfin]; exact step_leave hl hk
  | round l f tmps x y w1 hr hx =>
    obtain ⟨v, w', hq, hst⟩ := hx (b.atR a (.inRegion ops (i :: rest) :: K)) cs
    have henter : step P (lone (b.atR a (.inRegion ops (i :: rest) :: K)) cs w) = .next (lone (Frame.round l f tmps x y .normal) (b.atR a (.inRegion ops (i :: rest) :: K) :: cs) w1) :=
      step_lone_go (by rw [hg]; simp [stepG.apply, hr, Frame.atR])
    refine ⟨v, w', hq, .head henter ?_⟩
    rw [← hfin]; exact hst
/-- an operation that defers a call -/
theorem step_defer_op {ops : Array Oper} {i : Nat} {rest : List Nat} {o : Oper} {d : Deferred} {w' : World} (ho : ops[i]? = some o) (hw : Region.wanted o (yielded ops a.tmps) = true) (hb : b.roundOf = none)
    (hr : (execOp a.eval o).run P w = .ok (.defer d) w') :
    step P (lone (b.atR a (.inRegion ops (i :: rest) :: K)) cs w) = .next (lone (b.atR ({ a with defers := d :: a.defers }.put o.dst undef) (.inRegion ops rest :: K)) cs w') := by
  have hg := stepGR_op (P := P) (b := b) (k := K) (cs := cs) (w := w) (rest := rest) ho hw
  rw [hb, Oper.semAt_none] at hg
  have hfin := Frame.finish_atR b { a with defers := d :: a.defers } ops i rest K undef
  rw [ho] at hfin
  refine step_lone_go ?_
  rw [hg]; simp only [stepG.apply, Sem.runT_eq, hr, GStep.bare_after]
  exact congrArg (fun fr => GStep.go { frame := fr, callers := cs, status := .running, dying := none } w') hfin
/-- recover where nothing panics -/
theorem step_recover_op {ops : Array Oper} {i : Nat} {rest : List Nat} {o : Oper} {w' : World} (ho : ops[i]? = some o) (hw : Region.wanted o (yielded ops a.tmps) = true) (hb : b.roundOf = none) (hk : CsOk b.kind cs)
    (hr : (execOp a.eval o).run P w = .ok .recover w') :
    step P (lone (b.atR a (.inRegion ops (i :: rest) :: K)) cs w) = .next (lone (b.atR (a.put o.dst .nilIface) (.inRegion ops rest :: K)) cs w') := by
  have hg := stepGR_op (P := P) (b := b) (k := K) (cs := cs) (w := w) (rest := rest) ho hw
  rw [hb, Oper.semAt_none] at hg
  have hfin := Frame.finish_atR b a ops i rest K .nilIface
  rw [ho] at hfin
  have hro : (b.atR a (.inRegion ops (i :: rest) :: K)).roundOf = none := hb
  have htry : tryRecover (b.atR a (.inRegion ops (i :: rest) :: K)) cs = none := by
    have hkk : (b.atR a (.inRegion ops (i :: rest) :: K)).kind = b.kind := rfl
    rcases hk with h | ⟨h, c, r, rfl, hm⟩
    · unfold tryRecover; rw [hkk, h]
    · unfold tryRecover; rw [hkk, h]; simp [hm]
  refine step_lone_go ?_
  rw [hg]; simp only [stepG.apply, Sem.runT_eq, hr, GStep.bare_after, hro, htry]
  exact congrArg (fun fr => GStep.go { frame := fr, callers := cs, status := .running, dying := none } w') hfin
end

/-! ### Frames -/
inductive DfR1 (m : Ren) : ADf → Deferred → Prop
  | mark (k : Nat) (i : BI) (f args : AV) (h : m k = some i) : DfR1 m { mark := some k, f, args } { target := .collected i.blk, args := #[] }
  | call (q g : Fn) (first cap args : AV) (vc vs : List Value) (hf : FR m q g) (hc : VL m cap vc) (ha : VL m args vs) : DfR1 m { mark := none, f := .fn q first cap, args } { target := .fn g vc.toArray, args := vs.toArray }
inductive DfR (m : Ren) : List ADf → List Deferred → Prop
  | nil : DfR m [] []
  | cons (x d l k) (h : DfR1 m x d) (hl : DfR m l k) : DfR m (x :: l) (d :: k)
theorem DfR1.mono {m m2 : Ren} (hm : Le m m2) {x d} (h : DfR1 m x d) : DfR1 m2 x d := by
  cases h with
  | mark k i f args h => exact .mark k i f args (hm _ _ h)
  | call q g first cap args vc vs hf hc ha => exact .call q g first cap args vc vs (hf.mono hm) (hc.mono hm) (ha.mono hm)
theorem DfR.mono {m m2 : Ren} (hm : Le m m2) : ∀ {l k}, DfR m l k → DfR m2 l k
  | _, _, .nil => .nil
  | _, _, .cons x d l k h hl => .cons x d l k (h.mono hm) (hl.mono hm)
/-- what is known of a frame: how many temporaries; the loop whose round it is, by both numbers -/
structure Cx where
  n : Nat
  rd : Option Nat
  ro : Option Nat
def RdR (c : Cx) (m : Ren) : Prop := (c.rd = none ∧ c.ro = none) ∨ ∃ l i, c.rd = some l ∧ m l = some i ∧ c.ro = some i.blk
theorem RdR.mono {c : Cx} {m m2 : Ren} (hm : Le m m2) (h : RdR c m) : RdR c m2 := by
  rcases h with h | ⟨l, i, h1, h2, h3⟩
  · exact .inl h
  · exact .inr ⟨l, i, h1, hm _ _ h2, h3⟩
structure FrR (n : Cx) (m : Ren) (T : Tr AV) (D : List ADf) (a : Act) : Prop where
  t : TR n.n m T a.tmps
  d : DfR m D a.defers
  r : RdR n m
theorem FrR.mono {n : Cx} {m m2 : Ren} (hm : Le m m2) {T D a} (h : FrR n m T D a) : FrR n m2 T D a := ⟨h.t.mono hm, h.d.mono hm, h.r.mono hm⟩
theorem TR.put {n : Nat} {m : Ren} {T : Tr AV} {ts : Array Value} (h : TR n m T ts) {d : Nat} (hd : d < n) {v : AV} {x : Value} (hv : VR m v x) : TR n m (T.put (some v) (bits d)) (ts.setIfInBounds d x) := by
  refine ⟨by simpa using h.size, fun t => ?_⟩
  by_cases e : t = d
  · subst e
    rw [Tr.get_put_same]
    have : (ts.setIfInBounds t x).getD t undef = x := by
      simp [Array.getD_eq_getD_getElem?, h.size, hd]
    rw [this]; exact hv
  · rw [Tr.get_put_ne _ _ _ _ (bits_ne (Ne.symm e))]
    have : (ts.setIfInBounds d x).getD t undef = ts.getD t undef := by
      simp [Array.getD_eq_getD_getElem?, Array.getElem?_setIfInBounds_ne (Ne.symm e)]
    rw [this]; exact h.at_ t
theorem FrR.put {n : Cx} {m : Ren} {T : Tr AV} {D : List ADf} {a : Act} (h : FrR n m T D a) {dst : Option Nat} (hd : dstOk n.n dst = true) {v : AV} {x : Value} (hv : VR m v x) : FrR n m (putA T dst v) D (a.put dst x) := by
  cases dst with
  | none => exact h
  | some d => exact ⟨h.t.put (by simpa [dstOk, Nat.blt_eq] using hd) hv, h.d, h.r⟩
theorem FrR.er {n : Cx} {m : Ren} {H : AH} {w : World} (hr : Rel m H w) {T D} {a : Act} (h : FrR n m T D a) : ER m T a.eval := ER.of hr.glob h.t
end Go.Xq
