/- A part of the proof of this seat's statement. Conditions: in each theorem. -/
import Derived.Test.YtnodjhgmghkikaaGreatW13
import Derived.RangeFuncLeaves
import Derived.RangeFuncIn
import Derived.RangeFuncNested
namespace Go.Xq
variable [Dealing]
section
variable {P : Program} {b : Frame} {n : Cx}
theorem OutOk.pop {K : List Item} {cs : List Frame} {m : Ren} {H : AH} {w : World} {s0 : Sit} {out : Out} {it : Item} (hx : ∀ id, exitTo id (it :: K) = exitTo id K)
    (hn : ∀ a w2, Steps P (lone (b.atR a (it :: K)) cs w2) (lone (b.atR a K) cs w2)) (h : OutOk P b n (it :: K) cs m H w s0 out) : OutOk P b n K cs m H w s0 out := by
  cases out with
  | bad => trivial
  | nor T D H2 => exact h.andThen fun m2 a2 w2 g1 g2 => OutOk.steps (hn a2 w2) (St.refl g1.rel) (OutOk.nor (St.refl g1.rel) g2)
  | ext id T D H2 => exact h.extK (hx id)
  | ret T D H2 => exact h.retK
theorem scope_ok {c : Code} {x : RK} (hx : RKOk P b n [.code c] x) : RKOk P b n [.code (.scope c)] x := by
  intro R hR m H w T D a K cs hcs hr hf
  have h1 := hx R hR m H w T D a (.inScope c :: K) cs hcs hr hf
  exact OutOk.pop (fun _ => rfl) (fun a w2 => .one stepR_inScope) (OutOk.steps (.one stepR_scope) (St.refl hr) h1)
def LpOk (P : Program) (b : Frame) (n : Cx) (c : Code) (f : Tr AV → List ADf → AH → Out) : Prop :=
  ∀ m H w T D a K cs, CsOk b.kind cs → Rel m H w → FrR n m T D a → OutOk P b n (.inLoop c :: K) cs m H w (lone (b.atR a (.inLoop c :: K)) cs w) (f T D H)
theorem LpOk.bind {c : Code} {f g : Tr AV → List ADf → AH → Out} (hf : LpOk P b n c f) (hg : LpOk P b n c g) : LpOk P b n c fun T D H => oOut (f T D H) g := by
  intro m H w T D a K cs hcs hr hfr
  have h1 := hf m H w T D a K cs hcs hr hfr
  show OutOk P b n _ cs m H w _ (oOut (f T D H) g)
  cases ho : f T D H with
  | bad => trivial
  | nor T2 D2 H2 =>
    rw [ho] at h1
    exact h1.andThen fun m2 a2 w2 g1 g2 => hg m2 H2 w2 T2 D2 a2 K cs hcs g1.rel g2
  | ext id T2 D2 H2 => rw [ho] at h1; exact h1
  | ret T2 D2 H2 => rw [ho] at h1; exact h1
theorem LpOk.iter {c : Code} {f : Tr AV → List ADf → AH → Out} (hf : LpOk P b n c f) : ∀ k, LpOk P b n c (iterA f k)
  | 0 => hf
  | k + 1 => (LpOk.iter hf k).bind (LpOk.iter hf k)
theorem LpOk.loop {c : Code} {f : Tr AV → List ADf → AH → Out} (hf : LpOk P b n c f) : ∀ fuel k, LpOk P b n c (loopA f fuel k)
  | 0, _ => fun _ _ _ _ _ _ _ _ _ _ _ => trivial
  | fuel + 1, k => (LpOk.iter hf k).bind (LpOk.loop hf fuel (k + 1))
omit [Dealing] in
theorem loopA_nor {f : Tr AV → List ADf → AH → Out} : ∀ fuel k T D H T2 D2 H2, loopA f fuel k T D H ≠ .nor T2 D2 H2
  | 0, _, _, _, _, _, _, _ => fun h => by cases h
  | fuel + 1, k, T, D, H, T2, D2, H2 => fun h => by
    simp only [loopA] at h
    cases ho : iterA f k T D H with
    | bad => rw [ho] at h; cases h
    | nor T3 D3 H3 => rw [ho] at h; exact loopA_nor fuel (k + 1) T3 D3 H3 T2 D2 H2 h
    | ext => rw [ho] at h; cases h
    | ret => rw [ho] at h; cases h
theorem loop_gen {c : Code} {x : RK} (hx : RKOk P b n [.code c] x) (fuel : Nat) : RKOk P b n [.code (.loop c)] ⟨fun R T D H => loopA (x.f R) (fuel + 1) 0 T D H⟩ := by
  intro R hR m H w T D a K cs hcs hr hf
  have body : LpOk P b n c (x.f R) := by
    intro m H w T D a K cs hcs hr hf
    exact OutOk.steps (.one stepR_inLoop) (St.refl hr) (hx R hR m H w T D a (.inLoop c :: K) cs hcs hr hf)
  have h1 : OutOk P b n (.inLoop c :: K) cs m H w (lone (b.atR a ([.code (.loop c)] ++ K)) cs w) (x.f R T D H) :=
    OutOk.steps (.one stepR_loop) (St.refl hr) (hx R hR m H w T D a (.inLoop c :: K) cs hcs hr hf)
  have first : OutOk P b n (.inLoop c :: K) cs m H w (lone (b.atR a ([.code (.loop c)] ++ K)) cs w) (loopA (x.f R) (fuel + 1) 0 T D H) := by
    rw [loopA]
    simp only [iterA]
    cases ho : x.f R T D H with
    | bad => trivial
    | nor T2 D2 H2 =>
      rw [ho] at h1
      rw [oOut_nor]
      exact h1.andThen fun m2 a2 w2 g1 g2 => LpOk.loop body fuel (Nat.succ 0) m2 H2 w2 T2 D2 a2 K cs hcs g1.rel g2
    | ext id T2 D2 H2 => rw [ho] at h1; rw [oOut_ext]; exact h1
    | ret T2 D2 H2 => rw [ho] at h1; rw [oOut_ret]; exact h1
  have hn := fun T2 D2 H2 => loopA_nor (f := x.f R) (fuel + 1) 0 T D H T2 D2 H2
  show OutOk P b n K cs m H w _ (loopA (x.f R) (fuel + 1) 0 T D H)
  revert first hn
  generalize loopA (x.f R) (fuel + 1) 0 T D H = out
  intro first hn
  cases out with
  | bad => trivial
  | nor T2 D2 H2 => exact absurd rfl (hn T2 D2 H2)
  | ext id T2 D2 H2 => exact first.extK rfl
  | ret T2 D2 H2 => exact first.retK
omit [Dealing] in
theorem cLoop_eq (x : RK) : (⟨cLoop x⟩ : RK) = ⟨fun R T D H => loopA (x.f R) (39 + 1) 0 T D H⟩ := rfl
theorem loop_ok {c : Code} {x : RK} (hx : RKOk P b n [.code c] x) : RKOk P b n [.code (.loop c)] ⟨cLoop x⟩ := by
  rw [cLoop_eq]; exact loop_gen hx 39
end
end Go.Xq
namespace Go.Xq
variable [Dealing]
section
variable {P : Program} {E : Env}
omit [Dealing] in
theorem run_take {w : World} {r : Nat} {ds : List Deferred} (h : w.heap[r]? = some (.deferred (some ds))) : (Instr.takeDeferred r).run P w = .ok ds { w with heap := w.heap.setIfInBounds r (.deferred none) } := by
  simp only [Instr.takeDeferred, Sem.run_bind, run_getObj h (by simp), Result.andThen, run_setObj _ h (by simp), Sem.run_pure]
omit [Dealing] in
theorem plain_take {r : Nat} : Plain P (Instr.takeDeferred r) := by unfold Instr.takeDeferred; (repeat' first | exact Pl.p | assumption | exact plain_newObj ⟨rfl, fun _ _ => by simp⟩ | exact plain_setObj ⟨rfl, fun _ _ => by simp⟩ | (with_reducible refine plain_forInL ?_ _ _) | (with_reducible refine plain_forInR ?_ _ _) | (with_reducible refine plain_forInA ?_ _ _) | (with_reducible refine plain_mapMA ?_ _) | (with_reducible refine plain_map ?_) | (with_reducible refine plain_pure_bind ?_) | (with_reducible refine Plain.bind ?_ ?_) | intro _ | split | dsimp only)
omit [Dealing] in
theorem lift_collected {fr : Frame} {cs : List Frame} {w w' : World} {d : Deferred} {r : Nat} {ds calls : List Deferred} (hm : fr.mode = .returning) (hd : fr.defers = d :: ds) (ht : d.target = .collected r) (hk : (Instr.takeDeferred r).run P w = .ok calls w') :
    Lifts P fr cs w { fr with defers := calls ++ ds } cs w' := by
  obtain ⟨t, a⟩ := d
  simp only at ht
  subst ht
  intro main W hR
  obtain ⟨W', g1, g2, g3, g4⟩ := lift_run fr.fn plain_take.qg hk hR
  exact ⟨W', _, by simp [Conc.G, stepG, unwind, hm, hd, g1]; rfl, g2, g3, g4⟩
omit [Dealing] in
theorem lift_defer {fr : Frame} {cs : List Frame} {w : World} {d : Deferred} {ds : List Deferred} {fv : Fn} {cap : Array Value} {f : FuncId} {args : Array Value} (hm : fr.mode = .returning) (hd : fr.defers = d :: ds) (ht : d.target = .fn fv cap)
    (hq : QG P (invoke d.target d.args) w) (hi : (invoke d.target d.args).run P w = .ok (.enter f args) w) : Lifts P fr cs w (Frame.enter P f args .deferred) ({ fr with defers := ds } :: cs) w := by
  obtain ⟨t, a⟩ := d
  simp only at ht hi hq
  subst ht
  intro main W hR
  obtain ⟨W', g1, g2, g3, g4⟩ := lift_run fr.fn hq hi hR
  exact ⟨W', _, by simp [Conc.G, stepG, unwind, callDeferred, hm, hd, g1]; rfl, g2, g3, g4⟩
theorem defers_ok {R : Rec} (hR : RecOk P R) : ∀ {D : List ADf} {ds : List Deferred} {m : Ren} {H H2 : AH} {w : World} {fr : Frame} {cs : List Frame} {Φ : Frame → List Frame → World → Prop}, Rel m H w → DfR m D ds → deferA R D H = some H2 → fr.mode = .returning → fr.defers = ds →
    (∀ m2 w2, St m H w m2 H2 w2 → Gx P Φ { fr with defers := [] } cs w2) → Gx P Φ fr cs w
  | [], _, m, H, H2, w, fr, cs, Φ, hr, .nil, h, hm, hd, hk => by
    cases h
    have := hk m w (St.refl hr)
    rw [← hd] at this
    exact this
  | x :: D, _, m, H, H2, w, fr, cs, Φ, hr, .cons _ d _ ds hx hl, h, hm, hd, hk => by
    cases hx with
    | mark k i f args hki =>
      simp only [deferA, ob_some] at h
      obtain ⟨o, h1, h⟩ := h
      split at h
      · split at h
        · refine .step' fun w1 hi => ?_
          have hr1 := hr.idle hi
          obtain ⟨y, hy, hor⟩ := hr1.live _ _ h1 _ hki
          cases hor
          have hst := St.upd (w2 := { w1 with heap := w1.heap.setIfInBounds i.blk (.deferred none) }) hr1 h1 hki (.dfrF i) rfl rfl rfl
          refine ⟨_, _, _, lift_collected (cs := cs) hm hd rfl (run_take (P := P) hy), ?_⟩
          refine defers_ok hR (fr := { fr with defers := [] ++ ds }) (cs := cs) hst.rel (hl.mono (St.le hr1 hst)) h hm rfl fun m2 w2 g1 => ?_
          exact hk m2 w2 ((hst.trans g1).idleL hi)
        · cases h
      · cases h
    | call q g first cap args vc vs hf hc ha =>
      simp only [deferA] at h
      split at h
      · rename_i g1
        cases hf
        simp only [ob_some] at h
        obtain ⟨⟨v, H1⟩, h1, h⟩ := h
        obtain ⟨hen, hcall⟩ := hR.dcall _ _ _ _ _ h1
        refine .step' fun w1 hi => ?_
        have hr1 := hr.idle hi
        have e : vs.toArray ++ vc.toArray = (vs ++ vc).toArray := by simp
        have hinv : (invoke (.fn (.func g1) vc.toArray) vs.toArray).run P w1 = .ok (.enter g1 (vs ++ vc).toArray) w1 := by
          simp only [invoke, e]
          exact run_enter hen
        have hq : QG P (invoke (.fn (.func g1) vc.toArray) vs.toArray) w1 := by
          show QG P (callFunc g1 (vs.toArray ++ vc.toArray)) w1
          exact enter_q hen
        refine ⟨_, _, _, lift_defer (cs := cs) hm hd rfl hq hinv, ?_⟩
        refine (hcall m w1 _ hr1 (ha.app hc) ({ fr with defers := ds } :: cs) (.inr ⟨rfl, _, _, rfl, .inl hm⟩)).bind ?_
        rintro fr1 cs1 w2 ⟨rfl, hk1, _, hlv⟩
        refine step_leave_deferred (c := { fr with defers := ds }) hlv hk1 hm fun v' w3 hp => ?_
        obtain ⟨m1, hst, _⟩ := hp
        refine defers_ok hR (fr := { fr with defers := ds }) (cs := cs) hst.rel (hl.mono (St.le hr1 hst)) h hm rfl fun m2 w2 g1 => ?_
        exact hk m2 w2 ((hst.trans g1).idleL hi)
      · cases h
end
end Go.Xq
namespace Go.Xq
section
variable {P : Program} {E : Env} (hE : TyOk P E)
def rdRes (ts : Array Value) (x : ResultVar) : Sem Value :=
  match x with
  | .tmp t => pure (ts.getD t undef)
  | .cell a t => do loadVar t (← asAddr (ts.getD a undef))
include hE
theorem results_list {m : Ren} {H : AH} {w : World} {n : Nat} (hr : Rel m H w) {T : Tr AV} {ts : Array Value} (ht : TR n m T ts) : ∀ {l : List ResultVar} {k : ReK} {r : AV}, resultsK E l = some k → k.f T H = some r →
    ∃ vs, (l.mapM (rdRes ts)).run P w = .ok vs w ∧ VL m r vs
  | [], k, r, h, hk => by
    cases h; cases hk
    exact ⟨[], by simp, .nil⟩
  | x :: l, k, r, h, hk => by
    simp only [resultsK, ob_some] at h
    obtain ⟨k', h1, h⟩ := h
    have tm : ∀ t v, opnd (.tmp t) T = some v → VR m v (ts.getD t undef) := fun t v hv => ER.of (a := { tmps := ts, defers := [] }) hr.glob ht (.tmp t) v hv
    cases x with
    | tmp t =>
      simp only [Option.some.injEq] at h
      subst h
      simp only [ob_some, Option.some.injEq] at hk
      obtain ⟨v, h2, lv, h3, rfl⟩ := hk
      obtain ⟨vs, g1, g2⟩ := results_list hr ht h1 h3
      refine ⟨ts.getD t undef :: vs, ?_, .cons _ _ _ _ (tm t v h2) g2⟩
      rw [List.mapM_cons]
      simp only [rdRes, Sem.run_bind, Sem.run_pure, Result.andThen, g1]
    | cell a t =>
      simp only [ob_some, Option.some.injEq] at h
      obtain ⟨ld, hld, rfl⟩ := h
      simp only [ob_some, Option.some.injEq] at hk
      obtain ⟨p, h2, v, hv, lv, h3, rfl⟩ := hk
      obtain ⟨ad, v', hu, hrun, hvr⟩ := ldK_ok hE hld hr (tm a p h2) hv
      obtain ⟨vs, g1, g2⟩ := results_list hr ht h1 h3
      refine ⟨v' :: vs, ?_, .cons _ _ _ _ hvr g2⟩
      rw [List.mapM_cons]
      simp only [rdRes, Sem.run_bind, Sem.run_pure, Result.andThen, hu, run_asAddr, hrun, g1]
omit hE in
theorem results_eq (fn : Func) (ts : Array Value) : results fn ts = (do
    let vs ← fn.results.mapM (rdRes ts)
    pure (if h : vs.size = 1 then vs[0] else .tuple vs)) := by
  unfold results
  congr 1
theorem results_ok {m : Ren} {H : AH} {w : World} {n : Nat} (hr : Rel m H w) {T : Tr AV} {ts : Array Value} (ht : TR n m T ts) {fn : Func} {k : ReK} {r : AV} (h : resultsK E fn.results.toList = some k) (hk : k.f T H = some r) :
    ∃ v, (results fn ts).run P w = .ok v w ∧ VR m (resultA r) v := by
  obtain ⟨vs, h1, h2⟩ := results_list hE hr ht h hk
  have hm : (fn.results.mapM (rdRes ts)).run P w = .ok vs.toArray w := by
    rw [Array.mapM_eq_mapM_toList, Sem.run_map, h1]; rfl
  refine ⟨if h : vs.toArray.size = 1 then vs.toArray[0] else .tuple vs.toArray, ?_, ?_⟩
  · rw [results_eq]
    simp only [Sem.run_bind, hm, Result.andThen, Sem.run_pure]
  · cases h2 with
    | nil => exact .tup _ [] .nil
    | cons a v l vs hv hl =>
      cases hl with
      | nil => simpa [resultA] using hv
      | cons a2 v2 l2 vs2 hv2 hl2 =>
        rw [dif_neg (by simp)]
        exact .tup _ _ (.cons _ _ _ _ hv (.cons _ _ _ _ hv2 hl2))
end
end Go.Xq
namespace Go.Xq
variable [Dealing]
section
variable {P : Program} {E : Env} (hE : TyOk P E)
omit [Dealing] in
theorem argsT_get : ∀ {l : AV} {m : Ren} {vs : List Value} {i : Nat} {t : Tr AV} {k : Nat}, VL m l vs →
    (argsT l i t).get (bits k) = if i ≤ k ∧ k < i + vs.length then AV.nth (k - i) l else t.get (bits k)
  | _, _, _, i, t, k, .nil => by rw [if_neg (by simp)]; rfl
  | _, m, _, i, t, k, .cons a v l vs h hl => by
    show (argsT l (i + 1) (t.put (some a) (bits i))).get (bits k) = _
    rw [argsT_get hl]
    simp only [List.length_cons]
    by_cases e : k = i
    · subst e
      rw [if_neg (by omega), if_pos (by omega), Tr.get_put_same]
      simp [AV.nth, onCons]
    · rw [Tr.get_put_ne _ _ _ _ (bits_ne (Ne.symm e))]
      by_cases h1 : i + 1 ≤ k ∧ k < i + 1 + vs.length
      · rw [if_pos h1, if_pos (by omega)]
        obtain ⟨j, rfl⟩ : ∃ j, k = i + 1 + j := ⟨k - (i + 1), by omega⟩
        rw [show i + 1 + j - i = j + 1 from by omega, show i + 1 + j - (i + 1) = j from by omega]
        simp [AV.nth, onCons]
      · rw [if_neg h1, if_neg (by omega)]
omit [Dealing] in
theorem argsT_ok {m : Ren} {l : AV} {vs : List Value} {n : Nat} (h : VL m l vs) (hn : vs.length ≤ n) : TR n m (argsT l 0 .e) (vs.toArray ++ Array.replicate (n - vs.length) undef) := by
  refine ⟨by simp; omega, fun t => ?_⟩
  rw [argsT_get h]
  by_cases ht : t < vs.length
  · rw [if_pos (by omega), Nat.sub_zero]
    obtain ⟨a, ha⟩ := h.nth_ex ht
    obtain ⟨u, hu, hv⟩ := h.nth ha
    rw [ha]
    have : (vs.toArray ++ Array.replicate (n - vs.length) undef).getD t undef = u := by
      rw [Array.getD_eq_getD_getElem?, Array.getElem?_append_left (by simpa using ht)]
      simp [hu]
    rw [this]; intro v e; cases e; exact hv
  · rw [if_neg (by omega), Tr.get_e]
    intro v e; cases e
include hE
theorem body_ok {R : Rec} (hR : RecOk P R) {f : FuncId} {fn : Func} {c : Code} {k : FnK} {kind : CallKind} (hfn : P.funcs[f]? = some fn) (hc : fn.body = some c) (hnt : k.ntmps = fn.ntmps) (hres : resultsK E fn.results.toList = some k.res)
    (hbody : RKOk P { (default : Frame) with fn := f, kind, roundOf := none } ⟨k.ntmps, none, none⟩ [.code c] k.body) {m : Ren} {H H2 : AH} {w : World} {args v : AV} {vs : List Value} (hr : Rel m H w) (hl : VL m args vs) (hlen : AV.len args ≤ k.ntmps)
    (h : bodyA k R args H = some (v, H2)) : XC P kind f vs.toArray w (Post m H w v H2) := by
  intro cs hcs
  let b : Frame := { (default : Frame) with fn := f, kind, roundOf := none }
  have hlen2 : vs.length ≤ k.ntmps := by rw [← hl.len]; exact hlen
  let a0 : Act := { tmps := vs.toArray ++ Array.replicate (k.ntmps - vs.length) undef, defers := [] }
  have henter : Frame.enter P f vs.toArray kind = b.atR a0 ([.code c] ++ []) := by
    simp only [Frame.enter, hfn, hc, Option.map_some, Option.getD_some, Option.bind_some, Frame.atR, b, a0, hnt, List.size_toArray]
    rfl
  have h1 := hbody R hR m H w (argsT args 0 .e) [] a0 [] cs hcs hr ⟨argsT_ok hl hlen2, .nil, .inl ⟨rfl, rfl⟩⟩
  -- the way out
  have out : ∀ {m2 : Ren} {T : Tr AV} {D : List ADf} {H3 : AH} {a2 : Act} {w2 : World} {todo : List Item}, St m H w m2 H3 w2 → FrR ⟨k.ntmps, none, none⟩ m2 T D a2 → endA k R T D H3 = some (v, H2) →
      Gx P (XQ P kind f cs (Post m H w v H2)) { b.atR a2 todo with mode := .returning } cs w2 := by
    intro m2 T D H3 a2 w2 todo hst hf hend
    simp only [endA, ob_some, Option.some.injEq, Prod.mk.injEq] at hend
    obtain ⟨H4, hd, r, hrr, rfl, rfl⟩ := hend
    refine defers_ok hR (fr := { b.atR a2 todo with mode := .returning }) (cs := cs) hst.rel hf.d hd rfl rfl fun m3 w3 g1 => ?_
    refine Gx.stop fun w4 h4 => ⟨rfl, rfl, rfl, fun w5 h5 => ?_⟩
    have hi := h4.trans h5
    obtain ⟨v', q1, q2⟩ := results_ok hE (g1.rel.idle hi) (hf.t.mono (St.le hst.rel g1)) hres hrr
    exact ⟨v', ⟨m3, (hst.trans g1).idleR hi, q2⟩, rfl, rfl, fn, hfn, q1⟩
  rw [henter]
  simp only [bodyA] at h
  cases ho : k.body.f R (argsT args 0 .e) [] H with
  | bad => rw [ho] at h; cases h
  | nor T D H3 =>
    rw [ho] at h h1
    refine Gx.bind h1 ?_
    rintro fr cs' w2 ⟨rfl, m2, a2, g1, g2, rfl⟩
    exact Steps.one (stepR_end rfl) _ (out g1 g2 h)
  | ext id T D H3 => rw [ho] at h; cases h
  | ret T D H3 =>
    rw [ho] at h h1
    refine Gx.bind h1 ?_
    rintro fr cs' w2 ⟨rfl, m2, a2, K2, g1, g2, rfl⟩
    exact Steps.one (stepR_ret rfl) _ (out g1 g2 h)
end
end Go.Xq
namespace Go.Xq
variable [Dealing]
section
variable {P : Program} {E : Env} {b : Frame} {cx : Cx}
omit [Dealing] in
theorem plain_endLoop {l : Nat} : Plain P (Instr.endLoop l) := by unfold Instr.endLoop Instr.getLoop; (repeat' first | exact Pl.p | assumption | exact plain_newObj ⟨rfl, fun _ _ => by simp⟩ | exact plain_setObj ⟨rfl, fun _ _ => by simp⟩ | (with_reducible refine plain_forInL ?_ _ _) | (with_reducible refine plain_forInR ?_ _ _) | (with_reducible refine plain_forInA ?_ _ _) | (with_reducible refine plain_mapMA ?_ _) | (with_reducible refine plain_map ?_) | (with_reducible refine plain_pure_bind ?_) | (with_reducible refine Plain.bind ?_ ?_) | intro _ | split | dsimp only)
omit [Dealing] in
theorem plain_enterLoop {f : FuncId} {ts : Array Value} {ps : Array Tmp} {x y : Code} {ro : Option Nat} : Plain P (Instr.enterLoop f ts ps x y ro) := by unfold Instr.enterLoop Instr.getLoop; (repeat' first | exact Pl.p | assumption | exact plain_newObj ⟨rfl, fun _ _ => by simp⟩ | exact plain_setObj ⟨rfl, fun _ _ => by simp⟩ | (with_reducible refine plain_forInL ?_ _ _) | (with_reducible refine plain_forInR ?_ _ _) | (with_reducible refine plain_forInA ?_ _ _) | (with_reducible refine plain_mapMA ?_ _) | (with_reducible refine plain_map ?_) | (with_reducible refine plain_pure_bind ?_) | (with_reducible refine Plain.bind ?_ ?_) | intro _ | split | dsimp only)
omit [Dealing] in
theorem lift_endRangeFunc {a : Act} {K : List Item} {cs : List Frame} {w w' : World} {l : Nat} {jump : Option Code} (h : (Instr.endLoop l).run P w = .ok jump w') : Lifts P (b.atR a (.endRangeFunc l :: K)) cs w (b.atR a ((jump.map Item.code).toList ++ K)) cs w' := by
  intro main W hR
  obtain ⟨W', g1, g2, g3, g4⟩ := lift_run b.fn plain_endLoop.qg h hR
  exact ⟨W', _, by simp [Conc.G, stepG, stepG.exec, Frame.atR, g1]; rfl, g2, g3, g4⟩
omit [Dealing] in
theorem lift_rangeFunc {a : Act} {K : List Item} {cs : List Frame} {w w1 w2 : World} {g : Operand} {ps : Array Tmp} {assign body : Code} {l : Nat} {mark : List Deferred} {f : FuncId} {args : Array Value}
    (he : (Instr.enterLoop b.fn a.tmps ps assign body b.roundOf).run P w = .ok (l, mark) w1)
    (hq : QG P (do let d ← resolve a.eval (rangeCall g l) 0; invoke d.target d.args) w1) (hi : (do let d ← resolve a.eval (rangeCall g l) 0; invoke d.target d.args : Sem Next).run P w1 = .ok (.enter f args) w2) :
    Lifts P (b.atR a (.code (.rangeFunc g ps assign body) :: K)) cs w (Frame.enter P f args .normal) (b.atR { a with defers := mark ++ a.defers } (.inRangeFunc l :: K) :: cs) w2 := by
  intro main W hR
  obtain ⟨W1, g1, g2, g3⟩ := lift_runD b.fn plain_enterLoop.qg he hR
  obtain ⟨W2, k1, k2, k3, k4⟩ := lift_run b.fn hq hi (g2.restr hR)
  have hev := Frame.eval_atR b { a with defers := mark ++ a.defers } (.inRangeFunc l :: K)
  simp only [Frame.atR] at hev
  have hae : ({ tmps := a.tmps, defers := mark ++ a.defers } : Act).eval = a.eval := by funext x; cases x <;> rfl
  have k1' : (do let d ← resolve ({ tmps := a.tmps, defers := mark ++ a.defers } : Act).eval { callee := .value g, args := #[.const (.func (.yield l) #[] #[])], argTypes := #[] } 0; invoke d.target d.args : Sem Next).run P W1 = .ok (.enter f args) W2 := by rw [hae]; exact k1
  have k4' : ∀ e ∈ seen P b.fn ((do let d ← resolve ({ tmps := a.tmps, defers := mark ++ a.defers } : Act).eval { callee := .value g, args := #[.const (.func (.yield l) #[] #[])], argTypes := #[] } 0; invoke d.target d.args : Sem Next).events P W1 #[]), EvOk w1 W2.heap.size e := by rw [hae]; exact k4
  refine ⟨W2, seen P b.fn ((Instr.enterLoop b.fn a.tmps ps assign body b.roundOf).events P W #[]) ++ seen P b.fn (if (b.kind == .early) = true then #[] else (do let d ← resolve ({ tmps := a.tmps, defers := mark ++ a.defers } : Act).eval { callee := .value g, args := #[.const (.func (.yield l) #[] #[])], argTypes := #[] } 0; invoke d.target d.args : Sem Next).events P W1 #[]), ?_, ⟨k2.1, Stays.trans (fun k o hk hd => (g2.dead k o hk hd).1) k2.2⟩, Beside.trans hR g2 k3, ?_⟩
  · revert k1'
    generalize hs : (do let d ← resolve ({ tmps := a.tmps, defers := mark ++ a.defers } : Act).eval { callee := .value g, args := #[.const (.func (.yield l) #[] #[])], argTypes := #[] } 0; invoke d.target d.args : Sem Next) = s
    intro k1'
    simp only [Conc.G, stepG, stepG.exec, Frame.atR, Sem.runT_eq, g1, stepG.apply, hev, hs, k1', if_true, GStep.after, Array.append_empty]
  · intro e he
    rcases Array.mem_append.1 he with he | he
    · exact (g3 e he).mono k3.size
    · exact g2.ev (seen_pick k4' e he)
theorem rangeEnd_ok {m : Ren} {H : AH} {w : World} {T : Tr AV} {D : List ADf} {a : Act} {l : Nat} {i : BI} {K : List Item} {cs : List Frame} (hr : Rel m H w) (hf : FrR cx m T D a) (hi : m l = some i) :
    OutOk P b cx K cs m H w (lone (b.atR a (.endRangeFunc i.blk :: K)) cs w) (cRangeEnd l T D H) := by
  unfold cRangeEnd
  split
  · rename_i q hg
    have key : q.state ≠ .busy → ∀ w1, Idle w w1 → ∃ w2, St m H w m (H.set l (.loop { q with state := .exhausted })) w2 ∧ Lifts P (b.atR a (.endRangeFunc i.blk :: K)) cs w1 (b.atR a ((q.pending.map Item.code).toList ++ K)) cs w2 := by
      intro hb w1 h1
      have hr1 := hr.idle h1
      obtain ⟨y, hy, hor⟩ := hr1.live _ _ hg _ hi
      cases hor with | loop _ tmps j _ ht hj =>
      have hst : St m H w1 m (H.set l (.loop { q with state := .exhausted })) (w1.putObj i.blk (.loop { state := .exhausted, pending := q.pending, fn := q.fn, tmps, params := q.params.toArray, assign := q.assign, body := q.body, defers := j.blk })) :=
        St.upd hr1 hg hi (OR.loop { q with state := .exhausted } tmps j i ht hj) rfl rfl rfl
      exact ⟨_, hst.idleL h1, lift_endRangeFunc (run_endLoop hy hb)⟩
    split
    · trivial
    · rename_i hb
      split
      · rename_i hp
        refine OutOk.of fun _ => Gx.step' fun w1 h1 => ?_
        obtain ⟨w2, hst, hl⟩ := key hb w1 h1
        rw [show (q.pending.map Item.code).toList = [] from by rw [hp]; rfl] at hl
        exact ⟨_, _, _, hl, OutOk.nor hst hf⟩
      · rename_i c hp
        split
        · refine OutOk.of fun _ => Gx.step' fun w1 h1 => ?_
          obtain ⟨w2, hst, hl⟩ := key hb w1 h1
          rw [show (q.pending.map Item.code).toList = [.code .ret] from by rw [hp]; rfl] at hl
          exact ⟨_, _, _, hl, OutOk.ret hst hf⟩
        · rename_i id
          refine OutOk.of fun _ => Gx.step' fun w1 h1 => ?_
          obtain ⟨w2, hst, hl⟩ := key hb w1 h1
          rw [show (q.pending.map Item.code).toList = [.code (.exit id)] from by rw [hp]; rfl] at hl
          exact ⟨_, _, _, hl, OutOk.ext hst hf rfl⟩
        · trivial
  · trivial
theorem rangeRun_ok {R : Rec} (hR : RecOk P R) {m : Ren} {H : AH} {w w0 : World} {T : Tr AV} {D : List ADf} {a a' : Act} {f : Operand} {params : Array Tmp} {assign body : Code} {dfr : Nat} {j : BI} {mark : List Deferred} {K : List Item} {cs : List Frame}
    (hr : Rel m H w) (hf : FrR cx m T D a') (hj : m dfr = some j) (ha' : a' = { a with defers := mark ++ a.defers })
    (henter : (Instr.enterLoop b.fn a.tmps params assign body b.roundOf).run P w0 = .ok (w.heap.size, mark) (w.alloc (.loop { state := .ready, pending := none, fn := b.fn, tmps := a.tmps, params, assign, body, defers := j.blk })))
    (hbad : cRangeRun b.fn cx.n f params.toList assign body dfr R T D H ≠ .bad) :
    ∃ fr' cs' w', Lifts P (b.atR a (.code (.rangeFunc f params assign body) :: K)) cs w0 fr' cs' w' ∧ Gx P (OQ b cx K cs m H w (cRangeRun b.fn cx.n f params.toList assign body dfr R T D H)) fr' cs' w' := by
  revert hbad
  unfold cRangeRun
  split
  · rename_i q first cap hfv
    split
    · rename_i g
      let i : BI := ⟨w.heap.size, 0, 0, 0⟩
      let q0 : ALoop := { state := .ready, pending := none, fn := b.fn, tmps := T, ntmps := cx.n, params := params.toList, assign, body, defers := dfr }
      have hor : OR (m.ext H.next i) (.loop { state := .ready, pending := none, fn := b.fn, tmps := a'.tmps, params, assign, body, defers := j.blk }) (.loop q0) i := by
        have hle := hr.le (Ext.ext m H.next i)
        have := OR.loop q0 a'.tmps j i (hf.t.mono hle) (hle _ _ hj)
        simpa [q0] using this
      have htm : a'.tmps = a.tmps := by rw [ha']
      rw [htm] at hor
      have hst : St m H w (m.ext H.next i) (H.new (.loop q0)) (w.alloc (.loop { state := .ready, pending := none, fn := b.fn, tmps := a.tmps, params, assign, body, defers := j.blk })) := St.newBlk hr rfl rfl hor rfl rfl
      show (oc (R.call g (AV.app first (AV.cons (.fn (.yield H.next) .nil .nil) cap)) (H.new (.loop q0))) .bad fun r => cRangeEnd H.next T D r.2) ≠ .bad → ∃ fr' cs' w', _ ∧ Gx P (OQ b cx K cs m H w (oc (R.call g (AV.app first (AV.cons (.fn (.yield H.next) .nil .nil) cap)) (H.new (.loop q0))) .bad fun r => cRangeEnd H.next T D r.2)) fr' cs' w'
      cases hcall : R.call g (AV.app first (AV.cons (.fn (.yield H.next) .nil .nil) cap)) (H.new (.loop q0)) with
      | none => intro h; exact absurd rfl h
      | some p =>
        intro hbad
        obtain ⟨v, H2⟩ := p
        obtain ⟨hen, hx⟩ := hR.call _ _ _ _ _ hcall
        have hev : a'.eval = a.eval := by funext x; cases x <;> simp [Act.eval, ha']
        have hfr := hf.er hr f _ hfv
        rw [hev] at hfr
        obtain ⟨g', va, vc, hq, hva, hvc, efv⟩ := hfr.fn_inv
        cases hq
        have hle := hr.le (Ext.ext m H.next i)
        have hargs : VL (m.ext H.next i) (AV.app first (AV.cons (.fn (.yield H.next) .nil .nil) cap)) (va ++ (.func (.yield w.heap.size) #[] #[] :: vc)) :=
          (hva.mono hle).app (.cons _ _ _ _ (.fn _ _ _ _ [] [] (.yield H.next i (Ren.ext_same _ _ _)) .nil .nil) (hvc.mono hle))
        let w1 : World := w.alloc (.loop { state := .ready, pending := none, fn := b.fn, tmps := a.tmps, params, assign, body, defers := j.blk })
        have harr : va.toArray ++ #[Value.func (.yield w.heap.size) #[] #[]] ++ vc.toArray = (va ++ (.func (.yield w.heap.size) #[] #[] :: vc)).toArray := by apply Array.toList_inj.1; simp
        have em : (#[Operand.const (.func (.yield w.heap.size) #[] #[])] : Array Operand).map a.eval = #[Value.func (.yield w.heap.size) #[] #[]] := by
          simp [Act.eval]
        have hres : ∀ w2, (resolve a.eval (rangeCall f w.heap.size) 0).run P w2 = .ok { target := .fn (.func g) vc.toArray, args := va.toArray ++ #[Value.func (.yield w.heap.size) #[] #[]] } w2 := fun w2 => by
          simp only [resolve, efv, Deferred.ofValue, Sem.run_pure, em]
        have hinv : (do let d ← resolve a.eval (rangeCall f w.heap.size) 0; invoke d.target d.args : Sem Next).run P w1 = .ok (.enter g (va ++ (.func (.yield w.heap.size) #[] #[] :: vc)).toArray) w1 := by
          simp only [Sem.run_bind, hres, Result.andThen, invoke, harr]
          exact run_enter hen
        have hqq : QG P (do let d ← resolve a.eval (rangeCall f w.heap.size) 0; invoke d.target d.args) w1 := by
          refine QG.after plain_resolve (hres w1) ?_
          show QG P (callFunc g (va.toArray ++ #[Value.func (.yield w.heap.size) #[] #[]] ++ vc.toArray)) w1
          exact enter_q hen
        refine ⟨_, _, _, lift_rangeFunc henter hqq hinv, ?_⟩
        refine (hx (m.ext H.next i) w1 _ hst.rel hargs (b.atR { a with defers := mark ++ a.defers } (.inRangeFunc w.heap.size :: K) :: cs) (.inl rfl)).bind ?_
        rintro fr cs' w2 ⟨rfl, hk, _, hlv⟩
        refine step_leave (c := b.atR { a with defers := mark ++ a.defers } (.inRangeFunc w.heap.size :: K)) hlv hk fun v' w3 hp => ?_
        obtain ⟨m2, hst2, _⟩ := hp
        rw [finish_atR_inRangeFunc]
        have hall := hst.trans hst2
        have hend := rangeEnd_ok (P := P) (b := b) (K := K) (cs := cs) hst2.rel (hf.mono (St.le hr hall)) (St.le hst.rel hst2 _ _ (Ren.ext_same m H.next i))
        rw [ha'] at hend
        exact (hend.to hbad).mono (OQ.pre hall)
    · intro h; exact absurd rfl h
  · intro h; exact absurd rfl h
end
end Go.Xq
namespace Go.Xq
variable [Dealing]
section
variable {P : Program} {b : Frame} {cx : Cx}
theorem range_ok {rd : Option Nat} (hrd : cx.rd = rd) (hro : b.roundOf = cx.ro) {fid : Nat} (hfn : b.fn = fid) {f : Operand} {params : Array Tmp} {assign body : Code} :
    RKOk P b cx [.code (.rangeFunc f params assign body)] ⟨cRange fid cx.n rd f params.toList assign body⟩ := by
  intro R hR m H w T D a K cs hcs hr hf
  subst hfn hrd
  show OutOk P b cx K cs m H w _ (cRange b.fn cx.n cx.rd f params.toList assign body R T D H)
  unfold cRange
  rcases hf.r with ⟨h1, h2⟩ | ⟨l, i, h1, h2, h3⟩
  · rw [h1]
    refine OutOk.of fun hbad => Gx.step' fun w1 hi => ?_
    have hr1 := hr.idle hi
    let i : BI := ⟨w1.heap.size, 0, 0, 0⟩
    have hst : St m H w1 (m.ext H.next i) (H.new (.dfr true)) (w1.alloc (.deferred (some []))) := St.newBlk hr1 rfl rfl (.dfrT i) rfl rfl
    have hle := hr1.le (Ext.ext m H.next i)
    have hen : (Instr.enterLoop b.fn a.tmps params assign body b.roundOf).run P w1 = .ok ((w1.alloc (.deferred (some []))).heap.size, [{ target := .collected w1.heap.size, args := #[] }])
        ((w1.alloc (.deferred (some []))).alloc (.loop { state := .ready, pending := none, fn := b.fn, tmps := a.tmps, params, assign, body, defers := i.blk })) := by
      rw [hro, h2, run_enterLoop_outer, World.size_alloc]
    have hfm := hf.mono hle
    obtain ⟨fr', cs', w', g1, g2⟩ := rangeRun_ok (b := b) (cx := cx) (a := a) (K := K) (cs := cs) (f := f) hR hst.rel (a' := { a with defers := [{ target := .collected w1.heap.size, args := #[] }] ++ a.defers })
      ⟨hfm.t, .cons _ _ _ _ (.mark _ i _ _ (Ren.ext_same _ _ _)) hfm.d, hfm.r⟩ (Ren.ext_same _ _ _) rfl hen hbad
    exact ⟨fr', cs', w', g1, g2.mono (OQ.pre (hst.idleL hi))⟩
  · rw [h1]
    show OutOk P b cx K cs m H w _ (match H.get l with
      | some (.loop q) => cRangeRun b.fn cx.n f params.toList assign body q.defers R T D H
      | _ => .bad)
    split
    · rename_i q hg
      refine OutOk.of fun hbad => Gx.step' fun w1 hi => ?_
      have hr1 := hr.idle hi
      obtain ⟨y, hy, hor⟩ := hr1.live _ _ hg _ h2
      cases hor with | loop _ tmps j _ ht hj =>
      have hen : (Instr.enterLoop b.fn a.tmps params assign body b.roundOf).run P w1 = .ok (w1.heap.size, []) (w1.alloc (.loop { state := .ready, pending := none, fn := b.fn, tmps := a.tmps, params, assign, body, defers := j.blk })) := by
        rw [hro, h3, run_enterLoop_inner hy]
      obtain ⟨fr', cs', w', g1, g2⟩ := rangeRun_ok (b := b) (cx := cx) (a := a) (K := K) (cs := cs) (f := f) hR hr1 (a' := a) hf hj rfl hen hbad
      exact ⟨fr', cs', w', g1, g2.mono (OQ.pre (St.ofIdle hr hi))⟩
    · trivial
end
end Go.Xq
namespace Go.Xq
variable [Dealing]
section
variable {P : Program} {E : Env}
omit [Dealing] in
theorem plain_beginRound {l : Nat} : Plain P (Instr.beginRound l) := by unfold Instr.beginRound Instr.getLoop; (repeat' first | exact Pl.p | assumption | exact plain_newObj ⟨rfl, fun _ _ => by simp⟩ | exact plain_setObj ⟨rfl, fun _ _ => by simp⟩ | (with_reducible refine plain_forInL ?_ _ _) | (with_reducible refine plain_forInR ?_ _ _) | (with_reducible refine plain_forInA ?_ _ _) | (with_reducible refine plain_mapMA ?_ _) | (with_reducible refine plain_map ?_) | (with_reducible refine plain_pure_bind ?_) | (with_reducible refine Plain.bind ?_ ?_) | intro _ | split | dsimp only)
omit [Dealing] in
theorem plain_endRound {l : Nat} {j : Option Code} : Plain P (Instr.endRound l j) := by unfold Instr.endRound Instr.getLoop; (repeat' first | exact Pl.p | assumption | exact plain_newObj ⟨rfl, fun _ _ => by simp⟩ | exact plain_setObj ⟨rfl, fun _ _ => by simp⟩ | (with_reducible refine plain_forInL ?_ _ _) | (with_reducible refine plain_forInR ?_ _ _) | (with_reducible refine plain_forInA ?_ _ _) | (with_reducible refine plain_mapMA ?_ _) | (with_reducible refine plain_map ?_) | (with_reducible refine plain_pure_bind ?_) | (with_reducible refine Plain.bind ?_ ?_) | intro _ | split | dsimp only)
section
variable {b c : Frame} {a : Act} {K : List Item} {cs : List Frame} {w w' : World} {l : Nat} {v : Value}
omit [Dealing] in
theorem lift_beginRound (hb : b.roundOf = some l) (hr : (Instr.beginRound l).run P w = .ok () w') : Lifts P (b.atR a (.beginRound :: K)) cs w (b.atR a K) cs w' := by
  refine Lifts.apply (s := (do Instr.beginRound l; pure .skip)) (x := .skip) (QG.u plain_beginRound.qg) (run_u hr) (fun main W => ?_) fun W W' he => ?_
  · simp [Conc.G, stepG, stepG.exec, Frame.atR, hb]
  · revert he
    generalize (do Instr.beginRound l; pure .skip : Sem Next) = s
    intro he
    simp [stepG.apply, he, GStep.after, Conc.G, Frame.atR, Frame.finish]
omit [Dealing] in
theorem lift_endR {todo : List Item} {jump : Option Code} (hk : b.kind = .normal) (hr : (Instr.endRound l jump).run P w = .ok v w')
    (hst : ∀ main W, stepG P main (Conc.G (b.atR a todo) (c :: cs)) W = (let (r, es) := (Instr.endRound l jump).runT P W #[]
        GStep.after (seen P b.fn es) <| match r with
        | .ok v w => doReturn P main (b.atR a todo) (c :: cs) none v w
        | .halt _ w => .ended (.stuck "range over a function: no such loop" ((b.atR a todo).pos P)) w)) : Lifts P (b.atR a todo) (c :: cs) w (c.finish v) cs w' := by
  intro main W hR
  obtain ⟨W', g1, g2, g3, g4⟩ := lift_run b.fn plain_endRound.qg hr hR
  refine ⟨W', _, ?_, g2, g3, g4⟩
  rw [hst]
  simp [g1, doReturn, Frame.atR, hk, GStep.after, Conc.G]
omit [Dealing] in
theorem lift_round_end (hb : b.roundOf = some l) (hk : b.kind = .normal) (hr : (Instr.endRound l none).run P w = .ok v w') : Lifts P (b.atR a []) (c :: cs) w (c.finish v) cs w' :=
  lift_endR hk hr fun main W => by simp [Conc.G, stepG, stepG.exec, Frame.atR, hb]; rfl
omit [Dealing] in
theorem lift_round_ret (hb : b.roundOf = some l) (hk : b.kind = .normal) (hr : (Instr.endRound l (some .ret)).run P w = .ok v w') : Lifts P (b.atR a (.code .ret :: K)) (c :: cs) w (c.finish v) cs w' :=
  lift_endR hk hr fun main W => by simp [Conc.G, stepG, stepG.exec, Frame.atR, hb]; rfl
omit [Dealing] in
theorem lift_round_exit {id : Nat} (hb : b.roundOf = some l) (hk : b.kind = .normal) (hx : exitTo id K = none) (hr : (Instr.endRound l (some (.exit id))).run P w = .ok v w') : Lifts P (b.atR a (.code (.exit id) :: K)) (c :: cs) w (c.finish v) cs w' :=
  lift_endR hk hr fun main W => by simp [Conc.G, stepG, stepG.exec, Frame.atR, hb, hx]; rfl
end
omit [Dealing] in
theorem setParams_ok {n : Nat} {m : Ren} : ∀ (ps : List Nat) {args : AV} {T T2 : Tr AV} {ts : Array Value} {vs : List Value}, setParams n ps args T = some T2 → TR n m T ts → VL m args vs →
    vs.length = ps.length ∧ TR n m T2 ((ps.zip vs).foldl (fun t (x : Nat × Value) => t.setIfInBounds x.1 x.2) ts)
  | [], _, _, _, _, _, h, ht, hv => by
    cases hv with
    | nil => simp only [setParams, Option.some.injEq] at h; subst h; exact ⟨rfl, ht⟩
    | cons a v l vs h1 h2 => simp [setParams] at h
  | p :: r, _, _, _, _, _, h, ht, hv => by
    cases hv with
    | nil => simp [setParams] at h
    | cons a v l vs h1 h2 =>
      simp only [setParams, bt_some] at h
      obtain ⟨hp, h⟩ := h
      obtain ⟨g1, g2⟩ := setParams_ok r h (ht.put (by simpa [Nat.blt_eq] using hp) h1) h2
      exact ⟨by simp [g1], by simpa using g2⟩
omit [Dealing] in
theorem roundEnd_ok {jump : Option Code} {l : Nat} {H H2 : AH} {v : AV} {D : List ADf} (h : roundEnd l jump D H = some (v, H2)) {m : Ren} {w : World} {i : BI} (hr : Rel m H w) (hi : m l = some i) :
    ∃ v' w', (Instr.endRound i.blk jump).run P w = .ok v' w' ∧ Post m H w v H2 v' w' := by
  unfold roundEnd at h
  split at h
  · rename_i q hg
    simp only [Option.some.injEq, Prod.mk.injEq] at h
    obtain ⟨rfl, rfl⟩ := h
    obtain ⟨y, hy, hor⟩ := hr.live _ _ hg _ hi
    cases hor with | loop _ tmps j _ ht hj =>
    refine ⟨_, _, run_endRound jump hy, m, St.upd hr hg hi (OR.loop { q with state := if jump.isNone then .ready else .done, pending := jump } tmps j i ht hj) rfl rfl rfl, .bool _⟩
  · cases h
def CodeOk (P : Program) (E : Env) : Prop := ∀ (c : Code) (fid n : Nat) (rd : Option Nat) (k : RK), compK E fid n rd c = some k → ∀ (b : Frame) (cx : Cx), cx.n = n → cx.rd = rd → b.roundOf = cx.ro → cx.rd.isSome = cx.ro.isSome → b.fn = fid → RKOk P b cx [.code c] k
theorem round_ok (hC : CodeOk P E) {R : Rec} (hR : RecOk P R) {l : Nat} {args : AV} {H H2 : AH} {v : AV} (h : roundA E R l args H = some (v, H2)) {m : Ren} {w : World} {vs : List Value} {i : BI} (hr : Rel m H w) (hl : VL m args vs) (hi : m l = some i) :
    ∃ f tmps a b, (Instr.yield i.blk vs.toArray).run P w = .ok (.round i.blk f tmps a b) w ∧ XR P i.blk f tmps a b w (Post m H w v H2) := by
  unfold roundA at h
  split at h
  rotate_left
  · cases h
  rename_i q hg
  simp only [ob_some] at h
  obtain ⟨ka, hka, kb, hkb, T, hT, h⟩ := h
  obtain ⟨y, hy, hor⟩ := hr.live _ _ hg _ hi
  cases hor with | loop _ tmps j _ ht hj =>
  obtain ⟨hlen, hTR⟩ := setParams_ok _ hT ht hl
  have hyl := run_yield (P := P) (args := vs.toArray) hy (by simp [hlen])
  refine ⟨_, _, _, _, hyl, ?_⟩
  have etm : (q.params.toArray.zip vs.toArray).foldl (fun tmps (x : Nat × Value) => tmps.setIfInBounds x.1 x.2) tmps = (q.params.zip vs).foldl (fun t (x : Nat × Value) => t.setIfInBounds x.1 x.2) tmps := by
    rw [← Array.foldl_toList, Array.toList_zip]
  intro c cs
  let b : Frame := { (default : Frame) with fn := q.fn, kind := .normal, roundOf := some i.blk }
  let cx : Cx := ⟨q.ntmps, some l, some i.blk⟩
  let a0 : Act := { tmps := (q.params.toArray.zip vs.toArray).foldl (fun tmps (x : Nat × Value) => tmps.setIfInBounds x.1 x.2) tmps, defers := [] }
  have hb0 : Frame.round i.blk q.fn a0.tmps q.assign q.body .normal = b.atR a0 [.code q.assign, .beginRound, .code q.body] := by
    simp [Frame.round, Frame.atR, b, a0]
  have hoa := hC q.assign q.fn q.ntmps (some l) ka hka b cx rfl rfl rfl rfl rfl
  have hob := hC q.body q.fn q.ntmps (some l) kb hkb b cx rfl rfl rfl rfl rfl
  have hf0 : FrR cx m T [] a0 := ⟨by show TR q.ntmps m T ((q.params.toArray.zip vs.toArray).foldl (fun tmps (x : Nat × Value) => tmps.setIfInBounds x.1 x.2) tmps); rw [etm]; exact hTR, .nil, .inr ⟨l, i, rfl, hi, rfl⟩⟩
  have h1 := hoa R hR m H w T [] a0 [.beginRound, .code q.body] (c :: cs) (.inl rfl) hr hf0
  show Gx P (XF c cs (Post m H w v H2)) (Frame.round i.blk q.fn a0.tmps q.assign q.body .normal) (c :: cs) w
  rw [hb0]
  split at h
  rotate_left
  · cases h
  rename_i T1 D1 H1 hka1
  rw [hka1] at h1
  refine Gx.bind h1 ?_
  rintro fr cs' w1 ⟨rfl, m1, a1, g1, g2, rfl⟩
  unfold roundBody at h
  split at h
  rotate_left
  · cases h
  rename_i q1 hg1
  split at h
  rotate_left
  · cases h
  rename_i hready
  refine Gx.step' fun w2 hidle => ?_
  have hr2 := g1.rel.idle hidle
  have hi1 := St.le hr g1 _ _ hi
  obtain ⟨y1, hy1, hor1⟩ := hr2.live _ _ hg1 _ hi1
  cases hor1 with | loop _ tmps1 j1 _ ht1 hj1 =>
  have hbr := run_beginRound (P := P) hy1 hready
  generalize hwb : w2.putObj i.blk (.loop { state := .busy, pending := q1.pending, fn := q1.fn, tmps := tmps1, params := q1.params.toArray, assign := q1.assign, body := q1.body, defers := j1.blk }) = wb at hbr
  have hst1 : St m1 H1 w2 m1 (H1.set l (.loop { q1 with state := .busy })) wb := by
    subst hwb
    exact St.upd hr2 hg1 hi1 (OR.loop { q1 with state := .busy } tmps1 j1 i ht1 hj1) rfl rfl rfl
  refine ⟨_, _, _, lift_beginRound (P := P) (b := b) (a := a1) (K := [.code q.body]) (cs := c :: cs) rfl hbr, ?_⟩
  have hall := g1.trans (hst1.idleL hidle)
  have h2 := hob R hR _ _ _ T1 D1 a1 [] (c :: cs) (.inl rfl) hst1.rel g2
  have fin : ∀ {jump : Option Code} {m3 : Ren} {D3 : List ADf} {H3 : AH} {w3 : World} {fr : Frame}, St m1 (H1.set l (.loop { q1 with state := .busy })) wb m3 H3 w3 → roundEnd l jump D3 H3 = some (v, H2) →
      (∀ w v' w', (Instr.endRound i.blk jump).run P w = .ok v' w' → Lifts P fr (c :: cs) w (c.finish v') cs w') → Gx P (XF c cs (Post m H w v H2)) fr (c :: cs) w3 := by
    intro jump m3 D3 H3 w3 fr hst hre hstep
    refine Gx.step' fun w4 hi4 => ?_
    have hi3 := St.le hst1.rel hst _ _ hi1
    obtain ⟨v', w', k1, m4, k2, k3⟩ := roundEnd_ok (P := P) hre (hst.rel.idle hi4) hi3
    refine ⟨_, _, _, hstep w4 v' w' k1, Gx.stop fun w5 h5 => ⟨rfl, v', ⟨m4, ((hall.trans hst).trans (k2.idleL hi4)).idleR h5, k3⟩, rfl⟩⟩
  split at h
  · rename_i T2 D2 H3 e
    rw [e] at h2
    refine Gx.bind h2 ?_
    rintro fr cs' w3 ⟨rfl, m3, a3, k1, k2, rfl⟩
    exact fin k1 h fun w v' w' hr' => lift_round_end rfl rfl hr'
  · rename_i T2 D2 H3 e
    rw [e] at h2
    refine Gx.bind h2 ?_
    rintro fr cs' w3 ⟨rfl, m3, a3, K3, k1, k2, rfl⟩
    exact fin k1 h fun w v' w' hr' => lift_round_ret rfl rfl hr'
  · rename_i id T2 D2 H3 e
    rw [e] at h2
    refine Gx.bind h2 ?_
    rintro fr cs' w3 ⟨rfl, m3, a3, K3, k1, k2, hx, rfl⟩
    exact fin k1 h fun w v' w' hr' => lift_round_exit rfl rfl (hx.trans rfl) hr'
  · cases h
end
end Go.Xq
