/- A part of the proof that the evaluator is right. Conditions: in each theorem. -/
import Derived.Test.YtfgipbjaapkdlaaGreatDoorY6
import Derived.RangeFuncIn
import Derived.RangeFuncNested
namespace Go.Xq
section
variable {P : Program} {E : Env} (hE : TyOk P E)
def rdRes (ts : Array Value) (x : ResultVar) : Sem Value :=
  match x with
  | .tmp t => pure (ts.getD t undef)
  | .cell a t => do loadVar t (← asAddr (ts.getD a undef))
include hE
theorem results_list {m : Ren} {H : AH} {w : World} {n : Nat} (hr : Rel m H w) {T : Tr AV} {ts : Array Value} (ht : TR n m T ts) : ∀ {l : List ResultVar} {k : ReK} {r : AV}, resultsK E l = some k → k.f T H = some r →
    ∃ vs, (l.mapM (rdRes ts)).run P w = .ok vs w ∧ VL m r vs
  | [], k, r, h, hk => by
    cases h; cases hk
    exact ⟨[], by simp, .nil⟩
  | x :: l, k, r, h, hk => by
    simp only [resultsK, ob_some] at h
    obtain ⟨k', h1, h⟩ := h
    have tm : ∀ t v, opnd (.tmp t) T = some v → VR m v (ts.getD t undef) := fun t v hv => ER.of (a := { tmps := ts, defers := [] }) hr.glob ht (.tmp t) v hv
    cases x with
    | tmp t =>
      simp only [Option.some.injEq] at h
      subst h
      simp only [ob_some, Option.some.injEq] at hk
      obtain ⟨v, h2, lv, h3, rfl⟩ := hk
      obtain ⟨vs, g1, g2⟩ := results_list hr ht h1 h3
      refine ⟨ts.getD t undef :: vs, ?_, .cons _ _ _ _ (tm t v h2) g2⟩
      rw [List.mapM_cons]
      simp only [rdRes, Sem.run_bind, Sem.run_pure, Result.andThen, g1]
    | cell a t =>
      simp only [ob_some, Option.some.injEq] at h
      obtain ⟨ld, hld, rfl⟩ := h
      simp only [ob_some, Option.some.injEq] at hk
      obtain ⟨p, h2, v, hv, lv, h3, rfl⟩ := hk
      obtain ⟨ad, v', hu, hrun, hvr⟩ := ldK_ok hE hld hr (tm a p h2) hv
      obtain ⟨vs, g1, g2⟩ := results_list hr ht h1 h3
      refine ⟨v' :: vs, ?_, .cons _ _ _ _ hvr g2⟩
      rw [List.mapM_cons]
      simp only [rdRes, Sem.run_bind, Sem.run_pure, Result.andThen, hu, run_asAddr, hrun, g1]
omit hE in
theorem results_eq (fn : Func) (ts : Array Value) : results fn ts = (do
    let vs ← fn.results.mapM (rdRes ts)
    pure (if h : vs.size = 1 then vs[0] else .tuple vs)) := by
  unfold results
  congr 1
theorem results_ok {m : Ren} {H : AH} {w : World} {n : Nat} (hr : Rel m H w) {T : Tr AV} {ts : Array Value} (ht : TR n m T ts) {fn : Func} {k : ReK} {r : AV} (h : resultsK E fn.results.toList = some k) (hk : k.f T H = some r) :
    ∃ v, (results fn ts).run P w = .ok v w ∧ VR m (resultA r) v := by
  obtain ⟨vs, h1, h2⟩ := results_list hE hr ht h hk
  have hm : (fn.results.mapM (rdRes ts)).run P w = .ok vs.toArray w := by
    rw [Array.mapM_eq_mapM_toList, Sem.run_map, h1]; rfl
  refine ⟨if h : vs.toArray.size = 1 then vs.toArray[0] else .tuple vs.toArray, ?_, ?_⟩
  · rw [results_eq]
    simp only [Sem.run_bind, hm, Result.andThen, Sem.run_pure]
  · cases h2 with
    | nil => exact .tup _ [] .nil
    | cons a v l vs hv hl =>
      cases hl with
      | nil => simpa [resultA] using hv
      | cons a2 v2 l2 vs2 hv2 hl2 =>
        rw [dif_neg (by simp)]
        exact .tup _ _ (.cons _ _ _ _ hv (.cons _ _ _ _ hv2 hl2))
end
end Go.Xq
namespace Go.Xq
section
variable {P : Program} {E : Env} (hE : TyOk P E)
theorem argsT_get : ∀ {l : AV} {m : Ren} {vs : List Value} {i : Nat} {t : Tr AV} {k : Nat}, VL m l vs →
    (argsT l i t).get (bits k) = if i ≤ k ∧ k < i + vs.length then AV.nth (k - i) l else t.get (bits k)
  | _, _, _, i, t, k, .nil => by rw [if_neg (by simp)]; rfl
  | _, m, _, i, t, k, .cons a v l vs h hl => by
    show (argsT l (i + 1) (t.put (some a) (bits i))).get (bits k) = _
    rw [argsT_get hl]
    simp only [List.length_cons]
    by_cases e : k = i
    · subst e
      rw [if_neg (by omega), if_pos (by omega), Tr.get_put_same]
      simp [AV.nth, onCons]
    · rw [Tr.get_put_ne _ _ _ _ (bits_ne (Ne.symm e))]
      by_cases h1 : i + 1 ≤ k ∧ k < i + 1 + vs.length
      · rw [if_pos h1, if_pos (by omega)]
        obtain ⟨j, rfl⟩ : ∃ j, k = i + 1 + j := ⟨k - (i + 1), by omega⟩
        rw [show i + 1 + j - i = j + 1 from by omega, show i + 1 + j - (i + 1) = j from by omega]
        simp [AV.nth, onCons]
      · rw [if_neg h1, if_neg (by omega)]
theorem argsT_ok {m : Ren} {l : AV} {vs : List Value} {n : Nat} (h : VL m l vs) (hn : vs.length ≤ n) : TR n m (argsT l 0 .e) (vs.toArray ++ Array.replicate (n - vs.length) undef) := by
  refine ⟨by simp; omega, fun t => ?_⟩
  rw [argsT_get h]
  by_cases ht : t < vs.length
  · rw [if_pos (by omega), Nat.sub_zero]
    obtain ⟨a, ha⟩ := h.nth_ex ht
    obtain ⟨u, hu, hv⟩ := h.nth ha
    rw [ha]
    have : (vs.toArray ++ Array.replicate (n - vs.length) undef).getD t undef = u := by
      rw [Array.getD_eq_getD_getElem?, Array.getElem?_append_left (by simpa using ht)]
      simp [hu]
    rw [this]; intro v e; cases e; exact hv
  · rw [if_neg (by omega), Tr.get_e]
    intro v e; cases e
include hE
theorem body_ok {R : Rec} (hR : RecOk P R) {f : FuncId} {fn : Func} {c : Code} {k : FnK} {kind : CallKind} (hfn : P.funcs[f]? = some fn) (hc : fn.body = some c) (hnt : k.ntmps = fn.ntmps) (hres : resultsK E fn.results.toList = some k.res)
    (hbody : RKOk P { (default : Frame) with fn := f, kind, roundOf := none } ⟨k.ntmps, none, none⟩ [.code c] k.body) {m : Ren} {H H2 : AH} {w : World} {args v : AV} {vs : List Value} (hr : Rel m H w) (hl : VL m args vs) (hlen : AV.len args ≤ k.ntmps)
    (h : bodyA k R args H = some (v, H2)) : XC P kind f vs.toArray w (Post m H w v H2) := by
  intro cs hcs
  let b : Frame := { (default : Frame) with fn := f, kind, roundOf := none }
  have hlen2 : vs.length ≤ k.ntmps := by rw [← hl.len]; exact hlen
  let a0 : Act := { tmps := vs.toArray ++ Array.replicate (k.ntmps - vs.length) undef, defers := [] }
  have henter : Frame.enter P f vs.toArray kind = b.atR a0 ([.code c] ++ []) := by
    simp only [Frame.enter, hfn, hc, Option.map_some, Option.getD_some, Option.bind_some, Frame.atR, b, a0, hnt, List.size_toArray]
    rfl
  have h1 := hbody R hR m H w (argsT args 0 .e) [] a0 [] cs hcs hr ⟨argsT_ok hl hlen2, .nil, .inl ⟨rfl, rfl⟩⟩
  -- the way out
  have out : ∀ {m2 : Ren} {T : Tr AV} {D : List ADf} {H3 : AH} {a2 : Act} {w2 : World} {todo : List Item}, St m H w m2 H3 w2 → FrR ⟨k.ntmps, none, none⟩ m2 T D a2 → endA k R T D H3 = some (v, H2) →
      Steps P (lone (b.atR a0 ([.code c] ++ [])) cs w) (lone { b.atR a2 todo with mode := .returning } cs w2) →
      ∃ v' w' fr, Post m H w v H2 v' w' ∧ Steps P (lone (Frame.enter P f vs.toArray kind) cs w) (lone fr cs w') ∧ fr.kind = kind ∧ fr.fn = f ∧ Leaves P fr w' v' := by
    intro m2 T D H3 a2 w2 todo hst hf hend hsteps
    simp only [endA, ob_some, Option.some.injEq, Prod.mk.injEq] at hend
    obtain ⟨H4, hd, r, hrr, rfl, rfl⟩ := hend
    obtain ⟨m3, w3, g1, g2⟩ := defers_ok hR (fr := { b.atR a2 todo with mode := .returning }) (cs := cs) hst.rel hf.d hd rfl rfl
    obtain ⟨v', q1, q2⟩ := results_ok hE g1.rel (hf.t.mono (St.le hst.rel g1)) hres hrr
    refine ⟨v', w3, { ({ b.atR a2 todo with mode := .returning } : Frame) with defers := [] }, ⟨m3, hst.trans g1, q2⟩, ?_, ?_, ?_, ⟨rfl, rfl, fn, hfn, q1⟩⟩
    · rw [henter]; exact hsteps.trans g2
    · rfl
    · rfl
  simp only [bodyA] at h
  cases ho : k.body.f R (argsT args 0 .e) [] H with
  | bad => rw [ho] at h; cases h
  | nor T D H3 =>
    rw [ho] at h h1
    obtain ⟨m2, a2, w2, g1, g2, g3⟩ := h1
    exact out g1 g2 h (g3.trans (.one (stepR_end rfl)))
  | ext id T D H3 => rw [ho] at h; cases h
  | ret T D H3 =>
    rw [ho] at h h1
    obtain ⟨m2, a2, w2, K2, g1, g2, g3⟩ := h1
    exact out g1 g2 h (g3.trans (.one (stepR_ret rfl)))
end
end Go.Xq
namespace Go.Xq
section
variable {P : Program} {E : Env} {b : Frame} {cx : Cx}
theorem rangeEnd_ok {m : Ren} {H : AH} {w : World} {T : Tr AV} {D : List ADf} {a : Act} {l : Nat} {i : BI} {K : List Item} {cs : List Frame} (hr : Rel m H w) (hf : FrR cx m T D a) (hi : m l = some i) :
    OutOk P b cx K cs m H w (lone (b.atR a (.endRangeFunc i.blk :: K)) cs w) (cRangeEnd l T D H) := by
  unfold cRangeEnd
  split
  · rename_i q hg
    obtain ⟨y, hy, hor⟩ := hr.live _ _ hg _ hi
    cases hor with | loop _ tmps j _ ht hj =>
    have key : q.state ≠ .busy → ∀ K', step P (lone (b.atR a (.endRangeFunc i.blk :: K')) cs w) = .next (lone (b.atR a ((q.pending.map Item.code).toList ++ K')) cs (w.putObj i.blk (.loop { state := .exhausted, pending := q.pending, fn := q.fn, tmps, params := q.params.toArray, assign := q.assign, body := q.body, defers := j.blk }))) :=
      fun hb K' => stepR_endRangeFunc (run_endLoop hy hb)
    have hst : St m H w m (H.set l (.loop { q with state := .exhausted })) (w.putObj i.blk (.loop { state := .exhausted, pending := q.pending, fn := q.fn, tmps, params := q.params.toArray, assign := q.assign, body := q.body, defers := j.blk })) :=
      St.upd hr hg hi (OR.loop { q with state := .exhausted } tmps j i ht hj) rfl rfl rfl
    split
    · trivial
    · rename_i hb
      have hs := key hb K
      split
      · rename_i hp
        have hs' := hs
        rw [show (q.pending.map Item.code).toList = [] from by rw [hp]; rfl] at hs'
        exact ⟨m, a, _, hst, hf, .one hs'⟩
      · rename_i c hp
        rw [show (q.pending.map Item.code).toList = [.code c] from by rw [hp]; rfl] at hs
        split
        · exact ⟨m, a, _, K, hst, hf, .one hs⟩
        · exact ⟨m, a, _, K, hst, hf, rfl, .one hs⟩
        · trivial
  · trivial
theorem rangeRun_ok {R : Rec} (hR : RecOk P R) {m : Ren} {H : AH} {w w0 : World} {T : Tr AV} {D : List ADf} {a a' : Act} {f : Operand} {params : Array Tmp} {assign body : Code} {dfr : Nat} {j : BI} {mark : List Deferred} {K : List Item} {cs : List Frame}
    (hr : Rel m H w) (hf : FrR cx m T D a') (hj : m dfr = some j) (ha' : a' = { a with defers := mark ++ a.defers })
    (henter : (Instr.enterLoop b.fn a.tmps params assign body b.roundOf).run P w0 = .ok (w.heap.size, mark) (w.alloc (.loop { state := .ready, pending := none, fn := b.fn, tmps := a.tmps, params, assign, body, defers := j.blk }))) :
    OutOk P b cx K cs m H w (lone (b.atR a (.code (.rangeFunc f params assign body) :: K)) cs w0) (cRangeRun b.fn cx.n f params.toList assign body dfr R T D H) := by
  unfold cRangeRun
  split
  · rename_i q first cap hfv
    split
    · rename_i g
      let i : BI := ⟨w.heap.size, 0, 0, 0⟩
      let q0 : ALoop := { state := .ready, pending := none, fn := b.fn, tmps := T, ntmps := cx.n, params := params.toList, assign, body, defers := dfr }
      have hor : OR (m.ext H.next i) (.loop { state := .ready, pending := none, fn := b.fn, tmps := a'.tmps, params, assign, body, defers := j.blk }) (.loop q0) i := by
        have hle := hr.le (Ext.ext m H.next i)
        have := OR.loop q0 a'.tmps j i (hf.t.mono hle) (hle _ _ hj)
        simpa [q0] using this
      have htm : a'.tmps = a.tmps := by rw [ha']
      rw [htm] at hor
      have hst : St m H w (m.ext H.next i) (H.new (.loop q0)) (w.alloc (.loop { state := .ready, pending := none, fn := b.fn, tmps := a.tmps, params, assign, body, defers := j.blk })) := St.newBlk hr rfl rfl hor rfl rfl
      show OutOk P b cx K cs m H w _ (oc (R.call g (AV.app first (AV.cons (.fn (.yield H.next) .nil .nil) cap)) (H.new (.loop q0))) .bad fun r => cRangeEnd H.next T D r.2)
      cases hcall : R.call g (AV.app first (AV.cons (.fn (.yield H.next) .nil .nil) cap)) (H.new (.loop q0)) with
      | none => trivial
      | some p =>
        obtain ⟨v, H2⟩ := p
        obtain ⟨hen, hx⟩ := hR.call _ _ _ _ _ hcall
        have hev : a'.eval = a.eval := by funext x; cases x <;> simp [Act.eval, ha']
        have hfr := hf.er hr f _ hfv
        rw [hev] at hfr
        obtain ⟨g', va, vc, hq, hva, hvc, efv⟩ := hfr.fn_inv
        cases hq
        have hle := hr.le (Ext.ext m H.next i)
        have hargs : VL (m.ext H.next i) (AV.app first (AV.cons (.fn (.yield H.next) .nil .nil) cap)) (va ++ (.func (.yield w.heap.size) #[] #[] :: vc)) :=
          (hva.mono hle).app (.cons _ _ _ _ (.fn _ _ _ _ [] [] (.yield H.next i (Ren.ext_same _ _ _)) .nil .nil) (hvc.mono hle))
        let w1 : World := w.alloc (.loop { state := .ready, pending := none, fn := b.fn, tmps := a.tmps, params, assign, body, defers := j.blk })
        have harr : va.toArray ++ #[Value.func (.yield w.heap.size) #[] #[]] ++ vc.toArray = (va ++ (.func (.yield w.heap.size) #[] #[] :: vc)).toArray := by apply Array.toList_inj.1; simp
        have hstep : step P (lone (b.atR a (.code (.rangeFunc f params assign body) :: K)) cs w0) =
            .next (lone (Frame.enter P g (va ++ (.func (.yield w.heap.size) #[] #[] :: vc)).toArray .normal) (b.atR { a with defers := mark ++ a.defers } (.inRangeFunc w.heap.size :: K) :: cs) w1) := by
          refine stepR_rangeFunc (w₁' := w1) (d := { target := .fn (.func g) vc.toArray, args := va.toArray ++ #[Value.func (.yield w.heap.size) #[] #[]] }) henter ?_ ?_
          · have em : (#[Operand.const (.func (.yield w.heap.size) #[] #[])] : Array Operand).map a.eval = #[Value.func (.yield w.heap.size) #[] #[]] := by
              simp [Act.eval]
            simp only [resolve, efv, Deferred.ofValue, Sem.run_pure, em]
            rfl
          · simp only [invoke, harr]
            exact run_enter hen
        obtain ⟨v', w2, fr, ⟨m2, hst2, _⟩, hsteps, hk, _, hlv⟩ := hx (m.ext H.next i) w1 _ hst.rel hargs (b.atR { a with defers := mark ++ a.defers } (.inRangeFunc w.heap.size :: K) :: cs) (.inl rfl)
        have hleave := step_leave (cs := cs) (c := b.atR { a with defers := mark ++ a.defers } (.inRangeFunc w.heap.size :: K)) hlv hk
        rw [finish_atR_inRangeFunc] at hleave
        have hall := hst.trans hst2
        have hend := rangeEnd_ok (P := P) (b := b) (K := K) (cs := cs) hst2.rel (hf.mono (St.le hr hall)) (St.le hst.rel hst2 _ _ (Ren.ext_same m H.next i))
        rw [ha'] at hend
        exact OutOk.steps (.head hstep (hsteps.trans (.one hleave))) hall hend
    · trivial
  · trivial
end
end Go.Xq
namespace Go.Xq
section
variable {P : Program} {b : Frame} {cx : Cx}
theorem range_ok {rd : Option Nat} (hrd : cx.rd = rd) (hro : b.roundOf = cx.ro) {fid : Nat} (hfn : b.fn = fid) {f : Operand} {params : Array Tmp} {assign body : Code} :
    RKOk P b cx [.code (.rangeFunc f params assign body)] ⟨cRange fid cx.n rd f params.toList assign body⟩ := by
  intro R hR m H w T D a K cs hcs hr hf
  subst hfn hrd
  show OutOk P b cx K cs m H w _ (cRange b.fn cx.n cx.rd f params.toList assign body R T D H)
  unfold cRange
  rcases hf.r with ⟨h1, h2⟩ | ⟨l, i, h1, h2, h3⟩
  · rw [h1]
    let i : BI := ⟨w.heap.size, 0, 0, 0⟩
    have hst : St m H w (m.ext H.next i) (H.new (.dfr true)) (w.alloc (.deferred (some []))) := St.newBlk hr rfl rfl (.dfrT i) rfl rfl
    have hle := hr.le (Ext.ext m H.next i)
    have hen : (Instr.enterLoop b.fn a.tmps params assign body b.roundOf).run P w = .ok ((w.alloc (.deferred (some []))).heap.size, [{ target := .collected w.heap.size, args := #[] }])
        ((w.alloc (.deferred (some []))).alloc (.loop { state := .ready, pending := none, fn := b.fn, tmps := a.tmps, params, assign, body, defers := i.blk })) := by
      rw [hro, h2, run_enterLoop_outer, World.size_alloc]
    have hfm := hf.mono hle
    exact OutOk.steps (.refl P _) hst (rangeRun_ok (b := b) (cx := cx) (a := a) (K := K) (cs := cs) (f := f) hR hst.rel (a' := { a with defers := [{ target := .collected w.heap.size, args := #[] }] ++ a.defers })
      ⟨hfm.t, .cons _ _ _ _ (.mark _ i _ _ (Ren.ext_same _ _ _)) hfm.d, hfm.r⟩ (Ren.ext_same _ _ _) rfl hen)
  · rw [h1]
    show OutOk P b cx K cs m H w _ (match H.get l with
      | some (.loop q) => cRangeRun b.fn cx.n f params.toList assign body q.defers R T D H
      | _ => .bad)
    split
    · rename_i q hg
      obtain ⟨y, hy, hor⟩ := hr.live _ _ hg _ h2
      cases hor with | loop _ tmps j _ ht hj =>
      have hen : (Instr.enterLoop b.fn a.tmps params assign body b.roundOf).run P w = .ok (w.heap.size, []) (w.alloc (.loop { state := .ready, pending := none, fn := b.fn, tmps := a.tmps, params, assign, body, defers := j.blk })) := by
        rw [hro, h3, run_enterLoop_inner hy]
      exact rangeRun_ok (b := b) (cx := cx) (a := a) (K := K) (cs := cs) (f := f) hR hr (a' := a) hf hj rfl hen
    · trivial
end
end Go.Xq
