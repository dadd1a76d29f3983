/- A part of the proof that what the evaluator answers is what the machine does. Its conditions stand in each theorem. -/
import Derived.Test.YtgcgpblccnajjacGreatDoorY25
namespace Go.Xq
section
variable {P : Program} {E : Env} (hE : TyOk P E)
theorem argsT_get : ∀ {l : AV} {m : Ren} {vs : List Value} {i : Nat} {t : Tr AV} {k : Nat}, VL m l vs →
    (argsT l i t).get (bits k) = if i ≤ k ∧ k < i + vs.length then AV.nth (k - i) l else t.get (bits k)
  | _, _, _, i, t, k, .nil => by rw [if_neg (by simp)]; rfl
  | _, m, _, i, t, k, .cons a v l vs h hl => by
    show (argsT l (i + 1) (t.put (some a) (bits i))).get (bits k) = _
    rw [argsT_get hl]
    simp only [List.length_cons]
    by_cases e : k = i
    · subst e
      rw [if_neg (by omega), if_pos (by omega), Tr.get_put_same]
      simp [AV.nth, onCons]
    · rw [Tr.get_put_ne _ _ _ _ (bits_ne (Ne.symm e))]
      by_cases h1 : i + 1 ≤ k ∧ k < i + 1 + vs.length
      · rw [if_pos h1, if_pos (by omega)]
        obtain ⟨j, rfl⟩ : ∃ j, k = i + 1 + j := ⟨k - (i + 1), by omega⟩
        rw [show i + 1 + j - i = j + 1 from by omega, show i + 1 + j - (i + 1) = j from by omega]
        simp [AV.nth, onCons]
      · rw [if_neg h1, if_neg (by omega)]
theorem argsT_ok {m : Ren} {l : AV} {vs : List Value} {n : Nat} (h : VL m l vs) (hn : vs.length ≤ n) : TR n m (argsT l 0 .e) (vs.toArray ++ Array.replicate (n - vs.length) undef) := by
  refine ⟨by simp; omega, fun t => ?_⟩
  rw [argsT_get h]
  by_cases ht : t < vs.length
  · rw [if_pos (by omega), Nat.sub_zero]
    obtain ⟨a, ha⟩ := h.nth_ex ht
    obtain ⟨u, hu, hv⟩ := h.nth ha
    rw [ha]
    have : (vs.toArray ++ Array.replicate (n - vs.length) undef).getD t undef = u := by
      rw [Array.getD_eq_getD_getElem?, Array.getElem?_append_left (by simpa using ht)]
      simp [hu]
    rw [this]; exact hv
  · rw [if_neg (by omega), Tr.get_e]
    have : (vs.toArray ++ Array.replicate (n - vs.length) undef).getD t undef = undef := by
      rw [Array.getD_eq_getD_getElem?, Array.getElem?_append_right (by simp; omega)]
      rw [Array.getElem?_replicate]
      split <;> rfl
    rw [this]; exact undef_ok m
include hE
/-- a function: its body, what it deferred, its results -/
theorem body_ok {R : Rec} (hR : RecOk P R) {f : FuncId} {fn : Func} {c : Code} {k : FnK} {kind : CallKind} (hfn : P.funcs[f]? = some fn) (hc : fn.body = some c) (hnt : k.ntmps = fn.ntmps) (hres : resultsK E fn.results.toList = some k.res)
    (hbody : RKOk P { (default : Frame) with fn := f, kind, roundOf := none } ⟨k.ntmps, none, none⟩ [.code c] k.body) {m : Ren} {H H2 : AH} {w : World} {args v : AV} {vs : List Value} (hr : Rel m H w) (hl : VL m args vs) (hlen : AV.len args ≤ k.ntmps)
    (h : bodyA k R args H = some (v, H2)) : XC P kind f vs.toArray w (Post m H w v H2) := by
  intro cs hcs
  let b : Frame := { (default : Frame) with fn := f, kind, roundOf := none }
  have hlen2 : vs.length ≤ k.ntmps := by rw [← hl.len]; exact hlen
  let a0 : Act := { tmps := vs.toArray ++ Array.replicate (k.ntmps - vs.length) undef, defers := [] }
  have henter : Frame.enter P f vs.toArray kind = b.atR a0 ([.code c] ++ []) := by
    simp only [Frame.enter, hfn, hc, Option.map_some, Option.getD_some, Option.bind_some, Frame.atR, b, a0, hnt, List.size_toArray]
    rfl
  have h1 := hbody R hR m H w (argsT args 0 .e) [] a0 [] cs hcs hr ⟨argsT_ok hl hlen2, .nil, .inl ⟨rfl, rfl⟩⟩
  -- the way out
  have out : ∀ {m2 : Ren} {T : Tr AV} {D : List ADf} {H3 : AH} {a2 : Act} {w2 : World} {todo : List Item}, St m H w m2 H3 w2 → FrR ⟨k.ntmps, none, none⟩ m2 T D a2 → endA k R T D H3 = some (v, H2) →
      Steps P (lone (b.atR a0 ([.code c] ++ [])) cs w) (lone { b.atR a2 todo with mode := .returning } cs w2) →
      ∃ v' w' fr, Post m H w v H2 v' w' ∧ Steps P (lone (Frame.enter P f vs.toArray kind) cs w) (lone fr cs w') ∧ fr.kind = kind ∧ fr.fn = f ∧ Leaves P fr w' v' := by
    intro m2 T D H3 a2 w2 todo hst hf hend hsteps
    simp only [endA, ob_some, Option.some.injEq, Prod.mk.injEq] at hend
    obtain ⟨H4, hd, r, hrr, rfl, rfl⟩ := hend
    obtain ⟨m3, w3, g1, g2⟩ := defers_ok hR (fr := { b.atR a2 todo with mode := .returning }) (cs := cs) hst.rel hf.d hd rfl rfl
    obtain ⟨v', q1, q2⟩ := results_ok hE g1.rel (hf.t.mono (St.le hst.rel g1)) hres hrr
    refine ⟨v', w3, { ({ b.atR a2 todo with mode := .returning } : Frame) with defers := [] }, ⟨m3, hst.trans g1, q2⟩, ?_, ?_, ?_, ⟨rfl, rfl, fn, hfn, q1⟩⟩
    · rw [henter]; exact hsteps.trans g2
    · rfl
    · rfl
  simp only [bodyA] at h
  cases ho : k.body.f R (argsT args 0 .e) [] H with
  | bad => rw [ho] at h; cases h
  | nor T D H3 =>
    rw [ho] at h h1
    obtain ⟨m2, a2, w2, g1, g2, g3⟩ := h1
    exact out g1 g2 h (g3.trans (.one (stepR_end rfl)))
  | ext id T D H3 => rw [ho] at h; cases h
  | ret T D H3 =>
    rw [ho] at h h1
    obtain ⟨m2, a2, w2, K2, g1, g2, g3⟩ := h1
    exact out g1 g2 h (g3.trans (.one (stepR_ret rfl)))
end
end Go.Xq
