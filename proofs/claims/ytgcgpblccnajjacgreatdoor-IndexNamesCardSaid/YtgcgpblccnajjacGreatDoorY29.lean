/- A part of the proof that what the evaluator answers is what the machine does. Its conditions stand in each theorem. -/
import Derived.Test.YtgcgpblccnajjacGreatDoorY28
namespace Go.Xq
section
variable {P : Program} {E : Env}
/-! ### Rounds -/
theorem setParams_ok {n : Nat} {m : Ren} : ∀ (ps : List Nat) {args : AV} {T T2 : Tr AV} {ts : Array Value} {vs : List Value}, setParams n ps args T = some T2 → TR n m T ts → VL m args vs →
    vs.length = ps.length ∧ TR n m T2 ((ps.zip vs).foldl (fun t (x : Nat × Value) => t.setIfInBounds x.1 x.2) ts)
  | [], _, _, _, _, _, h, ht, hv => by
    cases hv with
    | nil => simp only [setParams, Option.some.injEq] at h; subst h; exact ⟨rfl, ht⟩
    | cons a v l vs h1 h2 => simp [setParams] at h
  | p :: r, _, _, _, _, _, h, ht, hv => by
    cases hv with
    | nil => simp [setParams] at h
    | cons a v l vs h1 h2 =>
      simp only [setParams, bt_some] at h
      obtain ⟨hp, h⟩ := h
      obtain ⟨g1, g2⟩ := setParams_ok r h (ht.put (by simpa [Nat.blt_eq] using hp) h1) h2
      exact ⟨by simp [g1], by simpa using g2⟩
theorem roundEnd_ok {jump : Option Code} {l : Nat} {H H2 : AH} {v : AV} {D : List ADf} (h : roundEnd l jump D H = some (v, H2)) {m : Ren} {w : World} {i : BI} (hr : Rel m H w) (hi : m l = some i) :
    ∃ v' w', (Instr.endRound i.blk jump).run P w = .ok v' w' ∧ Post m H w v H2 v' w' := by
  unfold roundEnd at h
  split at h
  · rename_i q hg
    simp only [Option.some.injEq, Prod.mk.injEq] at h
    obtain ⟨rfl, rfl⟩ := h
    obtain ⟨y, hy, hor⟩ := hr.live _ _ hg _ hi
    cases hor with | loop _ tmps j _ ht hj =>
    refine ⟨_, _, run_endRound jump hy, m, St.upd hr hg hi (OR.loop { q with state := if jump.isNone then .ready else .done, pending := jump } tmps j i ht hj) rfl rfl rfl, .bool _⟩
  · cases h
/-- what compK makes of any code is right -/
def CodeOk (P : Program) (E : Env) : Prop := ∀ (c : Code) (fid n : Nat) (rd : Option Nat) (k : RK), compK E fid n rd c = some k → ∀ (b : Frame) (cx : Cx), cx.n = n → cx.rd = rd → b.roundOf = cx.ro → cx.rd.isSome = cx.ro.isSome → b.fn = fid → RKOk P b cx [.code c] k
theorem round_ok (hC : CodeOk P E) {R : Rec} (hR : RecOk P R) {l : Nat} {args : AV} {H H2 : AH} {v : AV} (h : roundA E R l args H = some (v, H2)) {m : Ren} {w : World} {vs : List Value} {i : BI} (hr : Rel m H w) (hl : VL m args vs) (hi : m l = some i) :
    ∃ f tmps a b, (Instr.yield i.blk vs.toArray).run P w = .ok (.round i.blk f tmps a b) w ∧ XR P i.blk f tmps a b w (Post m H w v H2) := by
  unfold roundA at h
  split at h
  rotate_left
  · cases h
  rename_i q hg
  simp only [ob_some] at h
  obtain ⟨ka, hka, kb, hkb, T, hT, h⟩ := h
  obtain ⟨y, hy, hor⟩ := hr.live _ _ hg _ hi
  cases hor with | loop _ tmps j _ ht hj =>
  obtain ⟨hlen, hTR⟩ := setParams_ok _ hT ht hl
  have hyl := run_yield (P := P) (args := vs.toArray) hy (by simp [hlen])
  refine ⟨_, _, _, _, hyl, ?_⟩
  have etm : (q.params.toArray.zip vs.toArray).foldl (fun tmps (x : Nat × Value) => tmps.setIfInBounds x.1 x.2) tmps = (q.params.zip vs).foldl (fun t (x : Nat × Value) => t.setIfInBounds x.1 x.2) tmps := by
    rw [← Array.foldl_toList, Array.toList_zip]
  intro c cs
  let b : Frame := { (default : Frame) with fn := q.fn, kind := .normal, roundOf := some i.blk }
  let cx : Cx := ⟨q.ntmps, some l, some i.blk⟩
  let a0 : Act := { tmps := (q.params.toArray.zip vs.toArray).foldl (fun tmps (x : Nat × Value) => tmps.setIfInBounds x.1 x.2) tmps, defers := [] }
  have hb0 : Frame.round i.blk q.fn a0.tmps q.assign q.body .normal = b.atR a0 [.code q.assign, .beginRound, .code q.body] := by
    simp [Frame.round, Frame.atR, b, a0]
  have hoa := hC q.assign q.fn q.ntmps (some l) ka hka b cx rfl rfl rfl rfl rfl
  have hob := hC q.body q.fn q.ntmps (some l) kb hkb b cx rfl rfl rfl rfl rfl
  have hf0 : FrR cx m T [] a0 := ⟨by show TR q.ntmps m T ((q.params.toArray.zip vs.toArray).foldl (fun tmps (x : Nat × Value) => tmps.setIfInBounds x.1 x.2) tmps); rw [etm]; exact hTR, .nil, .inr ⟨l, i, rfl, hi, rfl⟩⟩
  have h1 := hoa R hR m H w T [] a0 [.beginRound, .code q.body] (c :: cs) (.inl rfl) hr hf0
  show ∃ v' w', Post m H w v H2 v' w' ∧ Steps P (lone (Frame.round i.blk q.fn a0.tmps q.assign q.body .normal) (c :: cs) w) (lone (c.finish v') cs w')
  rw [hb0]
  split at h
  rotate_left
  · cases h
  rename_i T1 D1 H1 hka1
  rw [hka1] at h1
  obtain ⟨m1, a1, w1, g1, g2, g3⟩ := h1
  unfold roundBody at h
  split at h
  rotate_left
  · cases h
  rename_i q1 hg1
  split at h
  rotate_left
  · cases h
  rename_i hready
  have hi1 := St.le hr g1 _ _ hi
  obtain ⟨y1, hy1, hor1⟩ := g1.rel.live _ _ hg1 _ hi1
  cases hor1 with | loop _ tmps1 j1 _ ht1 hj1 =>
  have hbr := run_beginRound (P := P) hy1 hready
  generalize hwb : w1.putObj i.blk (.loop { state := .busy, pending := q1.pending, fn := q1.fn, tmps := tmps1, params := q1.params.toArray, assign := q1.assign, body := q1.body, defers := j1.blk }) = wb at hbr
  have hst1 : St m1 H1 w1 m1 (H1.set l (.loop { q1 with state := .busy })) wb := by
    subst hwb
    exact St.upd g1.rel hg1 hi1 (OR.loop { q1 with state := .busy } tmps1 j1 i ht1 hj1) rfl rfl rfl
  have hs1 := stepR_beginRound (P := P) (b := b) (a := a1) (k := [.code q.body]) (cs := c :: cs) rfl hbr
  have hall := g1.trans hst1
  have h2 := hob R hR _ _ _ T1 D1 a1 [] (c :: cs) (.inl rfl) hst1.rel g2
  have pre := g3.trans (.one hs1)
  have fin : ∀ {jump : Option Code} {m3 : Ren} {D3 : List ADf} {H3 : AH} {w3 : World} {s : Machine}, St m1 (H1.set l (.loop { q1 with state := .busy })) wb m3 H3 w3 → roundEnd l jump D3 H3 = some (v, H2) →
      Steps P (lone (b.atR a1 ([.code q.body] ++ [])) (c :: cs) wb) s →
      (∀ v' w', (Instr.endRound i.blk jump).run P w3 = .ok v' w' → step P s = .next (lone (c.finish v') cs w')) →
      ∃ v' w', Post m H w v H2 v' w' ∧ Steps P (lone (b.atR a0 [.code q.assign, .beginRound, .code q.body]) (c :: cs) w) (lone (c.finish v') cs w') := by
    intro jump m3 D3 H3 w3 s hst hre hss hstep
    have hi3 := St.le hst1.rel hst _ _ hi1
    obtain ⟨v', w', k1, m4, k2, k3⟩ := roundEnd_ok (P := P) hre hst.rel hi3
    exact ⟨v', w', ⟨m4, (hall.trans hst).trans k2, k3⟩, pre.trans (hss.trans (.one (hstep v' w' k1)))⟩
  split at h
  · rename_i T2 D2 H3 e
    rw [e] at h2
    obtain ⟨m3, a3, w3, k1, k2, k3⟩ := h2
    exact fin k1 h k3 fun v' w' hr' => stepR_round_end rfl rfl hr'
  · rename_i T2 D2 H3 e
    rw [e] at h2
    obtain ⟨m3, a3, w3, K3, k1, k2, k3⟩ := h2
    exact fin k1 h k3 fun v' w' hr' => stepR_round_ret rfl rfl hr'
  · rename_i id T2 D2 H3 e
    rw [e] at h2
    obtain ⟨m3, a3, w3, K3, k1, k2, hx, k3⟩ := h2
    exact fin k1 h k3 fun v' w' hr' => stepR_round_exit rfl rfl (hx.trans rfl) hr'
  · cases h
end
end Go.Xq
