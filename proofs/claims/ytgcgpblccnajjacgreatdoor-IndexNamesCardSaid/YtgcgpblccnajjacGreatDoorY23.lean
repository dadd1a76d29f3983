/- A part of the proof that what the evaluator answers is what the machine does. Its conditions stand in each theorem. -/
import Derived.Test.YtgcgpblccnajjacGreatDoorY22
namespace Go.Xq
section
variable {P : Program} {b : Frame} {n : Cx}
theorem stepR_scope {c : Code} {a : Act} {K : List Item} {cs : List Frame} {w : World} : step P (lone (b.atR a (.code (.scope c) :: K)) cs w) = .next (lone (b.atR a (.code c :: .inScope c :: K)) cs w) :=
  step_lone_go (by simp [stepG, stepG.exec, Frame.atR])
theorem stepR_inScope {c : Code} {a : Act} {K : List Item} {cs : List Frame} {w : World} : step P (lone (b.atR a (.inScope c :: K)) cs w) = .next (lone (b.atR a K) cs w) :=
  step_lone_go (by simp [stepG, stepG.exec, Frame.atR])
/-- what is reached with one item more on the stack -/
theorem OutOk.pop {K : List Item} {cs : List Frame} {m : Ren} {H : AH} {w : World} {s0 : Machine} {out : Out} {it : Item} (hx : ∀ id, exitTo id (it :: K) = exitTo id K)
    (hn : ∀ a w2, Steps P (lone (b.atR a (it :: K)) cs w2) (lone (b.atR a K) cs w2)) (h : OutOk P b n (it :: K) cs m H w s0 out) : OutOk P b n K cs m H w s0 out := by
  cases out with
  | bad => trivial
  | nor T D H2 => obtain ⟨m2, a2, w2, g1, g2, g3⟩ := h; exact ⟨m2, a2, w2, g1, g2, g3.trans (hn a2 w2)⟩
  | ext id T D H2 => obtain ⟨m2, a2, w2, K2, g1, g2, g3, g4⟩ := h; exact ⟨m2, a2, w2, K2, g1, g2, g3.trans (hx id), g4⟩
  | ret T D H2 => obtain ⟨m2, a2, w2, K2, g1, g2, g3⟩ := h; exact ⟨m2, a2, w2, K2, g1, g2, g3⟩
theorem scope_ok {c : Code} {x : RK} (hx : RKOk P b n [.code c] x) : RKOk P b n [.code (.scope c)] x := by
  intro R hR m H w T D a K cs hcs hr hf
  have h1 := hx R hR m H w T D a (.inScope c :: K) cs hcs hr hf
  exact OutOk.pop (fun _ => rfl) (fun a w2 => .one stepR_inScope) (OutOk.steps (.one stepR_scope) (St.refl hr) h1)
/-! ### Loops -/
/-- rounds of a loop: from the loop's item on, to the loop's item, or out of it -/
def LpOk (P : Program) (b : Frame) (n : Cx) (c : Code) (f : Tr AV → List ADf → AH → Out) : Prop :=
  ∀ m H w T D a K cs, CsOk b.kind cs → Rel m H w → FrR n m T D a → OutOk P b n (.inLoop c :: K) cs m H w (lone (b.atR a (.inLoop c :: K)) cs w) (f T D H)
theorem LpOk.bind {c : Code} {f g : Tr AV → List ADf → AH → Out} (hf : LpOk P b n c f) (hg : LpOk P b n c g) : LpOk P b n c fun T D H => oOut (f T D H) g := by
  intro m H w T D a K cs hcs hr hfr
  have h1 := hf m H w T D a K cs hcs hr hfr
  show OutOk P b n _ cs m H w _ (oOut (f T D H) g)
  cases ho : f T D H with
  | bad => trivial
  | nor T2 D2 H2 =>
    rw [ho] at h1
    obtain ⟨m2, a2, w2, g1, g2, g3⟩ := h1
    exact OutOk.steps g3 g1 (hg m2 H2 w2 T2 D2 a2 K cs hcs g1.rel g2)
  | ext id T2 D2 H2 => rw [ho] at h1; exact h1
  | ret T2 D2 H2 => rw [ho] at h1; exact h1
theorem LpOk.iter {c : Code} {f : Tr AV → List ADf → AH → Out} (hf : LpOk P b n c f) : ∀ k, LpOk P b n c (iterA f k)
  | 0 => hf
  | k + 1 => (LpOk.iter hf k).bind (LpOk.iter hf k)
theorem LpOk.loop {c : Code} {f : Tr AV → List ADf → AH → Out} (hf : LpOk P b n c f) : ∀ fuel k, LpOk P b n c (loopA f fuel k)
  | 0, _ => fun _ _ _ _ _ _ _ _ _ _ _ => trivial
  | fuel + 1, k => (LpOk.iter hf k).bind (LpOk.loop hf fuel (k + 1))
theorem loopA_nor {f : Tr AV → List ADf → AH → Out} : ∀ fuel k T D H T2 D2 H2, loopA f fuel k T D H ≠ .nor T2 D2 H2
  | 0, _, _, _, _, _, _, _ => fun h => by cases h
  | fuel + 1, k, T, D, H, T2, D2, H2 => fun h => by
    simp only [loopA] at h
    cases ho : iterA f k T D H with
    | bad => rw [ho] at h; cases h
    | nor T3 D3 H3 => rw [ho] at h; exact loopA_nor fuel (k + 1) T3 D3 H3 T2 D2 H2 h
    | ext => rw [ho] at h; cases h
    | ret => rw [ho] at h; cases h
theorem loop_gen {c : Code} {x : RK} (hx : RKOk P b n [.code c] x) (fuel : Nat) : RKOk P b n [.code (.loop c)] ⟨fun R T D H => loopA (x.f R) (fuel + 1) 0 T D H⟩ := by
  intro R hR m H w T D a K cs hcs hr hf
  have body : LpOk P b n c (x.f R) := by
    intro m H w T D a K cs hcs hr hf
    exact OutOk.steps (.one stepR_inLoop) (St.refl hr) (hx R hR m H w T D a (.inLoop c :: K) cs hcs hr hf)
  have h1 : OutOk P b n (.inLoop c :: K) cs m H w (lone (b.atR a ([.code (.loop c)] ++ K)) cs w) (x.f R T D H) :=
    OutOk.steps (.one stepR_loop) (St.refl hr) (hx R hR m H w T D a (.inLoop c :: K) cs hcs hr hf)
  have first : OutOk P b n (.inLoop c :: K) cs m H w (lone (b.atR a ([.code (.loop c)] ++ K)) cs w) (loopA (x.f R) (fuel + 1) 0 T D H) := by
    rw [loopA]
    simp only [iterA]
    cases ho : x.f R T D H with
    | bad => trivial
    | nor T2 D2 H2 =>
      rw [ho] at h1
      obtain ⟨m2, a2, w2, g1, g2, g3⟩ := h1
      rw [oOut_nor]
      exact OutOk.steps g3 g1 (LpOk.loop body fuel (Nat.succ 0) m2 H2 w2 T2 D2 a2 K cs hcs g1.rel g2)
    | ext id T2 D2 H2 => rw [ho] at h1; rw [oOut_ext]; exact h1
    | ret T2 D2 H2 => rw [ho] at h1; rw [oOut_ret]; exact h1
  have hn := fun T2 D2 H2 => loopA_nor (f := x.f R) (fuel + 1) 0 T D H T2 D2 H2
  show OutOk P b n K cs m H w _ (loopA (x.f R) (fuel + 1) 0 T D H)
  revert first hn
  generalize loopA (x.f R) (fuel + 1) 0 T D H = out
  intro first hn
  cases out with
  | bad => trivial
  | nor T2 D2 H2 => exact absurd rfl (hn T2 D2 H2)
  | ext id T2 D2 H2 => exact first
  | ret T2 D2 H2 => exact first
theorem cLoop_eq (x : RK) : (⟨cLoop x⟩ : RK) = ⟨fun R T D H => loopA (x.f R) (39 + 1) 0 T D H⟩ := rfl
theorem loop_ok {c : Code} {x : RK} (hx : RKOk P b n [.code c] x) : RKOk P b n [.code (.loop c)] ⟨cLoop x⟩ := by
  rw [cLoop_eq]; exact loop_gen hx 39
end
end Go.Xq
