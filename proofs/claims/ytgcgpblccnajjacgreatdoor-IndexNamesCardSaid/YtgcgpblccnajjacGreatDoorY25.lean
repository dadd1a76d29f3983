/- A part of the proof that what the evaluator answers is what the machine does. Its conditions stand in each theorem. -/
import Derived.Test.YtgcgpblccnajjacGreatDoorY24
namespace Go.Xq
section
variable {P : Program} {E : Env} (hE : TyOk P E)
/-- one result of a function -/
def rdRes (ts : Array Value) (x : ResultVar) : Sem Value :=
  match x with
  | .tmp t => pure (ts.getD t undef)
  | .cell a t => do loadVar t (← asAddr (ts.getD a undef))
include hE
/-- the results of a function are read -/
theorem results_list {m : Ren} {H : AH} {w : World} {n : Nat} (hr : Rel m H w) {T : Tr AV} {ts : Array Value} (ht : TR n m T ts) : ∀ {l : List ResultVar} {k : ReK} {r : AV}, resultsK E l = some k → k.f T H = some r →
    ∃ vs, (l.mapM (rdRes ts)).run P w = .ok vs w ∧ VL m r vs
  | [], k, r, h, hk => by
    cases h; cases hk
    exact ⟨[], by simp, .nil⟩
  | x :: l, k, r, h, hk => by
    simp only [resultsK, ob_some] at h
    obtain ⟨k', h1, h⟩ := h
    have tm : ∀ t v, opnd (.tmp t) T = some v → VR m v (ts.getD t undef) := fun t v hv => ER.of (a := { tmps := ts, defers := [] }) hr.glob ht (.tmp t) v hv
    cases x with
    | tmp t =>
      simp only [Option.some.injEq] at h
      subst h
      simp only [ob_some, Option.some.injEq] at hk
      obtain ⟨v, h2, lv, h3, rfl⟩ := hk
      obtain ⟨vs, g1, g2⟩ := results_list hr ht h1 h3
      refine ⟨ts.getD t undef :: vs, ?_, .cons _ _ _ _ (tm t v h2) g2⟩
      rw [List.mapM_cons]
      simp only [rdRes, Sem.run_bind, Sem.run_pure, Result.andThen, g1]
    | cell a t =>
      simp only [ob_some, Option.some.injEq] at h
      obtain ⟨ld, hld, rfl⟩ := h
      simp only [ob_some, Option.some.injEq] at hk
      obtain ⟨p, h2, v, hv, lv, h3, rfl⟩ := hk
      obtain ⟨ad, v', hu, hrun, hvr⟩ := ldK_ok hE hld hr (tm a p h2) hv
      obtain ⟨vs, g1, g2⟩ := results_list hr ht h1 h3
      refine ⟨v' :: vs, ?_, .cons _ _ _ _ hvr g2⟩
      rw [List.mapM_cons]
      simp only [rdRes, Sem.run_bind, Sem.run_pure, Result.andThen, hu, run_asAddr, hrun, g1]
omit hE in
theorem results_eq (fn : Func) (ts : Array Value) : results fn ts = (do
    let vs ← fn.results.mapM (rdRes ts)
    pure (if h : vs.size = 1 then vs[0] else .tuple vs)) := by
  unfold results
  congr 1
theorem results_ok {m : Ren} {H : AH} {w : World} {n : Nat} (hr : Rel m H w) {T : Tr AV} {ts : Array Value} (ht : TR n m T ts) {fn : Func} {k : ReK} {r : AV} (h : resultsK E fn.results.toList = some k) (hk : k.f T H = some r) :
    ∃ v, (results fn ts).run P w = .ok v w ∧ VR m (resultA r) v := by
  obtain ⟨vs, h1, h2⟩ := results_list hE hr ht h hk
  have hm : (fn.results.mapM (rdRes ts)).run P w = .ok vs.toArray w := by
    rw [Array.mapM_eq_mapM_toList, Sem.run_map, h1]; rfl
  refine ⟨if h : vs.toArray.size = 1 then vs.toArray[0] else .tuple vs.toArray, ?_, ?_⟩
  · rw [results_eq]
    simp only [Sem.run_bind, hm, Result.andThen, Sem.run_pure]
  · cases h2 with
    | nil => exact .tup _ [] .nil
    | cons a v l vs hv hl =>
      cases hl with
      | nil => simpa [resultA] using hv
      | cons a2 v2 l2 vs2 hv2 hl2 =>
        rw [dif_neg (by simp)]
        exact .tup _ _ (.cons _ _ _ _ hv (.cons _ _ _ _ hv2 hl2))
end
end Go.Xq
