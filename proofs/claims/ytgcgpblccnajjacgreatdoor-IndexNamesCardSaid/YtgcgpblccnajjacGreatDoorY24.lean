/- A part of the proof that what the evaluator answers is what the machine does. Its conditions stand in each theorem. -/
import Derived.Test.YtgcgpblccnajjacGreatDoorY23
import Derived.RangeFuncLeaves
namespace Go.Xq
section
variable {P : Program} {E : Env}
theorem run_take {w : World} {r : Nat} {ds : List Deferred} (h : w.heap[r]? = some (.deferred (some ds))) : (Instr.takeDeferred r).run P w = .ok ds { w with heap := w.heap.setIfInBounds r (.deferred none) } := by
  simp only [Instr.takeDeferred, Sem.run_bind, run_getObj h (by simp), Result.andThen, run_setObj _ h (by simp), Sem.run_pure]
/-- a frame that is on its way out carries out what was deferred -/
theorem defers_ok {R : Rec} (hR : RecOk P R) : ∀ {D : List ADf} {ds : List Deferred} {m : Ren} {H H2 : AH} {w : World} {fr : Frame} {cs : List Frame}, Rel m H w → DfR m D ds → deferA R D H = some H2 → fr.mode = .returning → fr.defers = ds →
    ∃ m2 w2, St m H w m2 H2 w2 ∧ Steps P (lone fr cs w) (lone { fr with defers := [] } cs w2)
  | [], _, m, H, H2, w, fr, cs, hr, .nil, h, hm, hd => by
    cases h
    refine ⟨m, w, St.refl hr, ?_⟩
    rw [← hd]
    exact .refl P _
  | x :: D, _, m, H, H2, w, fr, cs, hr, .cons _ d _ ds hx hl, h, hm, hd => by
    cases hx with
    | mark k i f args hk =>
      simp only [deferA, ob_some] at h
      obtain ⟨o, h1, h⟩ := h
      split at h
      · split at h
        · obtain ⟨y, hy, hor⟩ := hr.live _ _ h1 _ hk
          cases hor
          have hst := St.upd (w2 := { w with heap := w.heap.setIfInBounds i.blk (.deferred none) }) hr h1 hk (.dfrF i) rfl rfl rfl
          have hs := step_collected (cs := cs) (by rw [hm]; simp) hd rfl (run_take (P := P) hy)
          obtain ⟨m2, w2, g1, g2⟩ := defers_ok hR (fr := { fr with defers := ds }) (cs := cs) hst.rel (hl.mono (St.le hr hst)) h hm rfl
          exact ⟨m2, w2, hst.trans g1, .head hs g2⟩
        · cases h
      · cases h
    | call q g first cap args vc vs hf hc ha =>
      simp only [deferA] at h
      split at h
      · rename_i g1
        cases hf
        simp only [ob_some] at h
        obtain ⟨⟨v, H1⟩, h1, h⟩ := h
        obtain ⟨hen, hcall⟩ := hR.dcall _ _ _ _ _ h1
        have hinv : (invoke (.fn (.func g1) vc.toArray) vs.toArray).run P w = .ok (.enter g1 (vs ++ vc).toArray) w := by
          have e : vs.toArray ++ vc.toArray = (vs ++ vc).toArray := by simp
          simp only [invoke, e]
          exact run_enter hen
        have hs := step_defer (P := P) (cs := cs) (by rw [hm]; simp) hd rfl hinv
        obtain ⟨v', w1, fr1, ⟨m1, hst, _⟩, hsteps, hk, _, hlv⟩ := hcall m w _ hr (ha.app hc) ({ fr with defers := ds } :: cs) (.inr ⟨rfl, _, _, rfl, hm⟩)
        have hs2 := step_leave_deferred (cs := cs) (c := { fr with defers := ds }) hlv hk hm
        obtain ⟨m2, w2, g1', g2⟩ := defers_ok hR (fr := { fr with defers := ds }) (cs := cs) hst.rel (hl.mono (St.le hr hst)) h hm rfl
        exact ⟨m2, w2, hst.trans g1', .head hs (hsteps.trans (.head hs2 g2))⟩
      · cases h
end
end Go.Xq
