/- A part of the proof that what the evaluator answers is what the machine does. Its conditions stand in each theorem. -/
import Derived.Test.YtgcgpblccnajjacGreatDoorY27b
namespace Go.Xq
section
variable {P : Program} {b : Frame} {cx : Cx}
/-- a range over a function -/
theorem range_ok {rd : Option Nat} (hrd : cx.rd = rd) (hro : b.roundOf = cx.ro) {fid : Nat} (hfn : b.fn = fid) {f : Operand} {params : Array Tmp} {assign body : Code} :
    RKOk P b cx [.code (.rangeFunc f params assign body)] ⟨cRange fid cx.n rd f params.toList assign body⟩ := by
  intro R hR m H w T D a K cs hcs hr hf
  subst hfn hrd
  show OutOk P b cx K cs m H w _ (cRange b.fn cx.n cx.rd f params.toList assign body R T D H)
  unfold cRange
  rcases hf.r with ⟨h1, h2⟩ | ⟨l, i, h1, h2, h3⟩
  · rw [h1]
    let i : BI := ⟨w.heap.size, 0, 0, 0⟩
    have hst : St m H w (m.ext H.next i) (H.new (.dfr true)) (w.alloc (.deferred (some []))) := St.newBlk hr rfl rfl (.dfrT i) rfl rfl
    have hle := hr.le (Ext.ext m H.next i)
    have hen : (Instr.enterLoop b.fn a.tmps params assign body b.roundOf).run P w = .ok ((w.alloc (.deferred (some []))).heap.size, [{ target := .collected w.heap.size, args := #[] }])
        ((w.alloc (.deferred (some []))).alloc (.loop { state := .ready, pending := none, fn := b.fn, tmps := a.tmps, params, assign, body, defers := i.blk })) := by
      rw [hro, h2, run_enterLoop_outer, World.size_alloc]
    have hfm := hf.mono hle
    exact OutOk.steps (.refl P _) hst (rangeRun_ok (b := b) (cx := cx) (a := a) (K := K) (cs := cs) (f := f) hR hst.rel (a' := { a with defers := [{ target := .collected w.heap.size, args := #[] }] ++ a.defers })
      ⟨hfm.t, .cons _ _ _ _ (.mark _ i _ _ (Ren.ext_same _ _ _)) hfm.d, hfm.r⟩ (Ren.ext_same _ _ _) rfl hen)
  · rw [h1]
    show OutOk P b cx K cs m H w _ (match H.get l with
      | some (.loop q) => cRangeRun b.fn cx.n f params.toList assign body q.defers R T D H
      | _ => .bad)
    split
    · rename_i q hg
      obtain ⟨y, hy, hor⟩ := hr.live _ _ hg _ h2
      cases hor with | loop _ tmps j _ ht hj =>
      have hen : (Instr.enterLoop b.fn a.tmps params assign body b.roundOf).run P w = .ok (w.heap.size, []) (w.alloc (.loop { state := .ready, pending := none, fn := b.fn, tmps := a.tmps, params, assign, body, defers := j.blk })) := by
        rw [hro, h3, run_enterLoop_inner hy]
      exact rangeRun_ok (b := b) (cx := cx) (a := a) (K := K) (cs := cs) (f := f) hR hr (a' := a) hf hj rfl hen
    · trivial
end
end Go.Xq
