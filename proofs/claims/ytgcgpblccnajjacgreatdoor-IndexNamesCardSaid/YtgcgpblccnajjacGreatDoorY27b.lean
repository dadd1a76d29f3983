/- A part of the proof that what the evaluator answers is what the machine does. Its conditions stand in each theorem. -/
import Derived.Test.YtgcgpblccnajjacGreatDoorY26
import Derived.RangeFuncIn
import Derived.RangeFuncNested
namespace Go.Xq
section
variable {P : Program} {E : Env} {b : Frame} {cx : Cx}
/-- the end of a range over a function -/
theorem rangeEnd_ok {m : Ren} {H : AH} {w : World} {T : Tr AV} {D : List ADf} {a : Act} {l : Nat} {i : BI} {K : List Item} {cs : List Frame} (hr : Rel m H w) (hf : FrR cx m T D a) (hi : m l = some i) :
    OutOk P b cx K cs m H w (lone (b.atR a (.endRangeFunc i.blk :: K)) cs w) (cRangeEnd l T D H) := by
  unfold cRangeEnd
  split
  · rename_i q hg
    obtain ⟨y, hy, hor⟩ := hr.live _ _ hg _ hi
    cases hor with | loop _ tmps j _ ht hj =>
    have key : q.state ≠ .busy → ∀ K', step P (lone (b.atR a (.endRangeFunc i.blk :: K')) cs w) = .next (lone (b.atR a ((q.pending.map Item.code).toList ++ K')) cs (w.putObj i.blk (.loop { state := .exhausted, pending := q.pending, fn := q.fn, tmps, params := q.params.toArray, assign := q.assign, body := q.body, defers := j.blk }))) :=
      fun hb K' => stepR_endRangeFunc (run_endLoop hy hb)
    have hst : St m H w m (H.set l (.loop { q with state := .exhausted })) (w.putObj i.blk (.loop { state := .exhausted, pending := q.pending, fn := q.fn, tmps, params := q.params.toArray, assign := q.assign, body := q.body, defers := j.blk })) :=
      St.upd hr hg hi (OR.loop { q with state := .exhausted } tmps j i ht hj) rfl rfl rfl
    split
    · trivial
    · rename_i hb
      have hs := key hb K
      split
      · rename_i hp
        have hs' := hs
        rw [show (q.pending.map Item.code).toList = [] from by rw [hp]; rfl] at hs'
        exact ⟨m, a, _, hst, hf, .one hs'⟩
      · rename_i c hp
        rw [show (q.pending.map Item.code).toList = [.code c] from by rw [hp]; rfl] at hs
        split
        · exact ⟨m, a, _, K, hst, hf, .one hs⟩
        · exact ⟨m, a, _, K, hst, hf, rfl, .one hs⟩
        · trivial
  · trivial
/-- the call of the function that is ranged over, and the loop's end; the loop's record is laid here -/
theorem rangeRun_ok {R : Rec} (hR : RecOk P R) {m : Ren} {H : AH} {w w0 : World} {T : Tr AV} {D : List ADf} {a a' : Act} {f : Operand} {params : Array Tmp} {assign body : Code} {dfr : Nat} {j : BI} {mark : List Deferred} {K : List Item} {cs : List Frame}
    (hr : Rel m H w) (hf : FrR cx m T D a') (hj : m dfr = some j) (ha' : a' = { a with defers := mark ++ a.defers })
    (henter : (Instr.enterLoop b.fn a.tmps params assign body b.roundOf).run P w0 = .ok (w.heap.size, mark) (w.alloc (.loop { state := .ready, pending := none, fn := b.fn, tmps := a.tmps, params, assign, body, defers := j.blk }))) :
    OutOk P b cx K cs m H w (lone (b.atR a (.code (.rangeFunc f params assign body) :: K)) cs w0) (cRangeRun b.fn cx.n f params.toList assign body dfr R T D H) := by
  unfold cRangeRun
  split
  · rename_i q first cap hfv
    split
    · rename_i g
      let i : BI := ⟨w.heap.size, 0, 0, 0⟩
      let q0 : ALoop := { state := .ready, pending := none, fn := b.fn, tmps := T, ntmps := cx.n, params := params.toList, assign, body, defers := dfr }
      have hor : OR (m.ext H.next i) (.loop { state := .ready, pending := none, fn := b.fn, tmps := a'.tmps, params, assign, body, defers := j.blk }) (.loop q0) i := by
        have hle := hr.le (Ext.ext m H.next i)
        have := OR.loop q0 a'.tmps j i (hf.t.mono hle) (hle _ _ hj)
        simpa [q0] using this
      have htm : a'.tmps = a.tmps := by rw [ha']
      rw [htm] at hor
      have hst : St m H w (m.ext H.next i) (H.new (.loop q0)) (w.alloc (.loop { state := .ready, pending := none, fn := b.fn, tmps := a.tmps, params, assign, body, defers := j.blk })) := St.newBlk hr rfl rfl hor rfl rfl
      show OutOk P b cx K cs m H w _ (oc (R.call g (AV.app first (AV.cons (.fn (.yield H.next) .nil .nil) cap)) (H.new (.loop q0))) .bad fun r => cRangeEnd H.next T D r.2)
      cases hcall : R.call g (AV.app first (AV.cons (.fn (.yield H.next) .nil .nil) cap)) (H.new (.loop q0)) with
      | none => trivial
      | some p =>
        obtain ⟨v, H2⟩ := p
        obtain ⟨hen, hx⟩ := hR.call _ _ _ _ _ hcall
        have hev : a'.eval = a.eval := by funext x; cases x <;> simp [Act.eval, ha']
        have hfr := hf.er hr f _ hfv
        rw [hev] at hfr
        obtain ⟨g', va, vc, hq, hva, hvc, efv⟩ := hfr.fn_inv
        cases hq
        have hle := hr.le (Ext.ext m H.next i)
        have hargs : VL (m.ext H.next i) (AV.app first (AV.cons (.fn (.yield H.next) .nil .nil) cap)) (va ++ (.func (.yield w.heap.size) #[] #[] :: vc)) :=
          (hva.mono hle).app (.cons _ _ _ _ (.fn _ _ _ _ [] [] (.yield H.next i (Ren.ext_same _ _ _)) .nil .nil) (hvc.mono hle))
        let w1 : World := w.alloc (.loop { state := .ready, pending := none, fn := b.fn, tmps := a.tmps, params, assign, body, defers := j.blk })
        have harr : va.toArray ++ #[Value.func (.yield w.heap.size) #[] #[]] ++ vc.toArray = (va ++ (.func (.yield w.heap.size) #[] #[] :: vc)).toArray := by apply Array.toList_inj.1; simp
        have hstep : step P (lone (b.atR a (.code (.rangeFunc f params assign body) :: K)) cs w0) =
            .next (lone (Frame.enter P g (va ++ (.func (.yield w.heap.size) #[] #[] :: vc)).toArray .normal) (b.atR { a with defers := mark ++ a.defers } (.inRangeFunc w.heap.size :: K) :: cs) w1) := by
          refine stepR_rangeFunc (w₁' := w1) (d := { target := .fn (.func g) vc.toArray, args := va.toArray ++ #[Value.func (.yield w.heap.size) #[] #[]] }) henter ?_ ?_
          · have em : (#[Operand.const (.func (.yield w.heap.size) #[] #[])] : Array Operand).map a.eval = #[Value.func (.yield w.heap.size) #[] #[]] := by
              simp [Act.eval]
            simp only [resolve, efv, Deferred.ofValue, Sem.run_pure, em]
            rfl
          · simp only [invoke, harr]
            exact run_enter hen
        obtain ⟨v', w2, fr, ⟨m2, hst2, _⟩, hsteps, hk, _, hlv⟩ := hx (m.ext H.next i) w1 _ hst.rel hargs (b.atR { a with defers := mark ++ a.defers } (.inRangeFunc w.heap.size :: K) :: cs) (.inl rfl)
        have hleave := step_leave (cs := cs) (c := b.atR { a with defers := mark ++ a.defers } (.inRangeFunc w.heap.size :: K)) hlv hk
        rw [finish_atR_inRangeFunc] at hleave
        have hall := hst.trans hst2
        have hend := rangeEnd_ok (P := P) (b := b) (K := K) (cs := cs) hst2.rel (hf.mono (St.le hr hall)) (St.le hst.rel hst2 _ _ (Ren.ext_same m H.next i))
        rw [ha'] at hend
        exact OutOk.steps (.head hstep (hsteps.trans (.one hleave))) hall hend
    · trivial
  · trivial
end
end Go.Xq
