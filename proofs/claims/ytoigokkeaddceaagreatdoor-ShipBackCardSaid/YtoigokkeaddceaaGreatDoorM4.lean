/- A part of the proof of this seat's statement: what is particular to its program. Its conditions stand in each theorem. -/
import Derived.Test.YtoigokkeaddceaaGreatDoorL2
import Derived.Test.YtoigokkeaddceaaGreatDoorM2
import Derived.Test.YtoigokkeaddceaaGreatDoorM3
import Derived.Stop.Joined
import Derived.LaidMore
import Derived.SizedLaws
namespace Go.Proofs.YtoigokkeaddceaaGreatDoor
open Go.RowKit Go.Xq
theorem main_calls {W : World} {cs' : List Value} {d : Dl} {pv mv : AV} {cs : List (Int × AV)} {at_ : Int} {v2 : Value} {b2 : AV} {ts : List UInt8} (hL : laidMetH Tryz.prog Rows.shipBackRow.laid W) (hS : W.ShapedOpen Tryz.prog)
    (hv : VL (mI W.heap.size) (avl [.int .i64 d.engine, .int .i64 d.page, .int .i64 d.frm, .int .i64 d.to, pv, mv]) cs') (h : DlAt (HI W) d pv mv cs) (x2 : avOf W.heap.size v2 = some b2) (y2 : RdS (HI W) b2 ts) (hm : d.meta_.length < 4611686018427387904) (hp : d.pages.length < 4611686018427387904) (hpl : ∀ p ∈ d.pages, p.2.length < 4611686018427387904) :
    Calls Tryz.prog 5 #[.agg cs'.toArray, .int .i64 at_, v2] W fun e W' => e = .returned (.bool true) ∧ KeptAll W W' := by
  obtain ⟨hsz, a0, a1, hG⟩ := holds_start hL hS
  have h4 : 4 < ngl := by decide
  obtain ⟨_, hx⟩ := mainBack_ok (at_ := at_) hG (by rw [HI_next]; omega) h y2 hm hp hpl
  intro cs
  obtain ⟨v, w', fr, ⟨v2, H2, ⟨rfl, hk⟩, m2, hst, hv⟩, hs, hk', hfn, hl⟩ := hx (mI W.heap.size) W [.agg cs'.toArray, .int .i64 at_, v2] (rel_start hsz) (.cons _ _ _ _ (.agg _ _ hv) (.cons _ _ _ _ (.int _ _) (.cons _ _ _ _ (avOf_vr x2) .nil))) cs (.inl rfl)
  cases hv
  exact ⟨_, w', fr, ⟨rfl, kept_start hst fun b hb => hk.2 b (by rw [HI_next]; exact hb) id⟩, hs, hfn, hl.mode, hl.defers, hk', hl.fn⟩
end Go.Proofs.YtoigokkeaddceaaGreatDoor
namespace Go.Xq
theorem handed_and_sized {H : Type} {enc : TypeId × Value → H} {a : Assume} {C : Checked} {os : Os} {f : FuncId} {fn : Func} {s : ChangeSpec} {conds : List PathCond} {apart fresh handsOn again : Bool} {X : World → Array Value → Prop}
    (hX : ∀ (w w' : World) (args : Array Value), w.heap = w'.heap → X w args → X w' args)
    (own : ownKnob C.prog.godebug = none) (started : os.Started) (noInit : C.prog.inits.idxOf? f = none) (hfn : C.prog.funcs[f]? = some fn)
    (witness : ∃ (w : World) (tape : Tape) (i : Input), w.os = os ∧ (w.forCall tape i).Shaped C.prog ∧ i.vars = [] ∧ Input.okWide C.prog (w.forCall tape i) .any w.heap.size f i ∧
      ((s.pre enc C.prog fn conds apart (w.forCall tape i).memory i.args ∧ X (w.forCall tape i).memory i.args) ∧ sizedMet enc C.prog fn (OpenSpec.ofChange s) apart (w.forCall tape i).memory i.args) ∧ a.holds C.prog (lone (Frame.enter C.prog f i.args .normal) [] (w.forCall tape i)))
    (contract : ∀ (W : World) (base : Nat) (args : Array Value) (ds gs : List (DataW H)) (before : List MemPlace),
      (∀ (j : Nat) t v, fn.params[j]? = some t → args[j]? = some v → Value.okWide C.prog W .any base t v) →
      DataW.Whole enc C.prog fn.params.toList s.vars apart W args.toList ds gs before →
      (DataW.weightsEach C.prog (fn.params.toList ++ s.plain.varTypes C.prog) (ds ++ gs)).all (· ≤ reachBytes) = true →
      X W args → W.ShapedOpen C.prog →
      Calls C.prog f args W fun e W' => ∃ v, e = .returned v ∧ s.post enc C.prog fn apart fresh handsOn again W args v W') :
    ReturnsInHanded a C os f .any (fun w args => (s.pre enc C.prog fn conds apart w args ∧ X w args) ∧ sizedMet enc C.prog fn (OpenSpec.ofChange s) apart w args) (s.post enc C.prog fn apart fresh handsOn again) := by
  refine returnsInHanded_of_calls own started noInit witness ?_
  intro w tape i _ hsh _ hok hpre hholds
  obtain ⟨_, _, _, fn', hfn', _, _, _, _, hval⟩ := hok
  have e : fn' = fn := Option.some.inj (hfn'.symm.trans hfn)
  subst e
  obtain ⟨⟨⟨ds, gs, before, hw, hc⟩, hx⟩, hz⟩ := hpre
  have hw' := DataW.Whole.of_heap (w' := w.forCall tape i) (by rfl) hw
  refine (contract (w.forCall tape i) w.heap.size i.args ds gs before hval hw' (hz.weights hw) (hX _ _ _ (by rfl) hx) hsh).mono fun e W' ⟨v, he, hp⟩ => ?_
  subst he
  exact ChangeSpec.post_blind hp
end Go.Xq
