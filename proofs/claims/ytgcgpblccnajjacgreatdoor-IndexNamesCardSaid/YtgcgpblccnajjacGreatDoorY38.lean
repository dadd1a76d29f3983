/- A part of the proof that what the evaluator answers is what the machine does. Its conditions stand in each theorem. -/
import Derived.Test.YtgcgpblccnajjacGreatDoorY37
import Derived.ChangeSame
import Derived.Below
namespace Go.Xq
/-! ### From a run to a call -/
theorem XC.of_calls {P : Program} {f : FuncId} {args : Array Value} {w : World} {Q : Value → World → Prop} (h : Calls P f args w fun e w' => ∃ v, e = .returned v ∧ Q v w') : XC P .normal f args w Q := by
  intro cs _
  obtain ⟨e, w', fr, ⟨v, rfl, hq⟩, hc, hfn, hl⟩ := h cs
  obtain ⟨h1, h2, h3, h4⟩ := hl
  exact ⟨v, w', fr, hq, hc, h3, hfn, ⟨h1, h2, h4⟩⟩
theorem St.below {m : Ren} {H : AH} {w w' : World} (hr : Rel m H w) (h : RowKit.Below w.heap.size w w') : St m H w m H w' := by
  refine ⟨⟨fun b o hb i hi => ?_, hr.inj, fun b i hi => ⟨(hr.bnd b i hi).1, Nat.lt_of_lt_of_le (hr.bnd b i hi).2 h.size⟩, hr.glob⟩, Ext.refl _ _, Nat.le_refl _, h.os, h.output, h.size, fun k hk _ => h.block k hk, fun b i hi => .inr ⟨b, i, hi, rfl⟩⟩
  obtain ⟨x, h1, h2⟩ := hr.live b o hb i hi
  exact ⟨x, by rw [h.block _ (hr.bnd b i hi).2]; exact h1, h2⟩
/-- nothing that lay there has changed -/
structure KeptAll (w w' : World) : Prop where
  os : w'.os = w.os
  output : w'.output = w.output
  size : w.heap.size ≤ w'.heap.size
  block : ∀ k, k < w.heap.size → w'.heap[k]? = w.heap[k]?
theorem KeptAll.but {w w' : World} (h : KeptAll w w') (may : MemPlace → Prop) : w.keptBut w' may := by
  refine ⟨h.os, h.output, fun i hi => ?_⟩
  rw [h.block i hi]
  cases w.heap[i]? with
  | none => rfl
  | some o => cases o <;> simp
theorem calls_of_run {P : Program} {R : Rec} (hR : RecOk P R) {f : Nat} {H0 H2 : AH} (h : R.call f .nil H0 = some (.bool true, H2)) (w : World) : Calls P f #[] w fun e w' => e = .returned (.bool true) ∧ KeptAll w w' := by
  obtain ⟨_, hx⟩ := hR.call _ _ _ _ _ h
  intro cs
  have hrel : Rel (fun _ => none) H0 w := ⟨(fun _ _ _ _ hi => by cases hi), (fun _ _ _ _ _ _ _ _ hi => by cases hi), (fun _ _ hi => by cases hi), (fun g hg => absurd hg (Nat.not_lt_zero g))⟩
  obtain ⟨v, w', fr, ⟨m2, hst, hv⟩, hs, hk, hfn, hl⟩ := hx _ w [] hrel .nil cs (.inl rfl)
  have hv := hv.bool_inv
  subst hv
  exact ⟨_, w', fr, ⟨rfl, hst.os, hst.out, hst.size, fun k hk => hst.keep k hk fun b i hi => by cases hi⟩, hs, hfn, hl.mode, hl.defers, hk, hl.fn⟩
noncomputable def isT : Option (AV × AH) → Bool
  | some (.bool b, _) => b
  | _ => false
theorem isT_some {o : Option (AV × AH)} (h : isT o = true) : ∃ H2, o = some (.bool true, H2) := by
  unfold isT at h
  split at h
  · subst h; exact ⟨_, rfl⟩
  · cases h
/-- the end of a row without arguments: nothing that lay there has changed -/
theorem post_of_blank {H : Type} {enc : TypeId × Value → H} {P : Program} {f : Func} {s : ChangeSpec} {apart fresh handsOn again : Bool} {W W' : World} {args : Array Value} {v : Value} {ds gs : List (DataW H)}
    (hW : DataW.Whole enc P f.params.toList s.vars apart W args.toList ds gs [])
    (hres : ∀ (b : Nat) (sp : Nat → Bool) (hd : Bool), DataW.TrodAll enc P W' b sp hd f.resultTypes.toList (v.resultList f.resultTypes.size) (s.fn H (ds ++ gs)).results [])
    (hargs : ∀ sp : Nat → Bool, DataW.TrodAll enc P W' 0 sp true f.params.toList args.toList (s.fn H (ds ++ gs)).args [])
    (hvars : ∀ sp : Nat → Bool, DataW.TrodVars enc P W' sp s.vars (s.fn H (ds ++ gs)).vars [])
    (hk : KeptAll W W')
    (hok : ∀ (j : Nat) (t : TypeId) (r : Value), f.resultTypes[j]? = some t → (v.resultList f.resultTypes.size)[j]? = some r → Value.okWide P W' .any 0 t r) :
    s.post enc P f apart fresh handsOn again W args v W' := by
  refine ⟨ds, gs, [], [], [], [], hW, hres _ _ _, hargs _, hvars _, hk.but _, fun _ => ?_⟩
  obtain ⟨_, _, _, _, _, hz, hn⟩ := hW
  refine ⟨hok, _, _, [], ⟨[], [], ChangeShapes.trodAll_append (hargs _) (hres _ _ _), hvars _, rfl, ?_, ?_⟩, ?_⟩
  · intro b off hp; cases hp
  · intro ha; simp
  · intro p hp _; cases hp
end Go.Xq
