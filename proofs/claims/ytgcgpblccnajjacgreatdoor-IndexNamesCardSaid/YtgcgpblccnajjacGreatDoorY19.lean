/- A part of the proof that what the evaluator answers is what the machine does. Its conditions stand in each theorem. -/
import Derived.Test.YtgcgpblccnajjacGreatDoorY18
namespace Go.Xq
/-- what the functions without a body answer -/
def ExtOk (P : Program) (E : Env) : Prop :=
  ∀ g args H v, E.ext g args H = some v → ∀ m w vs, Rel m H w → VL m args vs → ∃ v', (callFunc g vs.toArray).run P w = .ok (.value v') w ∧ VR m v v'
section
variable {P : Program} {E : Env} (hE : TyOk P E) (hX : ExtOk P E) {o : Oper} {R : Rec} (hR : RecOk P R)
theorem Outc.congr {s s' : Sem Next} {w w2 : World} {Q : Value → World → Prop} (h : s.run P w = s'.run P w2) (ho : Outc P s' w2 Q) : Outc P s w Q := by
  cases ho with
  | value v w' h1 h2 => exact .value v w' (h.trans h1) h2
  | skip w' h1 h2 => exact .skip w' (h.trans h1) h2
  | enter f args w1 h1 h2 => exact .enter f args w1 (h.trans h1) h2
  | round l f tmps a b w1 h1 h2 => exact .round l f tmps a b w1 (h.trans h1) h2
theorem run_enter {f : FuncId} {args : Array Value} {w : World} (h : Enters P f) : (callFunc f args).run P w = .ok (.enter f args) w := by
  obtain ⟨fn, h1, h2, h3⟩ := h
  simp only [callFunc, Sem.run_bind, run_program, Result.andThen, h1, h2, h3, Bool.false_eq_true, if_false]
  rfl
include hR in
theorem call_ok {m : Ren} {H H2 : AH} {w : World} (hr : Rel m H w) {g : Nat} {l v : AV} {vs : List Value} (hl : VL m l vs) (h : R.call g l H = some (v, H2)) : Outc P (callFunc g vs.toArray) w (Post m H w v H2) := by
  obtain ⟨h1, h2⟩ := hR.call _ _ _ _ _ h
  exact .enter _ _ w (run_enter h1) (h2 m w vs hr hl)
include hX hR in
theorem callFA_ok {m : Ren} {H H2 : AH} {w : World} (hr : Rel m H w) {g : Nat} {l v : AV} {vs : List Value} (hl : VL m l vs) (h : callFA E R H g l = some (v, H2)) : Outc P (callFunc g vs.toArray) w (Post m H w v H2) := by
  simp only [callFA] at h
  cases he : E.ext g l H with
  | none => rw [he] at h; exact call_ok hR hr hl h
  | some x =>
    rw [he] at h
    simp only [oc_some, Option.some.injEq, Prod.mk.injEq] at h
    obtain ⟨rfl, rfl⟩ := h
    obtain ⟨v', h1, h2⟩ := hX _ _ _ _ he m w vs hr hl
    exact .value v' w h1 ⟨m, St.refl hr, h2⟩
include hE hR in
theorem callMA_ok {m : Ren} {H H2 : AH} {w : World} (hr : Rel m H w) {r l v : AV} {name : String} {rv : Value} {vs : List Value} (hv : VR m r rv) (hl : VL m l vs) (h : callMA E R H r name l = some (v, H2)) :
    Outc P (callMethod rv name vs.toArray) w (Post m H w v H2) := by
  simp only [callMA, onIfc_some, reduceCtorEq, and_false, false_or, ob_some] at h
  obtain ⟨t, a, rfl, k, hk, x, hx, h⟩ := h
  obtain ⟨u, hu, rfl⟩ := hv.ifc_inv
  obtain ⟨xv, h1, h2⟩ := method_ok hE hr hk hu hx (P.types.size + 99)
  refine Outc.congr ?_ (call_ok hR hr (VL.cons _ _ _ _ h2 hl) h)
  have h1' : (method (P.types.size + Made.depth) t u name).run P w = .ok (k.fid, xv) w := h1
  simp only [callMethod, Sem.run_bind, run_program, Result.andThen, h1']
  congr 2
  simp
include hE hX hR in
theorem callVA_ok {m : Ren} {H H2 : AH} {w : World} (hr : Rel m H w) {f l v : AV} {fv : Value} {vs : List Value} (hv : VR m f fv) (hl : VL m l vs) (h : callVA E R H f l = some (v, H2)) :
    Outc P (do let d ← Deferred.ofValue fv vs.toArray; invoke d.target d.args) w (Post m H w v H2) := by
  simp only [callVA, onFn_some] at h
  obtain ⟨q, first, cap, rfl, h⟩ := h
  obtain ⟨g, va, vc, hf, ha, hc, rfl⟩ := hv.fn_inv
  split at h
  · rename_i g'
    cases hf
    refine Outc.congr ?_ (callFA_ok hX hR hr (ha.app (hl.app hc)) h)
    simp only [Deferred.ofValue, Sem.run_bind, Sem.run_pure, Result.andThen, invoke]
    congr 2
    simp
  · rename_i l'
    cases hf with
    | same f h' => exact absurd rfl (h' _)
    | yield l i hi =>
      obtain ⟨f, tmps, a, b, h1, h2⟩ := hR.round _ _ _ _ _ h m w _ i hr (ha.app hl) hi
      refine .round i.blk f tmps a b w ?_ h2
      simp only [Deferred.ofValue, Sem.run_bind, Sem.run_pure, Result.andThen, invoke]
      have e : va.toArray ++ vs.toArray = (va ++ vs).toArray := by simp
      rw [e]; exact h1
  · rename_i name
    cases hf
    simp only [onCons_some, reduceCtorEq, and_false, false_or] at h
    obtain ⟨r, rest, e, h⟩ := h
    have hall := ha.app hl
    rw [e] at hall
    generalize hz : va ++ vs = zs at hall
    cases hall with | cons _ rv _ rest' hrv hrest =>
    refine Outc.congr ?_ (callMA_ok hE hR hr hrv hrest h)
    have e2 : va.toArray ++ vs.toArray = (rv :: rest').toArray := by rw [← hz]; simp
    simp only [Deferred.ofValue, Sem.run_bind, Sem.run_pure, Result.andThen, invoke, e2]
    have e3 : ((rv :: rest').toArray)[0]? = some rv := rfl
    have e4 : ((rv :: rest').toArray).extract 1 ((rv :: rest').toArray).size = rest'.toArray := by
      apply Array.toList_inj.1; simp
    simp only [e3, e4]
  · cases h
theorem run_map_ops {m : Ren} {T : Tr AV} {ρ : Operand → Value} (he : ER m T ρ) {args : Array Operand} {l : AV} (h : (opnds args.toList).f T = some l) : VL m l (args.map ρ).toList := by
  rw [Array.toList_map]; exact opnds_ok he h
include hE hX in
theorem heavyCall_ok {c : Call} {k : HvK} (h : heavyCall E c = some k) (ho : o.op = .call c) : HvOk P k o := by
  unfold heavyCall at h
  split at h
  · rename_i f0 hc
    split at h
    · rename_i g
      cases h
      intro R hR m H w T ρ v H2 hr he hk
      simp only [hvCallF, ob_some] at hk
      obtain ⟨l, hl, hk⟩ := hk
      have hvl := run_map_ops he hl
      refine Outc.congr ?_ (callFA_ok hX hR hr hvl hk)
      have hf : VR m (.fn (.func g) .nil .nil) (ρ (.func g)) := he (.func g) _ rfl
      obtain ⟨q, va, vc, hq, ha, hcc, e⟩ := hf.fn_inv
      cases hq; cases ha; cases hcc
      simp only [execOp, ho, resolve, hc, e, Deferred.ofValue, Sem.run_bind, Sem.run_pure, Result.andThen, invoke]
      congr 2
      apply Array.toList_inj.1; simp
    · rename_i fx hf
      cases h
      intro R hR m H w T ρ v H2 hr he hk
      simp only [hvCallV, ob_some] at hk
      obtain ⟨fa, hfa, l, hl, hk⟩ := hk
      refine Outc.congr ?_ (callVA_ok hE hX hR hr (he f0 fa hfa) (run_map_ops he hl) hk)
      simp only [execOp, ho, resolve, hc, Array.toArray_toList]
  · rename_i r name hc
    cases h
    intro R hR m H w T ρ v H2 hr he hk
    simp only [hvInvoke, ob_some] at hk
    obtain ⟨a, ha, l, hl, hk⟩ := hk
    refine Outc.congr ?_ (callMA_ok hE hR hr (he r a ha) (run_map_ops he hl) hk)
    simp only [execOp, ho, resolve, hc, Array.toArray_toList, Sem.run_bind, Sem.run_pure, Result.andThen, invoke]
    have e3 : (#[ρ r] ++ c.args.map ρ)[0]? = some (ρ r) := by rw [Array.getElem?_append_left (by exact Nat.one_pos)]; rfl
    have e4 : (#[ρ r] ++ c.args.map ρ).extract 1 (#[ρ r] ++ c.args.map ρ).size = c.args.map ρ := by
      apply Array.toList_inj.1
      simp only [Array.toList_extract, Array.toList_append, List.singleton_append, List.extract_eq_take_drop, List.drop_succ_cons, List.drop_zero]
      exact List.take_of_length_le (by simp)
    simp only [e3, e4]
  · rename_i b hc
    split at h
    · split at h
      · rename_i ha ht; exact hv_append hE h ho hc ha ht
      · cases h
    · split at h
      · rename_i ha ht
        simp only [hvCopyK, ob_some] at h
        obtain ⟨ti, h1, h⟩ := h
        split at h
        · rename_i hd
          simp only [ob_some, Option.some.injEq] at h
          obtain ⟨te, h3, rfl⟩ := h
          exact hv_copy hE h1 hd h3 ho hc ha ht
        · cases h
      · cases h
    · split at h
      · rename_i ha ht; exact hv_clear hE h ho hc ha ht
      · cases h
    · split at h
      · rename_i ha ht
        simp only [deleteK, ob_some] at h
        obtain ⟨ti, h1, h⟩ := h
        split at h
        · rename_i hd
          simp only [ob_some, Option.some.injEq] at h
          obtain ⟨q, hq, rfl⟩ := h
          exact hv_delete hE h1 hd hq ho hc ha ht
        · cases h
      · cases h
    · cases h
include hE in
theorem mapSetK_ok {t : Nat} {x k v : Operand} {g : HvK} (h : mapSetK E t x k v = some g) (ho : o.op = .mapUpdate t x k v ∨ o.op = .insert t x k v) : HvOk P g o := by
  simp only [mapSetK, ob_some] at h
  obtain ⟨ti, h1, h⟩ := h
  split at h
  · rename_i hd
    simp only [ob_some, Option.some.injEq] at h
    obtain ⟨q, hq, rfl⟩ := h
    exact hv_mapSet hE h1 hd hq ho
  · cases h
include hE hX in
theorem heavyK_ok {k : HvK} (h : heavyK E o.op = some k) : HvOk P k o := by
  unfold heavyK at h
  split at h
  · rename_i ho; simp only [ob_some, Option.some.injEq] at h; obtain ⟨g, hg, rfl⟩ := h; exact hv_store hE hg ho
  · rename_i ho; exact mapSetK_ok hE h (.inl ho)
  · rename_i ho; exact mapSetK_ok hE h (.inr ho)
  · rename_i ho
    split at h
    · cases h; exact hv_next ho
    · cases h
  · rename_i s d x ho
    split at h
    · rename_i he
      have he := Nat.eq_of_beq_eq_true he
      subst he
      simp only [ob_some] at h
      obtain ⟨ts, h1, h⟩ := h
      split at h
      · rename_i hd
        simp only [ob_some] at h
        obtain ⟨te, h3, h⟩ := h
        split at h
        · rename_i hb; cases h; exact hv_same hE h1 hd h3 hb ho
        · cases h
      · cases h
    · cases h
  · rename_i ho
    simp only [ob_some] at h
    obtain ⟨ti, h1, h⟩ := h
    split at h
    · rename_i hd; cases h; exact hv_range hE h1 hd ho
    · cases h
  · rename_i c ho; exact heavyCall_ok hE hX h ho
  · cases h
end
end Go.Xq
