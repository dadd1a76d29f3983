/- A part of the proof of this seat's statement. Conditions: in each theorem. -/
import Derived.Test.YtnodjhgmghkikaaGreatW10
namespace Go.Xq
section
variable {P : Program} {E : Env} (hE : TyOk P E) {o : Oper}
inductive PlR (m : Ren) : Bool → AV → Place → Prop
  | val (x : AV) (v : Value) (h : VR m x v) : PlR m false x (.val v)
  | var (b off : Nat) (i : BI) (h : m b = some i) : PlR m true (.ptr b off) (.var ⟨i.blk, i.base + off, none⟩)
theorem run_asAddr {a : Addr} {w : World} : (asAddr (.pointer (some a))).run P w = .ok a w := rfl
include hE
theorem follow_ok {m : Ren} {H : AH} {w : World} (hr : Rel m H w) : ∀ {path : List FieldStep} {t : Nat} {var : Bool} {k : FoK} {t2 : Nat} {var2 : Bool} {x x2 : AV} {pl : Place},
    followK E path t var = some (k, t2, var2) → PlR m var x pl → k.f H x = some x2 → ∃ pl2, (follow path t pl).run P w = .ok (t2, pl2) w ∧ PlR m var2 x2 pl2
  | [], t, var, k, t2, var2, x, x2, pl, h, hp, hk => by
    simp only [followK, Option.some.injEq, Prod.mk.injEq] at h
    obtain ⟨rfl, rfl, rfl⟩ := h
    cases hk
    exact ⟨pl, by simp [follow], hp⟩
  | s :: r, t, var, k, t2, var2, x, x2, pl, h, hp, hk => by
    simp only [followK, ob_some] at h
    obtain ⟨ts, h1, fd, h2, tf, h3, h⟩ := h
    obtain ⟨fs, hd, hfs⟩ := fields_of h1 h2
    split at h
    · -- a pointer's target
      rename_i hde
      split at h
      · cases h
      · rename_i n hn
        simp only [ob_some, Option.some.injEq, Prod.mk.injEq] at h
        obtain ⟨⟨k1, t1, v1⟩, h4, rfl, rfl, rfl⟩ := h
        cases hp with | val x v hv =>
        simp only at hk
        split at hk
        · rename_i b off
          obtain ⟨i, hi, rfl⟩ := hv.ptr_inv
          obtain ⟨pl2, q1, q2⟩ := follow_ok hr h4 (PlR.var b (off + fd.offset) i hi) hk
          refine ⟨pl2, ?_, q2⟩
          simp only [follow, Sem.run_bind, run_underlying hE h1, Result.andThen, hd, hfs, hde, if_true, Place.get, Sem.run_pure, run_asAddr, fieldPlace_ok hE h3 hn, Nat.add_assoc]
          exact q1
        · cases hk
    · rename_i hde
      split at h
      · cases h
      · rename_i n hn
        simp only [ob_some, Option.some.injEq, Prod.mk.injEq] at h
        obtain ⟨ld, hld, ⟨k1, t1, v1⟩, h4, rfl, rfl, rfl⟩ := h
        cases hp with | var b0 off0 i0 hi0 =>
        simp only [ob_some] at hk
        obtain ⟨p, hp1, hk⟩ := hk
        obtain ⟨a, v', hu, hrun, hv⟩ := ldK_ok hE hld hr (.ptr b0 off0 i0 hi0) hp1
        cases hu
        split at hk
        · rename_i b off
          obtain ⟨i, hi, rfl⟩ := hv.ptr_inv
          obtain ⟨pl2, q1, q2⟩ := follow_ok hr h4 (PlR.var b (off + fd.offset) i hi) hk
          refine ⟨pl2, ?_, q2⟩
          simp only [follow, Sem.run_bind, run_underlying hE h1, Result.andThen, hd, hfs, hde, if_true, Place.get, hrun, run_asAddr, fieldPlace_ok hE h3 hn, Nat.add_assoc]
          exact q1
        · cases hk
    · rename_i hde
      split at h
      · cases h
      · rename_i n hn
        simp only [ob_some, Option.some.injEq, Prod.mk.injEq] at h
        obtain ⟨⟨k1, t1, v1⟩, h4, rfl, rfl, rfl⟩ := h
        cases hp with | var b off i hi =>
        simp only at hk
        obtain ⟨pl2, q1, q2⟩ := follow_ok hr h4 (PlR.var b (off + fd.offset) i hi) hk
        refine ⟨pl2, ?_, q2⟩
        simp only [follow, Sem.run_bind, run_underlying hE h1, Result.andThen, hd, hfs, hde, Bool.false_eq_true, if_false, fieldPlace_ok hE h3 hn, Nat.add_assoc]
        exact q1
    · rename_i hde
      simp only [ob_some, Option.some.injEq, Prod.mk.injEq] at h
      obtain ⟨pk, hpk, ⟨k1, t1, v1⟩, h4, rfl, rfl, rfl⟩ := h
      cases hp with | val x v hv =>
      simp only at hk
      split at hk
      · rename_i cs
        simp only [ob_some] at hk
        obtain ⟨y, hy, hk⟩ := hk
        obtain ⟨vs, hvl, rfl⟩ := hv.agg_inv
        obtain ⟨u, hu, hvu⟩ := partK_ok (w := w) hE hpk hvl hy
        obtain ⟨pl2, q1, q2⟩ := follow_ok hr h4 (PlR.val y u hvu) hk
        refine ⟨pl2, ?_, q2⟩
        simp only [follow, Sem.run_bind, run_underlying hE h1, Result.andThen, hd, hfs, hde, Bool.false_eq_true, if_false, hu]
        exact q1
      · cases hk
omit hE in
theorem run_wrap {a : Addr} {w : World} {xt : TypeId} {nm : String} : (Builtin.ssaWrapNilChk_ #[xt] xt #[.pointer (some a), strVal "", strVal nm]).run P w = .ok (.pointer (some a)) w := rfl
theorem recv_ok {m : Ren} {H : AH} {w : World} (hr : Rel m H w) {xt : Nat} {var pr : Bool} {k : VK} {x r : AV} {pl : Place} (wr : Option String) (h : recvK E xt var pr = some k) (hp : PlR m var x pl) (hk : k.f H x = some r) :
    ∃ v, (receiverAt xt pl pr wr).run P w = .ok v w ∧ VR m r v := by
  simp only [recvK, ob_some] at h
  obtain ⟨ti, h1, h⟩ := h
  split at h
  · rename_i e hd
    split at h
    · cases hp with | var b off i hi =>
      obtain ⟨a, v', hu, hrun, hv⟩ := ldK_ok hE h hr (.ptr b off i hi) hk
      cases hu
      refine ⟨v', ?_, hv⟩
      simp only [receiverAt, Sem.run_bind, run_underlying hE h1, Result.andThen, hd, Place.get, hrun]
    · cases h; cases hk
      cases hp with | val x v hv =>
      refine ⟨v, ?_, hv⟩
      simp only [receiverAt, Sem.run_bind, run_underlying hE h1, Result.andThen, hd, Place.get, Sem.run_pure]
    · simp only [ob_some, Option.some.injEq] at h
      obtain ⟨a, ha, b', hb, rfl⟩ := h
      simp only [ob_some] at hk
      obtain ⟨p, hp1, hk⟩ := hk
      cases hp with | var b off i hi =>
      obtain ⟨a1, v1, hu, hrun, hv⟩ := ldK_ok hE ha hr (.ptr b off i hi) hp1
      cases hu
      obtain ⟨a2, v2, hu2, hrun2, hv2⟩ := ldK_ok hE hb hr hv hk
      subst hu2
      refine ⟨v2, ?_, hv2⟩
      cases wr <;> simp only [receiverAt, Sem.run_bind, run_underlying hE h1, Result.andThen, hd, Place.get, hrun, run_wrap, Sem.run_pure, run_asAddr, hrun2]
    · cases hp with | val x v hv =>
      obtain ⟨a2, v2, hu2, hrun2, hv2⟩ := ldK_ok hE h hr hv hk
      subst hu2
      refine ⟨v2, ?_, hv2⟩
      cases wr <;> simp only [receiverAt, Sem.run_bind, run_underlying hE h1, Result.andThen, hd, Place.get, run_wrap, Sem.run_pure, run_asAddr, hrun2]
  · rename_i hd
    split at h
    · cases h; cases hk
      cases hp with | var b off i hi =>
      refine ⟨_, ?_, .ptr b off i hi⟩
      simp only [receiverAt, Sem.run_bind, run_underlying hE h1, Result.andThen]
      cases hdd : ti.d <;> first | exact absurd hdd (hd _) | rfl
    · cases h
    · cases hp with | var b off i hi =>
      obtain ⟨a, v', hu, hrun, hv⟩ := ldK_ok hE h hr (.ptr b off i hi) hk
      cases hu
      refine ⟨v', ?_, hv⟩
      simp only [receiverAt, Sem.run_bind, run_underlying hE h1, Result.andThen]
      cases hdd : ti.d <;> first | exact absurd hdd (hd _) | (simp only [Place.get]; exact hrun)
    · cases h; cases hk
      cases hp with | val x v hv =>
      refine ⟨v, ?_, hv⟩
      simp only [receiverAt, Sem.run_bind, run_underlying hE h1, Result.andThen]
      cases hdd : ti.d <;> first | exact absurd hdd (hd _) | rfl
theorem method_ok {m : Ren} {H : AH} {w : World} (hr : Rel m H w) {t : Nat} {name : String} {k : MeK} {v r : AV} {u : Value} (h : methodK E t name = some k) (hv : VR m v u) (hk : k.f H v = some r) (fuel : Nat) :
    ∃ x, (method (fuel + 1) t u name).run P w = .ok (k.fid, x) w ∧ VR m r x := by
  simp only [methodK, ob_some] at h
  obtain ⟨ti, h1, me, h2, ⟨fo, t2, v2⟩, h3, h⟩ := h
  obtain ⟨i, q1, _, _, _, q2⟩ := run_typeInfo (w := w) hE h1
  have h5 : i.methods.find? (·.name == name) = some me := by rw [q2, ← Array.find?_toList]; exact findM_ok h2
  split at h
  · cases h
  · rename_i f pr hf
    simp only [ob_some, Option.some.injEq] at h
    obtain ⟨rk, h6, rfl⟩ := h
    simp only [ob_some] at hk
    obtain ⟨x, h7, h8⟩ := hk
    obtain ⟨pl2, g1, g2⟩ := follow_ok hE hr h3 (PlR.val v u hv) h7
    obtain ⟨y, g3, g4⟩ := recv_ok hE hr (if me.path.isEmpty then some ((name.splitOn ".").getLastD name) else none) h6 g2 h8
    refine ⟨y, ?_, g4⟩
    simp only [method, Sem.run_bind, q1, Result.andThen, h5, g1, hf, g3, Sem.run_pure]
end
end Go.Xq
namespace Go.Xq
variable [Dealing]
omit [Dealing] in
def ExtRun (P : Program) (E : Env) : Prop :=
  ∀ g args H v, E.ext g args H = some v → ∀ m w vs, Rel m H w → VL m args vs → ∃ v', (callFunc g vs.toArray).run P w = .ok (.value v') w ∧ VR m v v'
section
variable {P : Program} {E : Env} (hE : TyOk P E) (hX : ExtRun P E) {o : Oper} {R : Rec} (hR : RecOk P R)
theorem Outc.congr {s s' : Sem Next} {w w2 : World} {Q : Value → World → Prop} (h : s.run P w = s'.run P w2) (ho : Outc P s' w2 Q) : Outc P s w Q := by
  cases ho with
  | value v w' h1 h2 => exact .value v w' (h.trans h1) h2
  | skip w' h1 h2 => exact .skip w' (h.trans h1) h2
  | enter f args w1 h1 h2 => exact .enter f args w1 (h.trans h1) h2
  | round l f tmps a b w1 h1 h2 => exact .round l f tmps a b w1 (h.trans h1) h2
omit [Dealing] in
theorem run_enter {f : FuncId} {args : Array Value} {w : World} (h : Enters P f) : (callFunc f args).run P w = .ok (.enter f args) w := by
  obtain ⟨fn, h1, h2, h3⟩ := h
  simp only [callFunc, Sem.run_bind, run_program, Result.andThen, h1, h2, h3, Bool.false_eq_true, if_false]
  rfl
include hR in
theorem call_ok {m : Ren} {H H2 : AH} {w : World} (hr : Rel m H w) {g : Nat} {l v : AV} {vs : List Value} (hl : VL m l vs) (h : R.call g l H = some (v, H2)) : Outc P (callFunc g vs.toArray) w (Post m H w v H2) := by
  obtain ⟨h1, h2⟩ := hR.call _ _ _ _ _ h
  exact .enter _ _ w (run_enter h1) (h2 m w vs hr hl)
include hX hR in
theorem callFA_ok {m : Ren} {H H2 : AH} {w : World} (hr : Rel m H w) {g : Nat} {l v : AV} {vs : List Value} (hl : VL m l vs) (h : callFA E R H g l = some (v, H2)) : Outc P (callFunc g vs.toArray) w (Post m H w v H2) := by
  simp only [callFA] at h
  cases he : E.ext g l H with
  | none => rw [he] at h; exact call_ok hR hr hl h
  | some x =>
    rw [he] at h
    simp only [oc_some, Option.some.injEq, Prod.mk.injEq] at h
    obtain ⟨rfl, rfl⟩ := h
    obtain ⟨v', h1, h2⟩ := hX _ _ _ _ he m w vs hr hl
    exact .value v' w h1 ⟨m, St.refl hr, h2⟩
include hE hX hR in
theorem callMA_ok {m : Ren} {H H2 : AH} {w : World} (hr : Rel m H w) {r l v : AV} {name : String} {rv : Value} {vs : List Value} (hv : VR m r rv) (hl : VL m l vs) (h : callMA E R H r name l = some (v, H2)) :
    Outc P (callMethod rv name vs.toArray) w (Post m H w v H2) := by
  simp only [callMA, onIfc_some, reduceCtorEq, and_false, false_or, ob_some] at h
  obtain ⟨t, a, rfl, k, hk, x, hx, h⟩ := h
  obtain ⟨u, hu, rfl⟩ := hv.ifc_inv
  obtain ⟨xv, h1, h2⟩ := method_ok hE hr hk hu hx (P.types.size + 99)
  refine Outc.congr ?_ (callFA_ok hX hR hr (VL.cons _ _ _ _ h2 hl) h)
  have h1' : (method (P.types.size + Made.depth) t u name).run P w = .ok (k.fid, xv) w := h1
  simp only [callMethod, Sem.run_bind, run_program, Result.andThen, h1']
  congr 2
  simp
include hE hX hR in
theorem callVA_ok {m : Ren} {H H2 : AH} {w : World} (hr : Rel m H w) {f l v : AV} {fv : Value} {vs : List Value} (hv : VR m f fv) (hl : VL m l vs) (h : callVA E R H f l = some (v, H2)) :
    Outc P (do let d ← Deferred.ofValue fv vs.toArray; invoke d.target d.args) w (Post m H w v H2) := by
  simp only [callVA, onFn_some] at h
  obtain ⟨q, first, cap, rfl, h⟩ := h
  obtain ⟨g, va, vc, hf, ha, hc, rfl⟩ := hv.fn_inv
  split at h
  · rename_i g'
    cases hf
    refine Outc.congr ?_ (callFA_ok hX hR hr (ha.app (hl.app hc)) h)
    simp only [Deferred.ofValue, Sem.run_bind, Sem.run_pure, Result.andThen, invoke]
    congr 2
    simp
  · rename_i l'
    cases hf with
    | same f h' => exact absurd rfl (h' _)
    | yield l i hi =>
      obtain ⟨f, tmps, a, b, h1, h2⟩ := hR.round _ _ _ _ _ h m w _ i hr (ha.app hl) hi
      refine .round i.blk f tmps a b w ?_ h2
      simp only [Deferred.ofValue, Sem.run_bind, Sem.run_pure, Result.andThen, invoke]
      have e : va.toArray ++ vs.toArray = (va ++ vs).toArray := by simp
      rw [e]; exact h1
  · rename_i name
    cases hf
    simp only [onCons_some, reduceCtorEq, and_false, false_or] at h
    obtain ⟨r, rest, e, h⟩ := h
    have hall := ha.app hl
    rw [e] at hall
    generalize hz : va ++ vs = zs at hall
    cases hall with | cons _ rv _ rest' hrv hrest =>
    refine Outc.congr ?_ (callMA_ok hE hX hR hr hrv hrest h)
    have e2 : va.toArray ++ vs.toArray = (rv :: rest').toArray := by rw [← hz]; simp
    simp only [Deferred.ofValue, Sem.run_bind, Sem.run_pure, Result.andThen, invoke, e2]
    have e3 : ((rv :: rest').toArray)[0]? = some rv := rfl
    have e4 : ((rv :: rest').toArray).extract 1 ((rv :: rest').toArray).size = rest'.toArray := by
      apply Array.toList_inj.1; simp
    simp only [e3, e4]
  · cases h
omit [Dealing] in
theorem run_map_ops {m : Ren} {T : Tr AV} {ρ : Operand → Value} (he : ER m T ρ) {args : Array Operand} {l : AV} (h : (opnds args.toList).f T = some l) : VL m l (args.map ρ).toList := by
  rw [Array.toList_map]; exact opnds_ok he h
include hE hX in
theorem heavyCall_ok {c : Call} {k : HvK} (h : heavyCall E c = some k) (ho : o.op = .call c) : HvOk P k o := by
  unfold heavyCall at h
  split at h
  · rename_i f0 hc
    split at h
    · rename_i g
      cases h
      intro R hR m H w T ρ v H2 hr he hk
      simp only [hvCallF, ob_some] at hk
      obtain ⟨l, hl, hk⟩ := hk
      have hvl := run_map_ops he hl
      refine Outc.congr ?_ (callFA_ok hX hR hr hvl hk)
      have hf : VR m (.fn (.func g) .nil .nil) (ρ (.func g)) := he (.func g) _ rfl
      obtain ⟨q, va, vc, hq, ha, hcc, e⟩ := hf.fn_inv
      cases hq; cases ha; cases hcc
      simp only [execOp, ho, resolve, hc, e, Deferred.ofValue, Sem.run_bind, Sem.run_pure, Result.andThen, invoke]
      congr 2
      apply Array.toList_inj.1; simp
    · rename_i fx hf
      cases h
      intro R hR m H w T ρ v H2 hr he hk
      simp only [hvCallV, ob_some] at hk
      obtain ⟨fa, hfa, l, hl, hk⟩ := hk
      refine Outc.congr ?_ (callVA_ok hE hX hR hr (he f0 fa hfa) (run_map_ops he hl) hk)
      simp only [execOp, ho, resolve, hc, Array.toArray_toList]
  · rename_i r name hc
    cases h
    intro R hR m H w T ρ v H2 hr he hk
    simp only [hvInvoke, ob_some] at hk
    obtain ⟨a, ha, l, hl, hk⟩ := hk
    refine Outc.congr ?_ (callMA_ok hE hX hR hr (he r a ha) (run_map_ops he hl) hk)
    simp only [execOp, ho, resolve, hc, Array.toArray_toList, Sem.run_bind, Sem.run_pure, Result.andThen, invoke]
    have e3 : (#[ρ r] ++ c.args.map ρ)[0]? = some (ρ r) := by rw [Array.getElem?_append_left (by exact Nat.one_pos)]; rfl
    have e4 : (#[ρ r] ++ c.args.map ρ).extract 1 (#[ρ r] ++ c.args.map ρ).size = c.args.map ρ := by
      apply Array.toList_inj.1
      simp only [Array.toList_extract, Array.toList_append, List.singleton_append, List.extract_eq_take_drop, List.drop_succ_cons, List.drop_zero]
      exact List.take_of_length_le (by simp)
    simp only [e3, e4]
  · rename_i b hc
    split at h
    · split at h
      · rename_i ha ht; exact hv_append hE h ho hc ha ht
      · cases h
    · split at h
      · rename_i ha ht
        simp only [hvCopyK, ob_some] at h
        obtain ⟨ti, h1, h⟩ := h
        split at h
        · rename_i hd
          simp only [ob_some, Option.some.injEq] at h
          obtain ⟨te, h3, rfl⟩ := h
          exact hv_copy hE h1 hd h3 ho hc ha ht
        · cases h
      · cases h
    · split at h
      · rename_i ha ht; exact hv_clear hE h ho hc ha ht
      · cases h
    · split at h
      · rename_i ha ht
        simp only [deleteK, ob_some] at h
        obtain ⟨ti, h1, h⟩ := h
        split at h
        · rename_i hd
          simp only [ob_some, Option.some.injEq] at h
          obtain ⟨q, hq, rfl⟩ := h
          exact hv_delete hE h1 hd hq ho hc ha ht
        · cases h
      · cases h
    · cases h
include hE in
theorem mapSetK_ok {t : Nat} {x k v : Operand} {g : HvK} (h : mapSetK E t x k v = some g) (ho : o.op = .mapUpdate t x k v ∨ o.op = .insert t x k v) : HvOk P g o := by
  simp only [mapSetK, ob_some] at h
  obtain ⟨ti, h1, h⟩ := h
  split at h
  · rename_i hd
    simp only [ob_some, Option.some.injEq] at h
    obtain ⟨q, hq, rfl⟩ := h
    exact hv_mapSet hE h1 hd hq ho
  · cases h
include hE hX in
theorem heavyK_ok {k : HvK} (h : heavyK E o.op = some k) : HvOk P k o := by
  unfold heavyK at h
  split at h
  · rename_i ho; simp only [ob_some, Option.some.injEq] at h; obtain ⟨g, hg, rfl⟩ := h; exact hv_store hE hg ho
  · rename_i ho; exact mapSetK_ok hE h (.inl ho)
  · rename_i ho; exact mapSetK_ok hE h (.inr ho)
  · rename_i ho
    split at h
    · cases h; exact hv_next ho
    · cases h
  · rename_i s d x ho
    split at h
    · rename_i he
      have he := Nat.eq_of_beq_eq_true he
      subst he
      simp only [ob_some] at h
      obtain ⟨ts, h1, h⟩ := h
      split at h
      · rename_i hd
        simp only [ob_some] at h
        obtain ⟨te, h3, h⟩ := h
        split at h
        · rename_i hb; cases h; exact hv_same hE h1 hd h3 hb ho
        · cases h
      · cases h
    · cases h
  · rename_i ho
    simp only [ob_some] at h
    obtain ⟨ti, h1, h⟩ := h
    split at h
    · rename_i hd; cases h; exact hv_range hE h1 hd ho
    · cases h
  · rename_i c ho; exact heavyCall_ok hE hX h ho
  · cases h
end
end Go.Xq
namespace Go.Xq
section
variable {P : Program}
theorem QG.v {s : Sem Value} {w : World} (h : QG P s w) : QG P (s >>= fun x => Pure.pure (Next.value x)) w := QG.bind h fun _ _ _ => QG.pure
theorem QG.u {s : Sem Unit} {w : World} (h : QG P s w) : QG P (s >>= fun _ => Pure.pure Next.skip) w := QG.bind h fun _ _ _ => QG.pure
theorem plain_forInL {α β : Type} {f : α → β → Sem (ForInStep β)} (h : ∀ a b, Plain P (f a b)) : ∀ (l : List α) (b : β), Plain P (forIn l b f)
  | [], b => by rw [List.forIn_nil]; exact plain_pure
  | a :: l, b => by
    rw [List.forIn_cons]
    refine (h a b).bind fun r => ?_
    cases r with
    | done b' => exact plain_pure
    | yield b' => exact plain_forInL h l b'
theorem plain_forInA {α β : Type} {f : α → β → Sem (ForInStep β)} (h : ∀ a b, Plain P (f a b)) (l : Array α) (b : β) : Plain P (forIn l b f) := by
  rw [← Array.forIn_toList]; exact plain_forInL h _ _
theorem plain_forInR {β : Type} {f : Nat → β → Sem (ForInStep β)} (h : ∀ a b, Plain P (f a b)) (n : Nat) (b : β) : Plain P (forIn [0:n] b f) := by
  rw [Std.Legacy.Range.forIn_eq_forIn_range']; exact plain_forInL h _ _
theorem plain_checkKey : ∀ {n : Nat} {b : Bool} {t : TypeId} {v : Value}, Plain P (Instr.checkKey b n t v)
  | 0, _, _, _ => plain_unsupported
  | n + 1, b, t, v => by
    have ih := fun (b : Bool) (t : TypeId) (v : Value) => plain_checkKey (n := n) (b := b) (t := t) (v := v)
    unfold Instr.checkKey
    repeat' first | exact ih _ _ _ | exact Pl.p | assumption | exact plain_newObj ⟨rfl, fun _ _ => by simp⟩ | exact plain_setObj ⟨rfl, fun _ _ => by simp⟩ | (with_reducible refine plain_forInL ?_ _ _) | (with_reducible refine plain_forInR ?_ _ _) | (with_reducible refine plain_forInA ?_ _ _) | (with_reducible refine plain_mapMA ?_ _) | (with_reducible refine plain_map ?_) | (with_reducible refine plain_pure_bind ?_) | (with_reducible refine Plain.bind ?_ ?_) | intro _ | split | dsimp only
theorem plain_eqGuardIn : ∀ {n : Nat} {t : TypeId} {u v : Value}, Plain P (Op.eqGuardIn n t u v)
  | 0, _, _, _ => plain_unsupported
  | n + 1, t, u, v => by
    have ih := fun (t : TypeId) (u v : Value) => plain_eqGuardIn (n := n) (t := t) (u := u) (v := v)
    unfold Op.eqGuardIn
    repeat' first | exact ih _ _ _ | exact Pl.p | assumption | exact plain_newObj ⟨rfl, fun _ _ => by simp⟩ | exact plain_setObj ⟨rfl, fun _ _ => by simp⟩ | (with_reducible refine plain_forInL ?_ _ _) | (with_reducible refine plain_forInR ?_ _ _) | (with_reducible refine plain_forInA ?_ _ _) | (with_reducible refine plain_mapMA ?_ _) | (with_reducible refine plain_map ?_) | (with_reducible refine plain_pure_bind ?_) | (with_reducible refine Plain.bind ?_ ?_) | intro _ | split | dsimp only
instance {n : Nat} {b : Bool} {t : TypeId} {v : Value} : Pl P (Instr.checkKey b n t v) := ⟨plain_checkKey⟩
instance {n : Nat} {t : TypeId} {u v : Value} : Pl P (Op.eqGuardIn n t u v) := ⟨plain_eqGuardIn⟩
theorem plain_eqGuard {op : BinOp} {t : TypeId} {x y : Operand} {a b : Value} : Plain P (eqGuard op t x y a b) := by
  unfold eqGuard; (repeat' first | exact Pl.p | assumption | exact plain_newObj ⟨rfl, fun _ _ => by simp⟩ | exact plain_setObj ⟨rfl, fun _ _ => by simp⟩ | (with_reducible refine plain_forInL ?_ _ _) | (with_reducible refine plain_forInR ?_ _ _) | (with_reducible refine plain_forInA ?_ _ _) | (with_reducible refine plain_mapMA ?_ _) | (with_reducible refine plain_map ?_) | (with_reducible refine plain_pure_bind ?_) | (with_reducible refine Plain.bind ?_ ?_) | intro _ | split | dsimp only)
instance {op : BinOp} {t : TypeId} {x y : Operand} {a b : Value} : Pl P (eqGuard op t x y a b) := ⟨plain_eqGuard⟩
theorem plain_bytesToString {v : Value} : Plain P (Conv.bytesToString v) := by unfold Conv.bytesToString; (repeat' first | exact Pl.p | assumption | exact plain_newObj ⟨rfl, fun _ _ => by simp⟩ | exact plain_setObj ⟨rfl, fun _ _ => by simp⟩ | (with_reducible refine plain_forInL ?_ _ _) | (with_reducible refine plain_forInR ?_ _ _) | (with_reducible refine plain_forInA ?_ _ _) | (with_reducible refine plain_mapMA ?_ _) | (with_reducible refine plain_map ?_) | (with_reducible refine plain_pure_bind ?_) | (with_reducible refine Plain.bind ?_ ?_) | intro _ | split | dsimp only)
instance {v : Value} : Pl P (Conv.bytesToString v) := ⟨plain_bytesToString⟩
theorem plain_followBlind : ∀ {l : List FieldStep} {t : TypeId} {v : Option Value}, Plain P (followBlind l t v)
  | [], _, _ => plain_pure
  | _ :: l, _, _ => by
    have ih := fun (t : TypeId) (v : Option Value) => plain_followBlind (l := l) (t := t) (v := v)
    unfold followBlind
    repeat' first | exact ih _ _ | exact Pl.p | assumption | exact plain_newObj ⟨rfl, fun _ _ => by simp⟩ | exact plain_setObj ⟨rfl, fun _ _ => by simp⟩ | (with_reducible refine plain_forInL ?_ _ _) | (with_reducible refine plain_forInR ?_ _ _) | (with_reducible refine plain_forInA ?_ _ _) | (with_reducible refine plain_mapMA ?_ _) | (with_reducible refine plain_map ?_) | (with_reducible refine plain_pure_bind ?_) | (with_reducible refine Plain.bind ?_ ?_) | intro _ | split | dsimp only
instance {l : List FieldStep} {t : TypeId} {v : Option Value} : Pl P (followBlind l t v) := ⟨plain_followBlind⟩
theorem plain_nilAhead : ∀ {n : Nat} {t : TypeId} {v : Value} {s : String}, Plain P (nilAhead n t v s)
  | 0, _, _, _ => plain_pure
  | n + 1, _, _, _ => by
    have ih := fun (t : TypeId) (v : Value) (s : String) => plain_nilAhead (n := n) (t := t) (v := v) (s := s)
    unfold nilAhead
    repeat' first | exact ih _ _ _ | exact Pl.p | assumption | exact plain_newObj ⟨rfl, fun _ _ => by simp⟩ | exact plain_setObj ⟨rfl, fun _ _ => by simp⟩ | (with_reducible refine plain_forInL ?_ _ _) | (with_reducible refine plain_forInR ?_ _ _) | (with_reducible refine plain_forInA ?_ _ _) | (with_reducible refine plain_mapMA ?_ _) | (with_reducible refine plain_map ?_) | (with_reducible refine plain_pure_bind ?_) | (with_reducible refine Plain.bind ?_ ?_) | intro _ | split | dsimp only
instance {n : Nat} {t : TypeId} {v : Value} {s : String} : Pl P (nilAhead n t v s) := ⟨plain_nilAhead⟩
theorem plain_ofValue {v : Value} {a : Array Value} : Plain P (Deferred.ofValue v a) := by unfold Deferred.ofValue; (repeat' first | exact Pl.p | assumption | exact plain_newObj ⟨rfl, fun _ _ => by simp⟩ | exact plain_setObj ⟨rfl, fun _ _ => by simp⟩ | (with_reducible refine plain_forInL ?_ _ _) | (with_reducible refine plain_forInR ?_ _ _) | (with_reducible refine plain_forInA ?_ _ _) | (with_reducible refine plain_mapMA ?_ _) | (with_reducible refine plain_map ?_) | (with_reducible refine plain_pure_bind ?_) | (with_reducible refine Plain.bind ?_ ?_) | intro _ | split | dsimp only)
instance {v : Value} {a : Array Value} : Pl P (Deferred.ofValue v a) := ⟨plain_ofValue⟩
theorem plain_resolve {ρ : Operand → Value} {c : Call} {t : TypeId} : Plain P (resolve ρ c t) := by unfold resolve; (repeat' first | exact Pl.p | assumption | exact plain_newObj ⟨rfl, fun _ _ => by simp⟩ | exact plain_setObj ⟨rfl, fun _ _ => by simp⟩ | (with_reducible refine plain_forInL ?_ _ _) | (with_reducible refine plain_forInR ?_ _ _) | (with_reducible refine plain_forInA ?_ _ _) | (with_reducible refine plain_mapMA ?_ _) | (with_reducible refine plain_map ?_) | (with_reducible refine plain_pure_bind ?_) | (with_reducible refine Plain.bind ?_ ?_) | intro _ | split | dsimp only)
instance {ρ : Operand → Value} {c : Call} {t : TypeId} : Pl P (resolve ρ c t) := ⟨plain_resolve⟩
theorem plain_yield {l : Nat} {a : Array Value} : Plain P (Instr.yield l a) := by unfold Instr.yield Instr.getLoop; (repeat' first | exact Pl.p | assumption | exact plain_newObj ⟨rfl, fun _ _ => by simp⟩ | exact plain_setObj ⟨rfl, fun _ _ => by simp⟩ | (with_reducible refine plain_forInL ?_ _ _) | (with_reducible refine plain_forInR ?_ _ _) | (with_reducible refine plain_forInA ?_ _ _) | (with_reducible refine plain_mapMA ?_ _) | (with_reducible refine plain_map ?_) | (with_reducible refine plain_pure_bind ?_) | (with_reducible refine Plain.bind ?_ ?_) | intro _ | split | dsimp only)
theorem plain_max2 {x y : Value} : Plain P (Builtin.max2 x y) := by unfold Builtin.max2; (repeat' first | exact Pl.p | assumption | exact plain_newObj ⟨rfl, fun _ _ => by simp⟩ | exact plain_setObj ⟨rfl, fun _ _ => by simp⟩ | (with_reducible refine plain_forInL ?_ _ _) | (with_reducible refine plain_forInR ?_ _ _) | (with_reducible refine plain_forInA ?_ _ _) | (with_reducible refine plain_mapMA ?_ _) | (with_reducible refine plain_map ?_) | (with_reducible refine plain_pure_bind ?_) | (with_reducible refine Plain.bind ?_ ?_) | intro _ | split | dsimp only)
theorem plain_min2 {x y : Value} : Plain P (Builtin.min2 x y) := by unfold Builtin.min2; (repeat' first | exact Pl.p | assumption | exact plain_newObj ⟨rfl, fun _ _ => by simp⟩ | exact plain_setObj ⟨rfl, fun _ _ => by simp⟩ | (with_reducible refine plain_forInL ?_ _ _) | (with_reducible refine plain_forInR ?_ _ _) | (with_reducible refine plain_forInA ?_ _ _) | (with_reducible refine plain_mapMA ?_ _) | (with_reducible refine plain_map ?_) | (with_reducible refine plain_pure_bind ?_) | (with_reducible refine Plain.bind ?_ ?_) | intro _ | split | dsimp only)
theorem plain_foldlM {α β : Type} {f : β → α → Sem β} (h : ∀ b a, Plain P (f b a)) : ∀ (l : List α) (b : β), Plain P (l.foldlM f b)
  | [], _ => plain_pure
  | a :: l, b => (h b a).bind fun _ => plain_foldlM h l _
theorem plain_max {a : Array TypeId} {t : TypeId} {v : Array Value} : Plain P (Builtin.max_ a t v) := by
  unfold Builtin.max_
  split
  · exact plain_stuck
  · exact plain_foldlM (fun _ _ => plain_max2) _ _
theorem plain_min {a : Array TypeId} {t : TypeId} {v : Array Value} : Plain P (Builtin.min_ a t v) := by
  unfold Builtin.min_
  split
  · exact plain_stuck
  · exact plain_foldlM (fun _ _ => plain_min2) _ _
end
section
variable {P : Program} {E : Env} (hE : TyOk P E)
theorem QG.after {α β : Type} {s : Sem α} {f : α → Sem β} {w w1 : World} {a : α} (hp : Plain P s) (hr : s.run P w = .ok a w1) (h : QG P (f a) w1) : QG P (s >>= f) w :=
  QG.bind hp.qg fun b w2 e => by rw [hr] at e; cases e; exact h
inductive NP : Value → Prop
  | int (k n) : NP (.int k n)
  | string (s) : NP (.string s)
  | bool (b) : NP (.bool b)
theorem plain_eqAtom {d : Nat} {t : TypeId} {a b : Value} (ha : NP a) (hb : NP b) : Plain P (Op.equalIn d t a b) := by
  cases d with
  | zero => exact plain_unsupported
  | succ d =>
    unfold Op.equalIn
    cases ha <;> cases hb <;> (refine plain_underlying.bind fun D => ?_) <;> cases D <;> first | exact trivial | (dsimp only; (repeat' first | exact Pl.p | assumption | exact plain_newObj ⟨rfl, fun _ _ => by simp⟩ | exact plain_setObj ⟨rfl, fun _ _ => by simp⟩ | (with_reducible refine plain_forInL ?_ _ _) | (with_reducible refine plain_forInR ?_ _ _) | (with_reducible refine plain_forInA ?_ _ _) | (with_reducible refine plain_mapMA ?_ _) | (with_reducible refine plain_map ?_) | (with_reducible refine plain_pure_bind ?_) | (with_reducible refine Plain.bind ?_ ?_) | intro _ | split | dsimp only))
theorem QG.next {α β : Type} {s : Sem α} {f : α → Sem β} {w w1 : World} {a : α} (hp : QG P s w) (hr : s.run P w = .ok a w1) (h : QG P (f a) w1) : QG P (s >>= f) w :=
  QG.bind hp fun b w2 e => by rw [hr] at e; cases e; exact h
def Bare (w : World) (k : Nat) : Prop := ∃ c e, w.heap[k]? = some (.cells c e (0, 0))
theorem bare_not {c : Array Value} {e : TypeId} : ¬ Dead (.cells c e (0, 0)) ∧ ¬ Shr (.cells c e (0, 0)) := by
  refine ⟨?_, ?_⟩
  · rintro ⟨e', n, h⟩; injection h with _ _ h; simp at h
  · rintro ⟨c', e', h⟩; injection h with _ _ h; simp at h
theorem qg_frozen {w : World} {a : Addr} (h : Bare w a.block) : QG P (frozen a) w := by
  obtain ⟨c, e, h⟩ := h
  intro r w' hn hr
  cases hr
  exact ⟨⟨⟨_, h, bare_not⟩, trivial⟩, hn⟩
theorem run_frozen {w : World} {a : Addr} (h : Bare w a.block) : (frozen a).run P w = .ok false w := by
  obtain ⟨c, e, h⟩ := h
  have : w.frozen? a = false := by simp [World.frozen?, h]
  show Result.ok (w.frozen? a) w = _
  rw [this]
theorem qg_shape {w : World} {r : Nat} (h : Bare w r) : QG P (shape r) w := by
  obtain ⟨c, e, h⟩ := h
  intro r w' hn hr
  cases hr
  exact ⟨⟨⟨_, h, bare_not.1⟩, trivial⟩, hn⟩
theorem run_shapeB {w : World} {r : Nat} (h : Bare w r) : ∃ s, (shape r).run P w = .ok (some s) w := by
  obtain ⟨c, e, h⟩ := h
  exact ⟨(e, c.size), by show Result.ok (w.shape? r) w = _; simp [World.shape?, h]⟩
theorem qg_noView {w : World} {a : Addr} (h : Bare w a.block) : QG P (noView a) w ∧ (noView a).run P w = .ok () w := by
  obtain ⟨s, hs⟩ := run_shapeB (P := P) h
  have h1 : QG P (viewAt a.block) w := QG.next (qg_shape h) hs QG.pure
  have h2 : (viewAt a.block).run P w = .ok none w := by unfold viewAt; simp [hs, Result.andThen]
  refine ⟨QG.next h1 h2 QG.pure, ?_⟩
  unfold noView
  simp [h2, Result.andThen]
theorem qg_stringish {w : World} {a : Addr} (h : Bare w a.block) : QG P (stringish a) w ∧ (stringish a).run P w = .ok false w := by
  obtain ⟨s, hs⟩ := run_shapeB (P := P) h
  have h' : Bare w (⟨a.block, s.2, none⟩ : Addr).block := h
  refine ⟨QG.next (qg_frozen h) (run_frozen h) (QG.next (qg_shape h) hs (qg_frozen h')), ?_⟩
  unfold stringish
  simp [hs, Result.andThen, run_frozen h, run_frozen h']
theorem qg_sameAddr {w : World} {a b : Addr} (h : a.block = b.block ∨ (Bare w a.block ∧ Bare w b.block)) : QG P (sameAddr a b) w := by
  by_cases he : a.block = b.block
  · unfold sameAddr
    rw [if_pos (by simpa using he)]
    exact QG.pure
  · obtain ⟨ha, hb⟩ := h.resolve_left he
    unfold sameAddr
    rw [if_neg (by simpa using he)]
    refine QG.next (qg_frozen ha) (run_frozen ha) (QG.next (qg_frozen hb) (run_frozen hb) ?_)
    refine QG.next (qg_noView ha).1 (qg_noView ha).2 (QG.next (qg_noView hb).1 (qg_noView hb).2 ?_)
    obtain ⟨s1, hs1⟩ := run_shapeB (P := P) ha
    obtain ⟨s2, hs2⟩ := run_shapeB (P := P) hb
    have n1 : QG P (do pure ((← shape a.block) matches some (_, 0))) w := QG.next (qg_shape ha) hs1 QG.pure
    have n2 : QG P (do pure ((← shape b.block) matches some (_, 0))) w := QG.next (qg_shape hb) hs2 QG.pure
    have r1 : (do pure ((← shape a.block) matches some (_, 0)) : Sem Bool).run P w = .ok (match some s1 with | some (_, 0) => true | _ => false) w := by simp [hs1, Result.andThen]
    have h1 : QG P (mayBeOne a b) w := QG.next (qg_stringish ha).1 (qg_stringish ha).2 (QG.next (qg_stringish hb).1 (qg_stringish hb).2 (QG.next n1 r1 (QG.bind n2 fun _ _ _ => QG.pure)))
    have h2 : (mayBeOne a b).run P w = .ok false w := by unfold mayBeOne; simp [(qg_stringish ha).2, (qg_stringish hb).2, Result.andThen]
    exact QG.next h1 h2 QG.pure
def EqQ (P : Program) (k : EK) (t : TypeId) : Prop :=
  ∀ (m : Ren) (H : AH) (w : World) (a b : AV) (u v : Value) (r : Bool), Rel m H w → VR m a u → VR m b v → k.f H a b = some r → ∀ d, QG P (Op.equalIn (d + 2) t u v) w
include hE
omit hE in
theorem eqq_bool {t : Nat} : EqQ P ⟨eqBool⟩ t := by
  intro m H w a b u v r hr hu hv hk d
  cases a <;> cases b <;> simp only [eqBool, reduceCtorEq, Option.some.injEq] at hk
  rw [hu.bool_inv, hv.bool_inv]
  exact (plain_eqAtom (.bool _) (.bool _)).qg
theorem eqq_ptr {t e : Nat} {ti te : TI} (h1 : tyOf E t = some ti) (h2 : ti.d = .pointer e) (h3 : tyOf E e = some te) : EqQ P ⟨eqPtr te.size⟩ t := by
  intro m H w a b u v r hr hu hv hk d
  have hund := run_underlying (w := w) hE h1
  rw [h2] at hund
  cases a <;> cases b <;> simp only [eqPtr, reduceCtorEq, Option.some.injEq] at hk
  case pnil.pnil =>
    rw [hu.pnil_inv, hv.pnil_inv]
    exact QG.after plain_underlying hund QG.pure
  case pnil.ptr =>
    obtain ⟨i, _, e2⟩ := hv.ptr_inv; rw [hu.pnil_inv, e2]
    exact QG.after plain_underlying hund QG.pure
  case ptr.pnil =>
    obtain ⟨i, _, e2⟩ := hu.ptr_inv; rw [hv.pnil_inv, e2]
    exact QG.after plain_underlying hund QG.pure
  case ptr.ptr b1 o1 b2 o2 =>
    obtain ⟨i, hi, e1⟩ := hu.ptr_inv
    obtain ⟨j, hj, e2⟩ := hv.ptr_inv
    have hsz := run_sizeOf (w := w) hE h3
    cases hs : te.size with
    | zero => rw [hs] at hk; simp at hk
    | succ n =>
      rw [hs] at hk hsz
      simp only [samePtrA] at hk
      rw [e1, e2]
      refine QG.after plain_underlying hund (QG.after plain_sizeOf hsz ?_)
      rw [if_pos (by simp)]
      refine qg_sameAddr ?_
      by_cases hb : b1 = b2
      · subst hb
        rw [hi] at hj; cases hj
        exact .inl rfl
      · refine .inr ?_
        have hne : Nat.beq b1 b2 = false := by
          rw [Bool.eq_false_iff]; intro e; exact hb (Nat.eq_of_beq_eq_true e)
        rw [hne] at hk
        simp only [bt_false, ob_some, bt_some, Option.some.injEq] at hk
        obtain ⟨x1, g1, x2, g2, q1, q2, rfl⟩ := hk
        obtain ⟨y1, p1, r1⟩ := hr.live _ _ g1 _ hi
        obtain ⟨y2, p2, r2⟩ := hr.live _ _ g2 _ hj
        cases x1 <;> simp [isCs] at q1
        cases x2 <;> simp [isCs] at q2
        cases r1 with | cs c fr e' es size opn z t' i hcs hes hs' hf hh =>
        cases r2 with | cs c2 fr2 e2' es2 size2 opn2 z2 t2 j hcs2 hes2 hs2 hf2 hh2 =>
        subst hf; subst hf2
        exact ⟨⟨_, _, p1⟩, ⟨_, _, p2⟩⟩
theorem eqq_iface {t : Nat} {ti : TI} {ms} {c : Bool} (h1 : tyOf E t = some ti) (h2 : ti.d = .interface ms) : EqQ P ⟨eqIface c⟩ t := by
  intro m H w a b u v r hr hu hv hk d
  have hund := run_underlying (w := w) hE h1
  rw [h2] at hund
  cases a <;> cases b <;> simp only [eqIface, reduceCtorEq] at hk
  case inil.inil => rw [hu.inil_inv, hv.inil_inv]; exact QG.after plain_underlying hund QG.pure
  case inil.ifc => obtain ⟨x, _, e2⟩ := hv.ifc_inv; rw [hu.inil_inv, e2]; exact QG.after plain_underlying hund QG.pure
  case ifc.inil => obtain ⟨x, _, e2⟩ := hu.ifc_inv; rw [hv.inil_inv, e2]; exact QG.after plain_underlying hund QG.pure
  case ifc.ifc t1 _ t2 _ =>
    obtain ⟨x, _, e1⟩ := hu.ifc_inv
    obtain ⟨y, _, e2⟩ := hv.ifc_inv
    rw [e1, e2]
    refine QG.after plain_underlying hund ?_
    have hne : t1 ≠ t2 := by
      intro e
      subst e
      simp at hk
    show QG P (if t1 ≠ t2 then _ else _) w
    rw [if_pos hne]
    exact QG.pure
theorem eqq_sl {t e : Nat} {ti : TI} (h1 : tyOf E t = some ti) (h2 : ti.d = .slice e) : EqQ P ⟨eqSl⟩ t := by
  intro m H w a b u v r hr hu hv hk d
  have hund := run_underlying (w := w) hE h1
  rw [h2] at hund
  cases a <;> cases b <;> simp only [eqSl, reduceCtorEq, Option.some.injEq] at hk
  case snil.snil => rw [hu.snil_inv, hv.snil_inv]; exact QG.after plain_underlying hund QG.pure
  case snil.sl => obtain ⟨_, _, e2, _⟩ := hv.sl_inv; rw [hu.snil_inv, e2]; exact QG.after plain_underlying hund QG.pure
  case sl.snil => obtain ⟨_, _, e2, _⟩ := hu.sl_inv; rw [hv.snil_inv, e2]; exact QG.after plain_underlying hund QG.pure
theorem eqq_map {t k e : Nat} {ti : TI} (h1 : tyOf E t = some ti) (h2 : ti.d = .map k e) : EqQ P ⟨eqMap⟩ t := by
  intro m H w a b u v r hr hu hv hk d
  have hund := run_underlying (w := w) hE h1
  rw [h2] at hund
  cases a <;> cases b <;> simp only [eqMap, reduceCtorEq, Option.some.injEq] at hk
  case mnil.mnil => rw [hu.mnil_inv, hv.mnil_inv]; exact QG.after plain_underlying hund QG.pure
  case mnil.mp => obtain ⟨_, _, e2⟩ := hv.mp_inv; rw [hu.mnil_inv, e2]; exact QG.after plain_underlying hund QG.pure
  case mp.mnil => obtain ⟨_, _, e2⟩ := hu.mp_inv; rw [hv.mnil_inv, e2]; exact QG.after plain_underlying hund QG.pure
theorem eqq_fn {t : Nat} {ti : TI} {ps rs vv} (h1 : tyOf E t = some ti) (h2 : ti.d = .func ps rs vv) : EqQ P ⟨eqFn⟩ t := by
  intro m H w a b u v r hr hu hv hk d
  have hund := run_underlying (w := w) hE h1
  rw [h2] at hund
  cases a <;> cases b <;> simp only [eqFn, reduceCtorEq, Option.some.injEq] at hk
  case fnil.fnil => rw [hu.fnil_inv, hv.fnil_inv]; exact QG.after plain_underlying hund QG.pure
  case fnil.fn => obtain ⟨_, _, _, _, _, _, e2⟩ := hv.fn_inv; rw [hu.fnil_inv, e2]; exact QG.after plain_underlying hund QG.pure
  case fn.fnil => obtain ⟨_, _, _, _, _, _, e2⟩ := hu.fn_inv; rw [hv.fnil_inv, e2]; exact QG.after plain_underlying hund QG.pure
omit hE in
def Chain (P : Program) {α β : Type} (g : α → β → Sem (ForInStep β)) (b : β) (w : World) : List α → Prop
  | [] => True
  | f :: r => QG P (g f b) w ∧ ∃ s, (g f b).run P w = .ok s w ∧ ∀ b', s = .yield b' → b' = b ∧ Chain P g b w r
omit hE in
theorem qg_forInC {α β : Type} {g : α → β → Sem (ForInStep β)} {b : β} {w : World} : ∀ {l : List α}, Chain P g b w l → QG P (forIn l b g) w
  | [], _ => by rw [List.forIn_nil]; exact QG.pure
  | f :: r, ⟨h1, s, h2, h3⟩ => by
    rw [List.forIn_cons]
    refine QG.next h1 h2 ?_
    cases s with
    | done b' => exact QG.pure
    | yield b' => obtain ⟨rfl, h4⟩ := h3 b' rfl; exact qg_forInC h4
theorem atom_np {t n : Nat} {ti : TI} (h2 : tagD ti.d = some n) {m : Ren} {a b : AV} {u v : Value} (hu : VR m a u) (hv : VR m b v) {r : Bool} (hk : atomEq n a b = some r) : NP u ∧ NP v := by
  have _ := hE
  have _ := t
  cases hd : ti.d <;> rw [hd] at h2 <;> simp only [tagD, reduceCtorEq, Option.some.injEq] at h2 <;> subst h2
  · simp only [atomEq, onBool_some, Option.some.injEq] at hk
    obtain ⟨x, rfl, y, rfl, rfl⟩ := hk
    rw [hu.bool_inv, hv.bool_inv]; exact ⟨.bool _, .bool _⟩
  · simp only [atomEq, onInt_some, bt_some, Option.some.injEq] at hk
    obtain ⟨k, x, rfl, l, y, rfl, hkl, rfl⟩ := hk
    rw [hu.int_inv, hv.int_inv]; exact ⟨.int _ _, .int _ _⟩
  · simp only [atomEq, onStr_some, Option.some.injEq] at hk
    obtain ⟨k, x, rfl, l, y, rfl, rfl⟩ := hk
    obtain ⟨s, e1, rfl, rfl⟩ := hu.str_inv
    obtain ⟨z, e2, rfl, rfl⟩ := hv.str_inv
    rw [e1, e2]; exact ⟨.string _, .string _⟩
theorem eqq_agg {t : Nat} {ti : TI} {fs : Array Field} {tags : List Nat} (h1 : tyOf E t = some ti) (h2 : ti.d = .struct fs) (h3 : ti.plainEq = true) (h4 : tagsOf E 0 fs.toList = some tags) : EqQ P ⟨eqAgg tags⟩ t := by
  intro m H w a b u v r hr hu hv hk d
  have hund := run_underlying (w := w) hE h1
  rw [h2] at hund
  simp only [eqAgg, onAgg_some] at hk
  obtain ⟨l, rfl, k, rfl, hk⟩ := hk
  obtain ⟨us, hus, rfl⟩ := hu.agg_inv
  obtain ⟨vs, hvs, rfl⟩ := hv.agg_inv
  obtain ⟨p1, p2⟩ := plain_of hE h1 h3
  refine QG.after plain_underlying hund (QG.after plain_program (show program.run P w = .ok P w from rfl) ?_)
  dsimp only
  rw [p1]
  simp only [Bool.false_eq_true, if_false]
  refine QG.bind ?_ fun x _ _ => Plain.qg (by (repeat' first | exact Pl.p | assumption | exact plain_newObj ⟨rfl, fun _ _ => by simp⟩ | exact plain_setObj ⟨rfl, fun _ _ => by simp⟩ | (with_reducible refine plain_forInL ?_ _ _) | (with_reducible refine plain_forInR ?_ _ _) | (with_reducible refine plain_forInA ?_ _ _) | (with_reducible refine plain_mapMA ?_ _) | (with_reducible refine plain_map ?_) | (with_reducible refine plain_pure_bind ?_) | (with_reducible refine Plain.bind ?_ ?_) | intro _ | split | dsimp only))
  rw [← Array.forIn_toList]
  refine qg_forInC ?_
  have key : ∀ {fs : List Field} {i : Nat} {tags : List Nat} {a b : AV} {us vs : List Value} {r : Bool} {pu pv : List Value}, tagsOf E i fs = some tags → VL m a us → VL m b vs → eqCells tags a b = some r →
      pu.length = i → pv.length = i → Chain P (fun (f : Field) (_ : Option Bool × PUnit) => (if f.name ≠ "_" then do
        let x ← part f.type (pu ++ us).toArray f.offset
        let y ← part f.type (pv ++ vs).toArray f.offset
        let e ← Op.equalIn (d + 1) f.type x y
        if (!e) = true then pure (ForInStep.done (some false, PUnit.unit)) else pure (ForInStep.yield (none, PUnit.unit))
        else pure (ForInStep.yield (none, PUnit.unit)) : Sem (ForInStep (Option Bool × PUnit)))) (none, PUnit.unit) w fs := by
    intro fs
    induction fs with
    | nil => intros; trivial
    | cons f fs ih =>
      intro i tags a b us vs r pu pv ht ha hb hk hpu hpv
      simp only [tagsOf] at ht
      split at ht
      · rename_i hc
        simp only [Bool.and_eq_true, bne_iff_ne, ne_eq, Nat.beq_eq] at hc
        simp only [ob_some, Option.some.injEq] at ht
        obtain ⟨ti, g1, n, g2, l, g3, rfl⟩ := ht
        simp only [eqCells, onCons_some, reduceCtorEq, and_false, false_or, ob_some] at hk
        obtain ⟨x, l1, rfl, y, l2, rfl, q, hq, hk⟩ := hk
        cases ha with | cons _ u _ us hu hus =>
        cases hb with | cons _ v _ vs hv hvs =>
        have pu1 : (part f.type (pu ++ u :: us).toArray f.offset).run P w = .ok u w := part_atom hE g1 g2 (by simp [hc.2, ← hpu])
        have pv1 : (part f.type (pv ++ v :: vs).toArray f.offset).run P w = .ok v w := part_atom hE g1 g2 (by simp [hc.2, ← hpv])
        have he := atom_eq hE g1 g2 hu hv (w := w) (d := d) hq
        obtain ⟨n1, n2⟩ := atom_np (t := f.type) hE g2 hu hv hq
        refine ⟨?_, if q then .yield (none, PUnit.unit) else .done (some false, PUnit.unit), ?_, ?_⟩
        · show QG P (if f.name ≠ "_" then _ else _) w
          rw [if_pos hc.1]
          refine QG.after plain_part pu1 (QG.after plain_part pv1 (QG.after (plain_eqAtom n1 n2) he ?_))
          split <;> exact QG.pure
        · show (if f.name ≠ "_" then _ else _ : Sem _).run P w = _
          rw [if_pos hc.1]
          simp only [Sem.run_bind, pu1, pv1, Result.andThen, he]
          cases q <;> rfl
        · intro b' hb'
          cases q
          · simp at hb'
          · simp only [if_true, ForInStep.yield.injEq] at hb'
            subst hb'
            refine ⟨rfl, ?_⟩
            simp only [bt_true] at hk
            have := ih (pu := pu ++ [u]) (pv := pv ++ [v]) g3 hus hvs hk (by simp [hpu]) (by simp [hpv])
            simpa using this
      · cases ht
  exact key (pu := []) (pv := []) h4 hus hvs hk rfl rfl
end
end Go.Xq
