/- A part of the proof that the evaluator is right. Conditions: in each theorem. -/
import Derived.Test.YtfgipbjaapkdlaaGreatDoorY9
namespace Go.Xq
section
variable {P : Program} {E : Env} (hE : TyOk P E) (hX : ExtOk P E) {b : Frame} {n : Cx}
theorem mem_catA {f : AV × AH → List Out} {p : AV × AH} {o : Out} : ∀ {l : List (AV × AH)}, p ∈ l → o ∈ f p → o ∈ catA f l
  | [], h, _ => by cases h
  | q :: r, h, ho => by
    simp only [catA, List.mem_append]
    rcases List.mem_cons.1 h with rfl | h
    · exact .inl ho
    · exact .inr (mem_catA h ho)
theorem catA_not {f : AV × AH → List Out} (hf : ∀ p, ∀ o ∈ f p, ∀ T D H, o ≠ .nor T D H) : ∀ {l : List (AV × AH)}, ∀ o ∈ catA f l, ∀ T D H, o ≠ .nor T D H
  | [], o, h => by cases h
  | q :: r, o, h => by
    simp only [catA, List.mem_append] at h
    rcases h with h | h
    · exact hf q o h
    · exact catA_not hf o h
theorem mapBody_not {h : MH} {kr : RK} {R : Rec} {go : Tr AV → List ADf → AH → List Out} (hg : ∀ T D H, ∀ o ∈ go T D H, ∀ T' D' H', o ≠ .nor T' D' H') {T : Tr AV} {D : List ADf} (p : AV × AH) : ∀ o ∈ mapBody h kr R go T D p, ∀ T' D' H', o ≠ .nor T' D' H' := by
  intro o ho
  unfold mapBody at ho
  split at ho
  · split at ho
    · exact hg _ _ _ o ho
    all_goals (rw [List.mem_singleton] at ho; subst ho; intro _ _ _ e; cases e)
  all_goals (rw [List.mem_singleton] at ho; subst ho; intro _ _ _ e; cases e)
theorem mapA_not {h : MH} {kr : RK} {R : Rec} : ∀ (fuel : Nat) (T : Tr AV) (D : List ADf) (H : AH), ∀ o ∈ mapA h kr R fuel T D H, ∀ T' D' H', o ≠ .nor T' D' H'
  | 0, T, D, H, o, ho => by
    simp only [mapA, List.mem_singleton] at ho
    subst ho; intro _ _ _ e; cases e
  | f + 1, T, D, H, o, ho => by
    have ho : o ∈ oc (nextOpts h.it T H) [.bad] fun l => catA (mapBody h kr R (mapA h kr R f) T D) l := ho
    cases hn : nextOpts h.it T H with
    | none =>
      rw [hn, oc_none, List.mem_singleton] at ho
      subst ho; intro _ _ _ e; cases e
    | some l =>
      rw [hn, oc_some] at ho
      exact catA_not (mapBody_not (mapA_not f)) o ho
theorem mapHead_inv {rd : Bool} {a : Code} {h : MH} (hh : mapHead E n.n rd a = some h) :
    ∃ id ops o os, a = .region id ops false ∧ ops.toList = o :: os ∧ o.op = .next h.it false ∧ o.guard = none ∧ h.dst = o.dst ∧ dstOk n.n o.dst = true ∧ opsK E n.n rd ops.toList os = some h.k := by
  unfold mapHead at hh
  split at hh <;> try (cases hh; done)
  rename_i id ops draw
  split at hh <;> try (cases hh; done)
  split at hh <;> try (cases hh; done)
  rename_i o os hops
  split at hh <;> try (cases hh; done)
  rename_i it str hop
  split at hh <;> try (cases hh; done)
  split at hh <;> try (cases hh; done)
  rename_i hgu
  simp only [bt_some, ob_some, Option.some.injEq] at hh
  obtain ⟨hd, k, hk, rfl⟩ := hh
  exact ⟨id, ops, o, os, rfl, hops, hop, hgu, rfl, hd, by rw [hops]; exact hk⟩
include hE hX in
theorem mapA_ok {rd : Bool} (hrd : rd = b.roundOf.isSome) {a d : Code} {h : MH} (hh : mapHead E n.n rd a = some h) {kr : RK} (hy : RKOk P b n [.code d] kr) {R : Rec} (hR : RecOk P R) :
    ∀ (fuel : Nat) (m : Ren) (H : AH) (w : World) (T : Tr AV) (D : List ADf) (ac : Act) (K : List Item) (cs : List Frame), CsOk b.kind cs → Rel m H w → FrR n m T D ac →
      ∃ out ∈ mapA h kr R fuel T D H, OutOk P b n (.inLoop (.seq a d) :: K) cs m H w (lone (b.atR ac (.code (.seq a d) :: .inLoop (.seq a d) :: K)) cs w) out := by
  obtain ⟨id, ops, o, os, rfl, hops, hop, hgu, hdst, hd, hk⟩ := mapHead_inv hh
  have hk1 : RKOk P b n [.inRegion ops (List.range' 1 os.length)] h.k := opsK_ok hE hX hrd (i := 1) (by rw [hops]; rfl) hk
  have ho : ops[0]? = some o := by rw [← Array.getElem?_toList, hops]; rfl
  have hsz : List.range ops.size = 0 :: List.range' 1 os.length := by
    rw [← Array.length_toList, hops, List.range_eq_range', List.length_cons, List.range'_succ]
  intro fuel
  induction fuel with
  | zero => intro m H w T D ac K cs hcs hr hf; exact ⟨.bad, by simp [mapA], trivial⟩
  | succ fuel ih =>
    intro m H w T D ac K cs hcs hr hf
    show ∃ out ∈ oc (nextOpts h.it T H) [.bad] fun l => catA (mapBody h kr R (mapA h kr R fuel) T D) l, _
    cases hn : nextOpts h.it T H with
    | none => exact ⟨.bad, by simp, trivial⟩
    | some l =>
      rw [oc_some]
      obtain ⟨p, hp, hout⟩ := nextOpts_ok (P := P) hop hr (hf.er hr) hn
      have hw : Region.wanted o (yielded ops ac.tmps) = true := by unfold Region.wanted; rw [hgu]
      obtain ⟨v', w1, ⟨m1, hst1, hv1⟩, hs1⟩ := step_op (b := b) (K := .code d :: .inLoop (.seq (.region id ops false) d) :: K) (cs := cs) (rest := List.range' 1 os.length) ho hw (Oper.semAt_eq _ _ _ (by rw [hop]; intro c e; cases e)) hout
      have hf1 : FrR n m1 (putA T h.dst p.1) D (ac.put o.dst v') := by rw [hdst]; exact (hf.mono (St.le hr hst1)).put hd hv1
      have hpre : Steps P (lone (b.atR ac (.code (.seq (.region id ops false) d) :: .inLoop (.seq (.region id ops false) d) :: K)) cs w) (lone (b.atR (ac.put o.dst v') (.inRegion ops (List.range' 1 os.length) :: .code d :: .inLoop (.seq (.region id ops false) d) :: K)) cs w1) := by
        refine .head stepR_seq (.head stepR_region ?_)
        rw [hsz]; exact hs1
      have h2 := hk1 R hR m1 p.2 w1 (putA T h.dst p.1) D (ac.put o.dst v') (.code d :: .inLoop (.seq (.region id ops false) d) :: K) cs hcs hst1.rel hf1
      have fin : ∀ out, out ∈ mapBody h kr R (mapA h kr R fuel) T D p → OutOk P b n (.inLoop (.seq (.region id ops false) d) :: K) cs m1 p.2 w1 (lone (b.atR (ac.put o.dst v') ([.inRegion ops (List.range' 1 os.length)] ++ (.code d :: .inLoop (.seq (.region id ops false) d) :: K))) cs w1) out →
          ∃ out ∈ catA (mapBody h kr R (mapA h kr R fuel) T D) l, OutOk P b n (.inLoop (.seq (.region id ops false) d) :: K) cs m H w (lone (b.atR ac (.code (.seq (.region id ops false) d) :: .inLoop (.seq (.region id ops false) d) :: K)) cs w) out :=
        fun out hmem hok => ⟨out, mem_catA hp hmem, OutOk.steps hpre hst1 hok⟩
      cases ho1 : h.k.f R (putA T h.dst p.1) D p.2 with
      | bad => exact fin .bad (by simp [mapBody, ho1]) trivial
      | ext i T1 D1 H1 =>
        rw [ho1] at h2
        obtain ⟨m2, a2, w2, K2, g1, g2, g3, g4⟩ := h2
        exact fin (.ext i T1 D1 H1) (by simp [mapBody, ho1]) ⟨m2, a2, w2, K2, g1, g2, g3, g4⟩
      | ret T1 D1 H1 =>
        rw [ho1] at h2
        obtain ⟨m2, a2, w2, K2, g1, g2, g3⟩ := h2
        exact fin (.ret T1 D1 H1) (by simp [mapBody, ho1]) ⟨m2, a2, w2, K2, g1, g2, g3⟩
      | nor T1 D1 H1 =>
        rw [ho1] at h2
        obtain ⟨m2, a2, w2, g1, g2, g3⟩ := h2
        have h3 := hy R hR m2 H1 w2 T1 D1 a2 (.inLoop (.seq (.region id ops false) d) :: K) cs hcs g1.rel g2
        cases ho2 : kr.f R T1 D1 H1 with
        | bad => exact fin .bad (by simp [mapBody, ho1, ho2]) trivial
        | ext i T2 D2 H2 =>
          rw [ho2] at h3
          exact fin (.ext i T2 D2 H2) (by simp [mapBody, ho1, ho2]) (OutOk.steps g3 g1 h3)
        | ret T2 D2 H2 =>
          rw [ho2] at h3
          exact fin (.ret T2 D2 H2) (by simp [mapBody, ho1, ho2]) (OutOk.steps g3 g1 h3)
        | nor T2 D2 H2 =>
          rw [ho2] at h3
          obtain ⟨m3, a3, w3, k1, k2, k3⟩ := h3
          obtain ⟨out, hmem, hok⟩ := ih m3 H2 w3 T2 D2 a3 K cs hcs k1.rel k2
          refine fin out (by simp only [mapBody, ho1, ho2]; exact hmem) ?_
          exact OutOk.steps (g3.trans (k3.trans (.one stepR_inLoop))) (g1.trans k1) hok
include hE hX in
theorem mapLoop_ok {rd : Bool} (hrd : rd = b.roundOf.isSome) {a d : Code} {h : MH} (hh : mapHead E n.n rd a = some h) {kr : RK} (hy : RKOk P b n [.code d] kr) : RKOk P b n [.code (.loop (.seq a d))] ⟨cMapLoop h kr⟩ := by
  intro R hR m H w T D ac K cs hcs hr hf
  obtain ⟨out, hmem, hok⟩ := mapA_ok hE hX hrd hh hy hR 100 m H w T D ac K cs hcs hr hf
  have hnot := mapA_not (h := h) (kr := kr) (R := R) 100 T D H
  have hle := meetL_le hmem hnot
  have hno := hnot out hmem
  have hok2 : OutOk P b n K cs m H w (lone (b.atR ac ([.code (.loop (.seq a d))] ++ K)) cs w) out := by
    have h1 := OutOk.steps (.one stepR_loop) (St.refl hr) hok
    cases out with
    | bad => trivial
    | nor T2 D2 H2 => exact absurd rfl (hno T2 D2 H2)
    | ext id T2 D2 H2 => exact h1
    | ret T2 D2 H2 => exact h1
  show OutOk P b n K cs m H w _ (meetL (mapA h kr R 100 T D H))
  revert hle
  generalize meetL (mapA h kr R 100 T D H) = J
  intro hle
  exact OutOk.less hle hok2
end
end Go.Xq
namespace Go.Xq
section
variable {P : Program} {E : Env} (hE : TyOk P E) (hX : ExtOk P E) {b : Frame} {n : Cx}
def CmOk (P : Program) (cm : CallM) : Prop := ∀ f args H l, cm f args H = some l → Enters P f ∧ ∀ m w vs, Rel m H w → VL m args vs → XC P .normal f vs.toArray w (fun v' w' => ∃ r ∈ l, Post m H w r.1 r.2 v' w')
def MKOk (P : Program) (b : Frame) (n : Cx) (its : List Item) (k : MK) : Prop :=
  ∀ R, RecOk P R → ∀ cm, CmOk P cm → ∀ m H w T D a K cs, CsOk b.kind cs → Rel m H w → FrR n m T D a → ∃ out ∈ k.f R cm T D H, OutOk P b n K cs m H w (lone (b.atR a (its ++ K)) cs w) out
theorem oneM_ok {its : List Item} {x : RK} (hx : RKOk P b n its x) : MKOk P b n its (oneM x) :=
  fun R hR _ _ m H w T D a K cs hcs hr hf => ⟨_, List.mem_singleton.2 rfl, hx R hR m H w T D a K cs hcs hr hf⟩
theorem mem_catO_nor {f : Tr AV → List ADf → AH → List Out} {T : Tr AV} {D : List ADf} {H : AH} {o : Out} : ∀ {l : List Out}, Out.nor T D H ∈ l → o ∈ f T D H → o ∈ catO f l
  | [], h, _ => by cases h
  | q :: r, h, ho => by
    simp only [catO, List.mem_append]
    rcases List.mem_cons.1 h with e | h
    · subst e; exact .inl ho
    · exact .inr (mem_catO_nor h ho)
theorem mem_catO_oth {f : Tr AV → List ADf → AH → List Out} {o : Out} (hn : ∀ T D H, o ≠ .nor T D H) : ∀ {l : List Out}, o ∈ l → o ∈ catO f l
  | [], h => by cases h
  | q :: r, h => by
    simp only [catO, List.mem_append]
    rcases List.mem_cons.1 h with e | h
    · subst e
      cases o with
      | bad => exact .inl (List.mem_singleton.2 rfl)
      | nor T D H => exact absurd rfl (hn T D H)
      | ext i T D H => exact .inl (List.mem_singleton.2 rfl)
      | ret T D H => exact .inl (List.mem_singleton.2 rfl)
    · exact .inr (mem_catO_oth hn h)
theorem mem_mapO {g : Out → Out} {o : Out} : ∀ {l : List Out}, o ∈ l → g o ∈ mapO g l
  | [], h => by cases h
  | q :: r, h => by
    simp only [mapO]
    rcases List.mem_cons.1 h with rfl | h
    · simp
    · exact List.mem_cons_of_mem _ (mem_mapO h)
theorem mem_endsM {l : Nat} {T : Tr AV} {D : List ADf} {p : AV × AH} : ∀ {rs : List (AV × AH)}, p ∈ rs → cRangeEnd l T D p.2 ∈ endsM l T D rs
  | [], h => by cases h
  | q :: r, h => by
    simp only [endsM]
    rcases List.mem_cons.1 h with rfl | h
    · simp
    · exact List.mem_cons_of_mem _ (mem_endsM h)
theorem directCall_inv {op : Op} {p : Nat × LsK} (h : directCall op = some p) : ∃ c, op = .call c ∧ c.callee = .value (.func p.1) ∧ p.2 = opnds c.args.toList := by
  unfold directCall at h
  split at h <;> try (cases h; done)
  rename_i c
  split at h <;> try (cases h; done)
  rename_i f hc
  split at h <;> try (cases h; done)
  cases h
  exact ⟨c, rfl, hc, rfl⟩
include hE hX in
theorem opM_ok {o : Oper} {sp : Sp} {ops : List Oper} (hsp : spK E n.n ops o = some sp) {R : Rec} (hR : RecOk P R) {m : Ren} {H : AH} {w : World} {T : Tr AV} {ρ : Operand → Value} (hr : Rel m H w) (he : ER m T ρ) {r : AV × AH} (hk : opM sp R T H = some r) :
    (∀ c, o.op ≠ .defer c) ∧ Outc P (execOp ρ o) w (Post m H w r.1 r.2) := by
  simp only [spK, ob_some, bt_some, Option.some.injEq] at hsp
  obtain ⟨g', _, _, rfl⟩ := hsp
  unfold opM at hk
  split at hk
  · rename_i k hact
    simp only [ob_some, Option.some.injEq] at hk
    obtain ⟨v, hv, rfl⟩ := hk
    rcases actK_look hact with h | h
    · exact ⟨look_nodefer h, look_outc hE h hr he hv⟩
    · rw [h] at hv; cases hv
  · rename_i k hact
    simp only [ob_some, Option.some.injEq] at hk
    obtain ⟨p, hp, rfl⟩ := hk
    have h := actK_fresh hact
    exact ⟨fresh_nodefer h, fresh_outc hE h hr he hp⟩
  · rename_i k hact
    have h := actK_heavy hact
    exact ⟨heavy_nodefer h, heavyK_ok hE hX h R hR m H w T ρ r.1 r.2 hr he hk⟩
  · cases hk
include hE hX in
theorem regM_ok {ops : Array Oper} : ∀ {r : List Oper} {i : Nat} {k : MK}, ops.toList.drop i = r → regM E n.n ops.toList r = some k → MKOk P b n [.inRegion ops (List.range' i r.length)] k
  | [], i, k, _, h => by
    cases h
    intro R hR cm hcm m H w T D a K cs hcs hr hf
    exact ⟨.nor T D H, List.mem_singleton.2 rfl, m, a, w, St.refl hr, hf, .one stepR_region_end⟩
  | o :: r, i, k, hd, h => by
    simp only [regM, ob_some] at h
    obtain ⟨sp, hsp, nx, hnx, h⟩ := h
    have ho : ops[i]? = some o := by
      rw [← Array.getElem?_toList]
      have : (ops.toList.drop i)[0]? = some o := by rw [hd]; rfl
      simpa using this
    have hd2 : ops.toList.drop (i + 1) = r := by
      rw [← List.drop_drop, hd]; rfl
    have ih := regM_ok hd2 hnx (i := i + 1)
    rw [List.length_cons, List.range'_succ]
    have hsp0 := hsp
    simp only [spK, ob_some, bt_some, Option.some.injEq] at hsp
    obtain ⟨g, hg, hdst, hspe⟩ := hsp
    split at h
    · cases h
    rename_i hgn
    have hgn : g = none := by rw [← hspe] at hgn; exact hgn
    subst hgn
    have hspd : sp.dst = o.dst := by rw [← hspe]
    intro R hR cm hcm m H w T D a K cs hcs hr hf
    have hw : Region.wanted o (yielded ops a.tmps) = true := want_at (m := m) (T := T) hg (fun d want e => by cases e) rfl
    split at h
    · rename_i p hdc
      cases h
      obtain ⟨c, hop, hc, hl⟩ := directCall_inv hdc
      show ∃ out ∈ oc (ob (p.2.f T) fun args => cm p.1 args H) [.bad] fun rs => catA (fun r => nx.f R cm (putA T sp.dst r.1) D r.2) rs, _
      cases hcall : (ob (p.2.f T) fun args => cm p.1 args H) with
      | none => exact ⟨.bad, by simp, trivial⟩
      | some rs =>
        rw [oc_some]
        simp only [ob_some] at hcall
        obtain ⟨args, hargs, hcall⟩ := hcall
        rw [hl] at hargs
        obtain ⟨hen, hx⟩ := hcm _ _ _ _ hcall
        have hvl := run_map_ops (hf.er hr) hargs
        have hxc := hx m w _ hr hvl
        have hrun : (execOp a.eval o).run P w = .ok (.enter p.1 (c.args.map a.eval).toList.toArray) w := by
          have := run_enter (args := (c.args.map a.eval).toList.toArray) (w := w) hen
          rw [← this]
          simp only [execOp, hop, resolve, hc, Act.eval, Deferred.ofValue, Sem.run_bind, Sem.run_pure, Result.andThen, invoke]
          congr 2
          apply Array.toList_inj.1; simp
        obtain ⟨v', w1, ⟨q, hq, m1, hst1, hv1⟩, hs1⟩ := step_op (b := b) (K := K) (cs := cs) (rest := List.range' (i + 1) r.length) ho hw (Oper.semAt_eq _ _ _ (by rw [hop]; intro c e; cases e)) (.enter _ _ w hrun hxc)
        have hf1 : FrR n m1 (putA T sp.dst q.1) D (a.put o.dst v') := by rw [hspd]; exact (hf.mono (St.le hr hst1)).put hdst hv1
        obtain ⟨out, hmem, hok⟩ := ih R hR cm hcm m1 q.2 w1 _ D _ K cs hcs hst1.rel hf1
        exact ⟨out, mem_catA hq hmem, OutOk.steps hs1 hst1 hok⟩
    · cases h
      show ∃ out ∈ oc (opM sp R T H) [.bad] fun r => nx.f R cm (putA T sp.dst r.1) D r.2, _
      cases hop : opM sp R T H with
      | none => exact ⟨.bad, by simp, trivial⟩
      | some q =>
        rw [oc_some]
        obtain ⟨hnd, hout⟩ := opM_ok hE hX hsp0 hR hr (hf.er hr) hop
        obtain ⟨v', w1, ⟨m1, hst1, hv1⟩, hs1⟩ := step_op (b := b) (K := K) (cs := cs) (rest := List.range' (i + 1) r.length) ho hw (Oper.semAt_eq _ _ _ hnd) hout
        have hf1 : FrR n m1 (putA T sp.dst q.1) D (a.put o.dst v') := by rw [hspd]; exact (hf.mono (St.le hr hst1)).put hdst hv1
        obtain ⟨out, hmem, hok⟩ := ih R hR cm hcm m1 q.2 w1 _ D _ K cs hcs hst1.rel hf1
        exact ⟨out, hmem, OutOk.steps hs1 hst1 hok⟩
theorem seqM_ok {c d : Code} {x y : MK} (hx : MKOk P b n [.code c] x) (hy : MKOk P b n [.code d] y) : MKOk P b n [.code (.seq c d)] ⟨seqM x y⟩ := by
  intro R hR cm hcm m H w T D a K cs hcs hr hf
  obtain ⟨out, hmem, h1⟩ := hx R hR cm hcm m H w T D a (.code d :: K) cs hcs hr hf
  have hs : Steps P (lone (b.atR a ([.code (.seq c d)] ++ K)) cs w) (lone (b.atR a ([.code c] ++ (.code d :: K))) cs w) := .one stepR_seq
  show ∃ out ∈ catO (fun T D H => y.f R cm T D H) (x.f R cm T D H), _
  cases out with
  | bad => exact ⟨.bad, mem_catO_oth (by intro _ _ _ e; cases e) hmem, trivial⟩
  | nor T2 D2 H2 =>
    obtain ⟨m2, a2, w2, g1, g2, g3⟩ := h1
    obtain ⟨out2, hmem2, h2⟩ := hy R hR cm hcm m2 H2 w2 T2 D2 a2 K cs hcs g1.rel g2
    exact ⟨out2, mem_catO_nor hmem hmem2, OutOk.steps (hs.trans g3) g1 h2⟩
  | ext id T2 D2 H2 =>
    obtain ⟨m2, a2, w2, K2, g1, g2, g3, g4⟩ := h1
    exact ⟨.ext id T2 D2 H2, mem_catO_oth (by intro _ _ _ e; cases e) hmem, m2, a2, w2, K2, g1, g2, g3, hs.trans g4⟩
  | ret T2 D2 H2 =>
    obtain ⟨m2, a2, w2, K2, g1, g2, g3⟩ := h1
    exact ⟨.ret T2 D2 H2, mem_catO_oth (by intro _ _ _ e; cases e) hmem, m2, a2, w2, K2, g1, g2, hs.trans g3⟩
theorem OutOk.block {id : Nat} {K : List Item} {cs : List Frame} {m : Ren} {H : AH} {w : World} {s0 : Machine} {out : Out} (h : OutOk P b n (.inBlock id :: K) cs m H w s0 out) : OutOk P b n K cs m H w s0 (bOut id out) := by
  cases out with
  | bad => trivial
  | nor T2 D2 H2 =>
    obtain ⟨m2, a2, w2, g1, g2, g3⟩ := h
    exact ⟨m2, a2, w2, g1, g2, g3.trans (.one stepR_inBlock)⟩
  | ext id2 T2 D2 H2 =>
    obtain ⟨m2, a2, w2, K2, g1, g2, g3, g4⟩ := h
    simp only [exitTo] at g3
    show OutOk P b n K cs m H w _ (bt (Nat.beq id2 id) (.nor T2 D2 H2) (.ext id2 T2 D2 H2))
    cases hb : Nat.beq id2 id with
    | true =>
      have := Nat.eq_of_beq_eq_true hb
      subst this
      simp only [beq_self_eq_true, if_true] at g3
      exact ⟨m2, a2, w2, g1, g2, g4.trans (.one (stepR_exit g3))⟩
    | false =>
      have hne : ¬ id = id2 := fun e => by subst e; simp at hb
      rw [if_neg (by simpa using hne)] at g3
      exact ⟨m2, a2, w2, K2, g1, g2, g3, g4⟩
  | ret T2 D2 H2 =>
    obtain ⟨m2, a2, w2, K2, g1, g2, g3⟩ := h
    exact ⟨m2, a2, w2, K2, g1, g2, g3⟩
theorem blockM_ok {id : Nat} {c : Code} {x : MK} (hx : MKOk P b n [.code c] x) : MKOk P b n [.code (.block id c)] ⟨fun R cm T D H => mapO (bOut id) (x.f R cm T D H)⟩ := by
  intro R hR cm hcm m H w T D a K cs hcs hr hf
  obtain ⟨out, hmem, h1⟩ := hx R hR cm hcm m H w T D a (.inBlock id :: K) cs hcs hr hf
  exact ⟨bOut id out, mem_mapO hmem, OutOk.steps (.one stepR_block) (St.refl hr) h1.block⟩
end
end Go.Xq
namespace Go.Xq
section
variable {P : Program} {E : Env} (hE : TyOk P E) (hX : ExtOk P E) (hm : P.follows .mixedOrders = true) {b : Frame} {cx : Cx}
theorem rangeM_ok (hrd : cx.ro = none) (hro : b.roundOf = cx.ro) {fid : Nat} (hfn : b.fn = fid) {f : Operand} {params : Array Tmp} {assign body : Code} :
    MKOk P b cx [.code (.rangeFunc f params assign body)] ⟨rangeM fid cx.n f params.toList assign body⟩ := by
  intro R hR cm hcm m H w T D a K cs hcs hr hf
  subst hfn
  show ∃ out ∈ rangeM b.fn cx.n f params.toList assign body R cm T D H, OutOk P b cx K cs m H w _ out
  unfold rangeM
  split
  rotate_left
  · exact ⟨.bad, by simp, trivial⟩
  rename_i q first cap hfv
  split
  rotate_left
  · exact ⟨.bad, by simp, trivial⟩
  rename_i g
  let i0 : BI := ⟨w.heap.size, 0, 0, 0⟩
  let wd : World := w.alloc (.deferred (some []))
  have hst0 : St m H w (m.ext H.next i0) (H.new (.dfr true)) wd := St.newBlk hr rfl rfl (.dfrT i0) rfl rfl
  have hle0 := hr.le (Ext.ext m H.next i0)
  let m1 := m.ext H.next i0
  let H1 := H.new (.dfr true)
  have hnx : H1.next = Nat.succ H.next := by simp [H1]
  let i : BI := ⟨wd.heap.size, 0, 0, 0⟩
  let q0 : ALoop := { state := .ready, pending := none, fn := b.fn, tmps := T, ntmps := cx.n, params := params.toList, assign, body, defers := H.next }
  have hle1 := hst0.rel.le (Ext.ext m1 H1.next i)
  have hfm := hf.mono hle0
  have hor : OR (m1.ext H1.next i) (.loop { state := .ready, pending := none, fn := b.fn, tmps := a.tmps, params, assign, body, defers := i0.blk }) (.loop q0) i := by
    have := OR.loop q0 a.tmps i0 i (hfm.t.mono hle1) (hle1 _ _ (Ren.ext_same _ _ _))
    simpa [q0] using this
  let w1 : World := wd.alloc (.loop { state := .ready, pending := none, fn := b.fn, tmps := a.tmps, params, assign, body, defers := i0.blk })
  have hst1 : St m1 H1 wd (m1.ext H1.next i) (H1.new (.loop q0)) w1 := St.newBlk hst0.rel rfl rfl hor rfl rfl
  have hst := hst0.trans hst1
  rw [← hnx]
  show ∃ out ∈ oc (cm g (AV.app first (AV.cons (.fn (.yield H1.next) .nil .nil) cap)) (H1.new (.loop q0))) [.bad] fun rs => endsM H1.next T ({ mark := some H.next, f := .nil, args := .nil } :: D) rs, OutOk P b cx K cs m H w _ out
  cases hcall : cm g (AV.app first (AV.cons (.fn (.yield H1.next) .nil .nil) cap)) (H1.new (.loop q0)) with
  | none => exact ⟨.bad, by simp, trivial⟩
  | some rs =>
    rw [oc_some]
    obtain ⟨hen, hx⟩ := hcm _ _ _ _ hcall
    have hfr := hf.er hr f _ hfv
    obtain ⟨g', va, vc, hq, hva, hvc, efv⟩ := hfr.fn_inv
    cases hq
    have hleA : Le m (m1.ext H1.next i) := St.le hr hst
    have hargs : VL (m1.ext H1.next i) (AV.app first (AV.cons (.fn (.yield H1.next) .nil .nil) cap)) (va ++ (.func (.yield wd.heap.size) #[] #[] :: vc)) :=
      (hva.mono hleA).app (.cons _ _ _ _ (.fn _ _ _ _ [] [] (.yield H1.next i (Ren.ext_same _ _ _)) .nil .nil) (hvc.mono hleA))
    have hen2 : (Instr.enterLoop b.fn a.tmps params assign body b.roundOf).run P w = .ok (wd.heap.size, [{ target := .collected w.heap.size, args := #[] }]) w1 := by
      rw [hro, hrd, run_enterLoop_outer, World.size_alloc]
    have harr : va.toArray ++ #[Value.func (.yield wd.heap.size) #[] #[]] ++ vc.toArray = (va ++ (.func (.yield wd.heap.size) #[] #[] :: vc)).toArray := by apply Array.toList_inj.1; simp
    have hstep : step P (lone (b.atR a ([.code (.rangeFunc f params assign body)] ++ K)) cs w) =
        .next (lone (Frame.enter P g (va ++ (.func (.yield wd.heap.size) #[] #[] :: vc)).toArray .normal) (b.atR { a with defers := [{ target := .collected w.heap.size, args := #[] }] ++ a.defers } (.inRangeFunc wd.heap.size :: K) :: cs) w1) := by
      refine stepR_rangeFunc (w₁' := w1) (d := { target := .fn (.func g) vc.toArray, args := va.toArray ++ #[Value.func (.yield wd.heap.size) #[] #[]] }) hen2 ?_ ?_
      · have em : (#[Operand.const (.func (.yield wd.heap.size) #[] #[])] : Array Operand).map a.eval = #[Value.func (.yield wd.heap.size) #[] #[]] := by
          simp [Act.eval]
        simp only [resolve, efv, Deferred.ofValue, Sem.run_pure, em]
      · simp only [invoke, harr]
        exact run_enter hen
    obtain ⟨v', w2, fr, ⟨r, hr2, m2, hst2, _⟩, hsteps, hk, _, hlv⟩ := hx (m1.ext H1.next i) w1 _ hst1.rel hargs (b.atR { a with defers := [{ target := .collected w.heap.size, args := #[] }] ++ a.defers } (.inRangeFunc wd.heap.size :: K) :: cs) (.inl rfl)
    have hleave := step_leave (cs := cs) (c := b.atR { a with defers := [{ target := .collected w.heap.size, args := #[] }] ++ a.defers } (.inRangeFunc wd.heap.size :: K)) hlv hk
    rw [finish_atR_inRangeFunc] at hleave
    have hall := hst.trans hst2
    have hle2 := St.le hst1.rel hst2
    have hf2 : FrR cx m2 T ({ mark := some H.next, f := .nil, args := .nil } :: D) { a with defers := [{ target := .collected w.heap.size, args := #[] }] ++ a.defers } := by
      have hfA := hf.mono (St.le hr hall)
      exact ⟨hfA.t, .cons _ _ _ _ (.mark _ i0 _ _ (hle2 _ _ (hle1 _ _ (Ren.ext_same _ _ _)))) hfA.d, hfA.r⟩
    have hend := rangeEnd_ok (P := P) (b := b) (K := K) (cs := cs) hst2.rel hf2 (hle2 _ _ (Ren.ext_same m1 H1.next i))
    exact ⟨_, mem_endsM hr2, OutOk.steps (.head hstep (hsteps.trans (.one hleave))) hall hend⟩
theorem loopM_ok {a d : Code} {h : MH} {rd : Bool} (hE : TyOk P E) (hX : ExtOk P E) (hrd : rd = b.roundOf.isSome) (hh : mapHead E cx.n rd a = some h) {kr : RK} (hy : RKOk P b cx [.code d] kr) : MKOk P b cx [.code (.loop (.seq a d))] ⟨fun R _ T D H => mapA h kr R 100 T D H⟩ := by
  intro R hR _ _ m H w T D ac K cs hcs hr hf
  obtain ⟨out, hmem, hok⟩ := mapA_ok hE hX hrd hh hy hR 100 m H w T D ac K cs hcs hr hf
  have hno := mapA_not (h := h) (kr := kr) (R := R) 100 T D H out hmem
  refine ⟨out, hmem, ?_⟩
  have h1 := OutOk.steps (.one stepR_loop) (St.refl hr) hok
  cases out with
  | bad => trivial
  | nor T2 D2 H2 => exact absurd rfl (hno T2 D2 H2)
  | ext id T2 D2 H2 => exact h1
  | ret T2 D2 H2 => exact h1
end
end Go.Xq
namespace Go.Xq
section
variable {P : Program} {E : Env} (hE : TyOk P E) (hX : ExtOk P E) (hm : P.follows .mixedOrders = true)
def CodeOk1 (P : Program) (E : Env) (c : Code) : Prop := ∀ (fid n : Nat) (rd : Option Nat) (k : RK), compK E fid n rd c = some k → ∀ (b : Frame) (cx : Cx), cx.n = n → cx.rd = rd → b.roundOf = cx.ro → cx.rd.isSome = cx.ro.isSome → b.fn = fid → RKOk P b cx [.code c] k
include hE hX hm in
theorem compK_okS : ∀ c, CodeOk1 P E c ∧ ∀ a d, c = .seq a d → CodeOk1 P E a ∧ CodeOk1 P E d := by
  intro c
  induction c with
  | skip => exact ⟨fun fid n rd k h b cx hn hrd hro hsm hfn => by cases h; exact skip_ok (.inl rfl), fun _ _ e => by cases e⟩
  | label l => exact ⟨fun fid n rd k h b cx hn hrd hro hsm hfn => by cases h; exact skip_ok (.inr ⟨l, rfl⟩), fun _ _ e => by cases e⟩
  | region id ops draw =>
    refine ⟨fun fid n rd k h b cx hn hrd hro hsm hfn => ?_, fun _ _ e => by cases e⟩
    subst hn hrd
    cases draw with
    | false => exact region_ok hE hX (rd := cx.rd.isSome) (by rw [hro, hsm]) h
    | true => exact draw_ok hE hX hm h
  | seq a c iha ihb =>
    refine ⟨fun fid n rd k h b cx hn hrd hro hsm hfn => ?_, fun _ _ e => by cases e; exact ⟨iha.1, ihb.1⟩⟩
    simp only [compK, ob_some, Option.some.injEq] at h
    obtain ⟨x, h1, y, h2, rfl⟩ := h
    exact seq_ok (iha.1 fid n rd x h1 b cx hn hrd hro hsm hfn) (ihb.1 fid n rd y h2 b cx hn hrd hro hsm hfn)
  | cond q a c iha ihb =>
    refine ⟨fun fid n rd k h b cx hn hrd hro hsm hfn => ?_, fun _ _ e => by cases e⟩
    simp only [compK, ob_some, Option.some.injEq] at h
    obtain ⟨x, h1, y, h2, rfl⟩ := h
    exact cond_ok (iha.1 fid n rd x h1 b cx hn hrd hro hsm hfn) (ihb.1 fid n rd y h2 b cx hn hrd hro hsm hfn)
  | block id c ih =>
    refine ⟨fun fid n rd k h b cx hn hrd hro hsm hfn => ?_, fun _ _ e => by cases e⟩
    simp only [compK, ob_some, Option.some.injEq] at h
    obtain ⟨x, h1, rfl⟩ := h
    exact block_ok (ih.1 fid n rd x h1 b cx hn hrd hro hsm hfn)
  | loop c ih =>
    refine ⟨fun fid n rd k h b cx hn hrd hro hsm hfn => ?_, fun _ _ e => by cases e⟩
    by_cases hc : ∃ a d, c = .seq a d
    · obtain ⟨a, d, rfl⟩ := hc
      obtain ⟨ha, hd⟩ := ih.2 a d rfl
      simp only [compK, ob_some] at h
      obtain ⟨y, h2, h⟩ := h
      have hyd := hd fid n rd y h2 b cx hn hrd hro hsm hfn
      split at h
      · rename_i q hq
        simp only [Option.some.injEq] at h
        subst h
        subst hn hrd
        exact mapLoop_ok hE hX (rd := cx.rd.isSome) (by rw [hro, hsm]) hq hyd
      · simp only [ob_some, Option.some.injEq] at h
        obtain ⟨x, h1, rfl⟩ := h
        exact loop_ok (seq_ok (ha fid n rd x h1 b cx hn hrd hro hsm hfn) hyd)
    · have e : compK E fid n rd (.loop c) = ob (compK E fid n rd c) fun x => some ⟨cLoop x⟩ := by
        cases c <;> first | rfl | exact absurd ⟨_, _, rfl⟩ hc
      rw [e] at h
      simp only [ob_some, Option.some.injEq] at h
      obtain ⟨x, h1, rfl⟩ := h
      exact loop_ok (ih.1 fid n rd x h1 b cx hn hrd hro hsm hfn)
  | scope c ih =>
    refine ⟨fun fid n rd k h b cx hn hrd hro hsm hfn => ?_, fun _ _ e => by cases e⟩
    simp only [compK] at h
    exact scope_ok (ih.1 fid n rd k h b cx hn hrd hro hsm hfn)
  | exit id => exact ⟨fun fid n rd k h b cx hn hrd hro hsm hfn => by cases h; exact exit_ok, fun _ _ e => by cases e⟩
  | ret => exact ⟨fun fid n rd k h b cx hn hrd hro hsm hfn => by cases h; exact ret_ok, fun _ _ e => by cases e⟩
  | rangeFunc f ps assign body _ _ =>
    refine ⟨fun fid n rd k h b cx hn hrd hro hsm hfn => ?_, fun _ _ e => by cases e⟩
    cases h
    subst hn
    exact range_ok hrd hro hfn
  | goto l => exact ⟨fun fid n rd k h b cx hn hrd hro hsm hfn => by cases h; intro R hR m H w T D a K cs hcs hr hf; trivial, fun _ _ e => by cases e⟩
  | refuse r => exact ⟨fun fid n rd k h b cx hn hrd hro hsm hfn => by cases h; intro R hR m H w T D a K cs hcs hr hf; trivial, fun _ _ e => by cases e⟩
include hE hX hm in
theorem compK_ok : CodeOk P E := fun c => (compK_okS hE hX hm c).1
structure FnsOk (P : Program) (E : Env) : Prop where
  fn : ∀ f fi, E.fn.get (bits f) = some fi → mkFI P f = some fi
theorem fnsOk_of (P : Program) (dt df : Nat) (s e) {u : Nat → Bool} : FnsOk P (Env.of P dt df s e u) :=
  ⟨fun t ti h => by
    have h1 : Tr.get (bits t) (Tr.tab df (mkFI P)) = some ti := h
    have := Tr.get_tab _ _ _ _ h1
    rwa [dec_bits] at this⟩
def SumOk (P : Program) (E : Env) : Prop := ∀ f args H v H2, E.sums f args H = some (v, H2) → Enters P f ∧ ∀ m w vs, Rel m H w → VL m args vs → XC P .normal f vs.toArray w (Post m H w v H2)
variable (hF : FnsOk P E)
include hE hX hm hF in
theorem dcall_ok {R : Rec} (hR : RecOk P R) (kind : CallKind) {f : Nat} {args : AV} {H H2 : AH} {v : AV} (h : dcallA E R f args H = some (v, H2)) : Enters P f ∧ ∀ m w vs, Rel m H w → VL m args vs → XC P kind f vs.toArray w (Post m H w v H2) := by
  simp only [dcallA, ob_some, bt_some] at h
  obtain ⟨k, hk, hlen, h⟩ := h
  simp only [fnK, ob_some, Option.some.injEq] at hk
  obtain ⟨fi, hfi, body, hbody, res, hres, rfl⟩ := hk
  have hmk := hF.fn f fi hfi
  unfold mkFI at hmk
  split at hmk
  rotate_left
  · cases hmk
  rename_i fn hfn
  split at hmk
  rotate_left
  · cases hmk
  rename_i c hc
  split at hmk
  · cases hmk
  rename_i hname
  simp only [Option.some.injEq] at hmk
  subst hmk
  refine ⟨⟨fn, hfn, by simpa using hname, by rw [hc]; rfl⟩, fun m w vs hr hl => ?_⟩
  exact body_ok hE hR hfn hc rfl hres (compK_ok hE hX hm c f fn.ntmps none body hbody _ ⟨fn.ntmps, none, none⟩ rfl rfl rfl rfl rfl) hr hl (Nat.le_of_ble_eq_true hlen) h
include hE hX hm in
theorem compM_ok : ∀ (c : Code) (fid n : Nat) (k : MK), compM E fid n c = some k → ∀ (b : Frame), b.roundOf = none → b.fn = fid → MKOk P b ⟨n, none, none⟩ [.code c] k := by
  intro c
  have one : ∀ (c : Code) (fid n : Nat) (k : MK), (ob (compK E fid n none c) fun x => some (oneM x)) = some k → ∀ (b : Frame), b.roundOf = none → b.fn = fid → MKOk P b ⟨n, none, none⟩ [.code c] k := by
    intro c fid n k h b hb hfn
    simp only [ob_some, Option.some.injEq] at h
    obtain ⟨x, h1, rfl⟩ := h
    exact oneM_ok (compK_ok hE hX hm c fid n none x h1 b ⟨n, none, none⟩ rfl rfl hb rfl hfn)
  induction c with
  | region id ops draw =>
    intro fid n k h b hb hfn
    cases draw with
    | true => exact one _ fid n k h b hb hfn
    | false =>
      have h : regM E n ops.toList ops.toList = some k := h
      intro R hR cm hcm m H w T D a K cs hcs hr hf
      have h1 := regM_ok hE hX (n := ⟨n, none, none⟩) (i := 0) (by simp) h R hR cm hcm m H w T D a K cs hcs hr hf
      rw [Array.length_toList, ← List.range_eq_range'] at h1
      obtain ⟨out, hmem, hok⟩ := h1
      exact ⟨out, hmem, OutOk.steps (.one stepR_region) (St.refl hr) hok⟩
  | seq a c iha ihb =>
    intro fid n k h b hb hfn
    simp only [compM, ob_some, Option.some.injEq] at h
    obtain ⟨x, h1, y, h2, rfl⟩ := h
    exact seqM_ok (iha fid n x h1 b hb hfn) (ihb fid n y h2 b hb hfn)
  | block id c ih =>
    intro fid n k h b hb hfn
    simp only [compM, ob_some, Option.some.injEq] at h
    obtain ⟨x, h1, rfl⟩ := h
    exact blockM_ok (ih fid n x h1 b hb hfn)
  | loop c ih =>
    intro fid n k h b hb hfn
    by_cases hc : ∃ a d, c = .seq a d
    · obtain ⟨a, d, rfl⟩ := hc
      simp only [compM, ob_some] at h
      obtain ⟨y, h2, h⟩ := h
      split at h
      · rename_i q hq
        simp only [Option.some.injEq] at h
        subst h
        exact loopM_ok (cx := ⟨n, none, none⟩) hE hX (rd := false) (by rw [hb]; rfl) hq (compK_ok hE hX hm d fid n none y h2 b ⟨n, none, none⟩ rfl rfl hb rfl hfn)
      · exact one _ fid n k (by simp only [ob_some] at h ⊢; exact h) b hb hfn
    · have e : compM E fid n (.loop c) = ob (compK E fid n none (.loop c)) fun x => some (oneM x) := by
        cases c <;> first | rfl | exact absurd ⟨_, _, rfl⟩ hc
      rw [e] at h
      exact one _ fid n k h b hb hfn
  | rangeFunc f ps assign body _ _ =>
    intro fid n k h b hb hfn
    cases h
    exact rangeM_ok (cx := ⟨n, none, none⟩) rfl hb hfn
  | skip => intro fid n k h b hb hfn; exact one _ fid n k h b hb hfn
  | label l => intro fid n k h b hb hfn; exact one _ fid n k h b hb hfn
  | cond q a c _ _ => intro fid n k h b hb hfn; exact one _ fid n k h b hb hfn
  | scope c _ => intro fid n k h b hb hfn; exact one _ fid n k h b hb hfn
  | exit id => intro fid n k h b hb hfn; exact one _ fid n k h b hb hfn
  | ret => intro fid n k h b hb hfn; exact one _ fid n k h b hb hfn
  | goto l => intro fid n k h b hb hfn; exact one _ fid n k h b hb hfn
  | refuse r => intro fid n k h b hb hfn; exact one _ fid n k h b hb hfn
theorem resM_mem {re : ReK} {R : Rec} {o : Out} : ∀ {outs : List Out} {l : List (AV × AH)}, resM re R outs = some l → o ∈ outs →
    ∃ p ∈ l, ∃ T D H H1 r, (o = .nor T D H ∨ o = .ret T D H) ∧ deferA R D H = some H1 ∧ re.f T H1 = some r ∧ p = (resultA r, H1)
  | [], _, _, h => by cases h
  | q :: s, l, h, ho => by
    simp only [resM, ob_some, Option.some.injEq] at h
    obtain ⟨p, h1, l', h2, rfl⟩ := h
    rcases List.mem_cons.1 ho with rfl | ho
    · split at h1
      · rename_i T D H
        simp only [ob_some, Option.some.injEq] at h1
        obtain ⟨H1, a1, r, a2, rfl⟩ := h1
        exact ⟨_, by simp, T, D, H, H1, r, .inl rfl, a1, a2, rfl⟩
      · rename_i T D H
        simp only [ob_some, Option.some.injEq] at h1
        obtain ⟨H1, a1, r, a2, rfl⟩ := h1
        exact ⟨_, by simp, T, D, H, H1, r, .inr rfl, a1, a2, rfl⟩
      · cases h1
    · obtain ⟨p', b1, b2⟩ := resM_mem h2 ho
      exact ⟨p', List.mem_cons_of_mem _ b1, b2⟩
include hE hX hm hF in
theorem fnM_ok {R : Rec} (hR : RecOk P R) {cm : CallM} (hcm : CmOk P cm) : CmOk P (fnM E R cm) := by
  intro f args H l h
  simp only [fnM, ob_some, bt_some] at h
  obtain ⟨fi, hfi, body, hbody, res, hres, hlen, h⟩ := h
  have hmk := hF.fn f fi hfi
  unfold mkFI at hmk
  split at hmk
  rotate_left
  · cases hmk
  rename_i fn hfn
  split at hmk
  rotate_left
  · cases hmk
  rename_i c hc
  split at hmk
  · cases hmk
  rename_i hname
  simp only [Option.some.injEq] at hmk
  subst hmk
  refine ⟨⟨fn, hfn, by simpa using hname, by rw [hc]; rfl⟩, fun m w vs hr hl => ?_⟩
  intro cs hcs
  let b : Frame := { (default : Frame) with fn := f, kind := .normal, roundOf := none }
  have hlen2 : vs.length ≤ fn.ntmps := by rw [← hl.len]; exact Nat.le_of_ble_eq_true hlen
  let a0 : Act := { tmps := vs.toArray ++ Array.replicate (fn.ntmps - vs.length) undef, defers := [] }
  have henter : Frame.enter P f vs.toArray .normal = b.atR a0 ([.code c] ++ []) := by
    simp only [Frame.enter, hfn, hc, Option.map_some, Option.getD_some, Option.bind_some, Frame.atR, b, a0, List.size_toArray]
    rfl
  obtain ⟨out, hmem, hok⟩ := compM_ok hE hX hm c f fn.ntmps body hbody b rfl rfl R hR cm hcm m H w (argsT args 0 .e) [] a0 [] cs hcs hr ⟨argsT_ok hl hlen2, .nil, .inl ⟨rfl, rfl⟩⟩
  obtain ⟨p, hp, T, D, H3, H4, r, ho, hd, hrr, rfl⟩ := resM_mem h hmem
  have fin : ∀ {m2 : Ren} {a2 : Act} {w2 : World} {todo : List Item}, St m H w m2 H3 w2 → FrR ⟨fn.ntmps, none, none⟩ m2 T D a2 →
      Steps P (lone (b.atR a0 ([.code c] ++ [])) cs w) (lone { b.atR a2 todo with mode := .returning } cs w2) →
      ∃ v' w' fr, (∃ q ∈ l, Post m H w q.1 q.2 v' w') ∧ Steps P (lone (Frame.enter P f vs.toArray .normal) cs w) (lone fr cs w') ∧ fr.kind = .normal ∧ fr.fn = f ∧ Leaves P fr w' v' := by
    intro m2 a2 w2 todo hst hf hsteps
    obtain ⟨m3, w3, g1, g2⟩ := defers_ok hR (fr := { b.atR a2 todo with mode := .returning }) (cs := cs) hst.rel hf.d hd rfl rfl
    obtain ⟨v', q1, q2⟩ := results_ok hE g1.rel (hf.t.mono (St.le hst.rel g1)) hres hrr
    refine ⟨v', w3, { ({ b.atR a2 todo with mode := .returning } : Frame) with defers := [] }, ⟨_, hp, m3, hst.trans g1, q2⟩, ?_, rfl, rfl, ⟨rfl, rfl, fn, hfn, q1⟩⟩
    rw [henter]; exact hsteps.trans g2
  rcases ho with rfl | rfl
  · obtain ⟨m2, a2, w2, g1, g2, g3⟩ := hok
    exact fin g1 g2 (g3.trans (.one (stepR_end rfl)))
  · obtain ⟨m2, a2, w2, K2, g1, g2, g3⟩ := hok
    exact fin g1 g2 (g3.trans (.one (stepR_ret rfl)))
theorem meetR_le {p q r : AV × AH} (h : meetR p q = some r) : (r.1 = p.1 ∧ HLe r.2 p.2) ∧ r.1 = q.1 ∧ HLe r.2 q.2 := by
  simp only [meetR, bt_some, Bool.and_eq_true, Nat.beq_eq, Option.some.injEq] at h
  obtain ⟨⟨h1, h2⟩, rfl⟩ := h
  exact ⟨⟨rfl, meetH_l _ _⟩, AV.beq_eq h1, meetH_r _ _ h2⟩
theorem meetRs_le : ∀ {l : List (AV × AH)} {p r : AV × AH}, meetRs p l = some r → (r.1 = p.1 ∧ HLe r.2 p.2) ∧ ∀ q ∈ l, r.1 = q.1 ∧ HLe r.2 q.2
  | [], p, r, h => by
    simp only [meetRs, Option.some.injEq] at h
    subst h
    exact ⟨⟨rfl, rfl, fun _ _ h => h⟩, fun q hq => by cases hq⟩
  | a :: l, p, r, h => by
    simp only [meetRs, ob_some] at h
    obtain ⟨s, h1, h2⟩ := h
    obtain ⟨⟨a1, a2⟩, a3, a4⟩ := meetR_le h1
    obtain ⟨⟨b1, b2⟩, b3⟩ := meetRs_le h2
    refine ⟨⟨b1.trans a1, b2.trans a2⟩, fun q hq => ?_⟩
    rcases List.mem_cons.1 hq with rfl | hq
    · exact ⟨b1.trans a3, b2.trans a4⟩
    · exact b3 q hq
include hE hX hm hF in
theorem callMul_ok {R : Rec} (hR : RecOk P R) {cm : CallM} (hcm : CmOk P cm) {f : Nat} {args : AV} {H H2 : AH} {v : AV} (h : callMul E R cm f args H = some (v, H2)) :
    Enters P f ∧ ∀ m w vs, Rel m H w → VL m args vs → XC P .normal f vs.toArray w (Post m H w v H2) := by
  simp only [callMul, ob_some] at h
  obtain ⟨l, hl, h⟩ := h
  obtain ⟨hen, hx⟩ := fnM_ok hE hX hm hF hR hcm f args H l hl
  refine ⟨hen, fun m w vs hr hvl => (hx m w vs hr hvl).mono fun v' w' ⟨q, hq, m2, hst, hv⟩ => ?_⟩
  have key : v = q.1 ∧ HLe H2 q.2 := by
    cases l with
    | nil => cases h
    | cons p r =>
      obtain ⟨h1, h2⟩ := meetRs_le h
      rcases List.mem_cons.1 hq with rfl | hq
      · exact h1
      · exact h2 q hq
  obtain ⟨rfl, hle⟩ := key
  exact ⟨m2, hst.less hle, hv⟩
variable (hS : SumOk P E)
include hE hX hm hF hS in
theorem recM_ok : ∀ d, RecOk P (recM E d).one ∧ CmOk P (recM E d).all
  | 0 => ⟨⟨(fun _ _ _ _ _ h => by cases h), (fun _ _ _ _ _ h => by cases h), (fun _ _ _ _ _ h => by cases h)⟩, fun _ _ _ _ h => by cases h⟩
  | d + 1 => by
    obtain ⟨ih, ihc⟩ := recM_ok d
    refine ⟨⟨fun f args H v H2 h => ?_, fun f args H v H2 h => dcall_ok hE hX hm hF ih .deferred h, fun l args H v H2 h m w vs i hr hl hi => round_ok (compK_ok hE hX hm) ih h hr hl hi⟩, fnM_ok hE hX hm hF ih ihc⟩
    have h : oc (E.sums f args H) (bt (E.mul f) (callMul E (recM E d).one (recM E d).all f args H) (dcallA E (recM E d).one f args H)) some = some (v, H2) := h
    cases hs : E.sums f args H with
    | none =>
      rw [hs, oc_none] at h
      cases hmu : E.mul f with
      | true => rw [hmu, bt_true] at h; exact callMul_ok hE hX hm hF ih ihc h
      | false => rw [hmu, bt_false] at h; exact dcall_ok hE hX hm hF ih .normal h
    | some r =>
      rw [hs, oc_some] at h
      cases h
      exact hS f args H v H2 hs
include hE hX hm hF hS in
theorem recA_ok (d : Nat) : RecOk P (recA E d) := (recM_ok hE hX hm hF hS d).1
end
end Go.Xq
