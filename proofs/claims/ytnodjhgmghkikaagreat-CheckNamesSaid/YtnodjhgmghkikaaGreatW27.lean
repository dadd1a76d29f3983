/- A part of the proof of this seat's statement. Conditions: in each theorem. -/
import Derived.Test.YtnodjhgmghkikaaGreatW26
import Derived.Lib.Bytealg
import Derived.Laws.Externs
import Derived.Laws.Bits64
import Derived.Laws.Bits64b
import Derived.ChangeSame
import Derived.Below
import Derived.LaidHandle
import Derived.LaidLaws
import Derived.FnData
namespace Go.Xq
variable [Dealing]
section
variable {P : Program} {E : Env} (hE : TyOk P E) (hX : ExtRun P E) (hm : P.follows .mixedOrders = true) {b : Frame} {cx : Cx}
theorem rangeM_ok (hrd : cx.ro = none) (hro : b.roundOf = cx.ro) {fid : Nat} (hfn : b.fn = fid) {f : Operand} {params : Array Tmp} {assign body : Code} :
    MKOk P b cx [.code (.rangeFunc f params assign body)] ⟨rangeM fid cx.n f params.toList assign body⟩ := by
  intro R hR cm hcm m H w T D a K cs hcs hr hf
  subst hfn
  show OutsOk P b cx K cs m H w _ (rangeM b.fn cx.n f params.toList assign body R cm T D H)
  unfold rangeM
  split
  rotate_left
  · exact .inl (by simp)
  rename_i q first cap hfv
  split
  rotate_left
  · exact .inl (by simp)
  rename_i g
  have hnx : (H.new (.dfr true)).next = Nat.succ H.next := by simp
  rw [← hnx]
  show OutsOk P b cx K cs m H w _ (oc (cm g (AV.app first (AV.cons (.fn (.yield (H.new (.dfr true)).next) .nil .nil) cap)) ((H.new (.dfr true)).new (.loop { state := .ready, pending := none, fn := b.fn, tmps := T, ntmps := cx.n, params := params.toList, assign, body, defers := H.next }))) [.bad] fun rs => endsM (H.new (.dfr true)).next T ({ mark := some H.next, f := .nil, args := .nil } :: D) rs)
  cases hcall : cm g (AV.app first (AV.cons (.fn (.yield (H.new (.dfr true)).next) .nil .nil) cap)) ((H.new (.dfr true)).new (.loop { state := .ready, pending := none, fn := b.fn, tmps := T, ntmps := cx.n, params := params.toList, assign, body, defers := H.next })) with
  | none => exact .inl (by simp)
  | some rs =>
    rw [oc_some]
    refine OutsOk.of fun hbad => Gx.step' fun w0 hid => ?_
    have hr0 := hr.idle hid
    let i0 : BI := ⟨w0.heap.size, 0, 0, 0⟩
    let wd : World := w0.alloc (.deferred (some []))
    have hst0 : St m H w0 (m.ext H.next i0) (H.new (.dfr true)) wd := St.newBlk hr0 rfl rfl (.dfrT i0) rfl rfl
    have hle0 := hr0.le (Ext.ext m H.next i0)
    let m1 := m.ext H.next i0
    let H1 := H.new (.dfr true)
    let i : BI := ⟨wd.heap.size, 0, 0, 0⟩
    let q0 : ALoop := { state := .ready, pending := none, fn := b.fn, tmps := T, ntmps := cx.n, params := params.toList, assign, body, defers := H.next }
    have hle1 := hst0.rel.le (Ext.ext m1 H1.next i)
    have hfm := hf.mono hle0
    have hor : OR (m1.ext H1.next i) (.loop { state := .ready, pending := none, fn := b.fn, tmps := a.tmps, params, assign, body, defers := i0.blk }) (.loop q0) i := by
      have := OR.loop q0 a.tmps i0 i (hfm.t.mono hle1) (hle1 _ _ (Ren.ext_same _ _ _))
      simpa [q0] using this
    let w1 : World := wd.alloc (.loop { state := .ready, pending := none, fn := b.fn, tmps := a.tmps, params, assign, body, defers := i0.blk })
    have hst1 : St m1 H1 wd (m1.ext H1.next i) (H1.new (.loop q0)) w1 := St.newBlk hst0.rel rfl rfl hor rfl rfl
    have hst := hst0.trans hst1
    obtain ⟨hen, hx⟩ := hcm _ _ _ _ hcall
    have hfr := hf.er hr f _ hfv
    obtain ⟨g', va, vc, hq, hva, hvc, efv⟩ := hfr.fn_inv
    cases hq
    have hleA : Le m (m1.ext H1.next i) := St.le hr0 hst
    have hargs : VL (m1.ext H1.next i) (AV.app first (AV.cons (.fn (.yield H1.next) .nil .nil) cap)) (va ++ (.func (.yield wd.heap.size) #[] #[] :: vc)) :=
      (hva.mono hleA).app (.cons _ _ _ _ (.fn _ _ _ _ [] [] (.yield H1.next i (Ren.ext_same _ _ _)) .nil .nil) (hvc.mono hleA))
    have hen2 : (Instr.enterLoop b.fn a.tmps params assign body b.roundOf).run P w0 = .ok (wd.heap.size, [{ target := .collected w0.heap.size, args := #[] }]) w1 := by
      rw [hro, hrd, run_enterLoop_outer, World.size_alloc]
    have harr : va.toArray ++ #[Value.func (.yield wd.heap.size) #[] #[]] ++ vc.toArray = (va ++ (.func (.yield wd.heap.size) #[] #[] :: vc)).toArray := by apply Array.toList_inj.1; simp
    have em : (#[Operand.const (.func (.yield wd.heap.size) #[] #[])] : Array Operand).map a.eval = #[Value.func (.yield wd.heap.size) #[] #[]] := by
      simp [Act.eval]
    have hres : ∀ w2, (resolve a.eval (rangeCall f wd.heap.size) 0).run P w2 = .ok { target := .fn (.func g) vc.toArray, args := va.toArray ++ #[Value.func (.yield wd.heap.size) #[] #[]] } w2 := fun w2 => by
      simp only [resolve, efv, Deferred.ofValue, Sem.run_pure, em]
    have hinv : (do let d ← resolve a.eval (rangeCall f wd.heap.size) 0; invoke d.target d.args : Sem Next).run P w1 = .ok (.enter g (va ++ (.func (.yield wd.heap.size) #[] #[] :: vc)).toArray) w1 := by
      simp only [Sem.run_bind, hres, Result.andThen, invoke, harr]
      exact run_enter hen
    have hqq : QG P (do let d ← resolve a.eval (rangeCall f wd.heap.size) 0; invoke d.target d.args) w1 := by
      refine QG.after plain_resolve (hres w1) ?_
      show QG P (callFunc g (va.toArray ++ #[Value.func (.yield wd.heap.size) #[] #[]] ++ vc.toArray)) w1
      exact enter_q hen
    refine ⟨_, _, _, lift_rangeFunc hen2 hqq hinv, ?_⟩
    refine (hx (m1.ext H1.next i) w1 _ hst1.rel hargs (b.atR { a with defers := [{ target := .collected w0.heap.size, args := #[] }] ++ a.defers } (.inRangeFunc wd.heap.size :: K) :: cs) (.inl rfl)).bind ?_
    rintro fr cs' w2 ⟨rfl, hk, _, hlv⟩
    refine step_leave (c := b.atR { a with defers := [{ target := .collected w0.heap.size, args := #[] }] ++ a.defers } (.inRangeFunc wd.heap.size :: K)) hlv hk ?_
    rintro v' w3 ⟨r, hr2, m2, hst2, _⟩
    rw [finish_atR_inRangeFunc]
    have hall := hst.trans hst2
    have hle2 := St.le hst1.rel hst2
    have hf2 : FrR cx m2 T ({ mark := some H.next, f := .nil, args := .nil } :: D) { a with defers := [{ target := .collected w0.heap.size, args := #[] }] ++ a.defers } := by
      have hfA := hf.mono (St.le hr0 hall)
      exact ⟨hfA.t, .cons _ _ _ _ (.mark _ i0 _ _ (hle2 _ _ (hle1 _ _ (Ren.ext_same _ _ _)))) hfA.d, hfA.r⟩
    have hend := rangeEnd_ok (P := P) (b := b) (K := K) (cs := cs) hst2.rel hf2 (hle2 _ _ (Ren.ext_same m1 H1.next i))
    have hmem := mem_endsM (l := H1.next) (T := T) (D := { mark := some H.next, f := .nil, args := .nil } :: D) hr2
    refine (hend.to fun e => hbad (e ▸ hmem)).mono fun _ _ _ h => ⟨_, hmem, OQ.pre (hall.idleL hid) _ _ _ h⟩
theorem loopM_ok {a d : Code} {h : MH} {rd : Bool} (hE : TyOk P E) (hX : ExtRun P E) (hQ : ExtQ P E) (hrd : rd = b.roundOf.isSome) (hh : mapHead E cx.n rd a = some h) {kr : RK} (hy : RKOk P b cx [.code d] kr) : MKOk P b cx [.code (.loop (.seq a d))] ⟨fun R _ T D H => mapA h kr R 100 T D H⟩ := by
  intro R hR _ _ m H w T D ac K cs hcs hr hf
  have hok := mapA_ok hE hX hQ hrd hh hy hR 100 m H w T D ac K cs hcs hr hf
  have hno := mapA_not (h := h) (kr := kr) (R := R) 100 T D H
  refine OutsOk.of fun hb => Steps.one stepR_loop _ ((hok.resolve_left hb).mono ?_)
  rintro fr cs' w' ⟨out, hmem, hq⟩
  refine ⟨out, hmem, ?_⟩
  cases out with
  | bad => trivial
  | nor T2 D2 H2 => exact absurd rfl (hno _ hmem T2 D2 H2)
  | ext id T2 D2 H2 => exact hq
  | ret T2 D2 H2 => exact hq
end
end Go.Xq
namespace Go.Xq
variable [Dealing]
section
variable {P : Program} {E : Env} (hE : TyOk P E) (hX : ExtRun P E) (hQ : ExtQ P E) (hm : P.follows .mixedOrders = true)
def CodeOk1 (P : Program) (E : Env) (c : Code) : Prop := ∀ (fid n : Nat) (rd : Option Nat) (k : RK), compK E fid n rd c = some k → ∀ (b : Frame) (cx : Cx), cx.n = n → cx.rd = rd → b.roundOf = cx.ro → cx.rd.isSome = cx.ro.isSome → b.fn = fid → RKOk P b cx [.code c] k
include hE hX hQ hm in
theorem compK_okS : ∀ c, CodeOk1 P E c ∧ ∀ a d, c = .seq a d → CodeOk1 P E a ∧ CodeOk1 P E d := by
  intro c
  induction c with
  | skip => exact ⟨fun fid n rd k h b cx hn hrd hro hsm hfn => by cases h; exact skip_ok (.inl rfl), fun _ _ e => by cases e⟩
  | label l => exact ⟨fun fid n rd k h b cx hn hrd hro hsm hfn => by cases h; exact skip_ok (.inr ⟨l, rfl⟩), fun _ _ e => by cases e⟩
  | region id ops draw =>
    refine ⟨fun fid n rd k h b cx hn hrd hro hsm hfn => ?_, fun _ _ e => by cases e⟩
    subst hn hrd
    cases draw with
    | false => exact region_ok hE hX hQ (rd := cx.rd.isSome) (by rw [hro, hsm]) h
    | true => exact draw_ok hE hX hQ hm h
  | seq a c iha ihb =>
    refine ⟨fun fid n rd k h b cx hn hrd hro hsm hfn => ?_, fun _ _ e => by cases e; exact ⟨iha.1, ihb.1⟩⟩
    simp only [compK, ob_some, Option.some.injEq] at h
    obtain ⟨x, h1, y, h2, rfl⟩ := h
    exact seq_ok (iha.1 fid n rd x h1 b cx hn hrd hro hsm hfn) (ihb.1 fid n rd y h2 b cx hn hrd hro hsm hfn)
  | cond q a c iha ihb =>
    refine ⟨fun fid n rd k h b cx hn hrd hro hsm hfn => ?_, fun _ _ e => by cases e⟩
    simp only [compK, ob_some, Option.some.injEq] at h
    obtain ⟨x, h1, y, h2, rfl⟩ := h
    exact cond_ok (iha.1 fid n rd x h1 b cx hn hrd hro hsm hfn) (ihb.1 fid n rd y h2 b cx hn hrd hro hsm hfn)
  | block id c ih =>
    refine ⟨fun fid n rd k h b cx hn hrd hro hsm hfn => ?_, fun _ _ e => by cases e⟩
    simp only [compK, ob_some, Option.some.injEq] at h
    obtain ⟨x, h1, rfl⟩ := h
    exact block_ok (ih.1 fid n rd x h1 b cx hn hrd hro hsm hfn)
  | loop c ih =>
    refine ⟨fun fid n rd k h b cx hn hrd hro hsm hfn => ?_, fun _ _ e => by cases e⟩
    by_cases hc : ∃ a d, c = .seq a d
    · obtain ⟨a, d, rfl⟩ := hc
      obtain ⟨ha, hd⟩ := ih.2 a d rfl
      simp only [compK, ob_some] at h
      obtain ⟨y, h2, h⟩ := h
      have hyd := hd fid n rd y h2 b cx hn hrd hro hsm hfn
      split at h
      · rename_i q hq
        simp only [Option.some.injEq] at h
        subst h
        subst hn hrd
        exact mapLoop_ok hE hX hQ (rd := cx.rd.isSome) (by rw [hro, hsm]) hq hyd
      · simp only [ob_some, Option.some.injEq] at h
        obtain ⟨x, h1, rfl⟩ := h
        exact loop_ok (seq_ok (ha fid n rd x h1 b cx hn hrd hro hsm hfn) hyd)
    · have e : compK E fid n rd (.loop c) = ob (compK E fid n rd c) fun x => some ⟨cLoop x⟩ := by
        cases c <;> first | rfl | exact absurd ⟨_, _, rfl⟩ hc
      rw [e] at h
      simp only [ob_some, Option.some.injEq] at h
      obtain ⟨x, h1, rfl⟩ := h
      exact loop_ok (ih.1 fid n rd x h1 b cx hn hrd hro hsm hfn)
  | scope c ih =>
    refine ⟨fun fid n rd k h b cx hn hrd hro hsm hfn => ?_, fun _ _ e => by cases e⟩
    simp only [compK] at h
    exact scope_ok (ih.1 fid n rd k h b cx hn hrd hro hsm hfn)
  | exit id => exact ⟨fun fid n rd k h b cx hn hrd hro hsm hfn => by cases h; exact exit_ok, fun _ _ e => by cases e⟩
  | ret => exact ⟨fun fid n rd k h b cx hn hrd hro hsm hfn => by cases h; exact ret_ok, fun _ _ e => by cases e⟩
  | rangeFunc f ps assign body _ _ =>
    refine ⟨fun fid n rd k h b cx hn hrd hro hsm hfn => ?_, fun _ _ e => by cases e⟩
    cases h
    subst hn
    exact range_ok hrd hro hfn
  | goto l => exact ⟨fun fid n rd k h b cx hn hrd hro hsm hfn => by cases h; intro R hR m H w T D a K cs hcs hr hf; trivial, fun _ _ e => by cases e⟩
  | refuse r => exact ⟨fun fid n rd k h b cx hn hrd hro hsm hfn => by cases h; intro R hR m H w T D a K cs hcs hr hf; trivial, fun _ _ e => by cases e⟩
include hE hX hQ hm in
theorem compK_ok : CodeOk P E := fun c => (compK_okS hE hX hQ hm c).1
omit [Dealing] in
structure FnsOk (P : Program) (E : Env) : Prop where
  fn : ∀ f fi, E.fn.get (bits f) = some fi → mkFI P f = some fi
omit [Dealing] in
theorem fnsOk_of (P : Program) (dt df : Nat) (s e) {u : Nat → Bool} : FnsOk P (Env.of P dt df s e u) :=
  ⟨fun t ti h => by
    have h1 : Tr.get (bits t) (Tr.tab df (mkFI P)) = some ti := h
    have := Tr.get_tab _ _ _ _ h1
    rwa [dec_bits] at this⟩
def SumOk (P : Program) (E : Env) : Prop := ∀ f args H v H2, E.sums f args H = some (v, H2) → Enters P f ∧ ∀ m w vs, Rel m H w → VL m args vs → XC P .normal f vs.toArray w (Post m H w v H2)
variable (hF : FnsOk P E)
include hE hX hQ hm hF in
theorem dcall_ok {R : Rec} (hR : RecOk P R) (kind : CallKind) {f : Nat} {args : AV} {H H2 : AH} {v : AV} (h : dcallA E R f args H = some (v, H2)) : Enters P f ∧ ∀ m w vs, Rel m H w → VL m args vs → XC P kind f vs.toArray w (Post m H w v H2) := by
  simp only [dcallA, ob_some, bt_some] at h
  obtain ⟨k, hk, hlen, h⟩ := h
  simp only [fnK, ob_some, Option.some.injEq] at hk
  obtain ⟨fi, hfi, body, hbody, res, hres, rfl⟩ := hk
  have hmk := hF.fn f fi hfi
  unfold mkFI at hmk
  split at hmk
  rotate_left
  · cases hmk
  rename_i fn hfn
  split at hmk
  rotate_left
  · cases hmk
  rename_i c hc
  split at hmk
  · cases hmk
  rename_i hname
  simp only [Option.some.injEq] at hmk
  subst hmk
  refine ⟨⟨fn, hfn, by simpa using hname, by rw [hc]; rfl⟩, fun m w vs hr hl => ?_⟩
  exact body_ok hE hR hfn hc rfl hres (compK_ok hE hX hQ hm c f fn.ntmps none body hbody _ ⟨fn.ntmps, none, none⟩ rfl rfl rfl rfl rfl) hr hl (Nat.le_of_ble_eq_true hlen) h
include hE hX hQ hm in
theorem compM_ok : ∀ (c : Code) (fid n : Nat) (k : MK), compM E fid n c = some k → ∀ (b : Frame), b.roundOf = none → b.fn = fid → MKOk P b ⟨n, none, none⟩ [.code c] k := by
  intro c
  have one : ∀ (c : Code) (fid n : Nat) (k : MK), (ob (compK E fid n none c) fun x => some (oneM x)) = some k → ∀ (b : Frame), b.roundOf = none → b.fn = fid → MKOk P b ⟨n, none, none⟩ [.code c] k := by
    intro c fid n k h b hb hfn
    simp only [ob_some, Option.some.injEq] at h
    obtain ⟨x, h1, rfl⟩ := h
    exact oneM_ok (compK_ok hE hX hQ hm c fid n none x h1 b ⟨n, none, none⟩ rfl rfl hb rfl hfn)
  induction c with
  | region id ops draw =>
    intro fid n k h b hb hfn
    cases draw with
    | true => exact one _ fid n k h b hb hfn
    | false =>
      have h : regM E n ops.toList ops.toList = some k := h
      intro R hR cm hcm m H w T D a K cs hcs hr hf
      have h1 := regM_ok hE hX hQ (n := ⟨n, none, none⟩) (i := 0) (by simp) h R hR cm hcm m H w T D a K cs hcs hr hf
      rw [Array.length_toList, ← List.range_eq_range'] at h1
      exact OutsOk.steps (.one stepR_region) (St.refl hr) h1
  | seq a c iha ihb =>
    intro fid n k h b hb hfn
    simp only [compM, ob_some, Option.some.injEq] at h
    obtain ⟨x, h1, y, h2, rfl⟩ := h
    exact seqM_ok (iha fid n x h1 b hb hfn) (ihb fid n y h2 b hb hfn)
  | block id c ih =>
    intro fid n k h b hb hfn
    simp only [compM, ob_some, Option.some.injEq] at h
    obtain ⟨x, h1, rfl⟩ := h
    exact blockM_ok (ih fid n x h1 b hb hfn)
  | loop c ih =>
    intro fid n k h b hb hfn
    by_cases hc : ∃ a d, c = .seq a d
    · obtain ⟨a, d, rfl⟩ := hc
      simp only [compM, ob_some] at h
      obtain ⟨y, h2, h⟩ := h
      split at h
      · rename_i q hq
        simp only [Option.some.injEq] at h
        subst h
        exact loopM_ok (cx := ⟨n, none, none⟩) hE hX hQ (rd := false) (by rw [hb]; rfl) hq (compK_ok hE hX hQ hm d fid n none y h2 b ⟨n, none, none⟩ rfl rfl hb rfl hfn)
      · exact one _ fid n k (by simp only [ob_some] at h ⊢; exact h) b hb hfn
    · have e : compM E fid n (.loop c) = ob (compK E fid n none (.loop c)) fun x => some (oneM x) := by
        cases c <;> first | rfl | exact absurd ⟨_, _, rfl⟩ hc
      rw [e] at h
      exact one _ fid n k h b hb hfn
  | rangeFunc f ps assign body _ _ =>
    intro fid n k h b hb hfn
    cases h
    exact rangeM_ok (cx := ⟨n, none, none⟩) rfl hb hfn
  | skip => intro fid n k h b hb hfn; exact one _ fid n k h b hb hfn
  | label l => intro fid n k h b hb hfn; exact one _ fid n k h b hb hfn
  | cond q a c _ _ => intro fid n k h b hb hfn; exact one _ fid n k h b hb hfn
  | scope c _ => intro fid n k h b hb hfn; exact one _ fid n k h b hb hfn
  | exit id => intro fid n k h b hb hfn; exact one _ fid n k h b hb hfn
  | ret => intro fid n k h b hb hfn; exact one _ fid n k h b hb hfn
  | goto l => intro fid n k h b hb hfn; exact one _ fid n k h b hb hfn
  | refuse r => intro fid n k h b hb hfn; exact one _ fid n k h b hb hfn
omit [Dealing] in
theorem resM_mem {re : ReK} {R : Rec} {o : Out} : ∀ {outs : List Out} {l : List (AV × AH)}, resM re R outs = some l → o ∈ outs →
    ∃ p ∈ l, ∃ T D H H1 r, (o = .nor T D H ∨ o = .ret T D H) ∧ deferA R D H = some H1 ∧ re.f T H1 = some r ∧ p = (resultA r, H1)
  | [], _, _, h => by cases h
  | q :: s, l, h, ho => by
    simp only [resM, ob_some, Option.some.injEq] at h
    obtain ⟨p, h1, l', h2, rfl⟩ := h
    rcases List.mem_cons.1 ho with rfl | ho
    · split at h1
      · rename_i T D H
        simp only [ob_some, Option.some.injEq] at h1
        obtain ⟨H1, a1, r, a2, rfl⟩ := h1
        exact ⟨_, by simp, T, D, H, H1, r, .inl rfl, a1, a2, rfl⟩
      · rename_i T D H
        simp only [ob_some, Option.some.injEq] at h1
        obtain ⟨H1, a1, r, a2, rfl⟩ := h1
        exact ⟨_, by simp, T, D, H, H1, r, .inr rfl, a1, a2, rfl⟩
      · cases h1
    · obtain ⟨p', b1, b2⟩ := resM_mem h2 ho
      exact ⟨p', List.mem_cons_of_mem _ b1, b2⟩
include hE hX hQ hm hF in
theorem fnM_ok {R : Rec} (hR : RecOk P R) {cm : CallM} (hcm : CmOk P cm) : CmOk P (fnM E R cm) := by
  intro f args H l h
  simp only [fnM, ob_some, bt_some] at h
  obtain ⟨fi, hfi, body, hbody, res, hres, hlen, h⟩ := h
  have hmk := hF.fn f fi hfi
  unfold mkFI at hmk
  split at hmk
  rotate_left
  · cases hmk
  rename_i fn hfn
  split at hmk
  rotate_left
  · cases hmk
  rename_i c hc
  split at hmk
  · cases hmk
  rename_i hname
  simp only [Option.some.injEq] at hmk
  subst hmk
  refine ⟨⟨fn, hfn, by simpa using hname, by rw [hc]; rfl⟩, fun m w vs hr hl => ?_⟩
  intro cs hcs
  let b : Frame := { (default : Frame) with fn := f, kind := .normal, roundOf := none }
  have hlen2 : vs.length ≤ fn.ntmps := by rw [← hl.len]; exact Nat.le_of_ble_eq_true hlen
  let a0 : Act := { tmps := vs.toArray ++ Array.replicate (fn.ntmps - vs.length) undef, defers := [] }
  have henter : Frame.enter P f vs.toArray .normal = b.atR a0 ([.code c] ++ []) := by
    simp only [Frame.enter, hfn, hc, Option.map_some, Option.getD_some, Option.bind_some, Frame.atR, b, a0, List.size_toArray]
    rfl
  have hok := compM_ok hE hX hQ hm c f fn.ntmps body hbody b rfl rfl R hR cm hcm m H w (argsT args 0 .e) [] a0 [] cs hcs hr ⟨argsT_ok hl hlen2, .nil, .inl ⟨rfl, rfl⟩⟩
  have hnb : Out.bad ∉ body.f R cm (argsT args 0 .e) [] H := by
    intro e
    obtain ⟨p, hp, T, D, H3, H4, r, ho, _⟩ := resM_mem h e
    rcases ho with ho | ho <;> cases ho
  rw [henter]
  refine Gx.bind (hok.resolve_left hnb) ?_
  rintro fr cs' w2 ⟨out, hmem, hq⟩
  obtain ⟨p, hp, T, D, H3, H4, r, ho, hd, hrr, rfl⟩ := resM_mem h hmem
  have fin : ∀ {m2 : Ren} {a2 : Act} {w2 : World} {todo : List Item}, St m H w m2 H3 w2 → FrR ⟨fn.ntmps, none, none⟩ m2 T D a2 →
      Gx P (XQ P .normal f cs fun v' w' => ∃ q ∈ l, Post m H w q.1 q.2 v' w') { b.atR a2 todo with mode := .returning } cs w2 := by
    intro m2 a2 w2 todo hst hf
    refine defers_ok hR (fr := { b.atR a2 todo with mode := .returning }) (cs := cs) hst.rel hf.d hd rfl rfl fun m3 w3 g1 => ?_
    refine Gx.stop fun w4 h4 => ⟨rfl, rfl, rfl, fun w5 h5 => ?_⟩
    have hi := h4.trans h5
    obtain ⟨v', q1, q2⟩ := results_ok hE (g1.rel.idle hi) (hf.t.mono (St.le hst.rel g1)) hres hrr
    exact ⟨v', ⟨_, hp, m3, (hst.trans g1).idleR hi, q2⟩, rfl, rfl, fn, hfn, q1⟩
  rcases ho with rfl | rfl
  · obtain ⟨rfl, m2, a2, g1, g2, rfl⟩ := hq
    exact Steps.one (stepR_end rfl) _ (fin g1 g2)
  · obtain ⟨rfl, m2, a2, K2, g1, g2, rfl⟩ := hq
    exact Steps.one (stepR_ret rfl) _ (fin g1 g2)
omit [Dealing] in
theorem meetR_le {p q r : AV × AH} (h : meetR p q = some r) : (r.1 = p.1 ∧ HLe r.2 p.2) ∧ r.1 = q.1 ∧ HLe r.2 q.2 := by
  simp only [meetR, bt_some, Bool.and_eq_true, Nat.beq_eq, Option.some.injEq] at h
  obtain ⟨⟨h1, h2⟩, rfl⟩ := h
  exact ⟨⟨rfl, meetH_l _ _⟩, AV.beq_eq h1, meetH_r _ _ h2⟩
omit [Dealing] in
theorem meetRs_le : ∀ {l : List (AV × AH)} {p r : AV × AH}, meetRs p l = some r → (r.1 = p.1 ∧ HLe r.2 p.2) ∧ ∀ q ∈ l, r.1 = q.1 ∧ HLe r.2 q.2
  | [], p, r, h => by
    simp only [meetRs, Option.some.injEq] at h
    subst h
    exact ⟨⟨rfl, rfl, fun _ _ h => h⟩, fun q hq => by cases hq⟩
  | a :: l, p, r, h => by
    simp only [meetRs, ob_some] at h
    obtain ⟨s, h1, h2⟩ := h
    obtain ⟨⟨a1, a2⟩, a3, a4⟩ := meetR_le h1
    obtain ⟨⟨b1, b2⟩, b3⟩ := meetRs_le h2
    refine ⟨⟨b1.trans a1, b2.trans a2⟩, fun q hq => ?_⟩
    rcases List.mem_cons.1 hq with rfl | hq
    · exact ⟨b1.trans a3, b2.trans a4⟩
    · exact b3 q hq
include hE hX hQ hm hF in
theorem callMul_ok {R : Rec} (hR : RecOk P R) {cm : CallM} (hcm : CmOk P cm) {f : Nat} {args : AV} {H H2 : AH} {v : AV} (h : callMul E R cm f args H = some (v, H2)) :
    Enters P f ∧ ∀ m w vs, Rel m H w → VL m args vs → XC P .normal f vs.toArray w (Post m H w v H2) := by
  simp only [callMul, ob_some] at h
  obtain ⟨l, hl, h⟩ := h
  obtain ⟨hen, hx⟩ := fnM_ok hE hX hQ hm hF hR hcm f args H l hl
  refine ⟨hen, fun m w vs hr hvl => (hx m w vs hr hvl).mono fun v' w' ⟨q, hq, m2, hst, hv⟩ => ?_⟩
  have key : v = q.1 ∧ HLe H2 q.2 := by
    cases l with
    | nil => cases h
    | cons p r =>
      obtain ⟨h1, h2⟩ := meetRs_le h
      rcases List.mem_cons.1 hq with rfl | hq
      · exact h1
      · exact h2 q hq
  obtain ⟨rfl, hle⟩ := key
  exact ⟨m2, hst.less hle, hv⟩
variable (hS : SumOk P E)
include hE hX hQ hm hF hS in
theorem recM_ok : ∀ d, RecOk P (recM E d).one ∧ CmOk P (recM E d).all
  | 0 => ⟨⟨(fun _ _ _ _ _ h => by cases h), (fun _ _ _ _ _ h => by cases h), (fun _ _ _ _ _ h => by cases h)⟩, fun _ _ _ _ h => by cases h⟩
  | d + 1 => by
    obtain ⟨ih, ihc⟩ := recM_ok d
    refine ⟨⟨fun f args H v H2 h => ?_, fun f args H v H2 h => dcall_ok hE hX hQ hm hF ih .deferred h, fun l args H v H2 h m w vs i hr hl hi => round_ok (compK_ok hE hX hQ hm) ih h hr hl hi⟩, fnM_ok hE hX hQ hm hF ih ihc⟩
    have h : oc (E.sums f args H) (bt (E.mul f) (callMul E (recM E d).one (recM E d).all f args H) (dcallA E (recM E d).one f args H)) some = some (v, H2) := h
    cases hs : E.sums f args H with
    | none =>
      rw [hs, oc_none] at h
      cases hmu : E.mul f with
      | true => rw [hmu, bt_true] at h; exact callMul_ok hE hX hQ hm hF ih ihc h
      | false => rw [hmu, bt_false] at h; exact dcall_ok hE hX hQ hm hF ih .normal h
    | some r =>
      rw [hs, oc_some] at h
      cases h
      exact hS f args H v H2 hs
include hE hX hQ hm hF hS in
theorem recA_ok (d : Nat) : RecOk P (recA E d) := (recM_ok hE hX hQ hm hF hS d).1
end
omit [Dealing] in
structure ExtOk (P : Program) (E : Env) : Prop where
  run : ExtRun P E
  quiet : ExtQ P E
end Go.Xq
namespace Go.Xq
noncomputable def cmpB : Nat → Nat → Nat → Nat → Nat → Int
  | 0, _, _, _, _ => 0
  | f + 1, a, x, b, y => match a, b with
    | 0, 0 => 0
    | 0, _ + 1 => -1
    | _ + 1, 0 => 1
    | a + 1, b + 1 => match Nat.blt (Nat.mod x 256) (Nat.mod y 256) with
      | true => -1
      | false => match Nat.blt (Nat.mod y 256) (Nat.mod x 256) with
        | true => 1
        | false => cmpB f a (Nat.div x 256) b (Nat.div y 256)
noncomputable def cmpA (args : AV) (H : AH) : Option AV :=
  match args with
  | .cons a (.cons b .nil) => ob (bytesA H a) fun p => ob (bytesA H b) fun q => some (.int .i64 (cmpB (Nat.succ p.1) p.1 p.2 q.1 q.2))
  | _ => none
section
variable {P : Program}
end
end Go.Xq
namespace Go.Xq
def crcBig : Nat := 12749536319551302420830055290731983042906869231766370170184255228463894984119587222357463453493748006886229547019502462691509165827871124329361635492757504
noncomputable def tblN (i : Nat) : Nat := Nat.mod (Nat.shiftRight crcBig (Nat.mul 32 i)) 4294967296
noncomputable def halfN (r : Nat) : Nat := Nat.xor (tblN (Nat.mod r 16)) (Nat.shiftRight r 4)
noncomputable def crcN : Nat → Nat → Nat → Nat
  | 0, _, r => r
  | f + 1, n, r => crcN f (Nat.div n 256) (halfN (halfN (Nat.xor r (Nat.mod n 256))))
noncomputable def sumN (len n : Nat) : Nat := Nat.xor (crcN len n 4294967295) 4294967295
end Go.Xq
namespace Go.Xq
structure KeptAll (w w' : World) : Prop where
  os : w'.os = w.os
  output : w'.output = w.output
  size : w.heap.size ≤ w'.heap.size
  block : ∀ k, k < w.heap.size → w'.heap[k]? = w.heap[k]?
theorem KeptAll.but {w w' : World} (h : KeptAll w w') (may : MemPlace → Prop) : w.keptBut w' may := by
  refine ⟨h.os, h.output, fun i hi => ?_⟩
  rw [h.block i hi]
  cases w.heap[i]? with
  | none => rfl
  | some o => cases o <;> simp
noncomputable def isT : Option (AV × AH) → Bool
  | some (.bool b, _) => b
  | _ => false
theorem post_of_blank {H : Type} {enc : TypeId × Value → H} {P : Program} {f : Func} {s : ChangeSpec} {apart fresh handsOn again : Bool} {W W' : World} {args : Array Value} {v : Value} {ds gs : List (DataW H)}
    (hW : DataW.Whole enc P f.params.toList s.vars apart W args.toList ds gs [])
    (hres : ∀ (b : Nat) (sp : Nat → Bool) (hd : Bool), DataW.TrodAll enc P W' b sp hd f.resultTypes.toList (v.resultList f.resultTypes.size) (s.fn H (ds ++ gs)).results [])
    (hargs : ∀ sp : Nat → Bool, DataW.TrodAll enc P W' 0 sp true f.params.toList args.toList (s.fn H (ds ++ gs)).args [])
    (hvars : ∀ sp : Nat → Bool, DataW.TrodVars enc P W' sp s.vars (s.fn H (ds ++ gs)).vars [])
    (hk : KeptAll W W')
    (hok : ∀ (j : Nat) (t : TypeId) (r : Value), f.resultTypes[j]? = some t → (v.resultList f.resultTypes.size)[j]? = some r → Value.okWide P W' .any 0 t r) :
    s.post enc P f apart fresh handsOn again W args v W' := by
  refine ⟨ds, gs, [], [], [], [], hW, hres _ _ _, hargs _, hvars _, hk.but _, fun _ => ?_⟩
  obtain ⟨_, _, _, _, _, hz, hn⟩ := hW
  refine ⟨hok, _, _, [], ⟨[], [], ChangeShapes.trodAll_append (hargs _) (hres _ _ _), hvars _, rfl, ?_, ?_⟩, ?_⟩
  · intro b off hp; cases hp
  · intro ha; simp
  · intro p hp _; cases hp
end Go.Xq
namespace Go.Xq
noncomputable def cntN : Nat → Nat → Nat → Nat
  | 0, _, _ => 0
  | l + 1, n, c => match Nat.beq (Nat.mod n 256) c with
    | true => Nat.succ (cntN l (Nat.div n 256) c)
    | false => cntN l (Nat.div n 256) c
noncomputable def idxN : Nat → Nat → Nat → Nat → Int
  | 0, _, _, _ => -1
  | l + 1, n, c, i => match Nat.beq (Nat.mod n 256) c with
    | true => .ofNat i
    | false => idxN l (Nat.div n 256) c (Nat.succ i)
noncomputable def cntA (args : AV) (H : AH) : Option AV :=
  match args with
  | .cons a (.cons (.int .u8 (.ofNat c)) .nil) => ob (bytesA H a) fun p => bt (Nat.blt c 256) (some (.int .i64 (.ofNat (cntN p.1 p.2 c)))) none
  | _ => none
noncomputable def idxA (args : AV) (H : AH) : Option AV :=
  match args with
  | .cons a (.cons (.int .u8 (.ofNat c)) .nil) => ob (bytesA H a) fun p => bt (Nat.blt c 256) (some (.int .i64 (idxN p.1 p.2 c 0))) none
  | _ => none
section
variable {P : Program}
end
end Go.Xq
namespace Go.Xq
variable [Dealing]
omit [Dealing] in
noncomputable def treeOf : List (Nat × AObj) → Tr AObj
  | [] => .e
  | p :: r => (treeOf r).put (some p.2) (Xq.bits p.1)
omit [Dealing] in
noncomputable def heapOf (n : Nat) (l : List (Nat × AObj)) : AH := { next := n, t := treeOf l }
omit [Dealing] in
noncomputable def holds1 (b : Nat) (o : AObj) (H : AH) : Bool := oc (H.get b) false fun o' => objSame o o'
omit [Dealing] in
noncomputable def fits (H : AH) : List (Nat × AObj) → Bool
  | [] => true
  | p :: r => holds1 p.1 p.2 H && fits H r
omit [Dealing] in
structure Memo where
  f : Nat
  args : AV
  n : Nat
  l : List (Nat × AObj)
  v : AV
  n2 : Nat
  l2 : List (Nat × AObj)
omit [Dealing] in
noncomputable def memoChk (m : Memo) (r : Option (AV × AH)) : Bool := oc r false fun p => AV.beq p.1 m.v && (Nat.beq p.2.next m.n2 && fits p.2 m.l2)
omit [Dealing] in
noncomputable def memoA : List Memo → CallFn
  | [], _, _, _ => none
  | m :: r, f, args, H => match Nat.beq m.f f && Nat.beq m.n H.next with
    | true => bt (AV.beq m.args args && fits H m.l) (some (m.v, heapOf m.n2 m.l2)) none
    | false => memoA r f args H
section
variable {P : Program}
def MemoOk (P : Program) (m : Memo) : Prop := ∃ R, RecOk P R ∧ memoChk m (R.call m.f m.args (heapOf m.n m.l)) = true
omit [Dealing] in
noncomputable def withMemo (ms : List Memo) (s : CallFn) : CallFn := fun f args H => oc (memoA ms f args H) (s f args H) some
end
end Go.Xq
namespace Go.Xq
noncomputable def isG (l : List (Nat × AObj)) : Option (AV × AH) → Bool
  | some (.bool b, H) => b && fits H l
  | _ => false
end Go.Xq
namespace Go.Xq
noncomputable def isPtrA : AV → Bool
  | .ptr _ _ => true
  | _ => false
structure AsN where
  te : Nat
  tt : Nat
  gv : Nat
  ng : Nat
  er : Nat
  rt : Nat
noncomputable def AsN.val (k : AsN) : AV := .ifc k.rt (.agg (.cons (.ptr k.ng k.er) .nil))
noncomputable def asA (k : AsN) (args : AV) (H : AH) : Option (AV × AH) :=
  match args with
  | .cons (.ifc t e) (.cons (.ifc u (.ptr c o)) .nil) =>
    bt (Nat.beq t k.te && (Nat.beq u k.tt && isPtrA e)) (ob (H.get k.gv) fun x => ob (rdCell x 0) fun v => bt (AV.beq v k.val)
      (ob (H.get c) fun y => bt (isCs y) (ob (wrCell y o e) fun y2 => some (.bool true, H.set c y2)) none) none) none
  | _ => none
section
variable {P : Program}
end
end Go.Xq
namespace Go.Xq
noncomputable def H0of (nx : Nat) : List (Nat × AObj) → AH
  | [] => { next := nx, t := .e }
  | p :: r => (H0of nx r).set p.1 p.2
def m0of (ads : List (Nat × Nat)) : Ren := fun b => if b < ngl then some ⟨b, 0, 1, 1⟩ else (ads[b - ngl]?).map fun a => ⟨a.1, a.2, 1, 1⟩
noncomputable def one1 (t : Nat) (v : AV) : AObj := .cs t 1 1 false .nil (.n (some v) .e .e .e .e)
noncomputable def isDet : AV → Bool
  | .ifc _ (.ptr _ _) => true
  | .ifc _ (.agg (.cons (.ptr _ _) .nil)) => true
  | _ => false
def GlobsAt (m : Ren) (l : List (Nat × AObj)) (w : World) : Prop :=
  ∀ p ∈ l, p.1 < ngl ∧ ∃ t v u, p.2 = one1 t v ∧ isDet v = true ∧ w.heap[p.1]? = some (.cells #[u] t (0, 0)) ∧ VR m v u
end Go.Xq
namespace Go.Xq
noncomputable def memN (t : Nat) : List Nat → Bool
  | [] => false
  | u :: r => Nat.beq t u || memN t r
noncomputable def typA (l : List Nat) (rt ng : Nat) (args : AV) : Option AV :=
  match args with
  | .cons (.ifc t _) .nil => bt (memN t l) (some (.ifc rt (.agg (.cons (.ptr ng t) .nil)))) none
  | _ => none
noncomputable def cmpbA (l : List Nat) (ng : Nat) (args : AV) : Option AV :=
  match args with
  | .cons (.agg (.cons (.ptr b t) .nil)) .nil => bt (Nat.beq b ng && memN t l) (some (.bool true)) none
  | _ => none
section
variable {P : Program}
end
noncomputable def isSlA : AV → Bool
  | .sl _ _ _ _ => true
  | .snil => true
  | _ => false
noncomputable def idxzA (g : Nat) (args : AV) (H : AH) : Option (AV × AH) :=
  match args with
  | .cons s (.cons (.fn (.func k) .nil .nil) .nil) => bt (Nat.beq k g && isSlA s) (ob (bytesA H s) fun p => bt (Nat.beq p.2 0 && Nat.blt p.1 4294967296) (some (.int .i64 (-1), H)) none) none
  | _ => none
section
variable {P : Program}
end
end Go.Xq
namespace Go.Xq
variable [Dealing]
def AC (P : Program) (kind : CallKind) (f : Nat) (args : AV) (H : AH) (Q : AV → AH → Prop) : Prop :=
  Enters P f ∧ ∀ m w vs, Rel m H w → VL m args vs → XC P kind f vs.toArray w fun v' w' => ∃ v H2, Q v H2 ∧ Post m H w v H2 v' w'
omit [Dealing] in
def WQ (b : Frame) (n : Cx) (K : List Item) (cs : List Frame) (m : Ren) (H : AH) (w : World) (Q : Out → Prop) : Frame → List Frame → World → Prop := fun fr cs' w' => ∃ o, Q o ∧ o ≠ .bad ∧ OQ b n K cs m H w o fr cs' w'
def WP (P : Program) (b : Frame) (n : Cx) (its : List Item) (T : Tr AV) (D : List ADf) (H : AH) (Q : Out → Prop) : Prop :=
  ∀ m w a K cs, CsOk b.kind cs → Rel m H w → FrR n m T D a → Gx P (WQ b n K cs m H w Q) (b.atR a (its ++ K)) cs w
section
variable {P : Program} {E : Env} {b : Frame} {n : Cx} {T : Tr AV} {D : List ADf} {H : AH} {Q Q' : Out → Prop} {its : List Item}
end
end Go.Xq
namespace Go.Xq
variable [Dealing]
def RKTo (P : Program) (b : Frame) (n : Cx) (its its2 : List Item) (k : RK) : Prop :=
  ∀ R, RecOk P R → ∀ m H w T D a K cs, CsOk b.kind cs → Rel m H w → FrR n m T D a → OutOk P b n (its2 ++ K) cs m H w (lone (b.atR a (its ++ K)) cs w) (k.f R T D H)
section
variable {P : Program} {E : Env} (hE : TyOk P E) (hX : ExtRun P E) (hQ : ExtQ P E)
include hE hX hQ in
theorem tSp_to {its2 : List Item} {b : Frame} {n : Cx} {rd : Bool} (hrd : rd = b.roundOf.isSome) {ops : Array Oper} {i : Nat} {rest : List Nat} {o : Oper} {sp : Sp} {nx : RK} (ho : ops[i]? = some o) (hsp : spK E n.n ops.toList o = some sp) (hd : (rd && isDfr sp.act) = false)
    (hnx : RKTo P b n [.inRegion ops rest] its2 nx) : RKTo P b n [.inRegion ops (i :: rest)] its2 (tSp sp nx) := by
  simp only [spK, ob_some, bt_some, Option.some.injEq] at hsp
  obtain ⟨g, hg, hdst, rfl⟩ := hsp
  intro R hR m H w T D a K cs hcs hr hf
  have hwant : ∀ bw, wantA g T = some bw → Region.wanted o (yielded ops a.tmps) = bw := fun bw hw => want_at hg (fun d want _ v hv => hf.t.at_ d v hv) hw
  -- wanted
  have act : Region.wanted o (yielded ops a.tmps) = true → OutOk P b n (its2 ++ K) cs m H w (lone (b.atR a ([.inRegion ops (i :: rest)] ++ K)) cs w) ((tAct o.dst nx (actK E o.op)).f R T D H) := by
    intro hw
    have go : ∀ {v : AV} {H2 : AH}, (∀ c, o.op ≠ .defer c) → (∀ w1, Idle w w1 → QG P (execOp a.eval o) w1 ∧ Outc P (execOp a.eval o) w1 (Post m H w1 v H2)) → OutOk P b n (its2 ++ K) cs m H w (lone (b.atR a ([.inRegion ops (i :: rest)] ++ K)) cs w) (nx.f R (putA T o.dst v) D H2) := by
      intro v H2 hnd hout
      refine .of fun hbad => step_op (b := b) (K := K) (cs := cs) (rest := rest) (Q := Post m H w v H2) ho hw (Oper.semAt_eq _ _ _ hnd) (fun w1 hi => ⟨(hout w1 hi).1, (hout w1 hi).2.mono fun _ _ h => h.idleL hi⟩) ?_
      rintro v' w' ⟨m2, hst, hv⟩
      exact ((hnx R hR m2 H2 w' _ D _ K cs hcs hst.rel ((hf.mono (St.le hr hst)).put hdst hv)).to hbad).mono (OQ.pre hst)
    cases hact : actK E o.op with
    | look k =>
      simp only [tAct, tLook]
      cases hk : k.f T H with
      | none => trivial
      | some v =>
        rcases actK_look hact with h | h
        · exact go (look_nodefer h) fun w1 hi => ⟨lookK_q hE h (hr.idle hi) (hf.er hr) hk, look_outc hE h (hr.idle hi) (hf.er hr) hk⟩
        · rw [h] at hk; cases hk
    | fresh k =>
      simp only [tAct, tFresh]
      cases hk : k.f T H.next with
      | none => trivial
      | some p =>
        obtain ⟨v, x⟩ := p
        have h := actK_fresh hact
        exact go (fresh_nodefer h) fun w1 hi => ⟨freshK_q hE h (hf.er hr) hk, fresh_outc hE h (hr.idle hi) (hf.er hr) hk⟩
    | heavy k =>
      simp only [tAct, tHeavy]
      cases hk : k.f R T H with
      | none => trivial
      | some p =>
        obtain ⟨v, H2⟩ := p
        have h := actK_heavy hact
        exact go (heavy_nodefer h) fun w1 hi => ⟨heavyK_q hE hQ hR h (hr.idle hi) (hf.er hr) hk, heavyK_ok hE hX h R hR m H w1 T a.eval v H2 (hr.idle hi) (hf.er hr) hk⟩
    | dfr f l =>
      obtain ⟨c, hop, hc, rfl⟩ := actK_dfr hact
      have hb : b.roundOf = none := by
        simp only [hact, isDfr, Bool.and_true] at hd
        rw [hd] at hrd
        cases hro : b.roundOf with
        | none => rfl
        | some l => rw [hro] at hrd; cases hrd
      simp only [tAct, tDfr]
      cases hk : (ob (opnd f T) fun fv => ob ((opnds c.args.toList).f T) fun l => onFn fv fun q first cap => some ({ mark := none, f := .fn q .nil cap, args := AV.app first l } : ADf)) with
      | none => trivial
      | some d =>
        simp only [ob_some, onFn_some, Option.some.injEq] at hk
        obtain ⟨fv, h1, l, h2, q, first, cap, rfl, rfl⟩ := hk
        have he := hf.er hr
        obtain ⟨g', va, vc, hq, ha, hc', e⟩ := (he f _ h1).fn_inv
        have hl := run_map_ops he h2
        have hqq : ∀ w, QG P (execOp a.eval o) w := fun w => by
          simp only [execOp, hop]
          exact QG.bind plain_resolve.qg fun _ _ _ => QG.pure
        have hrun : ∀ w, (execOp a.eval o).run P w = .ok (.defer { target := .fn g' vc.toArray, args := (va ++ (c.args.map a.eval).toList).toArray }) w := fun w => by
          have harr : va.toArray ++ c.args.map a.eval = (va ++ (c.args.map a.eval).toList).toArray := by apply Array.toList_inj.1; simp
          simp only [execOp, hop, resolve, hc, e, Deferred.ofValue, Sem.run_bind, Sem.run_pure, Result.andThen, harr]
        have hs := step_defer_op (b := b) (K := K) (cs := cs) (w := w) (rest := rest) ho hw hb hqq hrun
        refine OutOk.steps hs (St.refl hr) (hnx R hR m H w _ _ _ K cs hcs hr (FrR.put ?_ hdst (undef_ok m)))
        exact ⟨hf.t, .cons _ _ _ _ (.call _ _ _ _ _ _ _ hq hc' (ha.app hl)) hf.d, hf.r⟩
    | rcv =>
      obtain ⟨c, hop, hc⟩ := actK_rcv hact
      have hb : b.roundOf = none := by
        simp only [hact, isDfr, Bool.and_true] at hd
        rw [hd] at hrd
        cases hro : b.roundOf with
        | none => rfl
        | some l => rw [hro] at hrd; cases hrd
      have hrun : ∀ w, (execOp a.eval o).run P w = .ok .recover w := fun w => by
        rw [run_builtin hop hc]; rfl
      have hqq : ∀ w, QG P (execOp a.eval o) w := fun w => by
        simp only [execOp, hop]
        exact QG.after plain_resolve (a := { target := .builtin .recover c.argTypes o.type (c.args.map fun | .const _ => true | _ => false), args := c.args.map a.eval }) (w1 := w) (by unfold resolve; rw [hc]; rfl) QG.pure
      have hs := step_recover_op (b := b) (K := K) (cs := cs) (w := w) (rest := rest) ho hw hb hcs hqq hrun
      exact OutOk.steps hs (St.refl hr) (hnx R hR m H w _ D _ K cs hcs hr (hf.put hdst .inil))
  have skip : Region.wanted o (yielded ops a.tmps) = false → OutOk P b n (its2 ++ K) cs m H w (lone (b.atR a ([.inRegion ops (i :: rest)] ++ K)) cs w) (nx.f R (putA T o.dst undefA) D H) := by
    intro hw
    have hs := stepR_op_skip (P := P) (b := b) (a := a) (K := K) (cs := cs) (w := w) (ops := ops) (i := i) (rest := rest) (by simp [ho, hw])
    rw [ho] at hs
    exact OutOk.steps (.one hs) (St.refl hr) (hnx R hR m H w _ D _ K cs hcs hr (hf.put hdst (undef_ok m)))
  simp only [tSp]
  cases g with
  | none =>
    exact act (hwant true rfl)
  | some p =>
    obtain ⟨d, want⟩ := p
    simp only [wantA, oc_some] at hwant
    show OutOk P b n (its2 ++ K) cs m H w _ (oc (wantG d want T) .bad fun bw => bt bw ((tAct o.dst nx (actK E o.op)).f R T D H) (nx.f R (putA T o.dst undefA) D H))
    cases hwg : wantG d want T with
    | none => trivial
    | some bw =>
      cases bw with
      | true => exact act (hwant true hwg)
      | false => exact skip (hwant false hwg)
include hE hX hQ in
theorem opsK_to {b : Frame} {n : Cx} {rd : Bool} (hrd : rd = b.roundOf.isSome) {ops : Array Oper} {post : List Oper} : ∀ {pre : List Oper} {i : Nat} {k : RK}, ops.toList.drop i = pre ++ post → opsK E n.n rd ops.toList pre = some k →
    RKTo P b n [.inRegion ops (List.range' i (pre ++ post).length)] [.inRegion ops (List.range' (i + pre.length) post.length)] k
  | [], i, k, _, h => by
    cases h
    intro R hR m H w T D a K cs hcs hr hf
    exact OutOk.nor (St.refl hr) hf
  | o :: r, i, k, hd, h => by
    simp only [opsK, ob_some] at h
    obtain ⟨sp, hsp, h⟩ := h
    cases hdf : (rd && isDfr sp.act) with
    | true => rw [hdf] at h; cases h
    | false =>
      rw [hdf] at h
      simp only [bt_false, ob_some, Option.some.injEq] at h
      obtain ⟨nx, hnx, rfl⟩ := h
      have ho : ops[i]? = some o := by
        rw [← Array.getElem?_toList]
        have : (ops.toList.drop i)[0]? = some o := by rw [hd]; rfl
        simpa using this
      have hd2 : ops.toList.drop (i + 1) = r ++ post := by
        rw [← List.drop_drop, hd]; rfl
      have ih := opsK_to hrd hd2 hnx
      rw [List.cons_append, List.length_cons, List.range'_succ]
      rw [show i + (o :: r).length = i + 1 + r.length from by simp; omega]
      exact tSp_to hE hX hQ hrd ho hsp hdf ih
end
section
variable {P : Program} {E : Env} {b : Frame} {n : Cx} {T T2 : Tr AV} {D D2 : List ADf} {H H2 : AH} {Q Q' : Out → Prop} {its its2 : List Item}
def WPO (P : Program) (b : Frame) (n : Cx) (ops : Array Oper) (r : List Oper) (T : Tr AV) (D : List ADf) (H : AH) (Q : Out → Prop) : Prop :=
  ∀ i, ops.toList.drop i = r → WP P b n [.inRegion ops (List.range' i r.length)] T D H Q
def OutcQ (P : Program) (s : Sem Next) (w : World) (Q : Value → World → Prop) : Prop := QG P s w ∧ Outc P s w Q
def EndP (P : Program) (re : ReK) (Q : AV → AH → Prop) (T : Tr AV) (D : List ADf) (H : AH) : Prop := ∃ R H3 l, RecOk P R ∧ deferA R D H = some H3 ∧ re.f T H3 = some l ∧ Q (resultA l) H3
def OutP (P : Program) (re : ReK) (Q : AV → AH → Prop) : Out → Prop
  | .nor T D H => EndP P re Q T D H
  | .ret T D H => EndP P re Q T D H
  | _ => False
end
end Go.Xq
