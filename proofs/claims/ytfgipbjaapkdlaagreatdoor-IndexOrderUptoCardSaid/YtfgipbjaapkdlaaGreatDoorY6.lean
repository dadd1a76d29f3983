/- A part of the proof that the evaluator is right. Conditions: in each theorem. -/
import Derived.Test.YtfgipbjaapkdlaaGreatDoorY5
import Derived.RangeFuncLeaves
namespace Go.Xq
section
variable {P : Program} {E : Env} (hE : TyOk P E) (hX : ExtOk P E)
theorem actK_look {op : Op} {k : LK} (h : actK E op = .look k) : lookK E op = some k ∨ ∀ T H, k.f T H = none := by
  unfold actK at h
  repeat' split at h
  all_goals first | (cases h; exact .inl (by assumption)) | (cases h; exact .inr fun _ _ => rfl) | (cases h; done)
theorem actK_fresh {op : Op} {k : FrK} (h : actK E op = .fresh k) : freshK E op = some k := by
  unfold actK at h
  repeat' split at h
  all_goals first | (cases h; assumption) | (cases h; done)
theorem actK_heavy {op : Op} {k : HvK} (h : actK E op = .heavy k) : heavyK E op = some k := by
  unfold actK at h
  repeat' split at h
  all_goals first | (cases h; assumption) | (cases h; done)
theorem actK_dfr {op : Op} {f : Operand} {l : LsK} (h : actK E op = .dfr f l) : ∃ c, op = .defer c ∧ c.callee = .value f ∧ l = opnds c.args.toList := by
  unfold actK at h
  repeat' split at h
  all_goals first | (cases h; exact ⟨_, rfl, by assumption, rfl⟩) | (cases h; done)
theorem actK_rcv {op : Op} (h : actK E op = .rcv) : ∃ c, op = .call c ∧ c.callee = .builtin .recover := by
  unfold actK at h
  repeat' split at h
  all_goals first | (cases h; exact ⟨_, rfl, by assumption⟩) | (cases h; done)
theorem look_nodefer {op : Op} {k : LK} (h : lookK E op = some k) (c : Call) : op ≠ .defer c := by
  rintro rfl; simp [lookK] at h
theorem fresh_nodefer {op : Op} {k : FrK} (h : freshK E op = some k) (c : Call) : op ≠ .defer c := by
  rintro rfl; simp [freshK] at h
theorem heavy_nodefer {op : Op} {k : HvK} (h : heavyK E op = some k) (c : Call) : op ≠ .defer c := by
  rintro rfl; simp [heavyK] at h
include hE in
theorem look_outc {o : Oper} {k : LK} (h : lookK E o.op = some k) {m : Ren} {H : AH} {w : World} {T : Tr AV} {ρ : Operand → Value} {v : AV} (hr : Rel m H w) (he : ER m T ρ) (hk : k.f T H = some v) : Outc P (execOp ρ o) w (Post m H w v H) := by
  obtain ⟨v', h1, h2⟩ := lookK_ok hE h m H w T ρ v hr he hk
  exact .value v' w h1 ⟨m, St.refl hr, h2⟩
include hE in
theorem fresh_outc {o : Oper} {k : FrK} (h : freshK E o.op = some k) {m : Ren} {H : AH} {w : World} {T : Tr AV} {ρ : Operand → Value} {v : AV} {x : AObj} (hr : Rel m H w) (he : ER m T ρ) (hk : k.f T H.next = some (v, x)) :
    Outc P (execOp ρ o) w (Post m H w v (H.new x)) := by
  obtain ⟨v', y, w', i, h1, h2, h3, h4, h5, h6⟩ := freshK_ok hE h m w T ρ H.next v x he hk
  obtain ⟨g1, g2⟩ := h6 (m.ext H.next i) (hr.le (Ext.ext _ _ _)) (Ren.ext_same _ _ _)
  exact .value v' w' h1 ⟨_, St.newBlk hr h5 h2 g2 h3 h4, g1⟩
theorem want_at {ts : Array Value} {m : Ren} {T : Tr AV} {ops : Array Oper} {o : Oper} {g : Option (Nat × Bool)} {bw : Bool} (h : guardOf ops.toList o.guard = some g)
    (hv : ∀ d want, g = some (d, want) → ∀ v, T.get (bits d) = some v → VR m v (ts.getD d undef)) (hw : wantA g T = some bw) : Region.wanted o (yielded ops ts) = bw := by
  unfold Region.wanted
  cases hg : o.guard with
  | none => rw [hg] at h; cases h; cases hw; rfl
  | some p =>
    obtain ⟨j, want⟩ := p
    rw [hg] at h
    simp only [guardOf, ob_some, Option.some.injEq] at h
    obtain ⟨x, h1, d, h2, rfl⟩ := h
    have hx : ops[j]? = some x := by rw [← Array.getElem?_toList]; exact h1
    simp only [wantA, oc_some, wantG, ob_some, Option.some.injEq] at hw
    obtain ⟨av, h3, rfl⟩ := hw
    have hv := hv d want rfl av h3
    simp only [yielded, hx, Option.bind_some, h2]
    by_cases hlt : d < ts.size
    · rw [Array.getElem?_eq_getElem hlt]
      have e : ts.getD d undef = ts[d] := by simp [Array.getD_eq_getD_getElem?, hlt]
      rw [e] at hv
      generalize ts[d] = cv at hv ⊢
      cases hv <;> simp [onBool, bEq_eq]
    · rw [Array.getElem?_eq_none (Nat.le_of_not_lt hlt)]
      have e : ts.getD d undef = undef := by simp [Array.getD_eq_getD_getElem?, hlt]
      rw [e] at hv
      generalize hu : undef = cv at hv
      cases hv <;> first | (simp [onBool]; done) | (simp [undef] at hu; done)
def OutOk (P : Program) (b : Frame) (n : Cx) (K : List Item) (cs : List Frame) (m : Ren) (H : AH) (w : World) (s0 : Machine) : Out → Prop
  | .bad => True
  | .nor T D H2 => ∃ m2 a2 w2, St m H w m2 H2 w2 ∧ FrR n m2 T D a2 ∧ Steps P s0 (lone (b.atR a2 K) cs w2)
  | .ext id T D H2 => ∃ m2 a2 w2 K2, St m H w m2 H2 w2 ∧ FrR n m2 T D a2 ∧ exitTo id K2 = exitTo id K ∧ Steps P s0 (lone (b.atR a2 (.code (.exit id) :: K2)) cs w2)
  | .ret T D H2 => ∃ m2 a2 w2 K2, St m H w m2 H2 w2 ∧ FrR n m2 T D a2 ∧ Steps P s0 (lone (b.atR a2 (.code .ret :: K2)) cs w2)
theorem OutOk.steps {b : Frame} {n : Cx} {K : List Item} {cs : List Frame} {m m2 : Ren} {H H2 : AH} {w w2 : World} {s0 s1 : Machine} {out : Out} (hs : Steps P s0 s1) (hst : St m H w m2 H2 w2) (h : OutOk P b n K cs m2 H2 w2 s1 out) : OutOk P b n K cs m H w s0 out := by
  cases out with
  | bad => trivial
  | nor T D H3 => obtain ⟨m3, a3, w3, h1, h2, h3⟩ := h; exact ⟨m3, a3, w3, hst.trans h1, h2, hs.trans h3⟩
  | ext id T D H3 => obtain ⟨m3, a3, w3, K3, h1, h2, h3, h4⟩ := h; exact ⟨m3, a3, w3, K3, hst.trans h1, h2, h3, hs.trans h4⟩
  | ret T D H3 => obtain ⟨m3, a3, w3, K3, h1, h2, h3⟩ := h; exact ⟨m3, a3, w3, K3, hst.trans h1, h2, hs.trans h3⟩
def RKOk (P : Program) (b : Frame) (n : Cx) (its : List Item) (k : RK) : Prop :=
  ∀ R, RecOk P R → ∀ m H w T D a K cs, CsOk b.kind cs → Rel m H w → FrR n m T D a → OutOk P b n K cs m H w (lone (b.atR a (its ++ K)) cs w) (k.f R T D H)
include hE hX in
theorem tSp_ok {b : Frame} {n : Cx} {rd : Bool} (hrd : rd = b.roundOf.isSome) {ops : Array Oper} {i : Nat} {rest : List Nat} {o : Oper} {sp : Sp} {nx : RK} (ho : ops[i]? = some o) (hsp : spK E n.n ops.toList o = some sp) (hd : (rd && isDfr sp.act) = false)
    (hnx : RKOk P b n [.inRegion ops rest] nx) : RKOk P b n [.inRegion ops (i :: rest)] (tSp sp nx) := by
  simp only [spK, ob_some, bt_some, Option.some.injEq] at hsp
  obtain ⟨g, hg, hdst, rfl⟩ := hsp
  intro R hR m H w T D a K cs hcs hr hf
  have hwant : ∀ bw, wantA g T = some bw → Region.wanted o (yielded ops a.tmps) = bw := fun bw hw => want_at hg (fun d want _ v hv => hf.t.at_ d v hv) hw
  -- wanted
  have act : Region.wanted o (yielded ops a.tmps) = true → OutOk P b n K cs m H w (lone (b.atR a ([.inRegion ops (i :: rest)] ++ K)) cs w) ((tAct o.dst nx (actK E o.op)).f R T D H) := by
    intro hw
    have go : ∀ {v : AV} {H2 : AH}, (∀ c, o.op ≠ .defer c) → Outc P (execOp a.eval o) w (Post m H w v H2) → OutOk P b n K cs m H w (lone (b.atR a ([.inRegion ops (i :: rest)] ++ K)) cs w) (nx.f R (putA T o.dst v) D H2) := by
      intro v H2 hnd hout
      obtain ⟨v', w', ⟨m2, hst, hv⟩, hs⟩ := step_op (b := b) (K := K) (cs := cs) (rest := rest) ho hw (Oper.semAt_eq _ _ _ hnd) hout
      exact OutOk.steps hs hst (hnx R hR m2 H2 w' _ D _ K cs hcs hst.rel ((hf.mono (St.le hr hst)).put hdst hv))
    cases hact : actK E o.op with
    | look k =>
      simp only [tAct, tLook]
      cases hk : k.f T H with
      | none => trivial
      | some v =>
        rcases actK_look hact with h | h
        · exact go (look_nodefer h) (look_outc hE h hr (hf.er hr) hk)
        · rw [h] at hk; cases hk
    | fresh k =>
      simp only [tAct, tFresh]
      cases hk : k.f T H.next with
      | none => trivial
      | some p =>
        obtain ⟨v, x⟩ := p
        have h := actK_fresh hact
        exact go (fresh_nodefer h) (fresh_outc hE h hr (hf.er hr) hk)
    | heavy k =>
      simp only [tAct, tHeavy]
      cases hk : k.f R T H with
      | none => trivial
      | some p =>
        obtain ⟨v, H2⟩ := p
        have h := actK_heavy hact
        exact go (heavy_nodefer h) (heavyK_ok hE hX h R hR m H w T a.eval v H2 hr (hf.er hr) hk)
    | dfr f l =>
      obtain ⟨c, hop, hc, rfl⟩ := actK_dfr hact
      have hb : b.roundOf = none := by
        simp only [hact, isDfr, Bool.and_true] at hd
        rw [hd] at hrd
        cases hro : b.roundOf with
        | none => rfl
        | some l => rw [hro] at hrd; cases hrd
      simp only [tAct, tDfr]
      cases hk : (ob (opnd f T) fun fv => ob ((opnds c.args.toList).f T) fun l => onFn fv fun q first cap => some ({ mark := none, f := .fn q .nil cap, args := AV.app first l } : ADf)) with
      | none => trivial
      | some d =>
        simp only [ob_some, onFn_some, Option.some.injEq] at hk
        obtain ⟨fv, h1, l, h2, q, first, cap, rfl, rfl⟩ := hk
        have he := hf.er hr
        obtain ⟨g', va, vc, hq, ha, hc', e⟩ := (he f _ h1).fn_inv
        have hl := run_map_ops he h2
        have hrun : (execOp a.eval o).run P w = .ok (.defer { target := .fn g' vc.toArray, args := (va ++ (c.args.map a.eval).toList).toArray }) w := by
          have harr : va.toArray ++ c.args.map a.eval = (va ++ (c.args.map a.eval).toList).toArray := by apply Array.toList_inj.1; simp
          simp only [execOp, hop, resolve, hc, e, Deferred.ofValue, Sem.run_bind, Sem.run_pure, Result.andThen, harr]
        have hs := step_defer_op (b := b) (K := K) (cs := cs) (rest := rest) ho hw hb hrun
        refine OutOk.steps (.one hs) (St.refl hr) (hnx R hR m H w _ _ _ K cs hcs hr (FrR.put ?_ hdst (undef_ok m)))
        exact ⟨hf.t, .cons _ _ _ _ (.call _ _ _ _ _ _ _ hq hc' (ha.app hl)) hf.d, hf.r⟩
    | rcv =>
      obtain ⟨c, hop, hc⟩ := actK_rcv hact
      have hb : b.roundOf = none := by
        simp only [hact, isDfr, Bool.and_true] at hd
        rw [hd] at hrd
        cases hro : b.roundOf with
        | none => rfl
        | some l => rw [hro] at hrd; cases hrd
      have hrun : (execOp a.eval o).run P w = .ok .recover w := by
        rw [run_builtin hop hc]; rfl
      have hs := step_recover_op (b := b) (K := K) (cs := cs) (rest := rest) ho hw hb hcs hrun
      exact OutOk.steps (.one hs) (St.refl hr) (hnx R hR m H w _ D _ K cs hcs hr (hf.put hdst .inil))
  have skip : Region.wanted o (yielded ops a.tmps) = false → OutOk P b n K cs m H w (lone (b.atR a ([.inRegion ops (i :: rest)] ++ K)) cs w) (nx.f R (putA T o.dst undefA) D H) := by
    intro hw
    have hs := stepR_op_skip (P := P) (b := b) (a := a) (k := K) (cs := cs) (w := w) (ops := ops) (i := i) (rest := rest) (by simp [ho, hw])
    rw [ho] at hs
    exact OutOk.steps (.one hs) (St.refl hr) (hnx R hR m H w _ D _ K cs hcs hr (hf.put hdst (undef_ok m)))
  simp only [tSp]
  cases g with
  | none =>
    exact act (hwant true rfl)
  | some p =>
    obtain ⟨d, want⟩ := p
    simp only [wantA, oc_some] at hwant
    show OutOk P b n K cs m H w _ (oc (wantG d want T) .bad fun bw => bt bw ((tAct o.dst nx (actK E o.op)).f R T D H) (nx.f R (putA T o.dst undefA) D H))
    cases hwg : wantG d want T with
    | none => trivial
    | some bw =>
      cases bw with
      | true => exact act (hwant true hwg)
      | false => exact skip (hwant false hwg)
end
end Go.Xq
namespace Go.Xq
section
variable {P : Program} {E : Env} (hE : TyOk P E) (hX : ExtOk P E) {b : Frame} {n : Cx} {rd : Bool}
@[simp] theorem oOut_nor (T D H) (k : Tr AV → List ADf → AH → Out) : oOut (.nor T D H) k = k T D H := rfl
@[simp] theorem oOut_bad (k : Tr AV → List ADf → AH → Out) : oOut .bad k = .bad := rfl
@[simp] theorem oOut_ext (id T D H) (k : Tr AV → List ADf → AH → Out) : oOut (.ext id T D H) k = .ext id T D H := rfl
@[simp] theorem oOut_ret (T D H) (k : Tr AV → List ADf → AH → Out) : oOut (.ret T D H) k = .ret T D H := rfl
include hE hX in
theorem opsK_ok (hrd : rd = b.roundOf.isSome) {ops : Array Oper} : ∀ {r : List Oper} {i : Nat} {k : RK}, ops.toList.drop i = r → opsK E n.n rd ops.toList r = some k → RKOk P b n [.inRegion ops (List.range' i r.length)] k
  | [], i, k, _, h => by
    cases h
    intro R hR m H w T D a K cs hcs hr hf
    exact ⟨m, a, w, St.refl hr, hf, .one stepR_region_end⟩
  | o :: r, i, k, hd, h => by
    simp only [opsK, ob_some] at h
    obtain ⟨sp, hsp, h⟩ := h
    cases hdf : (rd && isDfr sp.act) with
    | true => rw [hdf] at h; cases h
    | false =>
      rw [hdf] at h
      simp only [bt_false, ob_some, Option.some.injEq] at h
      obtain ⟨nx, hnx, rfl⟩ := h
      have ho : ops[i]? = some o := by
        rw [← Array.getElem?_toList]
        have : (ops.toList.drop i)[0]? = some o := by rw [hd]; rfl
        simpa using this
      have hd2 : ops.toList.drop (i + 1) = r := by
        rw [← List.drop_drop, hd]; rfl
      rw [List.length_cons, List.range'_succ]
      exact tSp_ok hE hX hrd ho hsp hdf (opsK_ok hrd hd2 hnx)
include hE hX in
theorem region_ok (hrd : rd = b.roundOf.isSome) {id : Nat} {ops : Array Oper} {k : RK} (h : opsK E n.n rd ops.toList ops.toList = some k) : RKOk P b n [.code (.region id ops false)] k := by
  intro R hR m H w T D a K cs hcs hr hf
  have h1 := opsK_ok hE hX hrd (i := 0) (by simp) h R hR m H w T D a K cs hcs hr hf
  rw [Array.length_toList, ← List.range_eq_range'] at h1
  exact OutOk.steps (.one stepR_region) (St.refl hr) h1
theorem skip_ok {c : Code} (hc : c = .skip ∨ ∃ l, c = .label l) : RKOk P b n [.code c] ⟨fun _ T D H => .nor T D H⟩ := by
  intro R hR m H w T D a K cs hcs hr hf
  rcases hc with rfl | ⟨l, rfl⟩
  · exact ⟨m, a, w, St.refl hr, hf, .one stepR_skip⟩
  · exact ⟨m, a, w, St.refl hr, hf, .one stepR_label⟩
theorem seq_ok {c d : Code} {x y : RK} (hx : RKOk P b n [.code c] x) (hy : RKOk P b n [.code d] y) : RKOk P b n [.code (.seq c d)] ⟨cSeq x y⟩ := by
  intro R hR m H w T D a K cs hcs hr hf
  have h1 := hx R hR m H w T D a (.code d :: K) cs hcs hr hf
  have hs : Steps P (lone (b.atR a ([.code (.seq c d)] ++ K)) cs w) (lone (b.atR a ([.code c] ++ (.code d :: K))) cs w) := .one stepR_seq
  show OutOk P b n K cs m H w _ (oOut (x.f R T D H) fun T D H => y.f R T D H)
  cases ho : x.f R T D H with
  | bad => trivial
  | nor T2 D2 H2 =>
    rw [ho] at h1
    obtain ⟨m2, a2, w2, g1, g2, g3⟩ := h1
    exact OutOk.steps (hs.trans g3) g1 (hy R hR m2 H2 w2 T2 D2 a2 K cs hcs g1.rel g2)
  | ext id T2 D2 H2 =>
    rw [ho] at h1
    obtain ⟨m2, a2, w2, K2, g1, g2, g3, g4⟩ := h1
    exact ⟨m2, a2, w2, K2, g1, g2, g3, hs.trans g4⟩
  | ret T2 D2 H2 =>
    rw [ho] at h1
    obtain ⟨m2, a2, w2, K2, g1, g2, g3⟩ := h1
    exact ⟨m2, a2, w2, K2, g1, g2, hs.trans g3⟩
theorem cond_ok {q : Operand} {c d : Code} {x y : RK} (hx : RKOk P b n [.code c] x) (hy : RKOk P b n [.code d] y) : RKOk P b n [.code (.cond q c d)] ⟨cCond q x y⟩ := by
  intro R hR m H w T D a K cs hcs hr hf
  show OutOk P b n K cs m H w _ (oc (ob (opnd q T) fun v => onBool v some) .bad fun t => bt t (x.f R T D H) (y.f R T D H))
  cases hq : (ob (opnd q T) fun v => onBool v some) with
  | none => trivial
  | some t =>
    simp only [ob_some, onBool_some, Option.some.injEq] at hq
    obtain ⟨v, h1, t', rfl, rfl⟩ := hq
    have hv := (hf.er hr q _ h1).bool_inv
    have hs := stepR_cond (P := P) (b := b) (k := K) (cs := cs) (w := w) (x := c) (y := d) hv
    cases t'
    · exact OutOk.steps (.one hs) (St.refl hr) (hy R hR m H w T D a K cs hcs hr hf)
    · exact OutOk.steps (.one hs) (St.refl hr) (hx R hR m H w T D a K cs hcs hr hf)
theorem exit_ok {id : Nat} : RKOk P b n [.code (.exit id)] ⟨fun _ T D H => .ext id T D H⟩ := by
  intro R hR m H w T D a K cs hcs hr hf
  exact ⟨m, a, w, K, St.refl hr, hf, rfl, .refl P _⟩
theorem ret_ok : RKOk P b n [.code .ret] ⟨fun _ T D H => .ret T D H⟩ := by
  intro R hR m H w T D a K cs hcs hr hf
  exact ⟨m, a, w, K, St.refl hr, hf, .refl P _⟩
theorem block_ok {id : Nat} {c : Code} {x : RK} (hx : RKOk P b n [.code c] x) : RKOk P b n [.code (.block id c)] ⟨cBlock id x⟩ := by
  intro R hR m H w T D a K cs hcs hr hf
  have h1 := hx R hR m H w T D a (.inBlock id :: K) cs hcs hr hf
  have hs : Steps P (lone (b.atR a ([.code (.block id c)] ++ K)) cs w) (lone (b.atR a ([.code c] ++ (.inBlock id :: K))) cs w) := .one stepR_block
  show OutOk P b n K cs m H w _ (bOut id (x.f R T D H))
  cases ho : x.f R T D H with
  | bad => trivial
  | nor T2 D2 H2 =>
    rw [ho] at h1
    obtain ⟨m2, a2, w2, g1, g2, g3⟩ := h1
    exact ⟨m2, a2, w2, g1, g2, hs.trans (g3.trans (.one stepR_inBlock))⟩
  | ext id2 T2 D2 H2 =>
    rw [ho] at h1
    obtain ⟨m2, a2, w2, K2, g1, g2, g3, g4⟩ := h1
    simp only [exitTo] at g3
    show OutOk P b n K cs m H w _ (bt (Nat.beq id2 id) (.nor T2 D2 H2) (.ext id2 T2 D2 H2))
    cases hb : Nat.beq id2 id with
    | true =>
      have := Nat.eq_of_beq_eq_true hb
      subst this
      simp only [beq_self_eq_true, if_true] at g3
      exact ⟨m2, a2, w2, g1, g2, hs.trans (g4.trans (.one (stepR_exit g3)))⟩
    | false =>
      have hne : ¬ id = id2 := fun e => by subst e; simp at hb
      rw [if_neg (by simpa using hne)] at g3
      exact ⟨m2, a2, w2, K2, g1, g2, g3, hs.trans g4⟩
  | ret T2 D2 H2 =>
    rw [ho] at h1
    obtain ⟨m2, a2, w2, K2, g1, g2, g3⟩ := h1
    exact ⟨m2, a2, w2, K2, g1, g2, hs.trans g3⟩
end
end Go.Xq
namespace Go.Xq
section
variable {P : Program} {b : Frame} {n : Cx}
theorem stepR_scope {c : Code} {a : Act} {K : List Item} {cs : List Frame} {w : World} : step P (lone (b.atR a (.code (.scope c) :: K)) cs w) = .next (lone (b.atR a (.code c :: .inScope c :: K)) cs w) :=
  step_lone_go (by simp [stepG, stepG.exec, Frame.atR])
theorem stepR_inScope {c : Code} {a : Act} {K : List Item} {cs : List Frame} {w : World} : step P (lone (b.atR a (.inScope c :: K)) cs w) = .next (lone (b.atR a K) cs w) :=
  step_lone_go (by simp [stepG, stepG.exec, Frame.atR])
theorem OutOk.pop {K : List Item} {cs : List Frame} {m : Ren} {H : AH} {w : World} {s0 : Machine} {out : Out} {it : Item} (hx : ∀ id, exitTo id (it :: K) = exitTo id K)
    (hn : ∀ a w2, Steps P (lone (b.atR a (it :: K)) cs w2) (lone (b.atR a K) cs w2)) (h : OutOk P b n (it :: K) cs m H w s0 out) : OutOk P b n K cs m H w s0 out := by
  cases out with
  | bad => trivial
  | nor T D H2 => obtain ⟨m2, a2, w2, g1, g2, g3⟩ := h; exact ⟨m2, a2, w2, g1, g2, g3.trans (hn a2 w2)⟩
  | ext id T D H2 => obtain ⟨m2, a2, w2, K2, g1, g2, g3, g4⟩ := h; exact ⟨m2, a2, w2, K2, g1, g2, g3.trans (hx id), g4⟩
  | ret T D H2 => obtain ⟨m2, a2, w2, K2, g1, g2, g3⟩ := h; exact ⟨m2, a2, w2, K2, g1, g2, g3⟩
theorem scope_ok {c : Code} {x : RK} (hx : RKOk P b n [.code c] x) : RKOk P b n [.code (.scope c)] x := by
  intro R hR m H w T D a K cs hcs hr hf
  have h1 := hx R hR m H w T D a (.inScope c :: K) cs hcs hr hf
  exact OutOk.pop (fun _ => rfl) (fun a w2 => .one stepR_inScope) (OutOk.steps (.one stepR_scope) (St.refl hr) h1)
def LpOk (P : Program) (b : Frame) (n : Cx) (c : Code) (f : Tr AV → List ADf → AH → Out) : Prop :=
  ∀ m H w T D a K cs, CsOk b.kind cs → Rel m H w → FrR n m T D a → OutOk P b n (.inLoop c :: K) cs m H w (lone (b.atR a (.inLoop c :: K)) cs w) (f T D H)
theorem LpOk.bind {c : Code} {f g : Tr AV → List ADf → AH → Out} (hf : LpOk P b n c f) (hg : LpOk P b n c g) : LpOk P b n c fun T D H => oOut (f T D H) g := by
  intro m H w T D a K cs hcs hr hfr
  have h1 := hf m H w T D a K cs hcs hr hfr
  show OutOk P b n _ cs m H w _ (oOut (f T D H) g)
  cases ho : f T D H with
  | bad => trivial
  | nor T2 D2 H2 =>
    rw [ho] at h1
    obtain ⟨m2, a2, w2, g1, g2, g3⟩ := h1
    exact OutOk.steps g3 g1 (hg m2 H2 w2 T2 D2 a2 K cs hcs g1.rel g2)
  | ext id T2 D2 H2 => rw [ho] at h1; exact h1
  | ret T2 D2 H2 => rw [ho] at h1; exact h1
theorem LpOk.iter {c : Code} {f : Tr AV → List ADf → AH → Out} (hf : LpOk P b n c f) : ∀ k, LpOk P b n c (iterA f k)
  | 0 => hf
  | k + 1 => (LpOk.iter hf k).bind (LpOk.iter hf k)
theorem LpOk.loop {c : Code} {f : Tr AV → List ADf → AH → Out} (hf : LpOk P b n c f) : ∀ fuel k, LpOk P b n c (loopA f fuel k)
  | 0, _ => fun _ _ _ _ _ _ _ _ _ _ _ => trivial
  | fuel + 1, k => (LpOk.iter hf k).bind (LpOk.loop hf fuel (k + 1))
theorem loopA_nor {f : Tr AV → List ADf → AH → Out} : ∀ fuel k T D H T2 D2 H2, loopA f fuel k T D H ≠ .nor T2 D2 H2
  | 0, _, _, _, _, _, _, _ => fun h => by cases h
  | fuel + 1, k, T, D, H, T2, D2, H2 => fun h => by
    simp only [loopA] at h
    cases ho : iterA f k T D H with
    | bad => rw [ho] at h; cases h
    | nor T3 D3 H3 => rw [ho] at h; exact loopA_nor fuel (k + 1) T3 D3 H3 T2 D2 H2 h
    | ext => rw [ho] at h; cases h
    | ret => rw [ho] at h; cases h
theorem loop_gen {c : Code} {x : RK} (hx : RKOk P b n [.code c] x) (fuel : Nat) : RKOk P b n [.code (.loop c)] ⟨fun R T D H => loopA (x.f R) (fuel + 1) 0 T D H⟩ := by
  intro R hR m H w T D a K cs hcs hr hf
  have body : LpOk P b n c (x.f R) := by
    intro m H w T D a K cs hcs hr hf
    exact OutOk.steps (.one stepR_inLoop) (St.refl hr) (hx R hR m H w T D a (.inLoop c :: K) cs hcs hr hf)
  have h1 : OutOk P b n (.inLoop c :: K) cs m H w (lone (b.atR a ([.code (.loop c)] ++ K)) cs w) (x.f R T D H) :=
    OutOk.steps (.one stepR_loop) (St.refl hr) (hx R hR m H w T D a (.inLoop c :: K) cs hcs hr hf)
  have first : OutOk P b n (.inLoop c :: K) cs m H w (lone (b.atR a ([.code (.loop c)] ++ K)) cs w) (loopA (x.f R) (fuel + 1) 0 T D H) := by
    rw [loopA]
    simp only [iterA]
    cases ho : x.f R T D H with
    | bad => trivial
    | nor T2 D2 H2 =>
      rw [ho] at h1
      obtain ⟨m2, a2, w2, g1, g2, g3⟩ := h1
      rw [oOut_nor]
      exact OutOk.steps g3 g1 (LpOk.loop body fuel (Nat.succ 0) m2 H2 w2 T2 D2 a2 K cs hcs g1.rel g2)
    | ext id T2 D2 H2 => rw [ho] at h1; rw [oOut_ext]; exact h1
    | ret T2 D2 H2 => rw [ho] at h1; rw [oOut_ret]; exact h1
  have hn := fun T2 D2 H2 => loopA_nor (f := x.f R) (fuel + 1) 0 T D H T2 D2 H2
  show OutOk P b n K cs m H w _ (loopA (x.f R) (fuel + 1) 0 T D H)
  revert first hn
  generalize loopA (x.f R) (fuel + 1) 0 T D H = out
  intro first hn
  cases out with
  | bad => trivial
  | nor T2 D2 H2 => exact absurd rfl (hn T2 D2 H2)
  | ext id T2 D2 H2 => exact first
  | ret T2 D2 H2 => exact first
theorem cLoop_eq (x : RK) : (⟨cLoop x⟩ : RK) = ⟨fun R T D H => loopA (x.f R) (39 + 1) 0 T D H⟩ := rfl
theorem loop_ok {c : Code} {x : RK} (hx : RKOk P b n [.code c] x) : RKOk P b n [.code (.loop c)] ⟨cLoop x⟩ := by
  rw [cLoop_eq]; exact loop_gen hx 39
end
end Go.Xq
namespace Go.Xq
section
variable {P : Program} {E : Env}
theorem run_take {w : World} {r : Nat} {ds : List Deferred} (h : w.heap[r]? = some (.deferred (some ds))) : (Instr.takeDeferred r).run P w = .ok ds { w with heap := w.heap.setIfInBounds r (.deferred none) } := by
  simp only [Instr.takeDeferred, Sem.run_bind, run_getObj h (by simp), Result.andThen, run_setObj _ h (by simp), Sem.run_pure]
theorem defers_ok {R : Rec} (hR : RecOk P R) : ∀ {D : List ADf} {ds : List Deferred} {m : Ren} {H H2 : AH} {w : World} {fr : Frame} {cs : List Frame}, Rel m H w → DfR m D ds → deferA R D H = some H2 → fr.mode = .returning → fr.defers = ds →
    ∃ m2 w2, St m H w m2 H2 w2 ∧ Steps P (lone fr cs w) (lone { fr with defers := [] } cs w2)
  | [], _, m, H, H2, w, fr, cs, hr, .nil, h, hm, hd => by
    cases h
    refine ⟨m, w, St.refl hr, ?_⟩
    rw [← hd]
    exact .refl P _
  | x :: D, _, m, H, H2, w, fr, cs, hr, .cons _ d _ ds hx hl, h, hm, hd => by
    cases hx with
    | mark k i f args hk =>
      simp only [deferA, ob_some] at h
      obtain ⟨o, h1, h⟩ := h
      split at h
      · split at h
        · obtain ⟨y, hy, hor⟩ := hr.live _ _ h1 _ hk
          cases hor
          have hst := St.upd (w2 := { w with heap := w.heap.setIfInBounds i.blk (.deferred none) }) hr h1 hk (.dfrF i) rfl rfl rfl
          have hs := step_collected (cs := cs) (by rw [hm]; simp) hd rfl (run_take (P := P) hy)
          obtain ⟨m2, w2, g1, g2⟩ := defers_ok hR (fr := { fr with defers := ds }) (cs := cs) hst.rel (hl.mono (St.le hr hst)) h hm rfl
          exact ⟨m2, w2, hst.trans g1, .head hs g2⟩
        · cases h
      · cases h
    | call q g first cap args vc vs hf hc ha =>
      simp only [deferA] at h
      split at h
      · rename_i g1
        cases hf
        simp only [ob_some] at h
        obtain ⟨⟨v, H1⟩, h1, h⟩ := h
        obtain ⟨hen, hcall⟩ := hR.dcall _ _ _ _ _ h1
        have hinv : (invoke (.fn (.func g1) vc.toArray) vs.toArray).run P w = .ok (.enter g1 (vs ++ vc).toArray) w := by
          have e : vs.toArray ++ vc.toArray = (vs ++ vc).toArray := by simp
          simp only [invoke, e]
          exact run_enter hen
        have hs := step_defer (P := P) (cs := cs) (by rw [hm]; simp) hd rfl hinv
        obtain ⟨v', w1, fr1, ⟨m1, hst, _⟩, hsteps, hk, _, hlv⟩ := hcall m w _ hr (ha.app hc) ({ fr with defers := ds } :: cs) (.inr ⟨rfl, _, _, rfl, hm⟩)
        have hs2 := step_leave_deferred (cs := cs) (c := { fr with defers := ds }) hlv hk hm
        obtain ⟨m2, w2, g1', g2⟩ := defers_ok hR (fr := { fr with defers := ds }) (cs := cs) hst.rel (hl.mono (St.le hr hst)) h hm rfl
        exact ⟨m2, w2, hst.trans g1', .head hs (hsteps.trans (.head hs2 g2))⟩
      · cases h
end
end Go.Xq
