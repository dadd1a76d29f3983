/- Contracts of calls and rules for code. Conditions: in each theorem. -/
import Derived.Test.YtfgipbjaapkdlaaGreatDoorY12
namespace Go.Xq
def AC (P : Program) (kind : CallKind) (f : Nat) (args : AV) (H : AH) (Q : AV → AH → Prop) : Prop :=
  Enters P f ∧ ∀ m w vs, Rel m H w → VL m args vs → XC P kind f vs.toArray w fun v' w' => ∃ v H2, Q v H2 ∧ Post m H w v H2 v' w'
theorem AC.mono {P : Program} {k f args H} {Q Q' : AV → AH → Prop} (h : AC P k f args H Q) (hq : ∀ v H2, Q v H2 → Q' v H2) : AC P k f args H Q' :=
  ⟨h.1, fun m w vs hr hl => (h.2 m w vs hr hl).mono fun _ _ ⟨v, H2, q, p⟩ => ⟨v, H2, hq v H2 q, p⟩⟩
def WP (P : Program) (b : Frame) (n : Cx) (its : List Item) (T : Tr AV) (D : List ADf) (H : AH) (Q : Out → Prop) : Prop :=
  ∀ m w a K cs, CsOk b.kind cs → Rel m H w → FrR n m T D a → ∃ o, Q o ∧ o ≠ .bad ∧ OutOk P b n K cs m H w (lone (b.atR a (its ++ K)) cs w) o
section
variable {P : Program} {E : Env} {b : Frame} {n : Cx} {T : Tr AV} {D : List ADf} {H : AH} {Q Q' : Out → Prop} {its : List Item}
theorem WP.mono (h : WP P b n its T D H Q) (hq : ∀ o, Q o → Q' o) : WP P b n its T D H Q' :=
  fun m w a K cs hcs hr hf => let ⟨o, h1, h2⟩ := h m w a K cs hcs hr hf; ⟨o, hq o h1, h2⟩
theorem WP.of_rk {k : RK} (hk : RKOk P b n its k) {R : Rec} (hR : RecOk P R) (ho : k.f R T D H ≠ .bad) (hq : Q (k.f R T D H)) : WP P b n its T D H Q :=
  fun m w a K cs hcs hr hf => ⟨_, hq, ho, hk R hR m H w T D a K cs hcs hr hf⟩
theorem WP.weak {T2 : Tr AV} (h : WP P b n its T D H Q) (ht : ∀ t v, T.get (bits t) = some v → T2.get (bits t) = some v) : WP P b n its T2 D H Q :=
  fun m w a K cs hcs hr hf => h m w a K cs hcs hr ⟨⟨hf.t.size, fun t v hv => hf.t.at_ t v (ht t v hv)⟩, hf.d, hf.r⟩
theorem WP.steps {its2 : List Item} (h : WP P b n its2 T D H Q) (hs : ∀ a K cs w, Steps P (lone (b.atR a (its ++ K)) cs w) (lone (b.atR a (its2 ++ K)) cs w)) : WP P b n its T D H Q :=
  fun m w a K cs hcs hr hf => let ⟨o, h1, h2, h3⟩ := h m w a K cs hcs hr hf; ⟨o, h1, h2, OutOk.steps (hs a K cs w) (St.refl hr) h3⟩
theorem WP.skip {c : Code} (hc : c = .skip ∨ ∃ l, c = .label l) (hq : Q (.nor T D H)) : WP P b n [.code c] T D H Q := by
  intro m w a K cs hcs hr hf
  refine ⟨_, hq, by simp, ?_⟩
  rcases hc with rfl | ⟨l, rfl⟩
  · exact ⟨m, a, w, St.refl hr, hf, .one stepR_skip⟩
  · exact ⟨m, a, w, St.refl hr, hf, .one stepR_label⟩
theorem WP.exit {id : Nat} (hq : Q (.ext id T D H)) : WP P b n [.code (.exit id)] T D H Q :=
  fun m w a K cs hcs hr hf => ⟨_, hq, by simp, m, a, w, K, St.refl hr, hf, rfl, .refl P _⟩
theorem WP.ret (hq : Q (.ret T D H)) : WP P b n [.code .ret] T D H Q :=
  fun m w a K cs hcs hr hf => ⟨_, hq, by simp, m, a, w, K, St.refl hr, hf, .refl P _⟩
theorem WP.bind {its2 : List Item} (h1 : WP P b n its T D H fun o => match o with
      | .nor T2 D2 H2 => WP P b n its2 T2 D2 H2 Q
      | o => Q o) (hx : ∀ id K, exitTo id (its2 ++ K) = exitTo id K) : WP P b n (its ++ its2) T D H Q := by
  intro m w a K cs hcs hr hf
  obtain ⟨o, hq, hb, ho⟩ := h1 m w a (its2 ++ K) cs hcs hr hf
  rw [← List.append_assoc] at ho
  cases o with
  | bad => exact absurd rfl hb
  | nor T2 D2 H2 =>
    obtain ⟨m2, a2, w2, g1, g2, g3⟩ := ho
    obtain ⟨o2, q1, q2, q3⟩ := hq m2 w2 a2 K cs hcs g1.rel g2
    exact ⟨o2, q1, q2, OutOk.steps g3 g1 q3⟩
  | ext id T2 D2 H2 =>
    obtain ⟨m2, a2, w2, K2, g1, g2, g3, g4⟩ := ho
    exact ⟨_, hq, by simp, m2, a2, w2, K2, g1, g2, g3.trans (hx id K), g4⟩
  | ret T2 D2 H2 =>
    obtain ⟨m2, a2, w2, K2, g1, g2, g3⟩ := ho
    exact ⟨_, hq, by simp, m2, a2, w2, K2, g1, g2, g3⟩
theorem WP.seq {c d : Code} (h : WP P b n [.code c] T D H fun o => match o with
      | .nor T2 D2 H2 => WP P b n [.code d] T2 D2 H2 Q
      | o => Q o) : WP P b n [.code (.seq c d)] T D H Q :=
  WP.steps (WP.bind (its := [.code c]) (its2 := [.code d]) h (fun _ _ => rfl)) fun _ _ _ _ => .one stepR_seq
theorem WP.cond {q : Operand} {c d : Code} {t : Bool} (ht : opnd q T = some (.bool t)) (h1 : t = true → WP P b n [.code c] T D H Q) (h2 : t = false → WP P b n [.code d] T D H Q) :
    WP P b n [.code (.cond q c d)] T D H Q := by
  intro m w a K cs hcs hr hf
  have hv := (hf.er hr q _ ht).bool_inv
  have hs := stepR_cond (P := P) (b := b) (k := K) (cs := cs) (w := w) (x := c) (y := d) hv
  cases t
  · obtain ⟨o, q1, q2, q3⟩ := h2 rfl m w a K cs hcs hr hf
    exact ⟨o, q1, q2, OutOk.steps (.one hs) (St.refl hr) q3⟩
  · obtain ⟨o, q1, q2, q3⟩ := h1 rfl m w a K cs hcs hr hf
    exact ⟨o, q1, q2, OutOk.steps (.one hs) (St.refl hr) q3⟩
theorem WP.block {id : Nat} {c : Code} (h : WP P b n [.code c] T D H fun o => Q (bOut id o)) : WP P b n [.code (.block id c)] T D H Q := by
  intro m w a K cs hcs hr hf
  obtain ⟨o, q1, q2, h1⟩ := h m w a (.inBlock id :: K) cs hcs hr hf
  have hs : Steps P (lone (b.atR a ([.code (.block id c)] ++ K)) cs w) (lone (b.atR a ([.code c] ++ (.inBlock id :: K))) cs w) := .one stepR_block
  cases o with
  | bad => exact absurd rfl q2
  | nor T2 D2 H2 =>
    obtain ⟨m2, a2, w2, g1, g2, g3⟩ := h1
    exact ⟨_, q1, by simp [bOut], m2, a2, w2, g1, g2, hs.trans (g3.trans (.one (stepR_inBlock)))⟩
  | ext id2 T2 D2 H2 =>
    obtain ⟨m2, a2, w2, K2, g1, g2, g3, g4⟩ := h1
    simp only [exitTo] at g3
    have e : bOut id (.ext id2 T2 D2 H2) = bt (Nat.beq id2 id) (.nor T2 D2 H2) (.ext id2 T2 D2 H2) := rfl
    cases hb : Nat.beq id2 id with
    | true =>
      have := Nat.eq_of_beq_eq_true hb
      subst this
      simp only [beq_self_eq_true, if_true] at g3
      rw [e, hb] at q1
      exact ⟨_, q1, by simp, m2, a2, w2, g1, g2, hs.trans (g4.trans (.one (stepR_exit g3)))⟩
    | false =>
      have hne : ¬ id = id2 := fun e => by subst e; simp at hb
      rw [if_neg (by simpa using hne)] at g3
      rw [e, hb] at q1
      exact ⟨_, q1, by simp, m2, a2, w2, K2, g1, g2, g3, hs.trans g4⟩
  | ret T2 D2 H2 =>
    obtain ⟨m2, a2, w2, K2, g1, g2, g3⟩ := h1
    exact ⟨_, q1, by simp [bOut], m2, a2, w2, K2, g1, g2, hs.trans g3⟩
end
end Go.Xq
namespace Go.Xq
def RKTo (P : Program) (b : Frame) (n : Cx) (its its2 : List Item) (k : RK) : Prop :=
  ∀ R, RecOk P R → ∀ m H w T D a K cs, CsOk b.kind cs → Rel m H w → FrR n m T D a → OutOk P b n (its2 ++ K) cs m H w (lone (b.atR a (its ++ K)) cs w) (k.f R T D H)
section
variable {P : Program} {E : Env} (hE : TyOk P E) (hX : ExtOk P E)
include hE hX in
theorem tSp_to {its2 : List Item} {b : Frame} {n : Cx} {rd : Bool} (hrd : rd = b.roundOf.isSome) {ops : Array Oper} {i : Nat} {rest : List Nat} {o : Oper} {sp : Sp} {nx : RK} (ho : ops[i]? = some o) (hsp : spK E n.n ops.toList o = some sp) (hd : (rd && isDfr sp.act) = false)
    (hnx : RKTo P b n [.inRegion ops rest] its2 nx) : RKTo P b n [.inRegion ops (i :: rest)] its2 (tSp sp nx) := by
  simp only [spK, ob_some, bt_some, Option.some.injEq] at hsp
  obtain ⟨g, hg, hdst, rfl⟩ := hsp
  intro R hR m H w T D a K cs hcs hr hf
  have hwant : ∀ bw, wantA g T = some bw → Region.wanted o (yielded ops a.tmps) = bw := fun bw hw => want_at hg (fun d want _ v hv => hf.t.at_ d v hv) hw
  -- wanted
  have act : Region.wanted o (yielded ops a.tmps) = true → OutOk P b n (its2 ++ K) cs m H w (lone (b.atR a ([.inRegion ops (i :: rest)] ++ K)) cs w) ((tAct o.dst nx (actK E o.op)).f R T D H) := by
    intro hw
    have go : ∀ {v : AV} {H2 : AH}, (∀ c, o.op ≠ .defer c) → Outc P (execOp a.eval o) w (Post m H w v H2) → OutOk P b n (its2 ++ K) cs m H w (lone (b.atR a ([.inRegion ops (i :: rest)] ++ K)) cs w) (nx.f R (putA T o.dst v) D H2) := by
      intro v H2 hnd hout
      obtain ⟨v', w', ⟨m2, hst, hv⟩, hs⟩ := step_op (b := b) (K := K) (cs := cs) (rest := rest) ho hw (Oper.semAt_eq _ _ _ hnd) hout
      exact OutOk.steps hs hst (hnx R hR m2 H2 w' _ D _ K cs hcs hst.rel ((hf.mono (St.le hr hst)).put hdst hv))
    cases hact : actK E o.op with
    | look k =>
      simp only [tAct, tLook]
      cases hk : k.f T H with
      | none => trivial
      | some v =>
        rcases actK_look hact with h | h
        · exact go (look_nodefer h) (look_outc hE h hr (hf.er hr) hk)
        · rw [h] at hk; cases hk
    | fresh k =>
      simp only [tAct, tFresh]
      cases hk : k.f T H.next with
      | none => trivial
      | some p =>
        obtain ⟨v, x⟩ := p
        have h := actK_fresh hact
        exact go (fresh_nodefer h) (fresh_outc hE h hr (hf.er hr) hk)
    | heavy k =>
      simp only [tAct, tHeavy]
      cases hk : k.f R T H with
      | none => trivial
      | some p =>
        obtain ⟨v, H2⟩ := p
        have h := actK_heavy hact
        exact go (heavy_nodefer h) (heavyK_ok hE hX h R hR m H w T a.eval v H2 hr (hf.er hr) hk)
    | dfr f l =>
      obtain ⟨c, hop, hc, rfl⟩ := actK_dfr hact
      have hb : b.roundOf = none := by
        simp only [hact, isDfr, Bool.and_true] at hd
        rw [hd] at hrd
        cases hro : b.roundOf with
        | none => rfl
        | some l => rw [hro] at hrd; cases hrd
      simp only [tAct, tDfr]
      cases hk : (ob (opnd f T) fun fv => ob ((opnds c.args.toList).f T) fun l => onFn fv fun q first cap => some ({ mark := none, f := .fn q .nil cap, args := AV.app first l } : ADf)) with
      | none => trivial
      | some d =>
        simp only [ob_some, onFn_some, Option.some.injEq] at hk
        obtain ⟨fv, h1, l, h2, q, first, cap, rfl, rfl⟩ := hk
        have he := hf.er hr
        obtain ⟨g', va, vc, hq, ha, hc', e⟩ := (he f _ h1).fn_inv
        have hl := run_map_ops he h2
        have hrun : (execOp a.eval o).run P w = .ok (.defer { target := .fn g' vc.toArray, args := (va ++ (c.args.map a.eval).toList).toArray }) w := by
          have harr : va.toArray ++ c.args.map a.eval = (va ++ (c.args.map a.eval).toList).toArray := by apply Array.toList_inj.1; simp
          simp only [execOp, hop, resolve, hc, e, Deferred.ofValue, Sem.run_bind, Sem.run_pure, Result.andThen, harr]
        have hs := step_defer_op (b := b) (K := K) (cs := cs) (rest := rest) ho hw hb hrun
        refine OutOk.steps (.one hs) (St.refl hr) (hnx R hR m H w _ _ _ K cs hcs hr (FrR.put ?_ hdst (undef_ok m)))
        exact ⟨hf.t, .cons _ _ _ _ (.call _ _ _ _ _ _ _ hq hc' (ha.app hl)) hf.d, hf.r⟩
    | rcv =>
      obtain ⟨c, hop, hc⟩ := actK_rcv hact
      have hb : b.roundOf = none := by
        simp only [hact, isDfr, Bool.and_true] at hd
        rw [hd] at hrd
        cases hro : b.roundOf with
        | none => rfl
        | some l => rw [hro] at hrd; cases hrd
      have hrun : (execOp a.eval o).run P w = .ok .recover w := by
        rw [run_builtin hop hc]; rfl
      have hs := step_recover_op (b := b) (K := K) (cs := cs) (rest := rest) ho hw hb hcs hrun
      exact OutOk.steps (.one hs) (St.refl hr) (hnx R hR m H w _ D _ K cs hcs hr (hf.put hdst .inil))
  have skip : Region.wanted o (yielded ops a.tmps) = false → OutOk P b n (its2 ++ K) cs m H w (lone (b.atR a ([.inRegion ops (i :: rest)] ++ K)) cs w) (nx.f R (putA T o.dst undefA) D H) := by
    intro hw
    have hs := stepR_op_skip (P := P) (b := b) (a := a) (k := K) (cs := cs) (w := w) (ops := ops) (i := i) (rest := rest) (by simp [ho, hw])
    rw [ho] at hs
    exact OutOk.steps (.one hs) (St.refl hr) (hnx R hR m H w _ D _ K cs hcs hr (hf.put hdst (undef_ok m)))
  simp only [tSp]
  cases g with
  | none =>
    exact act (hwant true rfl)
  | some p =>
    obtain ⟨d, want⟩ := p
    simp only [wantA, oc_some] at hwant
    show OutOk P b n (its2 ++ K) cs m H w _ (oc (wantG d want T) .bad fun bw => bt bw ((tAct o.dst nx (actK E o.op)).f R T D H) (nx.f R (putA T o.dst undefA) D H))
    cases hwg : wantG d want T with
    | none => trivial
    | some bw =>
      cases bw with
      | true => exact act (hwant true hwg)
      | false => exact skip (hwant false hwg)
include hE hX in
theorem opsK_to {b : Frame} {n : Cx} {rd : Bool} (hrd : rd = b.roundOf.isSome) {ops : Array Oper} {post : List Oper} : ∀ {pre : List Oper} {i : Nat} {k : RK}, ops.toList.drop i = pre ++ post → opsK E n.n rd ops.toList pre = some k →
    RKTo P b n [.inRegion ops (List.range' i (pre ++ post).length)] [.inRegion ops (List.range' (i + pre.length) post.length)] k
  | [], i, k, _, h => by
    cases h
    intro R hR m H w T D a K cs hcs hr hf
    exact ⟨m, a, w, St.refl hr, hf, .refl P _⟩
  | o :: r, i, k, hd, h => by
    simp only [opsK, ob_some] at h
    obtain ⟨sp, hsp, h⟩ := h
    cases hdf : (rd && isDfr sp.act) with
    | true => rw [hdf] at h; cases h
    | false =>
      rw [hdf] at h
      simp only [bt_false, ob_some, Option.some.injEq] at h
      obtain ⟨nx, hnx, rfl⟩ := h
      have ho : ops[i]? = some o := by
        rw [← Array.getElem?_toList]
        have : (ops.toList.drop i)[0]? = some o := by rw [hd]; rfl
        simpa using this
      have hd2 : ops.toList.drop (i + 1) = r ++ post := by
        rw [← List.drop_drop, hd]; rfl
      have ih := opsK_to hrd hd2 hnx
      rw [List.cons_append, List.length_cons, List.range'_succ]
      rw [show i + (o :: r).length = i + 1 + r.length from by simp; omega]
      exact tSp_to hE hX hrd ho hsp hdf ih
end
section
variable {P : Program} {E : Env} {b : Frame} {n : Cx} {T T2 : Tr AV} {D D2 : List ADf} {H H2 : AH} {Q Q' : Out → Prop} {its its2 : List Item}
theorem WP.to {k : RK} (hk : RKTo P b n its its2 k) {R : Rec} (hR : RecOk P R) (ho : k.f R T D H = .nor T2 D2 H2) (h : WP P b n its2 T2 D2 H2 Q) : WP P b n its T D H Q := by
  intro m w a K cs hcs hr hf
  have h1 := hk R hR m H w T D a K cs hcs hr hf
  rw [ho] at h1
  obtain ⟨m2, a2, w2, g1, g2, g3⟩ := h1
  obtain ⟨o, q1, q2, q3⟩ := h m2 w2 a2 K cs hcs g1.rel g2
  exact ⟨o, q1, q2, OutOk.steps g3 g1 q3⟩
def WPO (P : Program) (b : Frame) (n : Cx) (ops : Array Oper) (r : List Oper) (T : Tr AV) (D : List ADf) (H : AH) (Q : Out → Prop) : Prop :=
  ∀ i, ops.toList.drop i = r → WP P b n [.inRegion ops (List.range' i r.length)] T D H Q
theorem WP.region {id : Nat} {ops : Array Oper} (h : WPO P b n ops ops.toList T D H Q) : WP P b n [.code (.region id ops false)] T D H Q := by
  have h1 := h 0 (by simp)
  rw [Array.length_toList, ← List.range_eq_range'] at h1
  exact WP.steps h1 fun _ _ _ _ => .one stepR_region
theorem WPO.nil {ops : Array Oper} (h : Q (.nor T D H)) : WPO P b n ops [] T D H Q :=
  fun i _ m w a K cs hcs hr hf => ⟨_, h, by simp, m, a, w, St.refl hr, hf, .one stepR_region_end⟩
theorem WPO.run (hE : TyOk P E) (hX : ExtOk P E) {rd : Bool} (hrd : rd = b.roundOf.isSome) {ops : Array Oper} {pre post : List Oper} {k : RK} (hk : opsK E n.n rd ops.toList pre = some k) {R : Rec} (hR : RecOk P R)
    (ho : k.f R T D H = .nor T2 D2 H2) (h : WPO P b n ops post T2 D2 H2 Q) : WPO P b n ops (pre ++ post) T D H Q := by
  intro i hd
  refine WP.to (opsK_to hE hX hrd hd hk) hR ho (h (i + pre.length) ?_)
  rw [← List.drop_drop, hd, List.drop_left]
theorem WPO.op {ops : Array Oper} {o : Oper} {r : List Oper} {g : Option (Nat × Bool)} {Q1 : AV → AH → Prop} (hg : guardOf ops.toList o.guard = some g) (hw : wantA g T = some true) (hdst : dstOk n.n o.dst = true)
    (hnd : ∀ c, o.op ≠ .defer c) (hout : ∀ m w ρ, Rel m H w → ER m T ρ → Outc P (execOp ρ o) w fun v' w' => ∃ v H2, Q1 v H2 ∧ Post m H w v H2 v' w')
    (h : ∀ v H2, Q1 v H2 → WPO P b n ops r (putA T o.dst v) D H2 Q) : WPO P b n ops (o :: r) T D H Q := by
  intro i hd m w a K cs hcs hr hf
  have ho : ops[i]? = some o := by
    rw [← Array.getElem?_toList]
    have : (ops.toList.drop i)[0]? = some o := by rw [hd]; rfl
    simpa using this
  have hd2 : ops.toList.drop (i + 1) = r := by
    rw [← List.drop_drop, hd]; rfl
  have hwant : Region.wanted o (yielded ops a.tmps) = true := want_at hg (fun d want _ v hv => hf.t.at_ d v hv) hw
  obtain ⟨v', w', ⟨v, H2, hq, m2, hst, hv⟩, hs⟩ := step_op (b := b) (K := K) (cs := cs) (rest := List.range' (i + 1) r.length) ho hwant (Oper.semAt_eq _ _ _ hnd) (hout m w a.eval hr (hf.er hr))
  obtain ⟨o2, q1, q2, q3⟩ := h v H2 hq (i + 1) hd2 m2 w' _ K cs hcs hst.rel ((hf.mono (St.le hr hst)).put hdst hv)
  refine ⟨o2, q1, q2, ?_⟩
  rw [List.length_cons, List.range'_succ]
  exact OutOk.steps hs hst q3
theorem WPO.skip {ops : Array Oper} {o : Oper} {r : List Oper} {g : Option (Nat × Bool)} (hg : guardOf ops.toList o.guard = some g) (hw : wantA g T = some false) (hdst : dstOk n.n o.dst = true)
    (h : WPO P b n ops r (putA T o.dst undefA) D H Q) : WPO P b n ops (o :: r) T D H Q := by
  intro i hd m w a K cs hcs hr hf
  have ho : ops[i]? = some o := by
    rw [← Array.getElem?_toList]
    have : (ops.toList.drop i)[0]? = some o := by rw [hd]; rfl
    simpa using this
  have hd2 : ops.toList.drop (i + 1) = r := by
    rw [← List.drop_drop, hd]; rfl
  have hwant : Region.wanted o (yielded ops a.tmps) = false := want_at hg (fun d want _ v hv => hf.t.at_ d v hv) hw
  have hs := stepR_op_skip (P := P) (b := b) (a := a) (k := K) (cs := cs) (w := w) (ops := ops) (i := i) (rest := List.range' (i + 1) r.length) (by simp [ho, hwant])
  rw [ho] at hs
  obtain ⟨o2, q1, q2, q3⟩ := h (i + 1) hd2 m w _ K cs hcs hr (hf.put hdst (undef_ok m))
  refine ⟨o2, q1, q2, ?_⟩
  rw [List.length_cons, List.range'_succ]
  exact OutOk.steps (.one hs) (St.refl hr) q3
theorem AC.outc {g : Nat} {l : AV} {Q1 : AV → AH → Prop} (hc : AC P .normal g l H Q1) {m : Ren} {w : World} {vs : List Value} (hr : Rel m H w) (hl : VL m l vs) :
    Outc P (callFunc g vs.toArray) w fun v' w' => ∃ v H2, Q1 v H2 ∧ Post m H w v H2 v' w' :=
  .enter _ _ w (run_enter hc.1) (hc.2 m w vs hr hl)
theorem outc_callF {o : Oper} {c : Call} {g : Nat} {l : AV} {Q1 : AV → AH → Prop} (ho : o.op = .call c) (hf : c.callee = .value (.func g)) (hl : (opnds c.args.toList).f T = some l) (hc : AC P .normal g l H Q1) :
    ∀ m w ρ, Rel m H w → ER m T ρ → Outc P (execOp ρ o) w fun v' w' => ∃ v H2, Q1 v H2 ∧ Post m H w v H2 v' w' := by
  intro m w ρ hr he
  refine Outc.congr ?_ (hc.outc hr (run_map_ops he hl))
  have hf2 : VR m (.fn (.func g) .nil .nil) (ρ (.func g)) := he (.func g) _ rfl
  obtain ⟨q, va, vc, hq, ha, hcc, e⟩ := hf2.fn_inv
  cases hq; cases ha; cases hcc
  simp only [execOp, ho, resolve, hf, e, Deferred.ofValue, Sem.run_bind, Sem.run_pure, Result.andThen, invoke]
  congr 2
  apply Array.toList_inj.1; simp
def EndP (P : Program) (re : ReK) (Q : AV → AH → Prop) (T : Tr AV) (D : List ADf) (H : AH) : Prop := ∃ R H3 l, RecOk P R ∧ deferA R D H = some H3 ∧ re.f T H3 = some l ∧ Q (resultA l) H3
def OutP (P : Program) (re : ReK) (Q : AV → AH → Prop) : Out → Prop
  | .nor T D H => EndP P re Q T D H
  | .ret T D H => EndP P re Q T D H
  | _ => False
theorem AC.of_wp (hE : TyOk P E) {f : FuncId} {fn : Func} {c : Code} {re : ReK} {kind : CallKind} {args : AV} {Q : AV → AH → Prop} (hfn : P.funcs[f]? = some fn) (hname : (fn.name == "runtime.NumGoroutine") = false) (hc : fn.body = some c)
    (hres : resultsK E fn.results.toList = some re) (hlen0 : Nat.ble (AV.len args) fn.ntmps = true)
    (h : WP P { (default : Frame) with fn := f, kind, roundOf := none } ⟨fn.ntmps, none, none⟩ [.code c] (argsT args 0 .e) [] H (OutP P re Q)) : AC P kind f args H Q := by
  have hlen : AV.len args ≤ fn.ntmps := Nat.le_of_ble_eq_true hlen0
  refine ⟨⟨fn, hfn, hname, by rw [hc]; rfl⟩, fun m w vs hr hl cs hcs => ?_⟩
  let b : Frame := { (default : Frame) with fn := f, kind, roundOf := none }
  have hlen2 : vs.length ≤ fn.ntmps := by rw [← hl.len]; exact hlen
  let a0 : Act := { tmps := vs.toArray ++ Array.replicate (fn.ntmps - vs.length) undef, defers := [] }
  have henter : Frame.enter P f vs.toArray kind = b.atR a0 ([.code c] ++ []) := by
    simp only [Frame.enter, hfn, hc, Option.map_some, Option.getD_some, Option.bind_some, Frame.atR, b, a0, List.size_toArray]
    rfl
  obtain ⟨o, hq, hb, h1⟩ := h m w a0 [] cs hcs hr ⟨argsT_ok hl hlen2, .nil, .inl ⟨rfl, rfl⟩⟩
  -- the way out
  have out : ∀ {m2 : Ren} {T : Tr AV} {D : List ADf} {H3 : AH} {a2 : Act} {w2 : World} {todo : List Item}, St m H w m2 H3 w2 → FrR ⟨fn.ntmps, none, none⟩ m2 T D a2 → EndP P re Q T D H3 →
      Steps P (lone (b.atR a0 ([.code c] ++ [])) cs w) (lone { b.atR a2 todo with mode := .returning } cs w2) →
      ∃ v' w' fr, (∃ v H2, Q v H2 ∧ Post m H w v H2 v' w') ∧ Steps P (lone (Frame.enter P f vs.toArray kind) cs w) (lone fr cs w') ∧ fr.kind = kind ∧ fr.fn = f ∧ Leaves P fr w' v' := by
    intro m2 T D H3 a2 w2 todo hst hf hend hsteps
    obtain ⟨R, H4, r, hR, hd, hrr, hQ⟩ := hend
    obtain ⟨m3, w3, g1, g2⟩ := defers_ok hR (fr := { b.atR a2 todo with mode := .returning }) (cs := cs) hst.rel hf.d hd rfl rfl
    obtain ⟨v', q1, q2⟩ := results_ok hE g1.rel (hf.t.mono (St.le hst.rel g1)) hres hrr
    refine ⟨v', w3, { ({ b.atR a2 todo with mode := .returning } : Frame) with defers := [] }, ⟨_, _, hQ, m3, hst.trans g1, q2⟩, ?_, ?_, ?_, ⟨rfl, rfl, fn, hfn, q1⟩⟩
    · rw [henter]; exact hsteps.trans g2
    · rfl
    · rfl
  cases o with
  | bad => exact absurd rfl hb
  | nor T D H3 =>
    obtain ⟨m2, a2, w2, g1, g2, g3⟩ := h1
    exact out g1 g2 hq (g3.trans (.one (stepR_end rfl)))
  | ext id T D H3 => exact hq.elim
  | ret T D H3 =>
    obtain ⟨m2, a2, w2, K2, g1, g2, g3⟩ := h1
    exact out g1 g2 hq (g3.trans (.one (stepR_ret rfl)))
end
end Go.Xq
namespace Go.Xq
noncomputable section
def tl : List (Nat × AV) → Tr AV
  | [] => .e
  | p :: l => (tl l).put (some p.2) (bits p.1)
def tget (i : Nat) : List (Nat × AV) → Option AV
  | [] => none
  | p :: l => bt (Nat.beq i p.1) (some p.2) (tget i l)
theorem get_tl (i : Nat) : ∀ l, (tl l).get (bits i) = tget i l
  | [] => by simp [tl, tget]
  | p :: l => by
    show ((tl l).put (some p.2) (bits p.1)).get (bits i) = _
    by_cases e : i = p.1
    · subst e; rw [Tr.get_put_same]; simp [tget]
    · rw [Tr.get_put_ne _ _ _ _ (bits_ne (Ne.symm e)), get_tl i l]
      have : Nat.beq i p.1 = false := by
        cases h : Nat.beq i p.1 with
        | false => rfl
        | true => exact absurd (Nat.eq_of_beq_eq_true h) e
      simp [tget, this]
theorem opnd_tl (i : Nat) (l : List (Nat × AV)) : opnd (.tmp i) (tl l) = tget i l := get_tl i l
def lsub : List (Nat × AV) → List (Nat × AV) → Prop
  | [], _ => True
  | p :: l, k => tget p.1 k = some p.2 ∧ lsub l k
theorem lsub_get : ∀ {l k : List (Nat × AV)}, lsub l k → ∀ i v, tget i l = some v → tget i k = some v
  | [], _, _, i, v, h => by simp [tget] at h
  | p :: l, k, ⟨h1, h2⟩, i, v, h => by
    unfold tget at h
    cases hb : Nat.beq i p.1 with
    | true => rw [hb] at h; have e := Nat.eq_of_beq_eq_true hb; subst e; simp only [bt_true, Option.some.injEq] at h; rw [← h]; exact h1
    | false => rw [hb] at h; exact lsub_get h2 i v h
section
variable {P : Program} {E : Env} {b : Frame} {n : Cx} {T T2 : Tr AV} {D D2 : List ADf} {H H2 : AH} {Q Q' : Out → Prop} {its its2 : List Item}
theorem WP.keep {l k : List (Nat × AV)} (h : WP P b n its (tl l) D H Q) (hs : lsub l k) : WP P b n its (tl k) D H Q :=
  h.weak fun t v hv => by rw [get_tl] at hv ⊢; exact lsub_get hs t v hv
structure Lk where
  k : LK
  dst : Option Nat
  g : Option (Nat × Bool)
def lkv (x : Lk) (w : Bool) (T : Tr AV) (H : AH) : Option AV := bt w (x.k.f T H) (some undefA)
def runLk : List Lk → Tr AV → AH → Option (Tr AV)
  | [], T, _ => some T
  | x :: r, T, H => ob (wantA x.g T) fun w => ob (lkv x w T H) fun v => runLk r (putA T x.dst v) H
def lksOf (E : Env) (n : Nat) (all : List Oper) : List Oper → Option (List Lk)
  | [] => some []
  | o :: r => ob (guardOf all o.guard) fun g => ob (lookK E o.op) fun k => bt (dstOk n o.dst) (ob (lksOf E n all r) fun l => some (⟨k, o.dst, g⟩ :: l)) none
theorem lksOf_run {rd : Bool} {all : List Oper} : ∀ {ops : List Oper} {ls : List Lk}, lksOf E n.n all ops = some ls → ∃ k, opsK E n.n rd all ops = some k ∧ ∀ R T D H T2, runLk ls T H = some T2 → k.f R T D H = .nor T2 D H
  | [], ls, h => by
    cases h
    exact ⟨_, rfl, fun R T D H T2 h => by cases h; rfl⟩
  | o :: r, ls, h => by
    unfold lksOf at h
    simp only [ob_some, bt_some] at h
    obtain ⟨g, hg, k, hk, hd, l, hl, e⟩ := h
    cases e
    obtain ⟨nx, h1, h2⟩ := lksOf_run (rd := rd) (all := all) hl
    have hact : actK E o.op = .look k := by unfold actK; rw [hk]
    have hsp : spK E n.n all o = some { g := g, dst := o.dst, act := .look k } := by
      simp only [spK, hg, ob_some', hd, bt_true, hact]
    refine ⟨tSp { g := g, dst := o.dst, act := .look k } nx, ?_, fun R T D H T2 h => ?_⟩
    · simp only [opsK, hsp, ob_some', isDfr, Bool.and_false, bt_false, h1]
    · simp only [runLk, ob_some, lkv] at h
      obtain ⟨w, hw, v, hv, h⟩ := h
      cases g with
      | none =>
        cases hw
        show oc (k.f T H) .bad (fun v => nx.f R (putA T o.dst v) D H) = _
        rw [bt_true] at hv
        rw [hv]
        exact h2 R _ D H T2 h
      | some p =>
        obtain ⟨d, want⟩ := p
        show oc (wantG d want T) .bad (fun b => bt b (oc (k.f T H) .bad (fun v => nx.f R (putA T o.dst v) D H)) (nx.f R (putA T o.dst undefA) D H)) = _
        have hw : wantG d want T = some w := hw
        rw [hw]
        cases w with
        | true => rw [bt_true] at hv; simp only [oc_some, bt_true, hv]; exact h2 R _ D H T2 h
        | false => rw [bt_false] at hv; cases hv; exact h2 R _ D H T2 h
theorem recNone_ok : RecOk P { call := fun _ _ _ => none, dcall := fun _ _ _ => none, round := fun _ _ _ => none } := ⟨by simp, by simp, by simp⟩
theorem WPO.looks (hE : TyOk P E) (hX : ExtOk P E) (j : Nat) {ops : Array Oper} {r : List Oper} {ls : List Lk} (hk : lksOf E n.n ops.toList (r.take j) = some ls) (ho : runLk ls T H = some T2)
    (h : WPO P b n ops (r.drop j) T2 D H Q) : WPO P b n ops r T D H Q := by
  obtain ⟨k, h1, h2⟩ := lksOf_run (rd := b.roundOf.isSome) (all := ops.toList) hk
  have := WPO.run hE hX rfl h1 recNone_ok (h2 _ T D H T2 ho) h
  rwa [List.take_append_drop] at this
theorem AV.beq_refl : ∀ a : AV, AV.beq a a = true
  | .nil | .pnil | .snil | .mnil | .fnil | .inil => rfl
  | .cons a b => by simp [AV.beq, AV.beq_refl a, AV.beq_refl b]
  | .bool b => by cases b <;> rfl
  | .int k n => by simp [AV.beq, kEq_iff.2 rfl, eqI_iff.2 rfl]
  | .str l n => by simp [AV.beq]
  | .ptr l n => by simp [AV.beq]
  | .sl a b c d => by simp [AV.beq, optBeq_iff.2 rfl]
  | .mp r => by simp [AV.beq]
  | .fn f a b => by simp [AV.beq, fnBeq, AV.beq_refl a, AV.beq_refl b]
  | .ifc t v => by simp [AV.beq, AV.beq_refl v]
  | .agg v => by simp [AV.beq, AV.beq_refl v]
  | .tup v => by simp [AV.beq, AV.beq_refl v]
structure Dk where
  ts : List Nat
  k : LK
  dst : Option Nat
  g : Option (Nat × Bool)
def dkv (x : Dk) (w : Bool) (T : Tr AV) (H : AH) : Option AV := bt w (x.k.f (resT x.ts T) H) (some undefA)
def runDk : List Dk → Tr AV → AH → Option (Tr AV)
  | [], T, _ => some T
  | x :: r, T, H => ob (wantA x.g T) fun w => ob (dkv x w T H) fun v => runDk r (putA T x.dst v) H
def dkOf (x : RO) : Option Dk :=
  match x.sp.act with
  | .look k => bt (Nat.beq x.lo 0 && (Nat.beq x.hi 0 && !x.heavy)) (some ⟨looksA x, k, x.sp.dst, x.sp.g⟩) none
  | _ => none
def dksL : List RO → Option (List Dk)
  | [] => some []
  | x :: r => ob (dkOf x) fun d => ob (dksL r) fun l => some (d :: l)
def dksOf (E : Env) (n : Nat) (ops : List Oper) : Option (List Dk) := ob (analyse E n ops) fun a => dksL a.ord
theorem draws_look {R : Rec} {G : AH} : ∀ {ord : List RO} {ls : List Dk}, dksL ord = some ls → ∀ (s : DS) (T2 : Tr AV), s.H = G → s.hs = [] → (∀ d ∈ s.dn, check1 [G] d = true) → runDk ls s.T G = some T2 →
    ∃ s', (drawsK ord).f R s = some s' ∧ s'.T = T2 ∧ s'.H = G ∧ s'.hs = [] ∧ ∀ d ∈ s'.dn, check1 [G] d = true
  | [], ls, h, s, T2, h1, h2, h3, h4 => by cases h; cases h4; exact ⟨s, rfl, rfl, h1, h2, h3⟩
  | x :: r, ls, h, s, T2, h1, h2, h3, h4 => by
    simp only [dksL, ob_some, Option.some.injEq] at h
    obtain ⟨d, hd, l, hl, rfl⟩ := h
    unfold dkOf at hd
    split at hd
    rotate_left
    · cases hd
    rename_i k hk
    simp only [bt_some, Option.some.injEq, Bool.and_eq_true, Bool.not_eq_true'] at hd
    obtain ⟨⟨hlo, hhi, hhv⟩, rfl⟩ := hd
    have hlo := Nat.eq_of_beq_eq_true hlo
    have hhi := Nat.eq_of_beq_eq_true hhi
    simp only [runDk, ob_some, dkv] at h4
    obtain ⟨w, hw, v, hv, h4⟩ := h4
    cases w with
    | true =>
      rw [bt_true] at hv
      obtain ⟨s', g1, g2, g3, g4, g5⟩ := draws_look hl (R := R) (G := G) { T := putA s.T x.sp.dst v, H := s.H, hs := s.hs, dn := { x, T := resT (looksA x) s.T, want := true, v, blk := none, hp := none } :: s.dn } T2 h1 h2 (by
        intro d hd
        rcases List.mem_cons.1 hd with rfl | hd
        · simp only [check1, hk]
          split
          · rfl
          · simp only [hlo, hhi, Nat.sub_self, Nat.sub_eq, Nat.add_eq, Nat.zero_add, sameAt, looksSame, hv, oc_some, AV.beq_refl, Bool.and_self]
        · exact h3 d hd) h4
      refine ⟨s', ?_, g2, g3, g4, g5⟩
      show thenD x (drawsK r) R s = _
      rw [h1] at g1
      simp only [thenD, draw1, hw, ob_some', bt_true, drawAct, hk, h1, hv]
      exact g1
    | false =>
      rw [bt_false] at hv
      cases hv
      obtain ⟨s', g1, g2, g3, g4, g5⟩ := draws_look hl (R := R) (G := G) { T := putA s.T x.sp.dst undefA, H := s.H, hs := s.hs, dn := { x, T := .e, want := false, v := undefA, blk := none, hp := none } :: s.dn } T2 h1 h2 (by
        intro d hd
        rcases List.mem_cons.1 hd with rfl | hd
        · rfl
        · exact h3 d hd) h4
      refine ⟨s', ?_, g2, g3, g4, g5⟩
      show thenD x (drawsK r) R s = _
      simp only [thenD, draw1, hw, ob_some', bt_false, hhv, bt_false]
      exact g1
theorem checkA_all {hs : List AH} : ∀ {dn : List Done}, (∀ d ∈ dn, check1 hs d = true) → checkA hs dn = true
  | [], _ => rfl
  | d :: r, h => by
    have h2 : checkA hs r = true := checkA_all fun e he => h e (List.mem_cons_of_mem _ he)
    simp only [checkA, h d (by simp), h2, Bool.and_self]
theorem WP.drawLooks (hE : TyOk P E) (hX : ExtOk P E) (hm : P.follows .mixedOrders = true) {id : Nat} {ops : Array Oper} {ls : List Dk} (hk : dksOf E n.n ops.toList = some ls) (ho : runDk ls T H = some T2)
    (h : Q (.nor T2 D H)) : WP P b n [.code (.region id ops true)] T D H Q := by
  simp only [dksOf, ob_some] at hk
  obtain ⟨a, ha, hl⟩ := hk
  have hk : drawK E n.n ops.toList = some ⟨drawRun (drawsK a.ord)⟩ := by simp only [drawK, ha, ob_some']
  obtain ⟨s', g1, g2, g3, g4, g5⟩ := draws_look (R := { call := fun _ _ _ => none, dcall := fun _ _ _ => none, round := fun _ _ _ => none }) (G := H) hl { T := T, H := H, hs := [], dn := [] } T2 rfl rfl (by simp) ho
  have e : drawRun (drawsK a.ord) { call := fun _ _ _ => none, dcall := fun _ _ _ => none, round := fun _ _ _ => none } T D H = .nor T2 D H := by
    simp only [drawRun, g1, oc_some, g3, g4, List.reverse_cons, List.reverse_nil, List.nil_append, checkA_all g5, bt_true, g2]
  refine WP.of_rk (draw_ok hE hX hm hk) recNone_ok (by show drawRun _ _ _ _ _ ≠ _; rw [e]; simp) ?_
  show Q (drawRun _ _ _ _ _)
  rw [e]
  exact h
end
end
end Go.Xq
namespace Go.Xq
noncomputable section
def lkMove (x : Operand) : LK := ⟨fun T _ => opnd x T⟩
def lkUn (g : UK) (x : Operand) : LK := ⟨fun T _ => ob (opnd x T) fun v => g.f v⟩
def lkIfc (t : Nat) (x : Operand) : LK := ⟨fun T _ => ob (opnd x T) fun v => some (.ifc t v)⟩
def ukNot : UK := ⟨fun v => onBool v fun b => some (.bool (bt b false true))⟩
def ukNeg : UK := ⟨fun v => onInt v fun k n => mkInt k (subI 0 n)⟩
def ukXor : UK := ⟨fun v => onInt v fun k n => mkInt k (.ofNat (Nat.xor (toU k (if k.signed then -1 else k.max)) (toU k n)))⟩
def akAdd : AK := ⟨fun k x y => mkInt k (addI x y)⟩
def akSub : AK := ⟨fun k x y => mkInt k (subI x y)⟩
def akMul : AK := ⟨fun k x y => mkInt k (mulI x y)⟩
def akAnd : AK := ⟨fun k x y => mkInt k (Int.ofNat (Nat.land (toU k x) (toU k y)))⟩
def akOr : AK := ⟨fun k x y => mkInt k (Int.ofNat (Nat.lor (toU k x) (toU k y)))⟩
def akXor : AK := ⟨fun k x y => mkInt k (Int.ofNat (Nat.xor (toU k x) (toU k y)))⟩
def akEql : AK := ⟨fun _ x y => some (.bool (eqI x y))⟩
def akNeq : AK := ⟨fun _ x y => some (.bool (bt (eqI x y) false true))⟩
def akLss : AK := ⟨fun _ x y => some (.bool (ltI x y))⟩
def akLeq : AK := ⟨fun _ x y => some (.bool (bt (ltI y x) false true))⟩
def akGtr : AK := ⟨fun _ x y => some (.bool (ltI y x))⟩
def akGeq : AK := ⟨fun _ x y => some (.bool (bt (ltI x y) false true))⟩
def skEql : SK := ⟨fun a x b y => some (.bool (sEq a x b y))⟩
def skNeq : SK := ⟨fun a x b y => some (.bool (bt (sEq a x b y) false true))⟩
def skLss : SK := ⟨fun a x b y => some (.bool (lessN (Nat.succ a) a x b y))⟩
def skLeq : SK := ⟨fun a x b y => some (.bool (bt (lessN (Nat.succ a) a x b y) true (sEq a x b y)))⟩
def skGtr : SK := ⟨fun a x b y => some (.bool (bt (lessN (Nat.succ a) a x b y) false (bt (sEq a x b y) false true)))⟩
def skGeq : SK := ⟨fun a x b y => some (.bool (bt (lessN (Nat.succ a) a x b y) false true))⟩
def flEnd : FlK := ⟨fun _ cells => some cells⟩
def frMap : FrK := ⟨fun _ b0 => some (.mp b0, .mp [] 0)⟩
theorem eqI_dec (x y : Int) : eqI x y = decide (x = y) := by
  by_cases h : x = y
  · rw [decide_eq_true h]; exact eqI_iff.2 h
  · rw [decide_eq_false h]
    cases e : eqI x y with
    | false => rfl
    | true => exact absurd (eqI_iff.1 e) h
theorem ltI_dec (x y : Int) : ltI x y = decide (x < y) := by
  by_cases h : x < y
  · rw [decide_eq_true h]; exact ltI_iff.2 h
  · rw [decide_eq_false h]
    cases e : ltI x y with
    | false => rfl
    | true => exact absurd (ltI_iff.1 e) h
theorem bt_not (b : Bool) : bt b false true = !b := by cases b <;> rfl
theorem mkInt_i64 {n : Int} (h1 : -9223372036854775808 ≤ n) (h2 : n < 9223372036854775808) : mkInt .i64 n = some (.int .i64 n) := by
  rw [mkInt_eq, IntWalk.i64_in _ ⟨h1, by omega⟩]
theorem mkInt_u8 (n : Int) : mkInt .u8 n = some (.int .u8 (n % 256)) := by rw [mkInt_eq, IntKind.wrap_u8]
theorem mkInt_u64 (n : Int) : mkInt .u64 n = some (.int .u64 (n % 18446744073709551616)) := by
  rw [mkInt_eq]; congr 2
section
variable {β : Type}
@[simp] theorem onInt_int (k : IntKind) (n : Int) (f : IntKind → Int → Option β) : onInt (.int k n) f = f k n := rfl
@[simp] theorem onPtr_ptr (b o : Nat) (f : Nat → Nat → Option β) : onPtr (.ptr b o) f = f b o := rfl
@[simp] theorem onSl_sl (b o l : Nat) (c : Option Nat) (z : Option β) (f : Nat → Nat → Nat → Option Nat → Option β) : onSl (.sl b o l c) z f = f b o l c := rfl
@[simp] theorem onSl_snil (z : Option β) (f : Nat → Nat → Nat → Option Nat → Option β) : onSl .snil z f = z := rfl
@[simp] theorem onBool_bool (b : Bool) (f : Bool → Option β) : onBool (.bool b) f = f b := rfl
@[simp] theorem onStr_str (l n : Nat) (f : Nat → Nat → Option β) : onStr (.str l n) f = f l n := rfl
@[simp] theorem onFn_fn (q : Fn) (a c : AV) (f : Fn → AV → AV → Option β) : onFn (.fn q a c) f = f q a c := rfl
@[simp] theorem onAgg_agg (l : AV) (f : AV → Option β) : onAgg (.agg l) f = f l := rfl
@[simp] theorem onTup_tup (l : AV) (f : AV → Option β) : onTup (.tup l) f = f l := rfl
@[simp] theorem onIfc_ifc (t : Nat) (w : AV) (z : Option β) (f : Nat → AV → Option β) : onIfc (.ifc t w) z f = f t w := rfl
@[simp] theorem onIfc_inil (z : Option β) (f : Nat → AV → Option β) : onIfc .inil z f = z := rfl
@[simp] theorem onMap_mp (r : Nat) (z : Option β) (f : Nat → Option β) : onMap (.mp r) z f = f r := rfl
@[simp] theorem onMap_mnil (z : Option β) (f : Nat → Option β) : onMap .mnil z f = z := rfl
@[simp] theorem onCons_cons (h t : AV) (z : Option β) (f : AV → AV → Option β) : onCons (.cons h t) z f = f h t := rfl
@[simp] theorem onCons_nil (z : Option β) (f : AV → AV → Option β) : onCons .nil z f = z := rfl
end
@[simp] theorem kEq_same (k : IntKind) : kEq k k = true := kEq_iff.2 rfl
@[simp] theorem tget_cons (i j : Nat) (v : AV) (l : List (Nat × AV)) : tget i ((j, v) :: l) = if i = j then some v else tget i l := by
  simp only [tget]
  by_cases h : i = j
  · subst h; simp
  · have : Nat.beq i j = false := by
      cases e : Nat.beq i j with
      | false => rfl
      | true => exact absurd (Nat.eq_of_beq_eq_true e) h
    simp [this, h]
@[simp] theorem tget_nil (i : Nat) : tget i [] = none := rfl
@[simp] theorem opnd_tmp (i : Nat) (l : List (Nat × AV)) : opnd (.tmp i) (tl l) = tget i l := opnd_tl i l
@[simp] theorem opnd_const (v : Value) (T : Tr AV) : opnd (.const v) T = ofV v := by
  simp only [opnd, opndK]
  cases ofV v <;> rfl
@[simp] theorem opnd_func (f : Nat) (T : Tr AV) : opnd (.func f) T = some (.fn (.func f) .nil .nil) := rfl
@[simp] theorem ofV_int (k : IntKind) (n : Int) : ofV (.int k n) = some (.int k n) := rfl
@[simp] theorem ofV_bool (b : Bool) : ofV (.bool b) = some (.bool b) := rfl
@[simp] theorem ofV_snil : ofV (.slice none 0 0) = some .snil := rfl
@[simp] theorem ofV_pnil : ofV (.pointer none) = some .pnil := rfl
@[simp] theorem ofV_mnil : ofV (.map none) = some .mnil := rfl
@[simp] theorem ofV_inil : ofV .nilIface = some .inil := rfl
@[simp] theorem ofV_fnil : ofV .nilFunc = some .fnil := rfl
@[simp] theorem opnds_nil (T : Tr AV) : (opnds []).f T = some .nil := rfl
@[simp] theorem opnds_cons (x : Operand) (r : List Operand) (T : Tr AV) : (opnds (x :: r)).f T = ob (opnd x T) fun v => ob ((opnds r).f T) fun l => some (.cons v l) := rfl
@[simp] theorem putA_some (l : List (Nat × AV)) (d : Nat) (v : AV) : putA (tl l) (some d) v = tl ((d, v) :: l) := rfl
@[simp] theorem putA_no (T : Tr AV) (v : AV) : putA T none v = T := rfl
@[simp] theorem wantA_none (T : Tr AV) : wantA none T = some true := rfl
@[simp] theorem wantA_some (d : Nat) (w : Bool) (l : List (Nat × AV)) : wantA (some (d, w)) (tl l) = ob (tget d l) fun v => some (oc (onBool v some) false fun b => bEq b w) := by
  simp only [wantA, oc_some, wantG, get_tl]
def resL : List Nat → List (Nat × AV) → List (Nat × AV)
  | [], _ => []
  | t :: r, l => oc (tget t l) (resL r l) fun v => (t, v) :: resL r l
@[simp] theorem resT_tl : ∀ (ts : List Nat) (l : List (Nat × AV)), resT ts (tl l) = tl (resL ts l)
  | [], _ => rfl
  | t :: r, l => by
    simp only [resT, get_tl, resL, resT_tl r l]
    cases tget t l <;> rfl
@[simp] theorem resL_nil (l : List (Nat × AV)) : resL [] l = [] := rfl
@[simp] theorem resL_cons (t : Nat) (r : List Nat) (l : List (Nat × AV)) : resL (t :: r) l = oc (tget t l) (resL r l) fun v => (t, v) :: resL r l := rfl
@[simp] theorem runLk_nil (T : Tr AV) (H : AH) : runLk [] T H = some T := rfl
def lk1 : Option Bool → Option AV → Option Nat → Tr AV → Option (Tr AV)
  | some true, some v, d, T => some (putA T d v)
  | some false, _, d, T => some (putA T d undefA)
  | _, _, _, _ => none
def nxLk (r : List Lk) (H : AH) : Option (Tr AV) → Option (Tr AV)
  | some T => runLk r T H
  | none => none
@[simp] theorem lk1_true (v : AV) (d : Option Nat) (T : Tr AV) : lk1 (some true) (some v) d T = some (putA T d v) := rfl
@[simp] theorem lk1_false (v : Option AV) (d : Option Nat) (T : Tr AV) : lk1 (some false) v d T = some (putA T d undefA) := by cases v <;> rfl
@[simp] theorem nxLk_some (r : List Lk) (H : AH) (T : Tr AV) : nxLk r H (some T) = runLk r T H := rfl
@[simp] theorem runLk_cons (k : LK) (d : Option Nat) (g : Option (Nat × Bool)) (r : List Lk) (T : Tr AV) (H : AH) : runLk (⟨k, d, g⟩ :: r) T H = nxLk r H (lk1 (wantA g T) (k.f T H) d T) := by
  show (ob (wantA g T) fun w => ob (lkv ⟨k, d, g⟩ w T H) fun v => runLk r (putA T d v) H) = _
  cases hw : wantA g T with
  | none => cases h : k.f T H <;> rfl
  | some w =>
    rw [ob_some']
    cases w with
    | true =>
      show (ob (k.f T H) fun v => runLk r (putA T d v) H) = _
      cases h : k.f T H with
      | none => rfl
      | some v => rfl
    | false => rw [lk1_false]; rfl
@[simp] theorem runDk_nil (T : Tr AV) (H : AH) : runDk [] T H = some T := rfl
@[simp] theorem runDk_cons (ts : List Nat) (k : LK) (d : Option Nat) (g : Option (Nat × Bool)) (r : List Dk) (T : Tr AV) (H : AH) :
    runDk (⟨ts, k, d, g⟩ :: r) T H = ob (wantA g T) fun w => ob (bt w (k.f (resT ts T) H) (some undefA)) fun v => runDk r (putA T d v) H := rfl
@[simp] theorem lkMove_f (x : Operand) (T : Tr AV) (H : AH) : (lkMove x).f T H = opnd x T := rfl
@[simp] theorem lkUn_f (g : UK) (x : Operand) (T : Tr AV) (H : AH) : (lkUn g x).f T H = ob (opnd x T) fun v => g.f v := rfl
@[simp] theorem lkIfc_f (t : Nat) (x : Operand) (T : Tr AV) (H : AH) : (lkIfc t x).f T H = ob (opnd x T) fun v => some (.ifc t v) := rfl
@[simp] theorem ukNot_f (b : Bool) : ukNot.f (.bool b) = some (.bool (!b)) := by simp [ukNot, bt_not]
@[simp] theorem ldA_f (k : VK) (a : Operand) (T : Tr AV) (H : AH) : ldA k a T H = ob (opnd a T) fun p => k.f H p := rfl
@[simp] theorem ld1_ptr (H : AH) (b off : Nat) : ld1 H (.ptr b off) = ob (H.get b) fun o => rdCell o off := rfl
@[simp] theorem ldN_ptr (n : Nat) (H : AH) (b off : Nat) : ldN n H (.ptr b off) = ob (H.get b) fun o => ob (rdCells o n off) fun l => some (.agg l) := rfl
@[simp] theorem fAddr_f (x : Operand) (off : Nat) (T : Tr AV) (H : AH) : fAddr x off T H = ob (opnd x T) fun v => onPtr v fun b o => some (.ptr b (o + off)) := rfl
@[simp] theorem fVal_f (k : PK) (off : Nat) (x : Operand) (T : Tr AV) (H : AH) : fVal k off x T H = ob (opnd x T) fun v => onAgg v fun cs => k.f off cs := rfl
@[simp] theorem nilChk_f (E : Env) (x : Operand) (T : Tr AV) (H : AH) : nilChk E x T H = ob (opnd x T) fun v => nilPtr E v := rfl
@[simp] theorem nilPtr_ptr (E : Env) (b o : Nat) : nilPtr E (.ptr b o) = some (.ptr b o) := rfl
@[simp] theorem nilPtr_func (E : Env) (f : Nat) (a c : AV) : nilPtr E (.fn (.func f) a c) = some (.fn (.func f) a c) := rfl
@[simp] theorem nilPtr_yield (E : Env) (l : Nat) (a c : AV) : nilPtr E (.fn (.yield l) a c) = some (.fn (.yield l) a c) := rfl
@[simp] theorem nilPtr_ifc (E : Env) (t : Nat) (v : AV) : nilPtr E (.ifc t v) = some (.ifc t v) := rfl
@[simp] theorem binInt_f (g : AK) (x y : Operand) (T : Tr AV) (H : AH) : binInt g x y T H = ob (opnd x T) fun a => ob (opnd y T) fun b => onInt a fun k m => onInt b fun l n => bt (kEq k l) (g.f k m n) none := rfl
@[simp] theorem akAdd_i64 {x y : Int} (h1 : -9223372036854775808 ≤ x + y) (h2 : x + y < 9223372036854775808) : akAdd.f .i64 x y = some (.int .i64 (x + y)) := by
  show mkInt .i64 (addI x y) = _; rw [addI_eq, mkInt_i64 h1 h2]
@[simp] theorem akSub_i64 {x y : Int} (h1 : -9223372036854775808 ≤ x - y) (h2 : x - y < 9223372036854775808) : akSub.f .i64 x y = some (.int .i64 (x - y)) := by
  show mkInt .i64 (subI x y) = _; rw [subI_eq, mkInt_i64 h1 h2]
@[simp] theorem akAdd_u8 (x y : Int) : akAdd.f .u8 x y = some (.int .u8 ((x + y) % 256)) := by show mkInt .u8 (addI x y) = _; rw [addI_eq, mkInt_u8]
@[simp] theorem akSub_u8 (x y : Int) : akSub.f .u8 x y = some (.int .u8 ((x - y) % 256)) := by show mkInt .u8 (subI x y) = _; rw [subI_eq, mkInt_u8]
@[simp] theorem akEql_f (k : IntKind) (x y : Int) : akEql.f k x y = some (.bool (decide (x = y))) := by show some (AV.bool (eqI x y)) = _; rw [eqI_dec]
@[simp] theorem akNeq_f (k : IntKind) (x y : Int) : akNeq.f k x y = some (.bool (!decide (x = y))) := by show some (AV.bool (bt (eqI x y) false true)) = _; rw [eqI_dec, bt_not]
@[simp] theorem akLss_f (k : IntKind) (x y : Int) : akLss.f k x y = some (.bool (decide (x < y))) := by show some (AV.bool (ltI x y)) = _; rw [ltI_dec]
@[simp] theorem akGtr_f (k : IntKind) (x y : Int) : akGtr.f k x y = some (.bool (decide (y < x))) := by show some (AV.bool (ltI y x)) = _; rw [ltI_dec]
@[simp] theorem akLeq_f (k : IntKind) (x y : Int) : akLeq.f k x y = some (.bool (!decide (y < x))) := by show some (AV.bool (bt (ltI y x) false true)) = _; rw [ltI_dec, bt_not]
@[simp] theorem akGeq_f (k : IntKind) (x y : Int) : akGeq.f k x y = some (.bool (!decide (x < y))) := by show some (AV.bool (bt (ltI x y) false true)) = _; rw [ltI_dec, bt_not]
@[simp] theorem cvInt_f (k : IntKind) (x : Operand) (T : Tr AV) (H : AH) : cvInt k x T H = ob (opnd x T) fun v => onInt v fun _ n => mkInt k n := rfl
@[simp] theorem natOf_cast (k : IntKind) (n : Nat) : natOf (.int k (n : Int)) = some n := rfl
@[simp] theorem natOf_lit (k : IntKind) (n : Nat) : natOf (.int k (OfNat.ofNat n : Int)) = some (OfNat.ofNat n) := rfl
@[simp] theorem natOf_zero (k : IntKind) : natOf (.int k 0) = some 0 := rfl
@[simp] theorem natOf_one (k : IntKind) : natOf (.int k 1) = some 1 := rfl
@[simp] theorem natOf_add (k : IntKind) (a b : Nat) : natOf (.int k ((a : Int) + (b : Int))) = some (a + b) := rfl
@[simp] theorem natOf_addL (k : IntKind) (a n : Nat) : natOf (.int k ((a : Int) + no_index (OfNat.ofNat n : Int))) = some (a + OfNat.ofNat n) := rfl
@[simp] theorem natOf_add1 (k : IntKind) (a : Nat) : natOf (.int k ((a : Int) + 1)) = some (a + 1) := rfl
@[simp] theorem pickA_f (c a b : Operand) (T : Tr AV) (H : AH) : pickA c a b T H = ob (opnd c T) fun v => onBool v fun t => bt t (opnd a T) (opnd b T) := rfl
@[simp] theorem lenSl_f (x : Operand) (T : Tr AV) (H : AH) : lenSl x T H = ob (opnd x T) fun v => onSl v (some (.int .i64 0)) fun _ _ n _ => some (.int .i64 (n : Int)) := rfl
@[simp] theorem lenStr_f (x : Operand) (T : Tr AV) (H : AH) : lenStr x T H = ob (opnd x T) fun v => onStr v fun n _ => some (.int .i64 (n : Int)) := rfl
@[simp] theorem exA_f (x : Operand) (i : Nat) (T : Tr AV) (H : AH) : exA x i T H = ob (opnd x T) fun v => onTup v fun vs => AV.nth i vs := rfl
@[simp] theorem nth_zero (h t : AV) : AV.nth 0 (.cons h t) = some h := rfl
@[simp] theorem nth_succ (i : Nat) (h t : AV) : AV.nth (i + 1) (.cons h t) = AV.nth i t := rfl
@[simp] theorem ixSl_f (es : Nat) (x i : Operand) (T : Tr AV) (H : AH) : ixSl es x i T H = ob (opnd x T) fun v => ob (opnd i T) fun i => onSl v none fun b off len _ => ob (natOf i) fun j => bt (Nat.blt j len) (some (.ptr b (off + j * es))) none := rfl
@[simp] theorem blt_true {a b : Nat} (h : a < b) : Nat.blt a b = true := by simpa [Nat.blt_eq] using h
@[simp] theorem ble_true {a b : Nat} (h : a ≤ b) : Nat.ble a b = true := Nat.ble_eq_true_of_le h
@[simp] theorem deferA_nil (R : Rec) (H : AH) : deferA R [] H = some H := rfl
theorem endP_nil {P : Program} {re : ReK} {Q : AV → AH → Prop} {T : Tr AV} {H : AH} {l : AV} (h : re.f T H = some l) (hq : Q (resultA l) H) : EndP P re Q T [] H :=
  ⟨_, H, l, recNone_ok, rfl, h, hq⟩
def re1 (t : Nat) : ReK := ⟨fun T _ => ob (opnd (.tmp t) T) fun v => ob (some .nil) fun l => some (.cons v l)⟩
def reNil : ReK := ⟨fun _ _ => some .nil⟩
def reTmp (t : Nat) (k : ReK) : ReK := ⟨fun T H => ob (opnd (.tmp t) T) fun v => ob (k.f T H) fun l => some (.cons v l)⟩
def reCell (ld : VK) (a : Nat) (k : ReK) : ReK := ⟨fun T H => ob (opnd (.tmp a) T) fun p => ob (ld.f H p) fun v => ob (k.f T H) fun l => some (.cons v l)⟩
@[simp] theorem reNil_f (T : Tr AV) (H : AH) : reNil.f T H = some .nil := rfl
@[simp] theorem reTmp_f (t : Nat) (k : ReK) (T : Tr AV) (H : AH) : (reTmp t k).f T H = ob (opnd (.tmp t) T) fun v => ob (k.f T H) fun l => some (.cons v l) := rfl
@[simp] theorem reCell_f (ld : VK) (a : Nat) (k : ReK) (T : Tr AV) (H : AH) : (reCell ld a k).f T H = ob (opnd (.tmp a) T) fun p => ob (ld.f H p) fun v => ob (k.f T H) fun l => some (.cons v l) := rfl
@[simp] theorem argsT_cons (v r : AV) (i : Nat) (l : List (Nat × AV)) : argsT (.cons v r) i (tl l) = argsT r (i + 1) (tl ((i, v) :: l)) := rfl
@[simp] theorem argsT_nil (i : Nat) (T : Tr AV) : argsT .nil i T = T := rfl
theorem tl_nil : (Tr.e : Tr AV) = tl [] := rfl
abbrev xM (t d : Nat) : Lk := ⟨lkMove (.tmp t), some d, none⟩
abbrev yM (t d g : Nat) (b : Bool) : Lk := ⟨lkMove (.tmp t), some d, some (g, b)⟩
abbrev xF (t i d : Nat) : Lk := ⟨⟨fAddr (.tmp t) i⟩, some d, none⟩
abbrev yF (t i d g : Nat) (b : Bool) : Lk := ⟨⟨fAddr (.tmp t) i⟩, some d, some (g, b)⟩
abbrev xL (t d : Nat) : Lk := ⟨⟨ldA ⟨ld1⟩ (.tmp t)⟩, some d, none⟩
abbrev yL (t d g : Nat) (b : Bool) : Lk := ⟨⟨ldA ⟨ld1⟩ (.tmp t)⟩, some d, some (g, b)⟩
abbrev xI (e x i d : Nat) : Lk := ⟨⟨ixSl e (.tmp x) (.tmp i)⟩, some d, none⟩
abbrev yI (e x i d g : Nat) (b : Bool) : Lk := ⟨⟨ixSl e (.tmp x) (.tmp i)⟩, some d, some (g, b)⟩
abbrev xB (k : AK) (x y d : Nat) : Lk := ⟨⟨binInt k (.tmp x) (.tmp y)⟩, some d, none⟩
abbrev yB (k : AK) (x y d g : Nat) (b : Bool) : Lk := ⟨⟨binInt k (.tmp x) (.tmp y)⟩, some d, some (g, b)⟩
abbrev xC (k : AK) (x : Nat) (c : Int) (d : Nat) : Lk := ⟨⟨binInt k (.tmp x) (.const (.int .i64 c))⟩, some d, none⟩
abbrev yC (k : AK) (x : Nat) (c : Int) (d g : Nat) (b : Bool) : Lk := ⟨⟨binInt k (.tmp x) (.const (.int .i64 c))⟩, some d, some (g, b)⟩
abbrev xN (t d : Nat) : Lk := ⟨⟨lenSl (.tmp t)⟩, some d, none⟩
abbrev yN (t d g : Nat) (b : Bool) : Lk := ⟨⟨lenSl (.tmp t)⟩, some d, some (g, b)⟩
abbrev xU (t d : Nat) : Lk := ⟨lkUn ukNot (.tmp t), some d, none⟩
abbrev xK (c : Int) (d : Nat) : Lk := ⟨lkMove (.const (.int .i64 c)), some d, none⟩
abbrev xZ (b : Bool) (d : Nat) : Lk := ⟨lkMove (.const (.bool b)), some d, none⟩
abbrev xS (t d : Nat) : Lk := ⟨⟨lenStr (.tmp t)⟩, some d, none⟩
abbrev xD (n t d : Nat) : Lk := ⟨⟨ldA ⟨ldN n⟩ (.tmp t)⟩, some d, none⟩
abbrev xE (t i d : Nat) : Lk := ⟨⟨exA (.tmp t) i⟩, some d, none⟩
abbrev xA (x y d : Nat) (c : Bool) : Lk := ⟨⟨pickA (.tmp x) (.tmp y) (.const (.bool c))⟩, some d, none⟩
abbrev yA (x y d : Nat) (c : Bool) (g : Nat) (b : Bool) : Lk := ⟨⟨pickA (.tmp x) (.tmp y) (.const (.bool c))⟩, some d, some (g, b)⟩
abbrev xP (x y d : Nat) (c : Bool) : Lk := ⟨⟨pickA (.tmp x) (.const (.bool c)) (.tmp y)⟩, some d, none⟩
abbrev yP (x y d : Nat) (c : Bool) (g : Nat) (b : Bool) : Lk := ⟨⟨pickA (.tmp x) (.const (.bool c)) (.tmp y)⟩, some d, some (g, b)⟩
end
end Go.Xq
namespace Go.Xq
noncomputable section
section
variable {P : Program} {E : Env} {b : Frame} {n : Cx} {T T2 : Tr AV} {D D2 : List ADf} {H H2 : AH} {Q Q' : Out → Prop} {its its2 : List Item}
theorem WPO.heavy (hE : TyOk P E) (hX : ExtOk P E) {ops : Array Oper} {o : Oper} {r : List Oper} {k : HvK} {v : AV} (hk : heavyK E o.op = some k) (hg : o.guard = none) (hd : dstOk n.n o.dst = true)
    (ho : k.f { call := fun _ _ _ => none, dcall := fun _ _ _ => none, round := fun _ _ _ => none } T H = some (v, H2)) (h : WPO P b n ops r (putA T o.dst v) D H2 Q) : WPO P b n ops (o :: r) T D H Q := by
  refine WPO.op (g := none) (Q1 := fun v' H' => v' = v ∧ H' = H2) (by rw [hg]; rfl) rfl hd (heavy_nodefer hk) (fun m w ρ hr he => ?_) fun v' H' hq => by obtain ⟨rfl, rfl⟩ := hq; exact h
  have := heavyK_ok hE hX hk _ recNone_ok m H w T ρ v H2 hr he ho
  cases this with
  | value v' w' h1 h2 => exact .value v' w' h1 ⟨v, H2, ⟨rfl, rfl⟩, h2⟩
  | skip w' h1 h2 => exact .skip w' h1 ⟨v, H2, ⟨rfl, rfl⟩, h2⟩
  | enter f args w1 h1 h2 => exact .enter f args w1 h1 (h2.mono fun _ _ p => ⟨v, H2, ⟨rfl, rfl⟩, p⟩)
  | round l f t a b w1 h1 h2 => exact .round l f t a b w1 h1 (h2.mono fun _ _ p => ⟨v, H2, ⟨rfl, rfl⟩, p⟩)
theorem WPO.fresh (hE : TyOk P E) {ops : Array Oper} {o : Oper} {r : List Oper} {k : FrK} {v : AV} {x : AObj} (hk : freshK E o.op = some k) (hg : o.guard = none) (hd : dstOk n.n o.dst = true)
    (ho : k.f T H.next = some (v, x)) (h : WPO P b n ops r (putA T o.dst v) D (H.new x) Q) : WPO P b n ops (o :: r) T D H Q := by
  refine WPO.op (g := none) (Q1 := fun v' H' => v' = v ∧ H' = H.new x) (by rw [hg]; rfl) rfl hd (fresh_nodefer hk) (fun m w ρ hr he => ?_) fun v' H' hq => by obtain ⟨rfl, rfl⟩ := hq; exact h
  obtain ⟨v', y, w', i, h1, h2, h3, h4, h5, h6⟩ := freshK_ok hE hk m w T ρ H.next v x he ho
  obtain ⟨g1, g2⟩ := h6 (m.ext H.next i) (hr.le (Ext.ext _ _ _)) (Ren.ext_same _ _ _)
  exact .value v' w' h1 ⟨v, _, ⟨rfl, rfl⟩, _, St.newBlk hr h5 h2 g2 h3 h4, g1⟩
theorem WPO.callF {ops : Array Oper} {o : Oper} {r : List Oper} {c : Call} {g : Nat} {l : AV} {Q1 : AV → AH → Prop} (hop : o.op = .call c) (hf : c.callee = .value (.func g)) (hg : o.guard = none) (hd : dstOk n.n o.dst = true)
    (hl : (opnds c.args.toList).f T = some l) (hc : AC P .normal g l H Q1) (h : ∀ v H2, Q1 v H2 → WPO P b n ops r (putA T o.dst v) D H2 Q) : WPO P b n ops (o :: r) T D H Q :=
  WPO.op (g := none) (by rw [hg]; rfl) rfl hd (fun c' e => by rw [hop] at e; cases e) (outc_callF hop hf hl hc) h
theorem WPO.callG {ops : Array Oper} {o : Oper} {r : List Oper} {c : Call} {g : Nat} {l : AV} {Q1 : AV → AH → Prop} {gd : Option (Nat × Bool)} (hop : o.op = .call c) (hf : c.callee = .value (.func g)) (hg : guardOf ops.toList o.guard = some gd) (hw : wantA gd T = some true)
    (hd : dstOk n.n o.dst = true) (hl : (opnds c.args.toList).f T = some l) (hc : AC P .normal g l H Q1) (h : ∀ v H2, Q1 v H2 → WPO P b n ops r (putA T o.dst v) D H2 Q) : WPO P b n ops (o :: r) T D H Q :=
  WPO.op (g := gd) hg hw hd (fun c' e => by rw [hop] at e; cases e) (outc_callF hop hf hl hc) h
end
def bb (e : Nat) (o : Bool) (l : List UInt8) : AObj := .bys e l.length o (leNat l)
theorem rd_bb {e : Nat} {o : Bool} {l : List UInt8} {i : Nat} (h : i < l.length) : rdCell (bb e o l) i = some (AV.int .u8 (l[i].toNat : Int)) := by
  show bt (Nat.blt i l.length) (some (AV.int .u8 (.ofNat (byteAt (leNat l) i)))) none = _
  rw [blt_true h, bt_true, byteAt_leNat (List.getElem?_eq_getElem h)]; rfl
theorem leNat_ext {k l : List UInt8} {n : Nat} (hl : k.length = l.length) (hn : n < 256 ^ l.length) (h : ∀ i, i < l.length → ∃ x, k[i]? = some x ∧ byteAt n i = x.toNat) : n = leNat k := by
  have := bytesN_ext (len := l.length) (l := k) (n := n) hl fun i hi => let ⟨x, h1, h2⟩ := h i hi; ⟨x, h1, h2.symm⟩
  rw [this, leNat_bytesN _ _ hn]
theorem overN_lt {n off len v sz : Nat} (h : off + len ≤ sz) (hv : v < 256 ^ len) (hn : n < 256 ^ sz) : overN n off len v < 256 ^ sz := by
  rw [overN_eq]
  obtain ⟨q, rfl⟩ : ∃ q, sz = off + len + q := ⟨sz - (off + len), by omega⟩
  have h1 : n / 256 ^ (off + len) < 256 ^ q := by
    rw [Nat.div_lt_iff_lt_mul (Nat.pow_pos (by decide))]; rwa [Nat.pow_add, Nat.mul_comm] at hn
  have h2 : v + 256 ^ len * (n / 256 ^ (off + len)) < 256 ^ len * 256 ^ q := by
    calc v + 256 ^ len * (n / 256 ^ (off + len)) < 256 ^ len + 256 ^ len * (n / 256 ^ (off + len)) := by omega
      _ = 256 ^ len * (n / 256 ^ (off + len) + 1) := by rw [Nat.mul_add, Nat.mul_one, Nat.add_comm]
      _ ≤ 256 ^ len * 256 ^ q := Nat.mul_le_mul_left _ h1
  rw [show 256 ^ (off + len + q) = 256 ^ off * (256 ^ len * 256 ^ q) from by rw [Nat.pow_add, Nat.pow_add, Nat.mul_assoc]]
  have h3 : n % 256 ^ off < 256 ^ off := Nat.mod_lt _ (Nat.pow_pos (by decide))
  calc n % 256 ^ off + 256 ^ off * (v + 256 ^ len * (n / 256 ^ (off + len))) < 256 ^ off + 256 ^ off * (v + 256 ^ len * (n / 256 ^ (off + len))) := by omega
    _ = 256 ^ off * (v + 256 ^ len * (n / 256 ^ (off + len)) + 1) := by rw [Nat.mul_succ, Nat.add_comm]
    _ ≤ 256 ^ off * (256 ^ len * 256 ^ q) := Nat.mul_le_mul_left _ h2
theorem wr_bb {e : Nat} {o : Bool} {l : List UInt8} {i : Nat} (h : i < l.length) (v : UInt8) : wrCell (bb e o l) i (.int .u8 (v.toNat : Int)) = some (bb e o (l.set i v)) := by
  have hv : v.toNat < 256 := v.toNat_lt
  have hset : overN (leNat l) i 1 v.toNat = leNat (l.set i v) := by
    refine leNat_ext (l := l) (by simp) (overN_lt (by omega) (by simpa using hv) (leNat_lt l)) fun j hj => ?_
    rw [byteAt_over _ _ _ _ _ (by simpa using hv)]
    by_cases hji : j = i
    · subst hji
      refine ⟨v, by simp [h], ?_⟩
      rw [if_neg (by omega), if_pos (by omega), Nat.sub_self, byteAt_eq]; simp
    · refine ⟨l[j], by rw [List.getElem?_set_ne (by omega), List.getElem?_eq_getElem hj], ?_⟩
      have := byteAt_leNat (List.getElem?_eq_getElem hj)
      split
      · exact this
      · rw [if_neg (by omega)]; exact this
  show bt (Nat.blt i l.length) (bt (Nat.blt v.toNat 256) (some (AObj.bys e l.length o (overN (leNat l) i 1 v.toNat))) none) none = _
  rw [blt_true h, bt_true, blt_true hv, bt_true, hset]
  simp [bb]
theorem cut_bb {l : List UInt8} {off len : Nat} (h : off + len ≤ l.length) : cutN (leNat l) off len = leNat ((l.drop off).take len) := by
  have hlen : ((l.drop off).take len).length = len := by simp; omega
  have hc := cutN_lt (leNat l) off len
  have := bytesN_ext (len := len) (l := (l.drop off).take len) (n := cutN (leNat l) off len) hlen fun i hi => by
    refine ⟨l[off + i], ?_, ?_⟩
    · rw [List.getElem?_take_of_lt hi, List.getElem?_drop, List.getElem?_eq_getElem (by omega)]
    · rw [byteAt_cut _ _ _ _ hi, byteAt_leNat (List.getElem?_eq_getElem (by omega))]
  rw [this, leNat_bytesN _ _ hc]
def sb (l : List UInt8) : AV := .str l.length (leNat l)
theorem leNat_zeros (n : Nat) : leNat (List.replicate n 0) = 0 := by
  induction n with
  | zero => rfl
  | succ n ih => rw [List.replicate_succ]; show (0 : UInt8).toNat + 256 * leNat (List.replicate n 0) = 0; rw [ih]; rfl
theorem zero_bb (e n : Nat) : AObj.bys e n false 0 = bb e false (List.replicate n 0) := by simp [bb, leNat_zeros]
theorem sEq_sb (a b : List UInt8) : sEq a.length (leNat a) b.length (leNat b) = decide (a = b) := by
  unfold sEq
  by_cases hl : a.length = b.length
  · rw [hl, Nat.beq_refl, bt_true]
    by_cases h : a = b
    · subst h; simp
    · rw [decide_eq_false h]
      cases e : Nat.beq (leNat a) (leNat b) with
      | false => rfl
      | true => exact absurd (leNat_inj hl (Nat.eq_of_beq_eq_true e)) h
  · have : Nat.beq a.length b.length = false := by
      cases e : Nat.beq a.length b.length with
      | false => rfl
      | true => exact absurd (Nat.eq_of_beq_eq_true e) hl
    rw [this, bt_false]
    exact (decide_eq_false fun e => hl (by rw [e])).symm
end
end Go.Xq
