/- A part of the proof that what the evaluator answers is what the machine does. Its conditions stand in each theorem. -/
import Derived.Test.YtgcgpblccnajjacGreatDoorY20
namespace Go.Xq
section
variable {P : Program} {E : Env} (hE : TyOk P E) (hX : ExtOk P E)

/-! ### One operation -/
theorem actK_look {op : Op} {k : LK} (h : actK E op = .look k) : lookK E op = some k ∨ ∀ T H, k.f T H = none := by
  unfold actK at h
  repeat' split at h
  all_goals first | (cases h; exact .inl (by assumption)) | (cases h; exact .inr fun _ _ => rfl) | (cases h; done)
theorem actK_fresh {op : Op} {k : FrK} (h : actK E op = .fresh k) : freshK E op = some k := by
  unfold actK at h
  repeat' split at h
  all_goals first | (cases h; assumption) | (cases h; done)
theorem actK_heavy {op : Op} {k : HvK} (h : actK E op = .heavy k) : heavyK E op = some k := by
  unfold actK at h
  repeat' split at h
  all_goals first | (cases h; assumption) | (cases h; done)
theorem actK_dfr {op : Op} {f : Operand} {l : LsK} (h : actK E op = .dfr f l) : ∃ c, op = .defer c ∧ c.callee = .value f ∧ l = opnds c.args.toList := by
  unfold actK at h
  repeat' split at h
  all_goals first | (cases h; exact ⟨_, rfl, by assumption, rfl⟩) | (cases h; done)
theorem actK_rcv {op : Op} (h : actK E op = .rcv) : ∃ c, op = .call c ∧ c.callee = .builtin .recover := by
  unfold actK at h
  repeat' split at h
  all_goals first | (cases h; exact ⟨_, rfl, by assumption⟩) | (cases h; done)
theorem look_nodefer {op : Op} {k : LK} (h : lookK E op = some k) (c : Call) : op ≠ .defer c := by
  rintro rfl; simp [lookK] at h
theorem fresh_nodefer {op : Op} {k : FrK} (h : freshK E op = some k) (c : Call) : op ≠ .defer c := by
  rintro rfl; simp [freshK] at h
theorem heavy_nodefer {op : Op} {k : HvK} (h : heavyK E op = some k) (c : Call) : op ≠ .defer c := by
  rintro rfl; simp [heavyK] at h
include hE in
theorem look_outc {o : Oper} {k : LK} (h : lookK E o.op = some k) {m : Ren} {H : AH} {w : World} {T : Tr AV} {ρ : Operand → Value} {v : AV} (hr : Rel m H w) (he : ER m T ρ) (hk : k.f T H = some v) : Outc P (execOp ρ o) w (Post m H w v H) := by
  obtain ⟨v', h1, h2⟩ := lookK_ok hE h m H w T ρ v hr he hk
  exact .value v' w h1 ⟨m, St.refl hr, h2⟩
include hE in
theorem fresh_outc {o : Oper} {k : FrK} (h : freshK E o.op = some k) {m : Ren} {H : AH} {w : World} {T : Tr AV} {ρ : Operand → Value} {v : AV} {x : AObj} (hr : Rel m H w) (he : ER m T ρ) (hk : k.f T H.next = some (v, x)) :
    Outc P (execOp ρ o) w (Post m H w v (H.new x)) := by
  obtain ⟨v', y, w', i, h1, h2, h3, h4, h5, h6⟩ := freshK_ok hE h m w T ρ H.next v x he hk
  obtain ⟨g1, g2⟩ := h6 (m.ext H.next i) (hr.le (Ext.ext _ _ _)) (Ren.ext_same _ _ _)
  exact .value v' w' h1 ⟨_, St.newBlk hr h5 h2 g2 h3 h4, g1⟩

/-! ### Guards -/
theorem want_ok {n : Cx} {m : Ren} {T : Tr AV} {D : List ADf} {a : Act} (hf : FrR n m T D a) {ops : Array Oper} {o : Oper} {g : Option (Nat × Bool)} (h : guardOf ops.toList o.guard = some g) :
    Region.wanted o (yielded ops a.tmps) = wantA g T := by
  unfold Region.wanted
  cases hg : o.guard with
  | none => rw [hg] at h; cases h; rfl
  | some p =>
    obtain ⟨j, want⟩ := p
    rw [hg] at h
    simp only [guardOf, ob_some, Option.some.injEq] at h
    obtain ⟨x, h1, d, h2, rfl⟩ := h
    have hx : ops[j]? = some x := by rw [← Array.getElem?_toList]; exact h1
    have hv := hf.t.at_ d
    simp only [yielded, hx, Option.bind_some, h2, wantA, oc_some, wantG]
    generalize oc (T.get (bits d)) undefA id = av at hv ⊢
    by_cases hlt : d < a.tmps.size
    · rw [Array.getElem?_eq_getElem hlt]
      have e : a.tmps.getD d undef = a.tmps[d] := by simp [Array.getD_eq_getD_getElem?, hlt]
      rw [e] at hv
      generalize a.tmps[d] = cv at hv ⊢
      cases hv <;> simp [onBool, bEq_eq]
    · rw [Array.getElem?_eq_none (Nat.le_of_not_lt hlt)]
      have e : a.tmps.getD d undef = undef := by simp [Array.getD_eq_getD_getElem?, hlt]
      rw [e] at hv
      generalize hu : undef = cv at hv
      cases hv <;> first | (simp [onBool]; done) | (simp [undef] at hu; done)

/-! ### What a piece of code comes to -/
def OutOk (P : Program) (b : Frame) (n : Cx) (K : List Item) (cs : List Frame) (m : Ren) (H : AH) (w : World) (s0 : Machine) : Out → Prop
  | .bad => True
  | .nor T D H2 => ∃ m2 a2 w2, St m H w m2 H2 w2 ∧ FrR n m2 T D a2 ∧ Steps P s0 (lone (b.atR a2 K) cs w2)
  | .ext id T D H2 => ∃ m2 a2 w2 K2, St m H w m2 H2 w2 ∧ FrR n m2 T D a2 ∧ exitTo id K2 = exitTo id K ∧ Steps P s0 (lone (b.atR a2 (.code (.exit id) :: K2)) cs w2)
  | .ret T D H2 => ∃ m2 a2 w2 K2, St m H w m2 H2 w2 ∧ FrR n m2 T D a2 ∧ Steps P s0 (lone (b.atR a2 (.code .ret :: K2)) cs w2)
theorem OutOk.steps {b : Frame} {n : Cx} {K : List Item} {cs : List Frame} {m m2 : Ren} {H H2 : AH} {w w2 : World} {s0 s1 : Machine} {out : Out} (hs : Steps P s0 s1) (hst : St m H w m2 H2 w2) (h : OutOk P b n K cs m2 H2 w2 s1 out) : OutOk P b n K cs m H w s0 out := by
  cases out with
  | bad => trivial
  | nor T D H3 => obtain ⟨m3, a3, w3, h1, h2, h3⟩ := h; exact ⟨m3, a3, w3, hst.trans h1, h2, hs.trans h3⟩
  | ext id T D H3 => obtain ⟨m3, a3, w3, K3, h1, h2, h3, h4⟩ := h; exact ⟨m3, a3, w3, K3, hst.trans h1, h2, h3, hs.trans h4⟩
  | ret T D H3 => obtain ⟨m3, a3, w3, K3, h1, h2, h3⟩ := h; exact ⟨m3, a3, w3, K3, hst.trans h1, h2, hs.trans h3⟩
/-- a continuation does from these items on what the machine does -/
def RKOk (P : Program) (b : Frame) (n : Cx) (its : List Item) (k : RK) : Prop :=
  ∀ R, RecOk P R → ∀ m H w T D a K cs, CsOk b.kind cs → Rel m H w → FrR n m T D a → OutOk P b n K cs m H w (lone (b.atR a (its ++ K)) cs w) (k.f R T D H)
include hE hX in
/-- one operation of a region, and then what follows -/
theorem tSp_ok {b : Frame} {n : Cx} {rd : Bool} (hrd : rd = b.roundOf.isSome) {ops : Array Oper} {i : Nat} {rest : List Nat} {o : Oper} {sp : Sp} {nx : RK} (ho : ops[i]? = some o) (hsp : spK E n.n ops.toList o = some sp) (hd : (rd && isDfr sp.act) = false)
    (hnx : RKOk P b n [.inRegion ops rest] nx) : RKOk P b n [.inRegion ops (i :: rest)] (tSp sp nx) := by
  simp only [spK, ob_some, bt_some, Option.some.injEq] at hsp
  obtain ⟨g, hg, hdst, rfl⟩ := hsp
  intro R hR m H w T D a K cs hcs hr hf
  have hwant := want_ok hf hg
  -- wanted
  have act : Region.wanted o (yielded ops a.tmps) = true → OutOk P b n K cs m H w (lone (b.atR a ([.inRegion ops (i :: rest)] ++ K)) cs w) ((tAct o.dst nx (actK E o.op)).f R T D H) := by
    intro hw
    have go : ∀ {v : AV} {H2 : AH}, (∀ c, o.op ≠ .defer c) → Outc P (execOp a.eval o) w (Post m H w v H2) → OutOk P b n K cs m H w (lone (b.atR a ([.inRegion ops (i :: rest)] ++ K)) cs w) (nx.f R (putA T o.dst v) D H2) := by
      intro v H2 hnd hout
      obtain ⟨v', w', ⟨m2, hst, hv⟩, hs⟩ := step_op (b := b) (K := K) (cs := cs) (rest := rest) ho hw (Oper.semAt_eq _ _ _ hnd) hout
      exact OutOk.steps hs hst (hnx R hR m2 H2 w' _ D _ K cs hcs hst.rel ((hf.mono (St.le hr hst)).put hdst hv))
    cases hact : actK E o.op with
    | look k =>
      simp only [tAct, tLook]
      cases hk : k.f T H with
      | none => trivial
      | some v =>
        rcases actK_look hact with h | h
        · exact go (look_nodefer h) (look_outc hE h hr (hf.er hr) hk)
        · rw [h] at hk; cases hk
    | fresh k =>
      simp only [tAct, tFresh]
      cases hk : k.f T H.next with
      | none => trivial
      | some p =>
        obtain ⟨v, x⟩ := p
        have h := actK_fresh hact
        exact go (fresh_nodefer h) (fresh_outc hE h hr (hf.er hr) hk)
    | heavy k =>
      simp only [tAct, tHeavy]
      cases hk : k.f R T H with
      | none => trivial
      | some p =>
        obtain ⟨v, H2⟩ := p
        have h := actK_heavy hact
        exact go (heavy_nodefer h) (heavyK_ok hE hX h R hR m H w T a.eval v H2 hr (hf.er hr) hk)
    | dfr f l =>
      obtain ⟨c, hop, hc, rfl⟩ := actK_dfr hact
      have hb : b.roundOf = none := by
        simp only [hact, isDfr, Bool.and_true] at hd
        rw [hd] at hrd
        cases hro : b.roundOf with
        | none => rfl
        | some l => rw [hro] at hrd; cases hrd
      simp only [tAct, tDfr]
      cases hk : (ob (opnd f T) fun fv => ob ((opnds c.args.toList).f T) fun l => onFn fv fun q first cap => some ({ mark := none, f := .fn q .nil cap, args := AV.app first l } : ADf)) with
      | none => trivial
      | some d =>
        simp only [ob_some, onFn_some, Option.some.injEq] at hk
        obtain ⟨fv, h1, l, h2, q, first, cap, rfl, rfl⟩ := hk
        have he := hf.er hr
        obtain ⟨g', va, vc, hq, ha, hc', e⟩ := (he f _ h1).fn_inv
        have hl := run_map_ops he h2
        have hrun : (execOp a.eval o).run P w = .ok (.defer { target := .fn g' vc.toArray, args := (va ++ (c.args.map a.eval).toList).toArray }) w := by
          have harr : va.toArray ++ c.args.map a.eval = (va ++ (c.args.map a.eval).toList).toArray := by apply Array.toList_inj.1; simp
          simp only [execOp, hop, resolve, hc, e, Deferred.ofValue, Sem.run_bind, Sem.run_pure, Result.andThen, harr]
        have hs := step_defer_op (b := b) (K := K) (cs := cs) (rest := rest) ho hw hb hrun
        refine OutOk.steps (.one hs) (St.refl hr) (hnx R hR m H w _ _ _ K cs hcs hr (FrR.put ?_ hdst (undef_ok m)))
        exact ⟨hf.t, .cons _ _ _ _ (.call _ _ _ _ _ _ _ hq hc' (ha.app hl)) hf.d, hf.r⟩
    | rcv =>
      obtain ⟨c, hop, hc⟩ := actK_rcv hact
      have hb : b.roundOf = none := by
        simp only [hact, isDfr, Bool.and_true] at hd
        rw [hd] at hrd
        cases hro : b.roundOf with
        | none => rfl
        | some l => rw [hro] at hrd; cases hrd
      have hrun : (execOp a.eval o).run P w = .ok .recover w := by
        rw [run_builtin hop hc]; rfl
      have hs := step_recover_op (b := b) (K := K) (cs := cs) (rest := rest) ho hw hb hcs hrun
      exact OutOk.steps (.one hs) (St.refl hr) (hnx R hR m H w _ D _ K cs hcs hr (hf.put hdst .inil))
  have skip : Region.wanted o (yielded ops a.tmps) = false → OutOk P b n K cs m H w (lone (b.atR a ([.inRegion ops (i :: rest)] ++ K)) cs w) (nx.f R (putA T o.dst undefA) D H) := by
    intro hw
    have hs := stepR_op_skip (P := P) (b := b) (a := a) (k := K) (cs := cs) (w := w) (ops := ops) (i := i) (rest := rest) (by simp [ho, hw])
    rw [ho] at hs
    exact OutOk.steps (.one hs) (St.refl hr) (hnx R hR m H w _ D _ K cs hcs hr (hf.put hdst (undef_ok m)))
  simp only [tSp]
  cases g with
  | none =>
    exact act (by rw [hwant]; rfl)
  | some p =>
    obtain ⟨d, want⟩ := p
    simp only [wantA, oc_some] at hwant
    simp only [tGuard]
    cases hwg : wantG d want T with
    | true => exact act (by rw [hwant, hwg])
    | false => exact skip (by rw [hwant, hwg])
end
end Go.Xq
