/- A part of the proof that what the evaluator answers is what the machine does. Its conditions stand in each theorem. -/
import Derived.Test.YtgcgpblccnajjacGreatDoorY21
namespace Go.Xq
section
variable {P : Program} {E : Env} (hE : TyOk P E) (hX : ExtOk P E) {b : Frame} {n : Cx} {rd : Bool}
@[simp] theorem oOut_nor (T D H) (k : Tr AV → List ADf → AH → Out) : oOut (.nor T D H) k = k T D H := rfl
@[simp] theorem oOut_bad (k : Tr AV → List ADf → AH → Out) : oOut .bad k = .bad := rfl
@[simp] theorem oOut_ext (id T D H) (k : Tr AV → List ADf → AH → Out) : oOut (.ext id T D H) k = .ext id T D H := rfl
@[simp] theorem oOut_ret (T D H) (k : Tr AV → List ADf → AH → Out) : oOut (.ret T D H) k = .ret T D H := rfl
include hE hX in
theorem opsK_ok (hrd : rd = b.roundOf.isSome) {ops : Array Oper} : ∀ {r : List Oper} {i : Nat} {k : RK}, ops.toList.drop i = r → opsK E n.n rd ops.toList r = some k → RKOk P b n [.inRegion ops (List.range' i r.length)] k
  | [], i, k, _, h => by
    cases h
    intro R hR m H w T D a K cs hcs hr hf
    exact ⟨m, a, w, St.refl hr, hf, .one stepR_region_end⟩
  | o :: r, i, k, hd, h => by
    simp only [opsK, ob_some] at h
    obtain ⟨sp, hsp, h⟩ := h
    cases hdf : (rd && isDfr sp.act) with
    | true => rw [hdf] at h; cases h
    | false =>
      rw [hdf] at h
      simp only [bt_false, ob_some, Option.some.injEq] at h
      obtain ⟨nx, hnx, rfl⟩ := h
      have ho : ops[i]? = some o := by
        rw [← Array.getElem?_toList]
        have : (ops.toList.drop i)[0]? = some o := by rw [hd]; rfl
        simpa using this
      have hd2 : ops.toList.drop (i + 1) = r := by
        rw [← List.drop_drop, hd]; rfl
      rw [List.length_cons, List.range'_succ]
      exact tSp_ok hE hX hrd ho hsp hdf (opsK_ok hrd hd2 hnx)
include hE hX in
theorem region_ok (hrd : rd = b.roundOf.isSome) {id : Nat} {ops : Array Oper} {k : RK} (h : opsK E n.n rd ops.toList ops.toList = some k) : RKOk P b n [.code (.region id ops false)] k := by
  intro R hR m H w T D a K cs hcs hr hf
  have h1 := opsK_ok hE hX hrd (i := 0) (by simp) h R hR m H w T D a K cs hcs hr hf
  rw [Array.length_toList, ← List.range_eq_range'] at h1
  exact OutOk.steps (.one stepR_region) (St.refl hr) h1
theorem skip_ok {c : Code} (hc : c = .skip ∨ ∃ l, c = .label l) : RKOk P b n [.code c] ⟨fun _ T D H => .nor T D H⟩ := by
  intro R hR m H w T D a K cs hcs hr hf
  rcases hc with rfl | ⟨l, rfl⟩
  · exact ⟨m, a, w, St.refl hr, hf, .one stepR_skip⟩
  · exact ⟨m, a, w, St.refl hr, hf, .one stepR_label⟩
theorem seq_ok {c d : Code} {x y : RK} (hx : RKOk P b n [.code c] x) (hy : RKOk P b n [.code d] y) : RKOk P b n [.code (.seq c d)] ⟨cSeq x y⟩ := by
  intro R hR m H w T D a K cs hcs hr hf
  have h1 := hx R hR m H w T D a (.code d :: K) cs hcs hr hf
  have hs : Steps P (lone (b.atR a ([.code (.seq c d)] ++ K)) cs w) (lone (b.atR a ([.code c] ++ (.code d :: K))) cs w) := .one stepR_seq
  show OutOk P b n K cs m H w _ (oOut (x.f R T D H) fun T D H => y.f R T D H)
  cases ho : x.f R T D H with
  | bad => trivial
  | nor T2 D2 H2 =>
    rw [ho] at h1
    obtain ⟨m2, a2, w2, g1, g2, g3⟩ := h1
    exact OutOk.steps (hs.trans g3) g1 (hy R hR m2 H2 w2 T2 D2 a2 K cs hcs g1.rel g2)
  | ext id T2 D2 H2 =>
    rw [ho] at h1
    obtain ⟨m2, a2, w2, K2, g1, g2, g3, g4⟩ := h1
    exact ⟨m2, a2, w2, K2, g1, g2, g3, hs.trans g4⟩
  | ret T2 D2 H2 =>
    rw [ho] at h1
    obtain ⟨m2, a2, w2, K2, g1, g2, g3⟩ := h1
    exact ⟨m2, a2, w2, K2, g1, g2, hs.trans g3⟩
theorem cond_ok {q : Operand} {c d : Code} {x y : RK} (hx : RKOk P b n [.code c] x) (hy : RKOk P b n [.code d] y) : RKOk P b n [.code (.cond q c d)] ⟨cCond q x y⟩ := by
  intro R hR m H w T D a K cs hcs hr hf
  show OutOk P b n K cs m H w _ (oc (ob (opnd q T) fun v => onBool v some) .bad fun t => bt t (x.f R T D H) (y.f R T D H))
  cases hq : (ob (opnd q T) fun v => onBool v some) with
  | none => trivial
  | some t =>
    simp only [ob_some, onBool_some, Option.some.injEq] at hq
    obtain ⟨v, h1, t', rfl, rfl⟩ := hq
    have hv := (hf.er hr q _ h1).bool_inv
    have hs := stepR_cond (P := P) (b := b) (k := K) (cs := cs) (w := w) (x := c) (y := d) hv
    cases t'
    · exact OutOk.steps (.one hs) (St.refl hr) (hy R hR m H w T D a K cs hcs hr hf)
    · exact OutOk.steps (.one hs) (St.refl hr) (hx R hR m H w T D a K cs hcs hr hf)
theorem exit_ok {id : Nat} : RKOk P b n [.code (.exit id)] ⟨fun _ T D H => .ext id T D H⟩ := by
  intro R hR m H w T D a K cs hcs hr hf
  exact ⟨m, a, w, K, St.refl hr, hf, rfl, .refl P _⟩
theorem ret_ok : RKOk P b n [.code .ret] ⟨fun _ T D H => .ret T D H⟩ := by
  intro R hR m H w T D a K cs hcs hr hf
  exact ⟨m, a, w, K, St.refl hr, hf, .refl P _⟩
theorem block_ok {id : Nat} {c : Code} {x : RK} (hx : RKOk P b n [.code c] x) : RKOk P b n [.code (.block id c)] ⟨cBlock id x⟩ := by
  intro R hR m H w T D a K cs hcs hr hf
  have h1 := hx R hR m H w T D a (.inBlock id :: K) cs hcs hr hf
  have hs : Steps P (lone (b.atR a ([.code (.block id c)] ++ K)) cs w) (lone (b.atR a ([.code c] ++ (.inBlock id :: K))) cs w) := .one stepR_block
  show OutOk P b n K cs m H w _ (bOut id (x.f R T D H))
  cases ho : x.f R T D H with
  | bad => trivial
  | nor T2 D2 H2 =>
    rw [ho] at h1
    obtain ⟨m2, a2, w2, g1, g2, g3⟩ := h1
    exact ⟨m2, a2, w2, g1, g2, hs.trans (g3.trans (.one stepR_inBlock))⟩
  | ext id2 T2 D2 H2 =>
    rw [ho] at h1
    obtain ⟨m2, a2, w2, K2, g1, g2, g3, g4⟩ := h1
    simp only [exitTo] at g3
    show OutOk P b n K cs m H w _ (bt (Nat.beq id2 id) (.nor T2 D2 H2) (.ext id2 T2 D2 H2))
    cases hb : Nat.beq id2 id with
    | true =>
      have := Nat.eq_of_beq_eq_true hb
      subst this
      simp only [beq_self_eq_true, if_true] at g3
      exact ⟨m2, a2, w2, g1, g2, hs.trans (g4.trans (.one (stepR_exit g3)))⟩
    | false =>
      have hne : ¬ id = id2 := fun e => by subst e; simp at hb
      rw [if_neg (by simpa using hne)] at g3
      exact ⟨m2, a2, w2, K2, g1, g2, g3, hs.trans g4⟩
  | ret T2 D2 H2 =>
    rw [ho] at h1
    obtain ⟨m2, a2, w2, K2, g1, g2, g3⟩ := h1
    exact ⟨m2, a2, w2, K2, g1, g2, hs.trans g3⟩
end
end Go.Xq
