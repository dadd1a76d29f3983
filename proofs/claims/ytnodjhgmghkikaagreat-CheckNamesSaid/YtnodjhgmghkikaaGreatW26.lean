/- A part of the proof of this seat's statement. Conditions: in each theorem. -/
import Derived.Test.YtnodjhgmghkikaaGreatW16
namespace Go.Xq
variable [Dealing]
omit [Dealing] in
theorem mentsSame_eq : ∀ {l k : List MEnt}, mentsSame l k = true → l = k
  | [], [], _ => rfl
  | [], _ :: _, h => by simp [mentsSame] at h
  | _ :: _, [], h => by simp [mentsSame] at h
  | a :: r, b :: s, h => by
    simp only [mentsSame, mentBeq, Bool.and_eq_true, Nat.beq_eq] at h
    obtain ⟨⟨h1, h2, h3⟩, h4⟩ := h
    have e1 := AV.beq_eq h1
    have e2 := AV.beq_eq h2
    rw [mentsSame_eq h4]
    cases a; cases b
    simp only at e1 e2 h3
    subst e1 e2 h3; rfl
omit [Dealing] in
theorem natsSame_eq : ∀ {l k : List Nat}, natsSame l k = true → l = k
  | [], [], _ => rfl
  | [], _ :: _, h => by simp [natsSame] at h
  | _ :: _, [], h => by simp [natsSame] at h
  | a :: r, b :: s, h => by
    simp only [natsSame, Bool.and_eq_true, Nat.beq_eq] at h
    rw [h.1, natsSame_eq h.2]
omit [Dealing] in
theorem objSame_eq {a b : AObj} (h : objSame a b = true) : a = b := by
  unfold objSame at h
  split at h
  · simp only [Bool.and_eq_true, Nat.beq_eq, bEq_iff] at h
    obtain ⟨⟨rfl, rfl⟩, rfl, rfl⟩ := h; rfl
  · simp only [Bool.and_eq_true, Nat.beq_eq, bEq_iff] at h
    obtain ⟨⟨⟨rfl, rfl⟩, rfl, rfl⟩, h1, h2⟩ := h
    rw [AV.beq_eq h1, Tr.beq_eq (fun a b => AV.beq_eq) h2]
  · simp only [Bool.and_eq_true, Nat.beq_eq] at h
    rw [mentsSame_eq h.1, h.2]
  · simp only [Bool.and_eq_true, Nat.beq_eq, optBeq_iff] at h
    obtain ⟨⟨rfl, rfl⟩, h1, rfl⟩ := h
    rw [natsSame_eq h1]
  · rw [bEq_iff.1 h]
  · cases h
omit [Dealing] in
theorem dfsSame_eq : ∀ {l k : List ADf}, dfsSame l k = true → l = k
  | [], [], _ => rfl
  | [], _ :: _, h => by simp [dfsSame] at h
  | _ :: _, [], h => by simp [dfsSame] at h
  | a :: r, b :: s, h => by
    simp only [dfsSame, dfSame, Bool.and_eq_true, optBeq_iff] at h
    obtain ⟨⟨h1, h2, h3⟩, h4⟩ := h
    have e1 := AV.beq_eq h2
    have e2 := AV.beq_eq h3
    rw [dfsSame_eq h4]
    cases a; cases b
    simp only at h1 e1 e2
    subst h1 e1 e2; rfl
omit [Dealing] in
theorem meetO_some {α : Type} {f : α → α → Bool} {a b : Option α} {x : α} (h : meetO f a b = some x) : a = some x ∧ ∃ y, b = some y ∧ f x y = true := by
  cases a with
  | none => cases h
  | some a =>
    cases b with
    | none => cases h
    | some b =>
      have h : bt (f a b) (some a) none = some x := h
      rw [bt_some] at h
      obtain ⟨h1, h2⟩ := h
      cases h2
      exact ⟨rfl, b, rfl, h1⟩
omit [Dealing] in
theorem meetT_get {α : Type} {f : α → α → Bool} : ∀ (p : List Q4) (s t : Tr α) {x : α}, (meetT f s t).get p = some x → s.get p = some x ∧ ∃ y, t.get p = some y ∧ f x y = true
  | [], .e, t, x, h => by cases h
  | [], .n v a b c d, .e, x, h => by cases h
  | [], .n v a b c d, .n v' a' b' c' d', x, h => meetO_some h
  | q :: p, .e, t, x, h => by cases h
  | q :: p, .n v a b c d, .e, x, h => by cases h
  | q :: p, .n v a b c d, .n v' a' b' c' d', x, h => by
    cases q
    · exact meetT_get p a a' h
    · exact meetT_get p b b' h
    · exact meetT_get p c c' h
    · exact meetT_get p d d' h
omit [Dealing] in
def TLe (T T' : Tr AV) : Prop := ∀ p v, T.get p = some v → T'.get p = some v
omit [Dealing] in
structure HLe (H H' : AH) : Prop where
  next : H.next = H'.next
  get : ∀ b o, H.get b = some o → H'.get b = some o
omit [Dealing] in
theorem meetT_l (T T' : Tr AV) : TLe (meetT AV.beq T T') T := fun p _ h => (meetT_get p T T' h).1
omit [Dealing] in
theorem meetT_r (T T' : Tr AV) : TLe (meetT AV.beq T T') T' := fun p _ h => by
  obtain ⟨_, y, h1, h2⟩ := meetT_get p T T' h
  rw [AV.beq_eq h2]; exact h1
omit [Dealing] in
theorem meetH_l (H H' : AH) : HLe (meetH H H') H := ⟨rfl, fun b _ h => (meetT_get (bits b) H.t H'.t h).1⟩
omit [Dealing] in
theorem meetH_r (H H' : AH) (hn : H.next = H'.next) : HLe (meetH H H') H' := ⟨hn, fun b _ h => by
  obtain ⟨_, y, h1, h2⟩ := meetT_get (bits b) H.t H'.t h
  rw [objSame_eq h2]; exact h1⟩
omit [Dealing] in
theorem TLe.trans {A B C : Tr AV} (h : TLe A B) (h' : TLe B C) : TLe A C := fun p v hv => h' p v (h p v hv)
omit [Dealing] in
theorem HLe.trans {A B C : AH} (h : HLe A B) (h' : HLe B C) : HLe A C := ⟨h.next.trans h'.next, fun b o hb => h'.get b o (h.get b o hb)⟩
omit [Dealing] in
def OLe : Out → Out → Prop
  | .bad, _ => True
  | .nor .., _ => False
  | .ext i T D H, o => ∃ T' H', o = .ext i T' D H' ∧ TLe T T' ∧ HLe H H'
  | .ret T D H, o => ∃ T' H', o = .ret T' D H' ∧ TLe T T' ∧ HLe H H'
omit [Dealing] in
theorem OLe.trans : ∀ {a b c : Out}, OLe a b → OLe b c → OLe a c
  | .bad, _, _, _, _ => trivial
  | .nor .., _, _, h, _ => h.elim
  | .ext i T D H, _, _, h, h' => by
    obtain ⟨T', H', rfl, h1, h2⟩ := h
    obtain ⟨T2, H2, rfl, h3, h4⟩ := h'
    exact ⟨T2, H2, rfl, h1.trans h3, h2.trans h4⟩
  | .ret T D H, _, _, h, h' => by
    obtain ⟨T', H', rfl, h1, h2⟩ := h
    obtain ⟨T2, H2, rfl, h3, h4⟩ := h'
    exact ⟨T2, H2, rfl, h1.trans h3, h2.trans h4⟩
omit [Dealing] in
theorem meetOut_le (a b : Out) : OLe (meetOut a b) a ∧ OLe (meetOut a b) b := by
  cases a with
  | bad => exact ⟨trivial, trivial⟩
  | nor T D H => exact ⟨trivial, trivial⟩
  | ext i T D H =>
    cases b with
    | ext j T' D' H' =>
      simp only [meetOut]
      cases hb : (Nat.beq i j && (dfsSame D D' && Nat.beq H.next H'.next)) with
      | false => exact ⟨trivial, trivial⟩
      | true =>
        simp only [Bool.and_eq_true, Nat.beq_eq] at hb
        obtain ⟨rfl, h1, h2⟩ := hb
        have := dfsSame_eq h1
        subst this
        exact ⟨⟨T, H, rfl, meetT_l _ _, meetH_l _ _⟩, ⟨T', H', rfl, meetT_r _ _, meetH_r _ _ h2⟩⟩
    | _ => exact ⟨trivial, trivial⟩
  | ret T D H =>
    cases b with
    | ret T' D' H' =>
      simp only [meetOut]
      cases hb : (dfsSame D D' && Nat.beq H.next H'.next) with
      | false => exact ⟨trivial, trivial⟩
      | true =>
        simp only [Bool.and_eq_true, Nat.beq_eq] at hb
        obtain ⟨h1, h2⟩ := hb
        have := dfsSame_eq h1
        subst this
        exact ⟨⟨T, H, rfl, meetT_l _ _, meetH_l _ _⟩, ⟨T', H', rfl, meetT_r _ _, meetH_r _ _ h2⟩⟩
    | _ => exact ⟨trivial, trivial⟩
omit [Dealing] in
theorem OLe.refl {o : Out} (h : ∀ T D H, o ≠ .nor T D H) : OLe o o := by
  cases o with
  | bad => trivial
  | nor T D H => exact absurd rfl (h T D H)
  | ext i T D H => exact ⟨T, H, rfl, fun _ _ h => h, rfl, fun _ _ h => h⟩
  | ret T D H => exact ⟨T, H, rfl, fun _ _ h => h, rfl, fun _ _ h => h⟩
omit [Dealing] in
theorem meetOut_not (a b : Out) : ∀ T D H, meetOut a b ≠ .nor T D H := by
  intro T D H e
  have := (meetOut_le a b).1
  rw [e] at this; exact this
omit [Dealing] in
theorem meetAll_le : ∀ (r : List Out) (o : Out), (∀ T D H, o ≠ .nor T D H) → OLe (meetAll o r) o ∧ ∀ p ∈ r, OLe (meetAll o r) p
  | [], o, h => ⟨OLe.refl h, fun p hp => by cases hp⟩
  | q :: r, o, _ => by
    obtain ⟨h1, h2⟩ := meetAll_le r (meetOut o q) (meetOut_not o q)
    refine ⟨h1.trans (meetOut_le o q).1, fun p hp => ?_⟩
    rcases List.mem_cons.1 hp with rfl | hp
    · exact h1.trans (meetOut_le o p).2
    · exact h2 p hp
omit [Dealing] in
theorem meetL_le {l : List Out} {o : Out} (ho : o ∈ l) (hn : ∀ p ∈ l, ∀ T D H, p ≠ .nor T D H) : OLe (meetL l) o := by
  cases l with
  | nil => cases ho
  | cons p r =>
    obtain ⟨h1, h2⟩ := meetAll_le r p (hn p (by simp))
    rcases List.mem_cons.1 ho with rfl | ho
    · exact h1
    · exact h2 o ho
section
variable {P : Program} {b : Frame} {n : Cx}
omit [Dealing] in
theorem Rel.less {m : Ren} {H H' : AH} {w : World} (h : Rel m H w) (hn : H'.next = H.next) (hg : ∀ b o, H'.get b = some o → H.get b = some o) : Rel m H' w :=
  ⟨fun b o hb => h.live b o (hg b o hb), fun b b' o o' i i' hb hb' => h.inj b b' o o' i i' (hg b o hb) (hg b' o' hb'), fun b i hi => by rw [hn]; exact h.bnd b i hi, h.glob⟩
omit [Dealing] in
theorem St.less {m m2 : Ren} {H H1 H2 : AH} {w w2 : World} (h : St m H w m2 H2 w2) (hl : HLe H1 H2) : St m H w m2 H1 w2 :=
  ⟨h.rel.less hl.next hl.get, h.ext, by rw [hl.next]; exact h.next, h.os, h.out, h.size, h.keep, fun b i hi hv => h.new b i hi (by
    cases hg : H1.get b with
    | none => exact absurd hg hv
    | some o => rw [hl.get b o hg]; simp)⟩
omit [Dealing] in
theorem OQ.less {K : List Item} {cs : List Frame} {m : Ren} {H : AH} {w : World} {o p : Out} (hl : OLe o p) {fr : Frame} {cs' : List Frame} {w' : World} (h : OQ b n K cs m H w p fr cs' w') : OQ b n K cs m H w o fr cs' w' := by
  cases o with
  | bad => trivial
  | nor T D H => exact hl.elim
  | ext i T D H1 =>
    obtain ⟨T', H', rfl, h1, h2⟩ := hl
    obtain ⟨h0, m2, a2, K2, g1, g2, g3, g4⟩ := h
    exact ⟨h0, m2, a2, K2, g1.less h2, ⟨⟨g2.t.size, fun t v hv => g2.t.at_ t v (h1 _ _ hv)⟩, g2.d, g2.r⟩, g3, g4⟩
  | ret T D H1 =>
    obtain ⟨T', H', rfl, h1, h2⟩ := hl
    obtain ⟨h0, m2, a2, K2, g1, g2, g3⟩ := h
    exact ⟨h0, m2, a2, K2, g1.less h2, ⟨⟨g2.t.size, fun t v hv => g2.t.at_ t v (h1 _ _ hv)⟩, g2.d, g2.r⟩, g3⟩
def OutsOk (P : Program) (b : Frame) (n : Cx) (K : List Item) (cs : List Frame) (m : Ren) (H : AH) (w : World) (s0 : Sit) (l : List Out) : Prop :=
  .bad ∈ l ∨ Gx P (fun fr cs' w' => ∃ o ∈ l, OQ b n K cs m H w o fr cs' w') s0.1 s0.2.1 s0.2.2
section
variable {P : Program} {K K' : List Item} {cs : List Frame} {m m2 : Ren} {H H2 : AH} {w w2 : World} {s0 s1 : Sit} {l l' : List Out}
theorem OutsOk.of (h : .bad ∉ l → Gx P (fun fr cs' w' => ∃ o ∈ l, OQ b n K cs m H w o fr cs' w') s0.1 s0.2.1 s0.2.2) : OutsOk P b n K cs m H w s0 l := by
  by_cases hb : .bad ∈ l
  · exact .inl hb
  · exact .inr (h hb)
theorem OutsOk.one {o : Out} (ho : o ∈ l) (h : OutOk P b n K cs m H w s0 o) : OutsOk P b n K cs m H w s0 l :=
  .of fun hb => (h.to fun e => hb (e ▸ ho)).mono fun _ _ _ h => ⟨o, ho, h⟩
theorem OutsOk.steps (hs : Steps P s0 s1) (hst : St m H w m2 H2 w2) (h : OutsOk P b n K cs m2 H2 w2 s1 l) : OutsOk P b n K cs m H w s0 l :=
  .of fun hb => hs _ ((h.resolve_left hb).mono fun _ _ _ ⟨o, ho, h⟩ => ⟨o, ho, OQ.pre hst _ _ _ h⟩)
theorem OutsOk.bind (h : OutsOk P b n K' cs m H w s0 l) (hbad : .bad ∈ l → .bad ∈ l') (hk : ∀ o ∈ l, ∀ fr cs' w', OQ b n K' cs m H w o fr cs' w' → OutsOk P b n K cs m H w (fr, cs', w') l') : OutsOk P b n K cs m H w s0 l' :=
  .of fun hb => (h.resolve_left fun e => hb (hbad e)).bind fun fr cs' w' ⟨o, ho, hq⟩ => (hk o ho fr cs' w' hq).resolve_left hb
end
end
omit [Dealing] in
theorem EntsR.at_ {m : Ren} : ∀ {l : List MEnt} {k : List MapEntry}, EntsR m l k → l.length = k.length ∧ ∀ (j : Nat) (f : MapEntry), k[j]? = some f → ∃ e, e ∈ l ∧ EntR m e f
  | _, _, .nil => ⟨rfl, fun j f h => by simp at h⟩
  | _, _, .cons e f l k h hl => by
    obtain ⟨h1, h2⟩ := EntsR.at_ hl
    refine ⟨by simp [h1], fun j g hj => ?_⟩
    cases j with
    | zero => simp at hj; subst hj; exact ⟨e, by simp, h⟩
    | succ j =>
      obtain ⟨e', a1, a2⟩ := h2 j g (by simpa using hj)
      exact ⟨e', by simp [a1], a2⟩
omit [Dealing] in
theorem optsOf_mem {r m since : Nat} {seen : List Nat} {H : AH} : ∀ {l : List MEnt} {e : MEnt}, e ∈ l → optOf r m since seen H e ∈ optsOf r m since seen H l
  | [], _, h => by cases h
  | a :: l, e, h => by
    simp only [optsOf]
    rcases List.mem_cons.1 h with rfl | h
    · simp
    · exact List.mem_cons_of_mem _ (optsOf_mem h)
omit [Dealing] in
theorem allOld_mem {since : Nat} : ∀ {l : List MEnt}, allOld since l = true → ∀ e ∈ l, e.born < since
  | [], _, e, h => by cases h
  | a :: l, h, e, he => by
    simp only [allOld, Bool.and_eq_true, Nat.blt_eq] at h
    rcases List.mem_cons.1 he with rfl | he
    · exact h.1
    · exact allOld_mem h.2 e he
section
variable {P : Program} {o : Oper}
omit [Dealing] in
theorem choose_next (k : Nat) (w : World) (hk : 0 < k) : ∃ j w', j < k ∧ (choose (.mapNext k)).run P w = .ok j w' ∧ w'.heap = w.heap ∧ w'.os = w.os ∧ w'.output = w.output := by
  rw [run_choose]
  by_cases h : (Question.mapNext k).forced = true
  · rw [if_pos h]; exact ⟨0, w, hk, rfl, rfl, rfl, rfl⟩
  · rw [if_neg h]; exact ⟨_, _, Nat.mod_lt _ hk, rfl, rfl, rfl, rfl⟩
theorem nextOpts_ok {x : Operand} (ho : o.op = .next x false) {m : Ren} {H : AH} {w : World} {T : Tr AV} {ρ : Operand → Value} (hr : Rel m H w) (he : ER m T ρ) {l : List (AV × AH)} (hk : nextOpts x T H = some l) :
    ∃ p ∈ l, Outc P (execOp ρ o) w (Post m H w p.1 p.2) := by
  simp only [nextOpts, ob_some] at hk
  obtain ⟨a, g1, hk⟩ := hk
  have e1 := he x a g1
  split at hk <;> try (cases hk; done)
  rename_i r
  obtain ⟨i, hi, ex⟩ := e1.ptr_inv
  split at hk
  · rename_i since seen st g2
    simp only [Option.some.injEq] at hk
    subst hk
    obtain ⟨y, hy, hor⟩ := hr.live _ _ g2 _ hi
    cases hor with | mitN _ _ _ _ hb0 =>
    refine ⟨(.tup (.cons (.bool false) .nil), H), List.mem_singleton.2 rfl, .value (.tuple #[.bool false]) w ?_ ⟨m, St.refl hr, .tup _ [.bool false] (.cons _ _ _ _ (.bool false) .nil)⟩⟩
    simp only [execOp, ho, ex, hb0]; apply run_v
    simp [Instr.next, run_getObj hy, Result.andThen]
  · rename_i mm since seen st g2
    obtain ⟨y, hy, hor⟩ := hr.live _ _ g2 _ hi
    cases hor with | mitS _ _ _ _ _ j hj hb0 =>
    split at hk <;> try (cases hk; done)
    rename_i es clock g3
    obtain ⟨y2, hy2, hor2⟩ := hr.live _ _ g3 _ hj
    cases hor2 with | mp en _ _ _ hen =>
    split at hk <;> try (cases hk; done)
    rename_i hcl
    simp only [Bool.and_eq_true] at hcl
    obtain ⟨⟨c1, c2⟩, c3⟩ := hcl
    have c1 := Nat.eq_of_beq_eq_true c1
    have c2 := Nat.eq_of_beq_eq_true c2
    subst c1; subst c2
    have hguard : (!seen.reverse.toArray.isEmpty && !en.isEmpty && en.all fun e => decide (e.born ≥ clock)) = false := by
      rcases anyOld_ok hen c3 with h | h
      · have : en.isEmpty = true := by simpa using h
        rw [this]; simp
      · have : (en.all fun e => decide (e.born ≥ clock)) = false := by rw [← Array.all_toList]; exact h
        rw [this]; simp
    have hleft := leftOf_ok seen hen
    split at hk
    · rename_i hl0
      rw [hl0] at hleft
      simp only [Option.some.injEq] at hk
      subst hk
      have hf : (en.filter fun e => !(seen.reverse.toArray).contains e.born) = #[] := by
        apply Array.toList_inj.1
        rw [Array.toList_filter]
        generalize en.toList.filter _ = q at hleft ⊢
        cases hleft; rfl
      refine ⟨(.tup (.cons (.bool false) .nil), H), List.mem_singleton.2 rfl, .value (.tuple #[.bool false]) w ?_ ⟨m, St.refl hr, .tup _ [.bool false] (.cons _ _ _ _ (.bool false) .nil)⟩⟩
      simp only [execOp, ho, ex, hb0]; apply run_v
      simp only [Instr.next, Sem.run_bind, run_getObj hy (by simp), Result.andThen, run_getObj hy2 (by simp), hguard, Bool.false_eq_true, if_false, hf]
      simp [Question.forced]
    · rename_i e0 l0 hl0
      rw [hl0] at hleft
      simp only [bt_some, Option.some.injEq] at hk
      obtain ⟨hold, rfl⟩ := hk
      have hold := allOld_mem hold
      generalize hL : (en.filter fun e => !(seen.reverse.toArray).contains e.born) = L at *
      have hleft : EntsR m (e0 :: l0) L.toList := by rw [← hL, Array.toList_filter]; exact hleft
      obtain ⟨hlen, hat⟩ := hleft.at_
      have hLold : ∀ f ∈ L.toList, f.born < clock := by
        intro f hf
        obtain ⟨q, hq⟩ := List.getElem?_of_mem hf
        obtain ⟨e, h1, h2⟩ := hat q f hq
        cases h2 with | mk _ _ h3 =>
        have := hold e h1; omega
      have hfo : L.filter (fun e => decide (e.born < clock)) = L := by
        apply Array.toList_inj.1
        rw [Array.toList_filter, List.filter_eq_self]
        intro f hf; simpa using hLold f hf
      have hfn : L.filter (fun e => decide (e.born ≥ clock)) = #[] := by
        apply Array.toList_inj.1
        rw [Array.toList_filter]
        rw [List.filter_eq_nil_iff]
        intro f hf; have := hLold f hf; simp; omega
      have hpos : 0 < L.size := by rw [← Array.length_toList, ← hlen]; simp
      have hne : L.isEmpty = false := by rw [Array.isEmpty_eq_false_iff]; intro e; rw [e] at hpos; simp at hpos
      have hcand : ((if L.isEmpty = true then #[none] else #[]) ++ (L ++ #[]).map some) = L.map some := by rw [hne]; simp
      obtain ⟨q, w', hq, hch, hh, hos, hout⟩ := choose_next (P := P) (L.map some).size w (by simpa using hpos)
      have hq' : q < L.size := by simpa using hq
      obtain ⟨e, hmem, hent⟩ := hat q L[q] (by rw [Array.getElem?_toList]; exact Array.getElem?_eq_getElem hq')
      cases hent with | mk k1 k2 k3 =>
      have hy' : w'.heap[i.blk]? = some (.mapIter (some j.blk) clock seen.reverse.toArray clock) := by rw [hh]; exact hy
      refine ⟨optOf r mm clock seen H e, optsOf_mem hmem, .value (.tuple #[.bool true, L[q].key, L[q].val]) { w' with heap := w'.heap.setIfInBounds i.blk (.mapIter (some j.blk) clock (seen.reverse.toArray.push L[q].born) clock) } ?_
        ⟨m, St.upd hr g2 hi ?_ (by rw [hh]) hos hout, .tup _ [.bool true, L[q].key, L[q].val] (.cons _ _ _ _ (.bool true) (.cons _ _ _ _ k1 (.cons _ _ _ _ k2 .nil)))⟩⟩
      · simp only [execOp, ho, ex, hb0]; apply run_v
        simp only [Instr.next, Sem.run_bind, run_getObj hy (by simp), Result.andThen, run_getObj hy2 (by simp), hguard, Bool.false_eq_true, if_false, hL, hfo, hfn, hcand, hch]
        simp [hq', run_setObj _ hy', Result.andThen]
      · have := OR.mitS (m := m) mm clock clock (e.born :: seen) i j hj hb0
        rw [k3] at this ⊢
        have e2 : (L[q].born :: seen).reverse.toArray = seen.reverse.toArray.push L[q].born := by simp
        rw [e2] at this
        exact this
  · cases hk
end
end Go.Xq
namespace Go.Xq
variable [Dealing]
section
variable {P : Program} {E : Env} (hE : TyOk P E) (hX : ExtRun P E) (hQ : ExtQ P E) {b : Frame} {n : Cx}
omit [Dealing] in
theorem mem_catA {f : AV × AH → List Out} {p : AV × AH} {o : Out} : ∀ {l : List (AV × AH)}, p ∈ l → o ∈ f p → o ∈ catA f l
  | [], h, _ => by cases h
  | q :: r, h, ho => by
    simp only [catA, List.mem_append]
    rcases List.mem_cons.1 h with rfl | h
    · exact .inl ho
    · exact .inr (mem_catA h ho)
omit [Dealing] in
theorem catA_not {f : AV × AH → List Out} (hf : ∀ p, ∀ o ∈ f p, ∀ T D H, o ≠ .nor T D H) : ∀ {l : List (AV × AH)}, ∀ o ∈ catA f l, ∀ T D H, o ≠ .nor T D H
  | [], o, h => by cases h
  | q :: r, o, h => by
    simp only [catA, List.mem_append] at h
    rcases h with h | h
    · exact hf q o h
    · exact catA_not hf o h
omit [Dealing] in
theorem mapBody_not {h : MH} {kr : RK} {R : Rec} {go : Tr AV → List ADf → AH → List Out} (hg : ∀ T D H, ∀ o ∈ go T D H, ∀ T' D' H', o ≠ .nor T' D' H') {T : Tr AV} {D : List ADf} (p : AV × AH) : ∀ o ∈ mapBody h kr R go T D p, ∀ T' D' H', o ≠ .nor T' D' H' := by
  intro o ho
  unfold mapBody at ho
  split at ho
  · split at ho
    · exact hg _ _ _ o ho
    all_goals (rw [List.mem_singleton] at ho; subst ho; intro _ _ _ e; cases e)
  all_goals (rw [List.mem_singleton] at ho; subst ho; intro _ _ _ e; cases e)
omit [Dealing] in
theorem mapA_not {h : MH} {kr : RK} {R : Rec} : ∀ (fuel : Nat) (T : Tr AV) (D : List ADf) (H : AH), ∀ o ∈ mapA h kr R fuel T D H, ∀ T' D' H', o ≠ .nor T' D' H'
  | 0, T, D, H, o, ho => by
    simp only [mapA, List.mem_singleton] at ho
    subst ho; intro _ _ _ e; cases e
  | f + 1, T, D, H, o, ho => by
    have ho : o ∈ oc (nextOpts h.it T H) [.bad] fun l => catA (mapBody h kr R (mapA h kr R f) T D) l := ho
    cases hn : nextOpts h.it T H with
    | none =>
      rw [hn, oc_none, List.mem_singleton] at ho
      subst ho; intro _ _ _ e; cases e
    | some l =>
      rw [hn, oc_some] at ho
      exact catA_not (mapBody_not (mapA_not f)) o ho
omit [Dealing] in
theorem mapHead_inv {rd : Bool} {a : Code} {h : MH} (hh : mapHead E n.n rd a = some h) :
    ∃ id ops o os, a = .region id ops false ∧ ops.toList = o :: os ∧ o.op = .next h.it false ∧ o.guard = none ∧ h.dst = o.dst ∧ dstOk n.n o.dst = true ∧ opsK E n.n rd ops.toList os = some h.k := by
  unfold mapHead at hh
  split at hh <;> try (cases hh; done)
  rename_i id ops draw
  split at hh <;> try (cases hh; done)
  split at hh <;> try (cases hh; done)
  rename_i o os hops
  split at hh <;> try (cases hh; done)
  rename_i it str hop
  split at hh <;> try (cases hh; done)
  split at hh <;> try (cases hh; done)
  rename_i hgu
  simp only [bt_some, ob_some, Option.some.injEq] at hh
  obtain ⟨hd, k, hk, rfl⟩ := hh
  exact ⟨id, ops, o, os, rfl, hops, hop, hgu, rfl, hd, by rw [hops]; exact hk⟩
include hE hX hQ in
theorem mapA_ok {rd : Bool} (hrd : rd = b.roundOf.isSome) {a d : Code} {h : MH} (hh : mapHead E n.n rd a = some h) {kr : RK} (hy : RKOk P b n [.code d] kr) {R : Rec} (hR : RecOk P R) :
    ∀ (fuel : Nat) (m : Ren) (H : AH) (w : World) (T : Tr AV) (D : List ADf) (ac : Act) (K : List Item) (cs : List Frame), CsOk b.kind cs → Rel m H w → FrR n m T D ac →
      OutsOk P b n (.inLoop (.seq a d) :: K) cs m H w (lone (b.atR ac (.code (.seq a d) :: .inLoop (.seq a d) :: K)) cs w) (mapA h kr R fuel T D H) := by
  obtain ⟨id, ops, o, os, rfl, hops, hop, hgu, hdst, hd, hk⟩ := mapHead_inv hh
  have hk1 : RKOk P b n [.inRegion ops (List.range' 1 os.length)] h.k := opsK_ok hE hX hQ hrd (i := 1) (by rw [hops]; rfl) hk
  have ho : ops[0]? = some o := by rw [← Array.getElem?_toList, hops]; rfl
  have hsz : List.range ops.size = 0 :: List.range' 1 os.length := by
    rw [← Array.length_toList, hops, List.range_eq_range', List.length_cons, List.range'_succ]
  intro fuel
  induction fuel with
  | zero => intro m H w T D ac K cs hcs hr hf; exact .inl (by simp [mapA])
  | succ fuel ih =>
    intro m H w T D ac K cs hcs hr hf
    show OutsOk P b n _ cs m H w _ (oc (nextOpts h.it T H) [.bad] fun l => catA (mapBody h kr R (mapA h kr R fuel) T D) l)
    cases hn : nextOpts h.it T H with
    | none => exact .inl (by simp)
    | some l =>
      rw [oc_some]
      refine OutsOk.of fun hbad => ?_
      have hw : Region.wanted o (yielded ops ac.tmps) = true := by unfold Region.wanted; rw [hgu]
      refine Steps.head stepR_seq (.one stepR_region) _ ?_
      rw [hsz]
      refine step_op (b := b) (K := .code d :: .inLoop (.seq (.region id ops false) d) :: K) (cs := cs) (rest := List.range' 1 os.length) (Q := fun v w' => ∃ p ∈ l, Post m H w p.1 p.2 v w') ho hw (Oper.semAt_eq _ _ _ (by rw [hop]; intro c e; cases e)) (fun w1 hi => ?_) ?_
      · obtain ⟨p, hp, hout⟩ := nextOpts_ok (P := P) hop (hr.idle hi) (hf.er hr) hn
        refine ⟨by simp only [execOp, hop]; exact QG.v plain_next.qg, hout.mono fun v w' hpost => ⟨p, hp, hpost.idleL hi⟩⟩
      rintro v' w1 ⟨p, hp, m1, hst1, hv1⟩
      have hf1 : FrR n m1 (putA T h.dst p.1) D (ac.put o.dst v') := by rw [hdst]; exact (hf.mono (St.le hr hst1)).put hd hv1
      have h2 := hk1 R hR m1 p.2 w1 (putA T h.dst p.1) D (ac.put o.dst v') (.code d :: .inLoop (.seq (.region id ops false) d) :: K) cs hcs hst1.rel hf1
      have mem : ∀ out, out ∈ mapBody h kr R (mapA h kr R fuel) T D p → out ∈ catA (mapBody h kr R (mapA h kr R fuel) T D) l := fun out hm => mem_catA hp hm
      have pass : ∀ {out : Out} {s : Sit}, out ∈ mapBody h kr R (mapA h kr R fuel) T D p → OutOk P b n (.inLoop (.seq (.region id ops false) d) :: K) cs m1 p.2 w1 s out →
          Gx P (fun fr cs' w' => ∃ o ∈ catA (mapBody h kr R (mapA h kr R fuel) T D) l, OQ b n (.inLoop (.seq (.region id ops false) d) :: K) cs m H w o fr cs' w') s.1 s.2.1 s.2.2 :=
        fun {out s} hm hok => (hok.to fun e => hbad (mem _ (e ▸ hm))).mono fun _ _ _ hq => ⟨out, mem _ hm, OQ.pre hst1 _ _ _ hq⟩
      cases ho1 : h.k.f R (putA T h.dst p.1) D p.2 with
      | bad => exact absurd (mem .bad (by simp [mapBody, ho1])) hbad
      | ext i T1 D1 H1 =>
        rw [ho1] at h2
        exact pass (by simp [mapBody, ho1]) (h2.extK rfl)
      | ret T1 D1 H1 =>
        rw [ho1] at h2
        exact pass (by simp [mapBody, ho1]) h2.retK
      | nor T1 D1 H1 =>
        rw [ho1] at h2
        refine Gx.bind h2 ?_
        rintro fr cs' w2 ⟨rfl, m2, a2, g1, g2, rfl⟩
        have h3 := hy R hR m2 H1 w2 T1 D1 a2 (.inLoop (.seq (.region id ops false) d) :: K) cs' hcs g1.rel g2
        cases ho2 : kr.f R T1 D1 H1 with
        | bad => exact absurd (mem .bad (by simp [mapBody, ho1, ho2])) hbad
        | ext i T2 D2 H2 =>
          rw [ho2] at h3
          exact pass (by simp [mapBody, ho1, ho2]) (OutOk.steps (.refl P _) g1 h3)
        | ret T2 D2 H2 =>
          rw [ho2] at h3
          exact pass (by simp [mapBody, ho1, ho2]) (OutOk.steps (.refl P _) g1 h3)
        | nor T2 D2 H2 =>
          rw [ho2] at h3
          refine Gx.bind h3 ?_
          rintro fr cs'' w3 ⟨rfl, m3, a3, k1, k2, rfl⟩
          have h4 := ih m3 H2 w3 T2 D2 a3 K cs'' hcs k1.rel k2
          have sub : ∀ out, out ∈ mapA h kr R fuel T2 D2 H2 → out ∈ catA (mapBody h kr R (mapA h kr R fuel) T D) l := fun out hm => mem out (by simp only [mapBody, ho1, ho2]; exact hm)
          refine Steps.one stepR_inLoop _ ((h4.resolve_left fun e => hbad (sub _ e)).mono ?_)
          rintro fr cs' w' ⟨out, hm, hq⟩
          exact ⟨out, sub out hm, OQ.pre ((hst1.trans g1).trans k1) _ _ _ hq⟩
include hE hX hQ in
theorem mapLoop_ok {rd : Bool} (hrd : rd = b.roundOf.isSome) {a d : Code} {h : MH} (hh : mapHead E n.n rd a = some h) {kr : RK} (hy : RKOk P b n [.code d] kr) : RKOk P b n [.code (.loop (.seq a d))] ⟨cMapLoop h kr⟩ := by
  intro R hR m H w T D ac K cs hcs hr hf
  have hok := mapA_ok hE hX hQ hrd hh hy hR 100 m H w T D ac K cs hcs hr hf
  have hnot := mapA_not (h := h) (kr := kr) (R := R) 100 T D H
  show OutOk P b n K cs m H w _ (meetL (mapA h kr R 100 T D H))
  refine OutOk.of fun hb => ?_
  rcases hok with hbad | hok
  · have := meetL_le hbad hnot
    cases hm : meetL (mapA h kr R 100 T D H) with
    | bad => exact absurd hm hb
    | nor => rw [hm] at this; exact this.elim
    | ext => rw [hm] at this; obtain ⟨_, _, e, _⟩ := this; cases e
    | ret => rw [hm] at this; obtain ⟨_, _, e, _⟩ := this; cases e
  · refine Steps.one stepR_loop _ (hok.mono ?_)
    rintro fr cs' w' ⟨out, hmem, hq⟩
    refine OQ.less (meetL_le hmem hnot) ?_
    cases out with
    | bad => trivial
    | nor T2 D2 H2 => exact absurd rfl (hnot _ hmem T2 D2 H2)
    | ext id T2 D2 H2 => exact hq
    | ret T2 D2 H2 => exact hq
end
end Go.Xq
namespace Go.Xq
variable [Dealing]
section
variable {P : Program} {E : Env} (hE : TyOk P E) (hX : ExtRun P E) (hQ : ExtQ P E) {b : Frame} {n : Cx}
def CmOk (P : Program) (cm : CallM) : Prop := ∀ f args H l, cm f args H = some l → Enters P f ∧ ∀ m w vs, Rel m H w → VL m args vs → XC P .normal f vs.toArray w (fun v' w' => ∃ r ∈ l, Post m H w r.1 r.2 v' w')
def MKOk (P : Program) (b : Frame) (n : Cx) (its : List Item) (k : MK) : Prop :=
  ∀ R, RecOk P R → ∀ cm, CmOk P cm → ∀ m H w T D a K cs, CsOk b.kind cs → Rel m H w → FrR n m T D a → OutsOk P b n K cs m H w (lone (b.atR a (its ++ K)) cs w) (k.f R cm T D H)
theorem oneM_ok {its : List Item} {x : RK} (hx : RKOk P b n its x) : MKOk P b n its (oneM x) :=
  fun R hR _ _ m H w T D a K cs hcs hr hf => OutsOk.one (List.mem_singleton.2 rfl) (hx R hR m H w T D a K cs hcs hr hf)
omit [Dealing] in
theorem mem_catO_nor {f : Tr AV → List ADf → AH → List Out} {T : Tr AV} {D : List ADf} {H : AH} {o : Out} : ∀ {l : List Out}, Out.nor T D H ∈ l → o ∈ f T D H → o ∈ catO f l
  | [], h, _ => by cases h
  | q :: r, h, ho => by
    simp only [catO, List.mem_append]
    rcases List.mem_cons.1 h with e | h
    · subst e; exact .inl ho
    · exact .inr (mem_catO_nor h ho)
omit [Dealing] in
theorem mem_catO_oth {f : Tr AV → List ADf → AH → List Out} {o : Out} (hn : ∀ T D H, o ≠ .nor T D H) : ∀ {l : List Out}, o ∈ l → o ∈ catO f l
  | [], h => by cases h
  | q :: r, h => by
    simp only [catO, List.mem_append]
    rcases List.mem_cons.1 h with e | h
    · subst e
      cases o with
      | bad => exact .inl (List.mem_singleton.2 rfl)
      | nor T D H => exact absurd rfl (hn T D H)
      | ext i T D H => exact .inl (List.mem_singleton.2 rfl)
      | ret T D H => exact .inl (List.mem_singleton.2 rfl)
    · exact .inr (mem_catO_oth hn h)
omit [Dealing] in
theorem mem_mapO {g : Out → Out} {o : Out} : ∀ {l : List Out}, o ∈ l → g o ∈ mapO g l
  | [], h => by cases h
  | q :: r, h => by
    simp only [mapO]
    rcases List.mem_cons.1 h with rfl | h
    · simp
    · exact List.mem_cons_of_mem _ (mem_mapO h)
omit [Dealing] in
theorem mem_endsM {l : Nat} {T : Tr AV} {D : List ADf} {p : AV × AH} : ∀ {rs : List (AV × AH)}, p ∈ rs → cRangeEnd l T D p.2 ∈ endsM l T D rs
  | [], h => by cases h
  | q :: r, h => by
    simp only [endsM]
    rcases List.mem_cons.1 h with rfl | h
    · simp
    · exact List.mem_cons_of_mem _ (mem_endsM h)
omit [Dealing] in
theorem directCall_inv {op : Op} {p : Nat × LsK} (h : directCall op = some p) : ∃ c, op = .call c ∧ c.callee = .value (.func p.1) ∧ p.2 = opnds c.args.toList := by
  unfold directCall at h
  split at h <;> try (cases h; done)
  rename_i c
  split at h <;> try (cases h; done)
  rename_i f hc
  split at h <;> try (cases h; done)
  cases h
  exact ⟨c, rfl, hc, rfl⟩
include hE hX hQ in
theorem opM_ok {o : Oper} {sp : Sp} {ops : List Oper} (hsp : spK E n.n ops o = some sp) {R : Rec} (hR : RecOk P R) {m : Ren} {H : AH} {w : World} {T : Tr AV} {ρ : Operand → Value} (hr : Rel m H w) (he : ER m T ρ) {r : AV × AH} (hk : opM sp R T H = some r) :
    (∀ c, o.op ≠ .defer c) ∧ QG P (execOp ρ o) w ∧ Outc P (execOp ρ o) w (Post m H w r.1 r.2) := by
  simp only [spK, ob_some, bt_some, Option.some.injEq] at hsp
  obtain ⟨g', _, _, rfl⟩ := hsp
  unfold opM at hk
  split at hk
  · rename_i k hact
    simp only [ob_some, Option.some.injEq] at hk
    obtain ⟨v, hv, rfl⟩ := hk
    rcases actK_look hact with h | h
    · exact ⟨look_nodefer h, lookK_q hE h hr he hv, look_outc hE h hr he hv⟩
    · rw [h] at hv; cases hv
  · rename_i k hact
    simp only [ob_some, Option.some.injEq] at hk
    obtain ⟨p, hp, rfl⟩ := hk
    have h := actK_fresh hact
    exact ⟨fresh_nodefer h, freshK_q hE h he hp, fresh_outc hE h hr he hp⟩
  · rename_i k hact
    have h := actK_heavy hact
    exact ⟨heavy_nodefer h, heavyK_q hE hQ hR h hr he hk, heavyK_ok hE hX h R hR m H w T ρ r.1 r.2 hr he hk⟩
  · cases hk
include hE hX hQ in
theorem regM_ok {ops : Array Oper} : ∀ {r : List Oper} {i : Nat} {k : MK}, ops.toList.drop i = r → regM E n.n ops.toList r = some k → MKOk P b n [.inRegion ops (List.range' i r.length)] k
  | [], i, k, _, h => by
    cases h
    intro R hR cm hcm m H w T D a K cs hcs hr hf
    exact OutsOk.one (List.mem_singleton.2 rfl) (OutOk.steps (.one stepR_region_end) (St.refl hr) (OutOk.nor (St.refl hr) hf))
  | o :: r, i, k, hd, h => by
    simp only [regM, ob_some] at h
    obtain ⟨sp, hsp, nx, hnx, h⟩ := h
    have ho : ops[i]? = some o := by
      rw [← Array.getElem?_toList]
      have : (ops.toList.drop i)[0]? = some o := by rw [hd]; rfl
      simpa using this
    have hd2 : ops.toList.drop (i + 1) = r := by
      rw [← List.drop_drop, hd]; rfl
    have ih := regM_ok hd2 hnx (i := i + 1)
    rw [List.length_cons, List.range'_succ]
    have hsp0 := hsp
    simp only [spK, ob_some, bt_some, Option.some.injEq] at hsp
    obtain ⟨g, hg, hdst, hspe⟩ := hsp
    split at h
    · cases h
    rename_i hgn
    have hgn : g = none := by rw [← hspe] at hgn; exact hgn
    subst hgn
    have hspd : sp.dst = o.dst := by rw [← hspe]
    intro R hR cm hcm m H w T D a K cs hcs hr hf
    have hw : Region.wanted o (yielded ops a.tmps) = true := want_at (m := m) (T := T) hg (fun d want e => by cases e) rfl
    split at h
    · rename_i p hdc
      cases h
      obtain ⟨c, hop, hc, hl⟩ := directCall_inv hdc
      show OutsOk P b n K cs m H w _ (oc (ob (p.2.f T) fun args => cm p.1 args H) [.bad] fun rs => catA (fun r => nx.f R cm (putA T sp.dst r.1) D r.2) rs)
      cases hcall : (ob (p.2.f T) fun args => cm p.1 args H) with
      | none => exact .inl (by simp)
      | some rs =>
        rw [oc_some]
        simp only [ob_some] at hcall
        obtain ⟨args, hargs, hcall⟩ := hcall
        rw [hl] at hargs
        obtain ⟨hen, hx⟩ := hcm _ _ _ _ hcall
        have hvl := run_map_ops (hf.er hr) hargs
        refine OutsOk.of fun hbad => ?_
        refine step_op (b := b) (K := K) (cs := cs) (rest := List.range' (i + 1) r.length) (Q := fun v' w' => ∃ q ∈ rs, Post m H w q.1 q.2 v' w') ho hw (Oper.semAt_eq _ _ _ (by rw [hop]; intro c e; cases e)) (fun w1 hi => ?_) ?_
        · have hxc := hx m w1 _ (hr.idle hi) hvl
          have hrun : (execOp a.eval o).run P w1 = .ok (.enter p.1 (c.args.map a.eval).toList.toArray) w1 := by
            have := run_enter (args := (c.args.map a.eval).toList.toArray) (w := w1) hen
            rw [← this]
            simp only [execOp, hop, resolve, hc, Act.eval, Deferred.ofValue, Sem.run_bind, Sem.run_pure, Result.andThen, invoke]
            congr 2
            apply Array.toList_inj.1; simp
          have hqq : QG P (execOp a.eval o) w1 := by
            have hres : (resolve a.eval c o.type).run P w1 = .ok { target := .fn (.func p.1) #[], args := #[] ++ c.args.map a.eval } w1 := by
              simp only [resolve, hc, Act.eval, Deferred.ofValue, Sem.run_pure]
            simp only [execOp, hop]
            refine QG.after plain_resolve hres ?_
            show QG P (callFunc p.1 (#[] ++ c.args.map a.eval ++ #[])) w1
            exact enter_q hen
          refine ⟨hqq, .enter _ _ w1 hrun (hxc.mono ?_)⟩
          rintro v' w' ⟨q, hq, hpost⟩
          exact ⟨q, hq, hpost.idleL hi⟩
        · rintro v' w1 ⟨q, hq, m1, hst1, hv1⟩
          have hf1 : FrR n m1 (putA T sp.dst q.1) D (a.put o.dst v') := by rw [hspd]; exact (hf.mono (St.le hr hst1)).put hdst hv1
          have h1 := ih R hR cm hcm m1 q.2 w1 _ D _ K cs hcs hst1.rel hf1
          refine (h1.resolve_left fun e => hbad (mem_catA hq e)).mono ?_
          rintro fr cs' w' ⟨out, hm, hqq⟩
          exact ⟨out, mem_catA hq hm, OQ.pre hst1 _ _ _ hqq⟩
    · cases h
      show OutsOk P b n K cs m H w _ (oc (opM sp R T H) [.bad] fun r => nx.f R cm (putA T sp.dst r.1) D r.2)
      cases hop : opM sp R T H with
      | none => exact .inl (by simp)
      | some q =>
        rw [oc_some]
        obtain ⟨hnd, _⟩ := opM_ok hE hX hQ hsp0 hR hr (hf.er hr) hop
        refine OutsOk.of fun hbad => ?_
        refine step_op (b := b) (K := K) (cs := cs) (rest := List.range' (i + 1) r.length) (Q := Post m H w q.1 q.2) ho hw (Oper.semAt_eq _ _ _ hnd) (fun w1 hi => ?_) ?_
        · obtain ⟨_, g1, g2⟩ := opM_ok hE hX hQ hsp0 hR (hr.idle hi) (hf.er hr) hop
          exact ⟨g1, g2.mono fun _ _ h => h.idleL hi⟩
        · rintro v' w1 ⟨m1, hst1, hv1⟩
          have hf1 : FrR n m1 (putA T sp.dst q.1) D (a.put o.dst v') := by rw [hspd]; exact (hf.mono (St.le hr hst1)).put hdst hv1
          have h1 := ih R hR cm hcm m1 q.2 w1 _ D _ K cs hcs hst1.rel hf1
          refine (h1.resolve_left hbad).mono ?_
          rintro fr cs' w' ⟨out, hm, hqq⟩
          exact ⟨out, hm, OQ.pre hst1 _ _ _ hqq⟩
omit [Dealing] in
theorem mem_catO_bad {f : Tr AV → List ADf → AH → List Out} {l : List Out} (h : Out.bad ∈ l) : Out.bad ∈ catO f l := mem_catO_oth (by intro _ _ _ e; cases e) h
theorem seqM_ok {c d : Code} {x y : MK} (hx : MKOk P b n [.code c] x) (hy : MKOk P b n [.code d] y) : MKOk P b n [.code (.seq c d)] ⟨seqM x y⟩ := by
  intro R hR cm hcm m H w T D a K cs hcs hr hf
  have h0 := hx R hR cm hcm m H w T D a (.code d :: K) cs hcs hr hf
  have hs : Steps P (lone (b.atR a ([.code (.seq c d)] ++ K)) cs w) (lone (b.atR a ([.code c] ++ (.code d :: K))) cs w) := .one stepR_seq
  show OutsOk P b n K cs m H w _ (catO (fun T D H => y.f R cm T D H) (x.f R cm T D H))
  refine OutsOk.steps hs (St.refl hr) (h0.bind mem_catO_bad fun out hmem fr cs' w' hq => ?_)
  cases out with
  | bad => exact .inl (mem_catO_bad hmem)
  | nor T2 D2 H2 =>
    obtain ⟨rfl, m2, a2, g1, g2, rfl⟩ := hq
    have h2 := hy R hR cm hcm m2 H2 w' T2 D2 a2 K cs' hcs g1.rel g2
    refine OutsOk.of fun hb => (h2.resolve_left fun e => hb (mem_catO_nor hmem e)).mono ?_
    rintro fr cs' w' ⟨out, hm, hqq⟩
    exact ⟨out, mem_catO_nor hmem hm, OQ.pre g1 _ _ _ hqq⟩
  | ext id T2 D2 H2 =>
    obtain ⟨rfl, m2, a2, K2, g1, g2, g3, rfl⟩ := hq
    exact OutsOk.one (mem_catO_oth (by intro _ _ _ e; cases e) hmem) (OutOk.ext g1 g2 g3)
  | ret T2 D2 H2 =>
    obtain ⟨rfl, m2, a2, K2, g1, g2, rfl⟩ := hq
    exact OutsOk.one (mem_catO_oth (by intro _ _ _ e; cases e) hmem) (OutOk.ret g1 g2)
theorem OQ.block {id : Nat} {K : List Item} {cs : List Frame} {m : Ren} {H : AH} {w : World} {out : Out} {fr : Frame} {cs' : List Frame} {w' : World} (h : OQ b n (.inBlock id :: K) cs m H w out fr cs' w') (hb : out ≠ .bad) : OutOk P b n K cs m H w (fr, cs', w') (bOut id out) := by
  cases out with
  | bad => trivial
  | nor T2 D2 H2 =>
    obtain ⟨rfl, m2, a2, g1, g2, rfl⟩ := h
    exact OutOk.steps (.one stepR_inBlock) (St.refl (g1.rel)) (OutOk.nor (St.refl g1.rel) g2) |> fun h => OutOk.steps (.refl P _) g1 h
  | ext id2 T2 D2 H2 =>
    obtain ⟨rfl, m2, a2, K2, g1, g2, g3, rfl⟩ := h
    simp only [exitTo] at g3
    show OutOk P b n K cs' m H w _ (bt (Nat.beq id2 id) (.nor T2 D2 H2) (.ext id2 T2 D2 H2))
    cases hb : Nat.beq id2 id with
    | true =>
      have := Nat.eq_of_beq_eq_true hb
      subst this
      simp only [beq_self_eq_true, if_true] at g3
      exact OutOk.steps (.one (stepR_exit g3)) g1 (OutOk.nor (St.refl g1.rel) g2)
    | false =>
      have hne : ¬ id = id2 := fun e => by subst e; simp at hb
      rw [if_neg (by simpa using hne)] at g3
      exact OutOk.ext g1 g2 g3
  | ret T2 D2 H2 =>
    obtain ⟨rfl, m2, a2, K2, g1, g2, rfl⟩ := h
    exact OutOk.ret g1 g2
theorem blockM_ok {id : Nat} {c : Code} {x : MK} (hx : MKOk P b n [.code c] x) : MKOk P b n [.code (.block id c)] ⟨fun R cm T D H => mapO (bOut id) (x.f R cm T D H)⟩ := by
  intro R hR cm hcm m H w T D a K cs hcs hr hf
  have h0 := hx R hR cm hcm m H w T D a (.inBlock id :: K) cs hcs hr hf
  have hbm : Out.bad ∈ x.f R cm T D H → Out.bad ∈ mapO (bOut id) (x.f R cm T D H) := fun h => mem_mapO (g := bOut id) h
  refine OutsOk.steps (.one stepR_block) (St.refl hr) (h0.bind hbm fun out hmem fr cs' w' hq => ?_)
  by_cases hb : out = .bad
  · subst hb; exact .inl (hbm hmem)
  · exact OutsOk.one (mem_mapO hmem) (hq.block hb)
end
end Go.Xq
