/- Contracts of calls and rules for code, over heaps that may hold less than the machine's. Their conditions stand in each theorem. -/
import Derived.Test.YtcfpppleiikjhaaGreatDoorZ7
import Derived.Test.YtcfpppleiikjhaaGreatDoorY9
import Derived.Test.YtcfpppleiikjhaaGreatDoorZ6
namespace Go.Xq
noncomputable section
section
variable {P : Program} {b : Frame} {n : Cx} {T : Tr AV} {D : List ADf} {H : AH} {Q : Out → Prop}
theorem outc_mono {s : Sem Next} {w : World} {Q Q' : Value → World → Prop} (h : Outc P s w Q) (hq : ∀ v w', Q v w' → Q' v w') : Outc P s w Q' := by
  cases h with
  | value v w' h hv => exact .value v w' h (hq _ _ hv)
  | skip w' h hv => exact .skip w' h (hq _ _ hv)
  | enter f args w1 h hx => exact .enter f args w1 h (hx.mono hq)
  | round l f tmps a b w1 h hx => exact .round l f tmps a b w1 h (fun c cs => by
      obtain ⟨v, w', h1, h2⟩ := hx c cs
      exact ⟨v, w', hq _ _ h1, h2⟩)
theorem WPO.next {ops : Array Oper} {o : Oper} {r : List Oper} {it : Operand} {l : List (AV × AH)} (hop : o.op = .next it false) (hg : o.guard = none) (hd : dstOk n.n o.dst = true) (ho : nextOpts it T H = some l)
    (h : ∀ p ∈ l, WPO P b n ops r (putA T o.dst p.1) D p.2 Q) : WPO P b n ops (o :: r) T D H Q :=
  WPO.op (g := none) (Q1 := fun v H2 => (v, H2) ∈ l) (by rw [hg]; rfl) rfl hd (fun c e => by rw [hop] at e; cases e)
    (fun m w ρ hr he => by
      obtain ⟨p, hp, hx⟩ := nextOpts_ok (P := P) (o := o) hop hr he ho
      exact outc_mono hx fun v' w' hq => ⟨p.1, p.2, hp, hq⟩) fun v H2 hv => h (v, H2) hv
end
def entN (j : Nat) (p : Nat × Nat) : MEnt := ⟨.int .i64 (p.1 : Int), .int .i64 (p.2 : Int), j⟩
def entsN (l : List (Nat × Nat)) : List MEnt := l.mapIdx entN
def mpN (l : List (Nat × Nat)) : AObj := .mp (entsN l) l.length
def kyI : KyK := ⟨kyInt⟩
theorem entsN_get (l : List (Nat × Nat)) (j : Nat) : (entsN l)[j]? = (l[j]?).map (entN j) := by simp [entsN]
theorem entsN_snoc (l : List (Nat × Nat)) (p : Nat × Nat) : entsN (l ++ [p]) = entsN l ++ [entN l.length p] := by simp [entsN, List.mapIdx_append]
theorem kyInt_eq (H : AH) (a b : Nat) : kyInt H (.int .i64 (a : Int)) (.int .i64 (b : Int)) = some (decide (a = b)) := by
  show bt (kEq .i64 .i64) (some (eqI (a : Int) (b : Int))) none = _
  have h1 : kEq .i64 .i64 = true := rfl
  rw [h1, bt_true]
  congr 1
  by_cases h : a = b
  · subst h
    rw [decide_eq_true rfl, eqI_dec, decide_eq_true rfl]
  · rw [decide_eq_false h, eqI_dec, decide_eq_false (by omega)]
def posN (k : Nat) (l : List (Nat × Nat)) : Option Nat := l.findIdx? fun p => decide (k = p.1)
theorem findA_from (H : AH) (k : Nat) : ∀ (l : List MEnt) (l' : List (Nat × Nat)) (i : Nat), l.map (fun e => (e.key, e.val)) = l'.map (fun p => (AV.int .i64 (p.1 : Int), AV.int .i64 (p.2 : Int))) →
    findA kyI H (.int .i64 (k : Int)) l i = some (match posN k l' with
      | none => none
      | some j => some (i + j, ((l'[j]?).map fun p => AV.int .i64 (p.2 : Int)).getD .nil))
  | [], [], i, _ => rfl
  | [], _ :: _, _, h => by simp at h
  | _ :: _, [], _, h => by simp at h
  | e :: l, p :: l', i, h => by
    simp only [List.map_cons, List.cons.injEq, Prod.mk.injEq] at h
    obtain ⟨⟨h1, h2⟩, h3⟩ := h
    unfold findA
    show ob (kyInt H (.int .i64 (k : Int)) e.key) _ = _
    rw [h1, kyInt_eq, ob_some', h2]
    unfold posN
    rw [List.findIdx?_cons]
    by_cases hk : k = p.1
    · rw [decide_eq_true hk, bt_true, if_pos rfl]
      simp
    · rw [decide_eq_false hk, bt_false, findA_from H k l l' (Nat.succ i) h3]
      simp only [Bool.false_eq_true, if_false]
      unfold posN
      cases l'.findIdx? fun p => decide (k = p.1) with
      | none => rfl
      | some j =>
        simp only [Option.map_some, List.getElem?_cons_succ]
        congr 3
        omega
theorem entsN_kv (l : List (Nat × Nat)) : (entsN l).map (fun e => (e.key, e.val)) = l.map (fun p => (AV.int .i64 (p.1 : Int), AV.int .i64 (p.2 : Int))) := by
  apply List.ext_getElem?
  intro j
  rw [List.getElem?_map, List.getElem?_map, entsN_get]
  cases l[j]? <;> rfl
theorem findN (H : AH) (k : Nat) (l : List (Nat × Nat)) : findA kyI H (.int .i64 (k : Int)) (entsN l) 0 = some (match posN k l with
      | none => none
      | some j => some (j, ((l[j]?).map fun p => AV.int .i64 (p.2 : Int)).getD .nil)) := by
  rw [findA_from H k (entsN l) l 0 (entsN_kv l)]
  cases posN k l <;> simp
def layN (l : List (Nat × Nat)) (k v : Nat) : List (Nat × Nat) := match posN k l with
  | none => l ++ [(k, v)]
  | some j => l.set j (k, v)
theorem setN_get : ∀ (n : Nat) (k v : AV) (l : List MEnt) (j : Nat), (Go.Xq.setN n k v l)[j]? = if j = n then (l[j]?).map (fun e => { e with key := k, val := v }) else l[j]?
  | _, _, _, [], j => by unfold Go.Xq.setN; simp
  | 0, k, v, e :: r, j => by
    unfold Go.Xq.setN
    cases j with
    | zero => simp
    | succ j => simp
  | n + 1, k, v, e :: r, j => by
    unfold Go.Xq.setN
    cases j with
    | zero => simp
    | succ j =>
      rw [List.getElem?_cons_succ, List.getElem?_cons_succ, setN_get n k v r j]
      by_cases h : j = n
      · rw [if_pos h, if_pos (by omega)]
      · rw [if_neg h, if_neg (by omega)]
theorem layN_ents {l : List (Nat × Nat)} {k v j : Nat} (h : posN k l = some j) : Go.Xq.setN j (.int .i64 (k : Int)) (.int .i64 (v : Int)) (entsN l) = entsN (l.set j (k, v)) := by
  have hj : j < l.length := by
    unfold posN at h
    exact (List.findIdx?_eq_some_iff_getElem.1 h).1
  apply List.ext_getElem?
  intro i
  rw [setN_get, entsN_get, entsN_get]
  by_cases e : i = j
  · subst e
    rw [if_pos rfl, List.getElem?_set_self hj, List.getElem?_eq_getElem hj]
    rfl
  · rw [if_neg e, List.getElem?_set_ne (by omega)]
theorem mapSet_ok {H : AH} {r : Nat} {l : List (Nat × Nat)} {m k v : Operand} {R : Rec} {T : Tr AV} {kn vn : Nat} (hm : opnd m T = some (.mp r)) (hk : opnd k T = some (.int .i64 (kn : Int))) (hv : opnd v T = some (.int .i64 (vn : Int))) (hr : H.get r = some (mpN l)) :
    mapSetA kyI m k v R T H = some (undefA, H.set r (mpN (layN l kn vn))) := by
  unfold mapSetA
  rw [hm, ob_some', hk, ob_some', hv, ob_some']
  show ob (H.get r) _ = _
  rw [hr, ob_some']
  show ob (findA kyI H (.int .i64 (kn : Int)) (entsN l) 0) _ = _
  rw [findN, ob_some']
  unfold layN
  cases hp : posN kn l with
  | none =>
    simp only [mpN, entsN_snoc, List.length_append, List.length_singleton]
    rfl
  | some j =>
    show some (undefA, H.set r (.mp (Go.Xq.setN j (.int .i64 (kn : Int)) (.int .i64 (vn : Int)) (entsN l)) l.length)) = _
    rw [layN_ents hp]
    simp [mpN]
def NodupK (l : List (Nat × Nat)) : Prop := (l.map (·.1)).Nodup
end
end Go.Xq
namespace Go.Xq
noncomputable section
section
variable {P : Program} {b : Frame} {n : Cx} {H : AH} {Q : Out → Prop}
theorem WP.forM {i j ic t : Nat} {opsc : Array Oper} {body : Code} {σ : Type} (cs : σ → List (Nat × AV)) (I : σ → AH → Prop) (μ : σ → Nat) {l : List (Nat × AV)} (s0 : σ) (h0 : I s0 H) (hl : lsub (cs s0) l)
    (hc : ∀ s H, I s H → WPO P b n opsc opsc.toList (tl (cs s)) [] H fun o => ∃ (c : Bool) (l' : List (Nat × AV)) (H1 : AH), o = .nor (tl l') [] H1 ∧ tget t l' = some (.bool c) ∧
      (c = false → Q (.nor (tl l') [] H1)) ∧
      (c = true → WP P b n [.code body] (tl l') [] H1 fun o => match o with
        | .nor T2 D2 H2 => D2 = [] ∧ ∃ s' l'', T2 = tl l'' ∧ lsub (cs s') l'' ∧ I s' H2 ∧ μ s' < μ s
        | .ret T2 D2 H2 => Q (.ret T2 D2 H2)
        | _ => False)) :
    WP P b n [.code (.block i (.loop (.seq (.region ic opsc false) (.seq (.cond (.tmp t) .skip (.exit i)) (.block j body)))))] (tl l) [] H Q := by
  refine WP.block (WP.loopS cs I μ s0 h0 hl fun s H hI => ?_)
  refine WP.seq ((WP.region (hc s H hI)).mono fun o ho => ?_)
  obtain ⟨c, l', H1, rfl, h2, h3, h4⟩ := ho
  refine WP.seq (WP.cond (t := c) (by rw [opnd_tl]; exact h2) (fun hc => WP.skip (.inl rfl) ?_) (fun hc => WP.exit ?_))
  · refine WP.block ((h4 hc).mono fun o ho => ?_)
    cases o with
    | bad => exact ho.elim
    | ext => exact ho.elim
    | ret => exact ho
    | nor T2 D2 H2 => exact ho
  · show Q (bOut i (.ext i (tl l') [] H1))
    rw [bOut_ext]
    exact h3 hc
end
theorem hasN_iff (x : Nat) : ∀ (l : List Nat), hasN x l = decide (x ∈ l)
  | [] => by simp [hasN]
  | y :: r => by
    unfold hasN
    rw [hasN_iff x r]
    by_cases h : x = y
    · subst h
      rw [Nat.beq_refl, bt_true]
      simp
    · have : Nat.beq x y = false := by
        cases e : Nat.beq x y with
        | false => rfl
        | true => exact absurd (Nat.eq_of_beq_eq_true e) h
      rw [this, bt_false]
      simp [h]
theorem leftOf_mem (seen : List Nat) : ∀ (l : List MEnt) (e : MEnt), e ∈ leftOf seen l ↔ e ∈ l ∧ e.born ∉ seen
  | [], e => by simp [leftOf]
  | a :: l, e => by
    unfold leftOf
    rw [hasN_iff]
    by_cases h : a.born ∈ seen
    · rw [decide_eq_true h, bt_true, leftOf_mem seen l e]
      constructor
      · rintro ⟨h1, h2⟩; exact ⟨List.mem_cons_of_mem _ h1, h2⟩
      · rintro ⟨h1, h2⟩
        rcases List.mem_cons.1 h1 with rfl | h1
        · exact absurd h h2
        · exact ⟨h1, h2⟩
    · rw [decide_eq_false h, bt_false, List.mem_cons, List.mem_cons, leftOf_mem seen l e]
      constructor
      · rintro (rfl | ⟨h1, h2⟩)
        · exact ⟨.inl rfl, h⟩
        · exact ⟨.inr h1, h2⟩
      · rintro ⟨rfl | h1, h2⟩
        · exact .inl rfl
        · exact .inr ⟨h1, h2⟩
theorem allOld_all {since : Nat} : ∀ {l : List MEnt}, (∀ e ∈ l, e.born < since) → allOld since l = true
  | [], _ => rfl
  | a :: l, h => by
    simp only [allOld, Bool.and_eq_true, Nat.blt_eq]
    exact ⟨h a (List.mem_cons_self ..), allOld_all fun e he => h e (List.mem_cons_of_mem _ he)⟩
theorem optsOf_inv {r m since : Nat} {seen : List Nat} {H : AH} : ∀ {l : List MEnt} {p : AV × AH}, p ∈ optsOf r m since seen H l → ∃ e ∈ l, p = optOf r m since seen H e
  | [], p, h => by simp [optsOf] at h
  | a :: l, p, h => by
    simp only [optsOf, List.mem_cons] at h
    rcases h with rfl | h
    · exact ⟨a, List.mem_cons_self .., rfl⟩
    · obtain ⟨e, h1, h2⟩ := optsOf_inv h
      exact ⟨e, List.mem_cons_of_mem _ h1, h2⟩
theorem entsN_mem {l : List (Nat × Nat)} {e : MEnt} (h : e ∈ entsN l) : ∃ j p, l[j]? = some p ∧ e = entN j p := by
  obtain ⟨j, hj⟩ := List.mem_iff_getElem?.1 h
  rw [entsN_get] at hj
  cases hp : l[j]? with
  | none => rw [hp] at hj; cases hj
  | some p => rw [hp] at hj; cases hj; exact ⟨j, p, hp, rfl⟩
theorem anyOld_ents (l : List (Nat × Nat)) : anyOld l.length (entsN l) = true := by
  cases l with
  | nil => rfl
  | cons p l =>
    have e : entsN (p :: l) = entN 0 p :: l.mapIdx fun i x => entN (i + 1) x := by simp [entsN, List.mapIdx_cons]
    rw [e]
    show bt (Nat.blt 0 (l.length + 1)) true _ = true
    have : Nat.blt 0 (l.length + 1) = true := by simp
    rw [this, bt_true]
theorem nextOpts_mp {it : Operand} {T : Tr AV} {H : AH} {r m : Nat} {l : List (Nat × Nat)} {seen : List Nat} (hi : opnd it T = some (.ptr r 0)) (hr : H.get r = some (.mit (some m) l.length seen l.length)) (hm : H.get m = some (mpN l)) :
    ∃ ps, nextOpts it T H = some ps ∧ ∀ p ∈ ps, ((∀ j, j < l.length → j ∈ seen) ∧ p = (.tup (.cons (.bool false) .nil), H)) ∨
      ∃ j e, l[j]? = some e ∧ j ∉ seen ∧ p = (.tup (.cons (.bool true) (.cons (.int .i64 (e.1 : Int)) (.cons (.int .i64 (e.2 : Int)) .nil))), H.set r (.mit (some m) l.length (j :: seen) l.length)) := by
  unfold nextOpts
  have hb : ((Nat.beq l.length l.length && Nat.beq l.length l.length) && anyOld l.length (entsN l)) = true := by rw [Nat.beq_refl, anyOld_ents]; rfl
  have hm : H.get m = some (.mp (entsN l) l.length) := hm
  simp only [hi, ob_some', hr, hm, hb]
  have hold : ∀ e ∈ leftOf seen (entsN l), e.born < l.length := fun e he => by
    obtain ⟨j, p, h1, rfl⟩ := entsN_mem ((leftOf_mem seen _ e).1 he).1
    exact get_lt h1
  cases hL : leftOf seen (entsN l) with
  | nil =>
    refine ⟨_, rfl, fun p hp => .inl ⟨fun j hj => ?_, by simpa using hp⟩⟩
    refine Classical.byContradiction fun hn => ?_
    have : entN j (l[j]) ∈ leftOf seen (entsN l) := (leftOf_mem _ _ _).2 ⟨List.mem_of_getElem? (i := j) (by rw [entsN_get, List.getElem?_eq_getElem hj]; rfl), hn⟩
    rw [hL] at this
    cases this
  | cons e0 l0 =>
    dsimp only
    rw [← hL]
    rw [allOld_all hold, bt_true]
    refine ⟨_, rfl, fun p hp => .inr ?_⟩
    obtain ⟨e, he, rfl⟩ := optsOf_inv hp
    obtain ⟨h1, h2⟩ := (leftOf_mem _ _ _).1 he
    obtain ⟨j, q, h3, rfl⟩ := entsN_mem h1
    exact ⟨j, q, h3, h2, rfl⟩
end
end Go.Xq
namespace Go.Xq
noncomputable section
theorem hvRange_ok {x : Operand} {R : Rec} {T : Tr AV} {H : AH} {m : Nat} {l : List (Nat × Nat)} (hx : opnd x T = some (.mp m)) (hm : H.get m = some (mpN l)) :
    hvRange x R T H = some (.ptr H.next 0, H.new (.mit (some m) l.length [] l.length)) := by
  unfold hvRange
  rw [hx, ob_some']
  show ob (H.get m) _ = _
  rw [hm, ob_some']
  rfl
theorem findB_ents : ∀ {es : List MEnt} {j : Nat} {e : MEnt}, e ∈ es → e.born = j → (∀ a ∈ es, a.born = j → a = e) → findB j es = some e
  | [], _, _, h, _, _ => by cases h
  | a :: r, j, e, h, hb, hu => by
    unfold findB
    by_cases ha : a.born = j
    · have := hu a (List.mem_cons_self ..) ha
      subst this
      rw [ha, Nat.beq_refl]
    · have hf : Nat.beq a.born j = false := by
        cases e : Nat.beq a.born j with
        | false => rfl
        | true => exact absurd (Nat.eq_of_beq_eq_true e) ha
      rw [hf]
      rcases List.mem_cons.1 h with rfl | h
      · exact absurd hb ha
      · exact findB_ents h hb fun x hx => hu x (List.mem_cons_of_mem _ hx)
theorem findB_N {l : List (Nat × Nat)} {j : Nat} {e : Nat × Nat} (h : l[j]? = some e) : findB j (entsN l) = some (entN j e) := by
  refine findB_ents (List.mem_of_getElem? (i := j) (by rw [entsN_get, h]; rfl)) rfl fun a ha hb => ?_
  obtain ⟨i, p, h1, rfl⟩ := entsN_mem ha
  have : i = j := hb
  subst this
  rw [h] at h1
  cases h1
  rfl
theorem entryA_ok {x : Operand} {T : Tr AV} {H : AH} {r m since : Nat} {l : List (Nat × Nat)} {seen : List Nat} {j : Nat} {e : Nat × Nat} (hx : opnd x T = some (.ptr r 0)) (hr : H.get r = some (.mit (some m) since (j :: seen) l.length)) (hm : H.get m = some (mpN l)) (he : l[j]? = some e) :
    entryA x T H = some (.tup (.cons (.int .i64 (e.1 : Int)) (.cons (.int .i64 (e.2 : Int)) .nil))) := by
  unfold entryA
  rw [hx, ob_some']
  show (match H.get r with
    | some (.mit (some m) _ (b :: _) st) => match H.get m with
      | some (.mp es clock) => match Nat.beq clock st with
        | true => ob (findB b es) fun e => some (AV.tup (.cons e.key (.cons e.val .nil)))
        | false => none
      | _ => none
    | _ => none) = _
  rw [hr]
  show (match H.get m with
      | some (.mp es clock) => match Nat.beq clock l.length with
        | true => ob (findB j es) fun e => some (AV.tup (.cons e.key (.cons e.val .nil)))
        | false => none
      | _ => none) = _
  rw [hm]
  show (match Nat.beq l.length l.length with
        | true => ob (findB j (entsN l)) fun e => some (AV.tup (.cons e.key (.cons e.val .nil)))
        | false => none) = _
  rw [Nat.beq_refl, findB_N he]
  rfl
def leftN (n : Nat) (seen : List Nat) : Nat := ((List.range n).filter fun j => !decide (j ∈ seen)).length
theorem filter_lt {α : Type} {p q : α → Bool} : ∀ {l : List α} {x : α}, (∀ y, q y = true → p y = true) → x ∈ l → p x = true → q x = false → (l.filter q).length < (l.filter p).length
  | [], _, _, h, _, _ => by cases h
  | a :: l, x, hq, hx, hp, hn => by
    have hle : (l.filter q).length ≤ (l.filter p).length := by
      clear hx hp hn
      induction l with
      | nil => simp
      | cons b l ih =>
        by_cases h1 : q b = true
        · rw [List.filter_cons_of_pos h1, List.filter_cons_of_pos (hq b h1)]
          simp; omega
        · rw [List.filter_cons_of_neg h1]
          by_cases h2 : p b = true
          · rw [List.filter_cons_of_pos h2]; simp; omega
          · rw [List.filter_cons_of_neg h2]; exact ih
    rcases List.mem_cons.1 hx with rfl | hx
    · rw [List.filter_cons_of_pos hp, List.filter_cons_of_neg (by rw [hn]; simp)]
      simp; omega
    · have ih := filter_lt hq hx hp hn
      by_cases h1 : q a = true
      · rw [List.filter_cons_of_pos h1, List.filter_cons_of_pos (hq a h1)]
        simp; omega
      · rw [List.filter_cons_of_neg h1]
        by_cases h2 : p a = true
        · rw [List.filter_cons_of_pos h2]; simp; omega
        · rw [List.filter_cons_of_neg h2]; exact ih
theorem leftN_lt {n j : Nat} {seen : List Nat} (hj : j < n) (hs : j ∉ seen) : leftN n (j :: seen) < leftN n seen := by
  unfold leftN
  refine filter_lt (x := j) (fun y hy => ?_) (List.mem_range.2 hj) (by simp [hs]) (by simp)
  simp at hy ⊢
  exact hy.2
structure GoodL (l : List (Nat × Nat)) (wl : List (Nat × List UInt8)) : Prop where
  uniq : ∀ (i j : Nat) (e f : Nat × Nat), l[i]? = some e → l[j]? = some f → e.1 = f.1 → i = j
  is : ∀ (j : Nat) (e : Nat × Nat), l[j]? = some e → ∃ w, wl[e.2]? = some w ∧ w.1 = e.1
theorem goodL_nil : GoodL [] [] := ⟨fun i j e f h => by simp at h, fun j e h => by simp at h⟩
theorem posN_some {k j : Nat} {l : List (Nat × Nat)} (h : posN k l = some j) : ∃ e, l[j]? = some e ∧ e.1 = k := by
  unfold posN at h
  obtain ⟨h1, h2, _⟩ := List.findIdx?_eq_some_iff_getElem.1 h
  refine ⟨l[j], List.getElem?_eq_getElem h1, ?_⟩
  have := of_decide_eq_true h2
  exact this.symm
theorem posN_none {k : Nat} {l : List (Nat × Nat)} (h : posN k l = none) : ∀ (j : Nat) (e : Nat × Nat), l[j]? = some e → e.1 ≠ k := by
  unfold posN at h
  rw [List.findIdx?_eq_none_iff] at h
  intro j e he hk
  have := h e (List.mem_of_getElem? he)
  simp at this
  exact this hk.symm
theorem GoodL.lay {l : List (Nat × Nat)} {wl : List (Nat × List UInt8)} (h : GoodL l wl) (w : Nat × List UInt8) : GoodL (layN l w.1 wl.length) (wl ++ [w]) := by
  have old : ∀ (j : Nat) (e : Nat × Nat), l[j]? = some e → ∃ u, (wl ++ [w])[e.2]? = some u ∧ u.1 = e.1 := fun j e he => by
    obtain ⟨u, h1, h2⟩ := h.is j e he
    exact ⟨u, by rw [List.getElem?_append_left (get_lt h1)]; exact h1, h2⟩
  have new : (wl ++ [w])[wl.length]? = some w := by simp
  unfold layN
  cases hp : posN w.1 l with
  | none =>
    have hn := posN_none hp
    have split : ∀ (j : Nat) (e : Nat × Nat), (l ++ [(w.1, wl.length)])[j]? = some e → l[j]? = some e ∨ (j = l.length ∧ e = (w.1, wl.length)) := fun j e he => by
      rcases Nat.lt_or_ge j l.length with hj | hj
      · rw [List.getElem?_append_left hj] at he; exact .inl he
      · have hl := get_lt he
        simp at hl
        have : j = l.length := by omega
        subst this
        simp at he
        exact .inr ⟨rfl, he.symm⟩
    refine ⟨fun i j e f he hf hk => ?_, fun j e he => ?_⟩
    · rcases split i e he with he | ⟨rfl, rfl⟩
      · rcases split j f hf with hf | ⟨rfl, rfl⟩
        · exact h.uniq i j e f he hf hk
        · exact absurd hk (hn i e he)
      · rcases split j f hf with hf | ⟨rfl, rfl⟩
        · exact absurd hk.symm (hn j f hf)
        · rfl
    · rcases split j e he with he | ⟨rfl, rfl⟩
      · exact old j e he
      · exact ⟨w, new, rfl⟩
  | some p =>
    obtain ⟨q, hq, hqk⟩ := posN_some hp
    have hpl := get_lt hq
    have split : ∀ (j : Nat) (e : Nat × Nat), (l.set p (w.1, wl.length))[j]? = some e → (j ≠ p ∧ l[j]? = some e) ∨ (j = p ∧ e = (w.1, wl.length)) := fun j e he => by
      by_cases hj : j = p
      · subst hj
        rw [List.getElem?_set_self hpl] at he
        exact .inr ⟨rfl, (Option.some.inj he).symm⟩
      · rw [List.getElem?_set_ne (by omega)] at he
        exact .inl ⟨hj, he⟩
    refine ⟨fun i j e f he hf hk => ?_, fun j e he => ?_⟩
    · rcases split i e he with ⟨hi, he2⟩ | ⟨hi, rfl⟩
      · rcases split j f hf with ⟨hj, hf2⟩ | ⟨hj, rfl⟩
        · exact h.uniq i j e f he2 hf2 hk
        · exact absurd (h.uniq i p e q he2 hq (hk.trans hqk.symm)) hi
      · rcases split j f hf with ⟨hj, hf2⟩ | ⟨hj, rfl⟩
        · exact absurd (h.uniq j p f q hf2 hq (hk.symm.trans hqk.symm)) hj
        · rw [hi, hj]
    · rcases split j e he with ⟨_, he⟩ | ⟨rfl, rfl⟩
      · exact old j e he
      · exact ⟨w, new, rfl⟩
def imgL (P : Nat) (safe : List UInt8) (wl : List (Nat × List UInt8)) (l : List (Nat × Nat)) : List UInt8 := safe.mapIdx fun k x => match l.find? fun e => decide (e.1 = k / P) with
  | none => x
  | some e => ((wl[e.2]?).bind fun w => w.2[k % P]?).getD x
theorem imgL_len (P : Nat) (safe : List UInt8) (wl : List (Nat × List UInt8)) (l : List (Nat × Nat)) : (imgL P safe wl l).length = safe.length := by simp [imgL]
theorem imgL_nil (P : Nat) (safe : List UInt8) (wl : List (Nat × List UInt8)) : imgL P safe wl [] = safe := by
  apply List.ext_getElem?
  intro k
  simp [imgL]
structure Img (P : Nat) (safe : List UInt8) (wl : List (Nat × List UInt8)) (l : List (Nat × Nat)) (seen : List Nat) (out : List UInt8) : Prop where
  len : out.length = safe.length
  yes : ∀ (k j : Nat) (e : Nat × Nat) (w : Nat × List UInt8), k < safe.length → j ∈ seen → l[j]? = some e → e.1 = k / P → wl[e.2]? = some w → out[k]? = w.2[k % P]?
  no : ∀ k : Nat, (∀ (j : Nat) (e : Nat × Nat), j ∈ seen → l[j]? = some e → e.1 ≠ k / P) → out[k]? = safe[k]?
theorem Img.start (P : Nat) (safe : List UInt8) (wl : List (Nat × List UInt8)) (l : List (Nat × Nat)) : Img P safe wl l [] safe := ⟨rfl, fun k j e w _ h => (by cases h), fun k _ => rfl⟩
theorem Img.all {P : Nat} {safe : List UInt8} {wl : List (Nat × List UInt8)} {l : List (Nat × Nat)} {seen : List Nat} {out : List UInt8} (h : Img P safe wl l seen out) (hg : GoodL l wl) (hP : 0 < P) (hw : ∀ (i : Nat) (w : Nat × List UInt8), wl[i]? = some w → w.2.length = P) (ha : ∀ j, j < l.length → j ∈ seen) : out = imgL P safe wl l := by
  apply List.ext_getElem?
  intro k
  rcases Nat.lt_or_ge k safe.length with hk | hk
  · have hx : safe[k]? = some (safe[k]) := List.getElem?_eq_getElem hk
    have e1 : (imgL P safe wl l)[k]? = some (match l.find? fun e => decide (e.1 = k / P) with
        | none => safe[k]
        | some e => ((wl[e.2]?).bind fun w => w.2[k % P]?).getD (safe[k])) := by simp only [imgL, List.getElem?_mapIdx, hx, Option.map_some]
    rw [e1]
    cases hf : l.find? fun e => decide (e.1 = k / P) with
    | none =>
      rw [h.no k fun j e _ he hk2 => ?_, hx]
      have := List.find?_eq_none.1 hf e (List.mem_of_getElem? he)
      simp [hk2] at this
    | some e =>
      have hm := List.mem_of_find?_eq_some hf
      have hk2 : e.1 = k / P := by have := List.find?_some hf; simpa using this
      obtain ⟨j, hj⟩ := List.mem_iff_getElem?.1 hm
      obtain ⟨w, h1, _⟩ := hg.is j e hj
      rw [h.yes k j e w hk (ha j (get_lt hj)) hj hk2 h1]
      have hl := hw _ w h1
      have hlt : k % P < w.2.length := by rw [hl]; exact Nat.mod_lt _ hP
      simp only [h1, Option.bind_some, List.getElem?_eq_getElem hlt, Option.getD_some]
  · rw [List.getElem?_eq_none (by rw [h.len]; exact hk), List.getElem?_eq_none (by rw [imgL_len]; exact hk)]
theorem Img.step {P : Nat} {safe : List UInt8} {wl : List (Nat × List UInt8)} {l : List (Nat × Nat)} {seen : List Nat} {out : List UInt8} (h : Img P safe wl l seen out) (hg : GoodL l wl) (hP : 0 < P) {j : Nat} {e : Nat × Nat} {w : Nat × List UInt8} (hj : l[j]? = some e) (hs : j ∉ seen) (hw : wl[e.2]? = some w) (hl : w.2.length = P) (hb : e.1 * P + P ≤ safe.length) :
    Img P safe wl l (j :: seen) (putL out (e.1 * P) w.2) := by
  have hlen := h.len
  have hpl : (putL out (e.1 * P) w.2).length = safe.length := by rw [putL_len (by omega), hlen]
  have get : ∀ k, (putL out (e.1 * P) w.2)[k]? = if e.1 = k / P then w.2[k % P]? else out[k]? := fun k => by
    rw [putL_get _ _ _ _ (by omega)]
    have hdm := Nat.div_add_mod k P
    by_cases hk : e.1 = k / P
    · have hmod := Nat.mod_lt k hP
      have e2 : e.1 * P = P * (k / P) := by rw [hk, Nat.mul_comm]
      rw [if_pos ⟨by omega, by omega⟩, if_pos hk]
      congr 1
      omega
    · rw [if_neg hk, if_neg]
      rintro ⟨h1, h2⟩
      apply hk
      have h3 : k / P = e.1 := by
        apply Nat.div_eq_of_lt_le
        · rw [Nat.mul_comm] at h1 ⊢; omega
        · rw [Nat.succ_mul]; omega
      exact h3.symm
  refine ⟨hpl, fun k i f u hk hi hf hfk hu => ?_, fun k hn => ?_⟩
  · rw [get]
    rcases List.mem_cons.1 hi with rfl | hi
    · rw [hj] at hf
      cases hf
      rw [hw] at hu
      cases hu
      rw [if_pos hfk]
    · have hne : ¬ e.1 = k / P := fun he => hs (by have := hg.uniq j i e f hj hf (he.trans hfk.symm); rw [this]; exact hi)
      rw [if_neg hne]
      exact h.yes k i f u hk hi hf hfk hu
  · rw [get, if_neg (hn j e (List.mem_cons_self ..) hj)]
    exact h.no k fun i f hi hf => hn i f (List.mem_cons_of_mem _ hi) hf
end
end Go.Xq
namespace Go.Xq
noncomputable section
namespace Tr
variable {α : Type}
theorem put_put_same (x y : Option α) : ∀ (p : List Q4) (t : Tr α), put x p (put y p t) = put x p t
  | [], .e => rfl
  | [], .n .. => rfl
  | q :: p, .e => by cases q <;> simp [put_put_same x y p]
  | q :: p, .n .. => by cases q <;> simp [put_put_same x y p]
theorem put_comm (x y : Option α) : ∀ (p q : List Q4) (t : Tr α), p ≠ q → put x p (put y q t) = put y q (put x p t)
  | [], [], _, h => absurd rfl h
  | [], r :: q, .e, _ => by cases r <;> rfl
  | [], r :: q, .n .., _ => by cases r <;> rfl
  | s :: p, [], .e, _ => by cases s <;> rfl
  | s :: p, [], .n .., _ => by cases s <;> rfl
  | s :: p, r :: q, .e, h => by
    cases s <;> cases r <;> simp <;> exact put_comm x y p q .e (fun e => h (by rw [e]))
  | s :: p, r :: q, .n .., h => by
    cases s <;> cases r <;> simp <;> exact put_comm x y p q _ (fun e => h (by rw [e]))
theorem put_self (o : α) : ∀ (p : List Q4) (t : Tr α), get p t = some o → put (some o) p t = t
  | [], .e, h => by cases h
  | [], .n v .., h => by have h : v = some o := h; subst h; rfl
  | _ :: _, .e, h => by cases h
  | q :: p, .n .., h => by cases q <;> simp at h ⊢ <;> exact put_self o p _ h
end Tr
theorem AH.set_self (h : AH) {b : Nat} {o : AObj} (hg : h.get b = some o) : h.set b o = h := by
  cases h with | mk nx t =>
  show AH.mk nx (Tr.put (some o) (bits b) t) = AH.mk nx t
  rw [Tr.put_self o _ _ hg]
theorem AH.set_set (h : AH) (b : Nat) (o o2 : AObj) : (h.set b o).set b o2 = h.set b o2 := by
  cases h with | mk nx t =>
  show AH.mk nx (Tr.put (some o2) (bits b) (Tr.put (some o) (bits b) t)) = AH.mk nx (Tr.put (some o2) (bits b) t)
  rw [Tr.put_put_same]
theorem AH.kill_set (h : AH) (b : Nat) (o : AObj) : (h.set b o).kill b = h.kill b := by
  cases h with | mk nx t =>
  show AH.mk nx (Tr.put none (bits b) (Tr.put (some o) (bits b) t)) = AH.mk nx (Tr.put none (bits b) t)
  rw [Tr.put_put_same]
theorem AH.set_comm (h : AH) {b c : Nat} (o o2 : AObj) (hn : b ≠ c) : (h.set b o).set c o2 = (h.set c o2).set b o := by
  cases h with | mk nx t =>
  show AH.mk nx (Tr.put (some o2) (bits c) (Tr.put (some o) (bits b) t)) = AH.mk nx (Tr.put (some o) (bits b) (Tr.put (some o2) (bits c) t))
  rw [Tr.put_comm _ _ _ _ _ (bits_ne (Ne.symm hn))]
theorem AH.kill_comm (h : AH) {b c : Nat} (o : AObj) (hn : b ≠ c) : (h.set b o).kill c = (h.kill c).set b o := by
  cases h with | mk nx t =>
  show AH.mk nx (Tr.put none (bits c) (Tr.put (some o) (bits b) t)) = AH.mk nx (Tr.put (some o) (bits b) (Tr.put none (bits c) t))
  rw [Tr.put_comm _ _ _ _ _ (bits_ne (Ne.symm hn))]
theorem AC.forget {P : Program} {k f args H} {Q : AV → AH → Prop} (h : AC P k f args H Q) (b : Nat) : AC P k f args H fun v H' => ∃ H2, Q v H2 ∧ H' = H2.kill b :=
  ⟨h.1, fun m w vs hr hl => (h.2 m w vs hr hl).mono fun _ _ ⟨v, H2, q, m2, hst, hv⟩ => ⟨v, H2.kill b, ⟨H2, q, rfl⟩, m2, hst.trans (St.kill hst.rel b), hv⟩⟩
end
end Go.Xq
namespace Go.Xq
noncomputable section
theorem leNat_mod (l : List UInt8) {n : Nat} (hn : n ≤ l.length) : leNat l % 256 ^ n = leNat (l.take n) := by
  have h := leNat_append (l.take n) (l.drop n)
  rw [List.take_append_drop, List.length_take, Nat.min_eq_left hn] at h
  rw [h, Nat.add_mul_mod_self_left, Nat.mod_eq_of_lt]
  have := leNat_lt (l.take n)
  rwa [List.length_take, Nat.min_eq_left hn] at this
theorem copyA_most {H : AH} {b e n off : Nat} {cap : Option Nat} {o : Bool} {k l : List UInt8} {v : AV} (hb : H.get b = some (bb e o k)) (hn : off + n ≤ k.length) (h1 : lengthA v = some l.length) (h2 : bytesA H v = some (l.length, leNat l)) (hl : n ≤ l.length) (hn0 : 0 < n) :
    copyA H 1 (.sl b off n cap) v = some (.int .i64 (n : Int), H.set b (bb e o (putL k off (l.take n)))) := by
  have htl : (l.take n).length = n := by rw [List.length_take, Nat.min_eq_left hl]
  unfold copyA
  rw [h1, ob_some', onSl_sl]
  have hmin : Nat.min l.length n = n := Nat.min_eq_right hl
  rw [hmin]
  obtain ⟨j, hj⟩ : ∃ j, n = j + 1 := ⟨n - 1, by omega⟩
  have hnc : nc n (some (AV.int .i64 (.ofNat 0), H)) (fun _ => ob (layA H 1 b off n v) fun H' => some (AV.int .i64 (.ofNat n), H')) = ob (layA H 1 b off n v) fun H' => some (AV.int .i64 (.ofNat n), H') := by
    conv => lhs; arg 1; rw [hj]
    rw [nc_succ]
  rw [hnc]
  have : layA H 1 b off n v = some (H.set b (bb e o (putL k off (l.take n)))) := by
    unfold layA
    rw [hb, ob_some']
    show bt (Nat.beq 1 1) (ob (bytesA H v) fun r => ob (overBlk off n r.2 e k.length o (leNat k)) fun o' => some (H.set b o')) none = _
    rw [Nat.beq_refl, bt_true, h2, ob_some']
    have hov : overBlk off n (leNat l) e k.length o (leNat k) = some (bb e o (putL k off (l.take n))) := by
      unfold overBlk
      rw [ble_true (by show off + n ≤ k.length; omega), bt_true]
      have hp : Nat.shiftLeft 1 (Nat.mul 8 n) = 256 ^ n := by rw [shift_bytes, Nat.mul_one]
      have hmod : Nat.mod (leNat l) (Nat.shiftLeft 1 (Nat.mul 8 n)) = leNat (l.take n) := by rw [hp]; exact leNat_mod l hl
      rw [hmod]
      generalize l.take n = t at htl
      have hlen : (putL k off t).length = k.length := putL_len (by omega)
      have hle : overN (leNat k) off n (leNat t) = leNat (putL k off t) := by
        rw [← htl]
        refine leNat_ext hlen (overN_lt (by omega) (leNat_lt t) (leNat_lt k)) fun i hi => ?_
        rw [byteAt_over _ _ _ _ _ (leNat_lt t)]
        have hg := putL_get k t off i (by omega)
        by_cases h3 : i < off
        · rw [if_neg (by omega)] at hg
          refine ⟨k[i], by rw [hg, List.getElem?_eq_getElem hi], ?_⟩
          rw [if_pos h3]
          exact byteAt_leNat (List.getElem?_eq_getElem hi)
        · by_cases h4 : i < off + t.length
          · rw [if_pos ⟨by omega, h4⟩] at hg
            refine ⟨t[i - off]'(by omega), by rw [hg, List.getElem?_eq_getElem (by omega)], ?_⟩
            rw [if_neg h3, if_pos h4]
            exact byteAt_leNat (List.getElem?_eq_getElem (by omega))
          · rw [if_neg (by omega)] at hg
            refine ⟨k[i], by rw [hg, List.getElem?_eq_getElem hi], ?_⟩
            rw [if_neg h3, if_neg h4]
            exact byteAt_leNat (List.getElem?_eq_getElem hi)
      rw [hle, bb, hlen]
    rw [hov, ob_some']
  rw [this, ob_some']; rfl
end
end Go.Xq
