/- A part of the proof of this seat's statement. Conditions: in each theorem. -/
import Derived.Test.YtnodjhgmghkikaaGreatW14
namespace Go.Xq
theorem Tr.beq_eq {α : Type} {f : α → α → Bool} (hf : ∀ a b, f a b = true → a = b) : ∀ {s t : Tr α}, Tr.beq f s t = true → s = t := by
  intro s
  induction s with
  | e => intro t h; cases t <;> simp_all [Tr.beq]
  | n v a b c d iha ihb ihc ihd =>
    intro t h
    cases t with
    | e => simp [Tr.beq] at h
    | n v' a' b' c' d' =>
      simp only [Tr.beq, Bool.and_eq_true] at h
      obtain ⟨h0, ⟨h1, h2⟩, h3, h4⟩ := h
      rw [iha h1, ihb h2, ihc h3, ihd h4]
      cases v <;> cases v' <;> first | rfl | (simp at h0; done) | (rw [hf _ _ h0])
theorem objBeq_eq {a b : AObj} (h : objBeq a b = true) : a = b := by
  unfold objBeq at h
  split at h
  · simp only [Bool.and_eq_true, Nat.beq_eq, bEq_iff] at h
    obtain ⟨⟨rfl, rfl⟩, rfl, rfl⟩ := h; rfl
  · simp only [Bool.and_eq_true, Nat.beq_eq, bEq_iff] at h
    obtain ⟨⟨⟨rfl, rfl⟩, rfl, rfl⟩, h1, h2⟩ := h
    rw [AV.beq_eq h1, Tr.beq_eq (fun a b => AV.beq_eq) h2]
  · rw [Nat.eq_of_beq_eq_true h]
  · simp only [Bool.and_eq_true, Nat.beq_eq, optBeq_iff] at h
    obtain ⟨rfl, rfl, rfl⟩ := h; rfl
  · cases h
theorem binds_any (e : Edge) : Region.binds .any e = bindsA e := by
  unfold Region.binds bindsA; cases e.ground <;> rfl
theorem bit_shl (i k : Nat) : Nat.testBit (Nat.shiftLeft 1 i) k = true ↔ k = i := by
  have e : Nat.shiftLeft 1 i = 2 ^ i := Nat.one_shiftLeft i
  rw [e, Nat.testBit_two_pow]; simp [eq_comm]
theorem bit_lor (a b k : Nat) : Nat.testBit (Nat.lor a b) k = true ↔ (Nat.testBit a k = true ∨ Nat.testBit b k = true) := by
  have e : Nat.lor a b = a ||| b := rfl
  rw [e, Nat.testBit_or, Bool.or_eq_true]
theorem bit_set (a i k : Nat) : Nat.testBit (setBit a i) k = true ↔ (Nat.testBit a k = true ∨ k = i) := by
  unfold setBit; rw [bit_lor, bit_shl]
theorem maskOf_mem {pm : Tr Nat} {k : Nat} : ∀ {l : List Edge}, Nat.testBit (maskOf pm l) k = true → ∃ e ∈ l, bindsA e = true ∧ (k = e.on ∨ Nat.testBit (mAt pm e.on) k = true)
  | [], h => by simp [maskOf] at h
  | e :: r, h => by
    simp only [maskOf] at h
    cases hb : bindsA e with
    | true =>
      rw [hb, bt_true, bit_lor, bit_lor, bit_shl] at h
      rcases h with (h | h) | h
      · exact ⟨e, by simp, hb, .inl h⟩
      · exact ⟨e, by simp, hb, .inr h⟩
      · obtain ⟨e', h1, h2⟩ := maskOf_mem h; exact ⟨e', by simp [h1], h2⟩
    | false =>
      rw [hb, bt_false] at h
      obtain ⟨e', h1, h2⟩ := maskOf_mem h; exact ⟨e', by simp [h1], h2⟩
theorem maskOf_congr {pm pm' : Tr Nat} : ∀ {l : List Edge}, (∀ e ∈ l, bindsA e = true → mAt pm e.on = mAt pm' e.on) → maskOf pm l = maskOf pm' l
  | [], _ => rfl
  | e :: r, h => by
    have ih := maskOf_congr (l := r) fun e' he' => h e' (by simp [he'])
    simp only [maskOf]
    cases hb : bindsA e with
    | true =>
      have := h e (by simp) hb
      unfold mAt at this
      simp only [bt_true, this, ih]
    | false => simp only [bt_false, ih]
theorem edgesOk_mem : ∀ {l : List Oper} {i : Nat}, edgesOk l i = true → ∀ q o, l[q]? = some o → ∀ e ∈ o.after.toList, bindsA e = true → e.on < i + q
  | [], _, _, q, o, h, _, _, _ => by simp at h
  | o :: r, i, h, q, o', hq, e, he, hb => by
    simp only [edgesOk, Bool.and_eq_true, List.all_eq_true] at h
    cases q with
    | zero =>
      simp only [List.getElem?_cons_zero, Option.some.injEq] at hq
      subst hq
      have := h.1 e he
      simpa [hb, Nat.blt_eq] using this
    | succ q =>
      have := edgesOk_mem h.2 q o' (by simpa using hq) e he hb
      have e1 : Nat.add i 1 = i + 1 := rfl
      omega
theorem masks_spec : ∀ {l : List Oper} {i : Nat} {pm : Tr Nat}, edgesOk l i = true → (∀ k, k < i → mAt (masks l i pm) k = mAt pm k) ∧ ∀ q o, l[q]? = some o → mAt (masks l i pm) (i + q) = maskOf (masks l i pm) o.after.toList
  | [], i, pm, _ => ⟨fun _ _ => rfl, fun q o h => by simp at h⟩
  | o :: r, i, pm, h => by
    have h0 := h
    simp only [edgesOk, Bool.and_eq_true, List.all_eq_true] at h
    obtain ⟨g1, g2⟩ := masks_spec (pm := pm.put (some (maskOf pm o.after.toList)) (bits i)) h.2
    have e1 : Nat.add i 1 = i + 1 := rfl
    have low : ∀ k, k < i → mAt (masks (o :: r) i pm) k = mAt pm k := by
      intro k hk
      have := g1 k (by omega)
      simp only [masks, this]
      unfold mAt
      rw [Tr.get_put_ne _ _ _ _ (bits_ne (by omega))]
    refine ⟨low, fun q o' hq => ?_⟩
    cases q with
    | zero =>
      simp only [List.getElem?_cons_zero, Option.some.injEq] at hq
      subst hq
      have hc : maskOf (masks (o :: r) i pm) o.after.toList = maskOf pm o.after.toList := by
        apply maskOf_congr
        intro e he hb
        have := edgesOk_mem h0 0 o rfl e he hb
        exact low _ (by omega)
      rw [hc]
      have := g1 i (by omega)
      simp only [masks, Nat.add_zero, this]
      unfold mAt
      rw [Tr.get_put_same]; rfl
    | succ q =>
      have := g2 q o' (by simpa using hq)
      have e2 : i + (q + 1) = Nat.add i 1 + q := by omega
      rw [e2]; exact this
theorem masks_closed {ops : List Oper} (he : edgesOk ops 0 = true) {L : Nat → Prop} (hd : ∀ i o, ops[i]? = some o → L i → ∀ e ∈ o.after.toList, bindsA e = true → L e.on) :
    ∀ i, i < ops.length → L i → ∀ k, Nat.testBit (mAt (masks ops 0 .e) i) k = true → L k := by
  intro i
  induction i using Nat.strongRecOn with
  | _ i ih =>
    intro hi hL k hk
    have ho : ops[i]? = some ops[i] := List.getElem?_eq_getElem hi
    have h1 := (masks_spec (pm := .e) he).2 i _ ho
    rw [Nat.zero_add] at h1
    rw [h1] at hk
    obtain ⟨e, h2, h3, h4⟩ := maskOf_mem hk
    have h5 := hd i _ ho hL e h2 h3
    rcases h4 with rfl | h4
    · exact h5
    · have := edgesOk_mem he i _ ho e h2 h3
      exact ih e.on (by omega) (by omega) h5 k h4
section
variable {E : Env}
theorem ros_spec {n : Nat} {all : List Oper} {pm : Tr Nat} {hv : List Nat} : ∀ {l : List Oper} {i : Nat} {r : List RO}, ros E n all pm hv l i = some r →
    ∀ x ∈ r, ∃ q, x.i = i + q ∧ l[q]? = some x.o ∧ spK E n all x.o = some x.sp ∧ x.heavy = isHv x.sp.act ∧ x.lo = countLo (mAt pm x.i) hv ∧ x.hi = countHi pm x.i hv
  | [], _, r, h, x, hx => by cases h; simp at hx
  | o :: l, i, r, h, x, hx => by
    simp only [ros, ob_some, Option.some.injEq] at h
    obtain ⟨sp, h1, l', h2, rfl⟩ := h
    rcases List.mem_cons.1 hx with rfl | hx
    · exact ⟨0, rfl, rfl, h1, rfl, rfl, rfl⟩
    · obtain ⟨q, g1, g2⟩ := ros_spec h2 x hx
      refine ⟨q + 1, ?_, by simpa using g2⟩
      rw [g1]; show i + 1 + q = _; omega
theorem mem_stageOf {j : Nat} : ∀ {l : List RO} {x}, x ∈ stageOf j l → x ∈ l
  | [], _, h => by simp [stageOf] at h
  | y :: r, x, h => by
    simp only [stageOf] at h
    split at h
    · rcases List.mem_cons.1 h with rfl | h
      · simp
      · simp [mem_stageOf h]
    · simp [mem_stageOf h]
theorem mem_heavyOf {j : Nat} : ∀ {l : List RO} {x}, x ∈ heavyOf j l → x ∈ l
  | [], _, h => by simp [heavyOf] at h
  | y :: r, x, h => by
    simp only [heavyOf] at h
    split at h
    · rcases List.mem_cons.1 h with rfl | h
      · simp
      · simp [mem_heavyOf h]
    · simp [mem_heavyOf h]
theorem mem_orderOf {l : List RO} : ∀ {k j : Nat} {x}, x ∈ orderOf l k j → x ∈ l
  | 0, _, _, h => mem_stageOf h
  | k + 1, j, x, h => by
    simp only [orderOf, List.mem_append] at h
    rcases h with h | h | h
    · exact mem_stageOf h
    · exact mem_heavyOf h
    · exact mem_orderOf h
theorem heavies_mem : ∀ {l : List Oper} {i k : Nat}, k ∈ heavies E l i → ∃ q o, k = i + q ∧ l[q]? = some o ∧ isHv (actK E o.op) = true
  | [], _, _, h => by simp [heavies] at h
  | o :: r, i, k, h => by
    have step : k ∈ heavies E r (Nat.add i 1) → ∃ q o', k = i + q ∧ (o :: r)[q]? = some o' ∧ isHv (actK E o'.op) = true := by
      intro h
      obtain ⟨q, o', h1, h2, h3⟩ := heavies_mem h
      refine ⟨q + 1, o', ?_, by simpa using h2, h3⟩
      rw [h1]; show i + 1 + q = _; omega
    simp only [heavies] at h
    split at h
    · rename_i hh
      rcases List.mem_cons.1 h with rfl | h
      · exact ⟨0, o, rfl, rfl, hh⟩
      · exact step h
    · exact step h
theorem heavies_inc : ∀ {l : List Oper} {i : Nat}, (heavies E l i).Pairwise (· < ·)
  | [], _ => .nil
  | o :: r, i => by
    simp only [heavies]
    split
    · refine .cons (fun k hk => ?_) heavies_inc
      obtain ⟨q, o', h1, _⟩ := heavies_mem hk
      have : Nat.add i 1 = i + 1 := rfl
      omega
    · exact heavies_inc
theorem heavies_nodup {l : List Oper} {i p q k : Nat} (hp : (heavies E l i)[p]? = some k) (hq : (heavies E l i)[q]? = some k) : p = q := by
  have h := heavies_inc (E := E) (l := l) (i := i)
  rw [List.pairwise_iff_getElem] at h
  obtain ⟨a1, a2⟩ := List.getElem?_eq_some_iff.1 hp
  obtain ⟨b1, b2⟩ := List.getElem?_eq_some_iff.1 hq
  rcases Nat.lt_trichotomy p q with g | g | g
  · have := h p q a1 b1 g; omega
  · exact g
  · have := h q p b1 a1 g; omega
end
theorem countLo_spec {m : Nat} : ∀ {hv : List Nat} {q : Nat}, q < countLo m hv → ∃ h, hv[q]? = some h ∧ Nat.testBit m h = true
  | [], q, h => by simp [countLo] at h
  | a :: r, q, h => by
    simp only [countLo] at h
    split at h
    · rename_i ht
      cases q with
      | zero => exact ⟨a, rfl, ht⟩
      | succ q =>
        have e : Nat.add (countLo m r) 1 = countLo m r + 1 := rfl
        obtain ⟨b, h1, h2⟩ := countLo_spec (m := m) (hv := r) (q := q) (by omega)
        exact ⟨b, by simpa using h1, h2⟩
    · omega
theorem countHi_spec {pm : Tr Nat} {i : Nat} : ∀ {hv : List Nat} {h : Nat}, hv[countHi pm i hv]? = some h → Nat.testBit (mAt pm h) i = true
  | [], h, hh => by simp at hh
  | a :: r, h, hh => by
    simp only [countHi] at hh
    split at hh
    · rename_i ht
      simp only [List.getElem?_cons_zero, Option.some.injEq] at hh
      subst hh; exact ht
    · have e : Nat.add (countHi pm i r) 1 = countHi pm i r + 1 := rfl
      rw [e, List.getElem?_cons_succ] at hh
      exact countHi_spec hh
theorem tmpsOk_spec {pm : Tr Nat} {x : RO} : ∀ {l : List RO}, tmpsOk pm x l = true → ∀ y ∈ l,
    (x.i = y.i ∨ Nat.testBit (mAt pm x.i) y.i = true ∨ Nat.testBit (mAt pm y.i) x.i = true ∨ ∀ t ∈ looksA x, y.o.dst ≠ some t) ∧ (x.i = y.i ∨ ∀ d, x.o.dst = some d → y.o.dst ≠ some d)
  | [], _, y, hy => by simp at hy
  | z :: r, h, y, hy => by
    simp only [tmpsOk, Bool.and_eq_true, Bool.or_eq_true, Nat.beq_eq, Bool.not_eq_true'] at h
    obtain ⟨h1, h2, h3⟩ := h
    rcases List.mem_cons.1 hy with rfl | hy
    · refine ⟨?_, ?_⟩
      · rcases h1 with h1 | h1 | h1 | h1
        · exact .inl h1
        · exact .inr (.inl h1)
        · exact .inr (.inr (.inl h1))
        · refine .inr (.inr (.inr fun t ht e => ?_))
          rw [List.any_eq_false] at h1
          exact h1 t ht (by rw [e]; simp [dstIs])
      · rcases h2 with h2 | h2
        · exact .inl h2
        · refine .inr fun d hd e => ?_
          rw [hd, e] at h2; simp [dstIs] at h2
    · exact tmpsOk_spec h3 y hy
theorem sameAt_spec {f : AH → Bool} : ∀ {l : List AH} {lo cnt : Nat}, sameAt f lo cnt l = true → ∀ j, lo ≤ j → j < lo + cnt → ∃ G, l[j]? = some G ∧ f G = true
  | [], 0, 0, _, j, _, h2 => by omega
  | [], 0, c + 1, h, _, _, _ => by simp [sameAt] at h
  | [], lo + 1, c, h, _, _, _ => by simp [sameAt] at h
  | g :: r, 0, 0, _, j, _, h2 => by omega
  | g :: r, 0, c + 1, h, j, h1, h2 => by
    simp only [sameAt, Bool.and_eq_true] at h
    cases j with
    | zero => exact ⟨g, rfl, h.1⟩
    | succ j =>
      obtain ⟨G, a1, a2⟩ := sameAt_spec h.2 j (by omega) (by omega)
      exact ⟨G, by simpa using a1, a2⟩
  | g :: r, lo + 1, c, h, j, h1, h2 => by
    simp only [sameAt] at h
    cases j with
    | zero => omega
    | succ j =>
      obtain ⟨G, a1, a2⟩ := sameAt_spec h j (by omega) (by omega)
      exact ⟨G, by simpa using a1, a2⟩
theorem checkA_spec {hs : List AH} : ∀ {dn : List Done}, checkA hs dn = true → ∀ d ∈ dn, check1 hs d = true
  | [], _, d, hd => by simp at hd
  | e :: r, h, d, hd => by
    simp only [checkA, Bool.and_eq_true] at h
    rcases List.mem_cons.1 hd with rfl | hd
    · exact h.1
    · exact checkA_spec h.2 d hd
theorem resT_get {T : Tr AV} : ∀ {l : List Nat} {t : Nat}, (resT l T).get (bits t) = if t ∈ l then T.get (bits t) else none
  | [], t => by simp [resT]
  | a :: r, t => by
    simp only [resT]
    cases h : T.get (bits a) with
    | none =>
      rw [oc_none, resT_get]
      by_cases e : t = a
      · subst e; simp [h]
      · simp [e]
    | some v =>
      rw [oc_some]
      by_cases e : t = a
      · subst e; rw [Tr.get_put_same]; simp [h]
      · rw [Tr.get_put_ne _ _ _ _ (bits_ne (Ne.symm e)), resT_get]; simp [e]
end Go.Xq
namespace Go.Xq
structure Grow (H H' : AH) : Prop where
  next : H.next ≤ H'.next
  get : ∀ b, b < H.next → H'.get b = H.get b
theorem Grow.refl (H : AH) : Grow H H := ⟨Nat.le_refl _, fun _ _ => rfl⟩
theorem Grow.trans {A B C : AH} (h : Grow A B) (h' : Grow B C) : Grow A C := ⟨Nat.le_trans h.next h'.next, fun b hb => by rw [h'.get b (Nat.lt_of_lt_of_le hb h.next), h.get b hb]⟩
theorem Grow.new (H : AH) (o : AObj) : Grow H (H.new o) := ⟨by simp, fun b hb => by rw [AH.get_new, if_neg (by omega)]⟩
def hAt (hs : List AH) (H : AH) (j : Nat) : Option AH := (H :: hs).reverse[j]?
theorem hAt_eq (hs : List AH) (H : AH) (j : Nat) : hAt hs H j = if j < hs.length then hs.reverse[j]? else if j = hs.length then some H else none := by
  unfold hAt
  rw [List.reverse_cons, List.getElem?_append, List.length_reverse]
  split
  · rfl
  · split
    · rename_i h; subst h; simp
    · rw [List.getElem?_eq_none]; simp; omega
theorem hAt_lt {hs : List AH} {H : AH} (H' : AH) {j : Nat} (h : j < hs.length) : hAt hs H' j = hAt hs H j := by rw [hAt_eq, hAt_eq, if_pos h, if_pos h]
theorem hAt_len (hs : List AH) (H : AH) : hAt hs H hs.length = some H := by rw [hAt_eq, if_neg (by omega), if_pos rfl]
theorem hAt_le {hs : List AH} {H G : AH} {j : Nat} (h : hAt hs H j = some G) : j ≤ hs.length := by
  rw [hAt_eq] at h; split at h
  · omega
  · split at h
    · omega
    · cases h
theorem hAt_push {hs : List AH} {H : AH} (H' : AH) {j : Nat} (h : j ≤ hs.length) : hAt (H :: hs) H' j = hAt hs H j := by
  rw [hAt_eq, hAt_eq, if_pos (by simp; omega), List.reverse_cons, List.getElem?_append, List.length_reverse]
  split
  · rfl
  · rw [if_pos (by omega)]
    have : j - hs.length = 0 := by omega
    rw [this]; rfl
theorem hAt_top (hs : List AH) (H H' : AH) : hAt (H :: hs) H' (hs.length + 1) = some H' := hAt_len (H :: hs) H'
inductive HStep (hs : List AH) (H : AH) : List AH → AH → Prop
  | grow (H' : AH) (h : Grow H H') : HStep hs H hs H'
  | push (H' : AH) (h : H.next ≤ H'.next) : HStep hs H (H :: hs) H'
section
variable {hs hs' : List AH} {H H' G : AH} {j : Nat}
theorem HStep.next (h : HStep hs H hs' H') : H.next ≤ H'.next := by
  cases h with
  | grow _ h => exact h.next
  | push _ h => exact h
theorem HStep.len (h : HStep hs H hs' H') : hs.length ≤ hs'.length := by cases h <;> simp
theorem HStep.keep (h : HStep hs H hs' H') (hg : hAt hs H j = some G) (hj : j < hs.length) : hAt hs' H' j = some G := by
  cases h with
  | grow => rw [hAt_lt (H := H) H' hj, hg]
  | push => rw [hAt_push H' (by omega), hg]
theorem HStep.up (h : HStep hs H hs' H') (hg : hAt hs H j = some G) : ∃ G', hAt hs' H' j = some G' ∧ Grow G G' := by
  have hle := hAt_le hg
  cases h with
  | grow _ h =>
    rcases Nat.lt_or_ge j hs.length with hj | hj
    · exact ⟨G, by rw [hAt_lt (H := H) H' hj, hg], Grow.refl _⟩
    · have e : j = hs.length := by omega
      subst e
      rw [hAt_len] at hg; cases hg
      exact ⟨_, hAt_len _ _, h⟩
  | push => exact ⟨G, by rw [hAt_push H' hle, hg], Grow.refl _⟩
theorem HStep.back (h : HStep hs H hs' H') {G' : AH} (hg : hAt hs' H' j = some G') : (∃ G, hAt hs H j = some G ∧ G.next ≤ G'.next) ∨ (G' = H' ∧ H.next ≤ H'.next) := by
  have hle := hAt_le hg
  cases h with
  | grow _ h =>
    rcases Nat.lt_or_ge j hs.length with hj | hj
    · rw [hAt_lt (H := H) H' hj] at hg
      exact .inl ⟨_, hg, Nat.le_refl _⟩
    · have e : j = hs.length := by omega
      subst e
      rw [hAt_len] at hg; cases hg
      exact .inr ⟨rfl, h.next⟩
  | push _ h =>
    rcases Nat.lt_or_ge hs.length j with hj | hj
    · have e : j = hs.length + 1 := by simp at hle; omega
      subst e
      rw [hAt_top] at hg; cases hg
      exact .inr ⟨rfl, h⟩
    · rw [hAt_push H' hj] at hg
      exact .inl ⟨_, hg, Nat.le_refl _⟩
end
structure ValOk (R : Rec) (hv : List Nat) (H0 : AH) (hs : List AH) (H : AH) (d : Done) : Prop where
  no : d.want = false → d.v = undefA
  low : ∀ b o, d.blk = some (b, o) → H0.next ≤ b
  yes : d.want = true → (∃ k H1, d.x.sp.act = .look k ∧ k.f d.T H1 = some d.v) ∨
    (∃ k b o, d.x.sp.act = .fresh k ∧ d.blk = some (b, o) ∧ k.f d.T b = some (d.v, o) ∧ H0.next ≤ b ∧ ∀ j G, d.x.lo ≤ j → hAt hs H j = some G → b < G.next) ∨
    (∃ k G G', d.x.sp.act = .heavy k ∧ d.hp = some (G, G') ∧ k.f R d.T G = some (d.v, G'))
  hvy : d.x.heavy = true → d.x.lo < hs.length ∧ hv[d.x.lo]? = some d.x.i ∧ ∃ G G' G2, d.hp = some (G, G') ∧ hAt hs H d.x.lo = some G ∧ G.next ≤ G'.next ∧ hAt hs H (d.x.lo + 1) = some G2 ∧ Grow G' G2 ∧ (d.want = false → G' = G)
theorem ValOk.step {R : Rec} {hv : List Nat} {H0 : AH} {hs hs' : List AH} {H H' : AH} {d : Done} (h : ValOk R hv H0 hs H d) (hst : HStep hs H hs' H') (hb : ∀ b o, d.blk = some (b, o) → b < H.next) : ValOk R hv H0 hs' H' d := by
  refine ⟨h.no, h.low, fun hw => ?_, fun hh => ?_⟩
  · rcases h.yes hw with g | ⟨k, b, o, g1, g2, g3, g4, g5⟩ | g
    · exact .inl g
    · refine .inr (.inl ⟨k, b, o, g1, g2, g3, g4, fun j G' hj hG => ?_⟩)
      rcases hst.back hG with ⟨G, a1, a2⟩ | ⟨rfl, a2⟩
      · exact Nat.lt_of_lt_of_le (g5 j G hj a1) a2
      · exact Nat.lt_of_lt_of_le (hb b o g2) a2
    · exact .inr (.inr g)
  · obtain ⟨a1, a2, G, G', G2, a3, a4, a5, a6, a7, a8⟩ := h.hvy hh
    obtain ⟨G3, b1, b2⟩ := hst.up a6
    exact ⟨Nat.lt_of_lt_of_le a1 hst.len, a2, G, G', G3, a3, hst.keep a4 a1, a5, b1, a7.trans b2, a8⟩
def TmpOk (pm : Tr Nat) (T0 : Tr AV) (dn : List Done) (d : Done) : Prop :=
  ∃ (acc : Nat → Prop) (S : Tr AV), ¬ acc d.x.i ∧ (∀ k, acc k → ∃ y ∈ dn, y.x.i = k) ∧ (∀ k, Nat.testBit (mAt pm d.x.i) k = true → acc k) ∧ (∀ i k, acc i → Nat.testBit (mAt pm i) k = true → acc k) ∧
    (d.want = true → d.T = resT (looksA d.x) S) ∧ wantA d.x.sp.g S = some d.want ∧
    ∀ t ∈ looksA d.x, (∃ y ∈ dn, acc y.x.i ∧ y.x.o.dst = some t ∧ S.get (bits t) = some y.v) ∨ ((∀ y ∈ dn, acc y.x.i → y.x.o.dst ≠ some t) ∧ S.get (bits t) = T0.get (bits t))
theorem TmpOk.step {pm : Tr Nat} {T0 : Tr AV} {dn : List Done} {d e : Done} (h : TmpOk pm T0 dn d) (he : ∀ y ∈ dn, y.x.i ≠ e.x.i) : TmpOk pm T0 (e :: dn) d := by
  obtain ⟨acc, S, h1, h2, h3, h4, h5, h6, h7⟩ := h
  refine ⟨acc, S, h1, fun k hk => ?_, h3, h4, h5, h6, fun t ht => ?_⟩
  · obtain ⟨y, a1, a2⟩ := h2 k hk; exact ⟨y, by simp [a1], a2⟩
  · rcases h7 t ht with ⟨y, a1, a2⟩ | ⟨a1, a2⟩
    · exact .inl ⟨y, by simp [a1], a2⟩
    · refine .inr ⟨fun y hy hacc => ?_, a2⟩
      rcases List.mem_cons.1 hy with rfl | hy
      · obtain ⟨z, b1, b2⟩ := h2 _ hacc
        exact absurd b2 (he z b1)
      · exact a1 y hy hacc
structure Can (R : Rec) (l : List RO) (pm : Tr Nat) (hv : List Nat) (T0 : Tr AV) (H0 : AH) (s : DS) (acc : Nat) (hr : List Nat) : Prop where
  mem : ∀ d ∈ s.dn, d.x ∈ l
  ain : ∀ d ∈ s.dn, Nat.testBit acc d.x.i = true
  out : ∀ i, Nat.testBit acc i = true → ∃ d ∈ s.dn, d.x.i = i
  cl : ∀ i k, Nat.testBit acc i = true → Nat.testBit (mAt pm i) k = true → Nat.testBit acc k = true
  tmp : ∀ t, (∃ y ∈ s.dn, y.x.o.dst = some t ∧ s.T.get (bits t) = some y.v) ∨ ((∀ y ∈ s.dn, y.x.o.dst ≠ some t) ∧ s.T.get (bits t) = T0.get (bits t))
  tok : ∀ d ∈ s.dn, TmpOk pm T0 s.dn d
  vok : ∀ d ∈ s.dn, ValOk R hv H0 s.hs s.H d
  one : ∀ d ∈ s.dn, ∀ e ∈ s.dn, d.x.i = e.x.i → d = e
  rest : ∃ pre, hv = pre ++ hr ∧ pre.length = s.hs.length
  blk : ∀ d ∈ s.dn, ∀ b o, d.blk = some (b, o) → b < s.H.next
  bone : ∀ d ∈ s.dn, ∀ e ∈ s.dn, ∀ b o o', d.blk = some (b, o) → e.blk = some (b, o') → d.x.i = e.x.i
  hpb : ∀ d ∈ s.dn, ∀ e ∈ s.dn, ∀ b o G G', d.blk = some (b, o) → e.hp = some (G, G') → b < G.next ∨ G'.next ≤ b
  hpn : ∀ e ∈ s.dn, ∀ G G', e.hp = some (G, G') → G'.next ≤ s.H.next
  start : ∃ G, hAt s.hs s.H 0 = some G ∧ Grow H0 G
  low : H0.next ≤ s.H.next
theorem Can.init (R : Rec) (l : List RO) (pm : Tr Nat) (hv : List Nat) (T0 : Tr AV) (H0 : AH) : Can R l pm hv T0 H0 { T := T0, H := H0, hs := [], dn := [] } 0 hv where
  mem := by simp
  ain := by simp
  out := by simp
  cl := by simp
  tmp := by simp
  tok := by simp
  vok := by simp
  one := by simp
  rest := ⟨[], rfl, rfl⟩
  blk := by simp
  bone := by simp
  hpb := by simp
  hpn := by simp
  start := ⟨H0, rfl, Grow.refl _⟩
  low := Nat.le_refl _
theorem Can.push {R : Rec} {l : List RO} {pm : Tr Nat} {hv : List Nat} {T0 : Tr AV} {H0 : AH} {s : DS} {acc : Nat} {hr hr' : List Nat} (hc : Can R l pm hv T0 H0 s acc hr) {d : Done} {hs' : List AH} {H' : AH} (hst : HStep s.hs s.H hs' H')
    (hm : d.x ∈ l) (hn : Nat.testBit acc d.x.i = false) (hmask : ∀ k, Nat.testBit (mAt pm d.x.i) k = true → Nat.testBit acc k = true) (hdst : d.x.sp.dst = d.x.o.dst)
    (hT : d.want = true → d.T = resT (looksA d.x) s.T) (hw : wantA d.x.sp.g s.T = some d.want) (hv' : ValOk R hv H0 hs' H' d) (hrest : ∃ pre, hv = pre ++ hr' ∧ pre.length = hs'.length)
    (hblk : ∀ b o, d.blk = some (b, o) → b = s.H.next ∧ H'.next = s.H.next + 1 ∧ d.hp = none) (hhp : ∀ G G', d.hp = some (G, G') → G = s.H ∧ G' = H') :
    Can R l pm hv T0 H0 { T := putA s.T d.x.sp.dst d.v, H := H', hs := hs', dn := d :: s.dn } (setBit acc d.x.i) hr' := by
  have hne : ∀ y ∈ s.dn, y.x.i ≠ d.x.i := fun y hy e => by have := hc.ain y hy; rw [e, hn] at this; cases this
  constructor
  · intro e he
    rcases List.mem_cons.1 he with rfl | he'
    · exact hm
    · exact hc.mem e he'
  · intro e he
    rw [bit_set]
    rcases List.mem_cons.1 he with rfl | he'
    · exact .inr rfl
    · exact .inl (hc.ain e he')
  · intro i hi
    rw [bit_set] at hi
    rcases hi with hi | rfl
    · obtain ⟨e, h1, h2⟩ := hc.out i hi; exact ⟨e, by simp [h1], h2⟩
    · exact ⟨d, by simp, rfl⟩
  · intro i k hi hk
    rw [bit_set] at hi ⊢
    rcases hi with hi | rfl
    · exact .inl (hc.cl i k hi hk)
    · exact .inl (hmask k hk)
  · intro t
    show (∃ y ∈ d :: s.dn, y.x.o.dst = some t ∧ (putA s.T d.x.sp.dst d.v).get (bits t) = some y.v) ∨ ((∀ y ∈ d :: s.dn, y.x.o.dst ≠ some t) ∧ (putA s.T d.x.sp.dst d.v).get (bits t) = T0.get (bits t))
    rw [hdst]
    by_cases e : d.x.o.dst = some t
    · refine .inl ⟨d, by simp, e, ?_⟩
      rw [e]; simp only [putA, oc_some]; rw [Tr.get_put_same]
    · have hget : (putA s.T d.x.o.dst d.v).get (bits t) = s.T.get (bits t) := by
        cases hd : d.x.o.dst with
        | none => rfl
        | some u => simp only [putA, oc_some]; rw [Tr.get_put_ne _ _ _ _ (bits_ne (fun e2 => e (by rw [hd, e2])))]
      rw [hget]
      rcases hc.tmp t with ⟨y, h1, h2⟩ | ⟨h1, h2⟩
      · exact .inl ⟨y, by simp [h1], h2⟩
      · refine .inr ⟨fun y hy => ?_, h2⟩
        rcases List.mem_cons.1 hy with rfl | hy
        · exact e
        · exact h1 y hy
  · intro e he
    rcases List.mem_cons.1 he with rfl | he'
    · refine ⟨fun k => Nat.testBit acc k = true, s.T, by simp [hn], fun k hk => ?_, hmask, hc.cl, hT, hw, fun t ht => ?_⟩
      · obtain ⟨y, h1, h2⟩ := hc.out k hk; exact ⟨y, by simp [h1], h2⟩
      · rcases hc.tmp t with ⟨y, h1, h2, h3⟩ | ⟨h1, h2⟩
        · exact .inl ⟨y, by simp [h1], hc.ain y h1, h2, h3⟩
        · refine .inr ⟨fun y hy hacc => ?_, h2⟩
          rcases List.mem_cons.1 hy with rfl | hy
          · exact absurd hacc (by simp [hn])
          · exact h1 y hy
    · exact (hc.tok e he').step hne
  · intro e he
    rcases List.mem_cons.1 he with rfl | he'
    · exact hv'
    · exact (hc.vok e he').step hst (hc.blk e he')
  · intro e he f hf hi
    rcases List.mem_cons.1 he with rfl | he'
    · rcases List.mem_cons.1 hf with rfl | hf'
      · rfl
      · exact absurd hi.symm (hne f hf')
    · rcases List.mem_cons.1 hf with rfl | hf'
      · exact absurd hi (hne e he')
      · exact hc.one e he' f hf' hi
  · exact hrest
  · intro e he b o hb
    rcases List.mem_cons.1 he with rfl | he'
    · obtain ⟨h1, h2, _⟩ := hblk b o hb
      show b < H'.next; omega
    · exact Nat.lt_of_lt_of_le (hc.blk e he' b o hb) hst.next
  · intro e he f hf b o o' h1 h2
    rcases List.mem_cons.1 he with rfl | he'
    · rcases List.mem_cons.1 hf with rfl | hf'
      · rfl
      · have := (hblk b o h1).1
        have := hc.blk f hf' b o' h2
        omega
    · rcases List.mem_cons.1 hf with rfl | hf'
      · have := (hblk b o' h2).1
        have := hc.blk e he' b o h1
        omega
      · exact hc.bone e he' f hf' b o o' h1 h2
  · intro e he f hf b o G G' h1 h2
    rcases List.mem_cons.1 he with rfl | he'
    · obtain ⟨a1, a2, a3⟩ := hblk b o h1
      rcases List.mem_cons.1 hf with rfl | hf'
      · rw [a3] at h2; cases h2
      · exact .inr (by rw [a1]; exact hc.hpn f hf' G G' h2)
    · rcases List.mem_cons.1 hf with rfl | hf'
      · obtain ⟨rfl, rfl⟩ := hhp G G' h2
        exact .inl (hc.blk e he' b o h1)
      · exact hc.hpb e he' f hf' b o G G' h1 h2
  · intro e he G G' h2
    rcases List.mem_cons.1 he with rfl | he'
    · obtain ⟨rfl, rfl⟩ := hhp G G' h2
      exact Nat.le_refl _
    · exact Nat.le_trans (hc.hpn e he' G G' h2) hst.next
  · obtain ⟨G, h1, h2⟩ := hc.start
    obtain ⟨G', h3, h4⟩ := hst.up h1
    exact ⟨G', h3, h2.trans h4⟩
  · exact Nat.le_trans hc.low hst.next
theorem land_sub {a b k : Nat} (h : Nat.beq (Nat.land a b) a = true) (hk : Nat.testBit a k = true) : Nat.testBit b k = true := by
  have e : a &&& b = a := Nat.eq_of_beq_eq_true h
  rw [← e, Nat.testBit_and, Bool.and_eq_true] at hk
  exact hk.2
theorem draws_can {n : Nat} {l : List RO} {pm : Tr Nat} {hv : List Nat} {T0 : Tr AV} {H0 : AH} {R : Rec} (hl : ∀ x ∈ l, x.heavy = isHv x.sp.act ∧ x.sp.dst = x.o.dst) : ∀ {ord : List RO} {acc : Nat} {hr : List Nat} {s s' : DS}, (∀ x ∈ ord, x ∈ l) →
    ordOk pm n ord acc s.hs.length hr = true → Can R l pm hv T0 H0 s acc hr → (drawsK ord).f R s = some s' → ∃ acc', Can R l pm hv T0 H0 s' acc' [] ∧ acc' + 1 = 2 ^ n
  | [], acc, hr, s, s', _, ho, hc, h => by
    simp only [drawsK, Option.some.injEq] at h
    subst h
    simp only [ordOk, Bool.and_eq_true] at ho
    cases hr with
    | nil =>
      refine ⟨acc, hc, ?_⟩
      have h1 := Nat.eq_of_beq_eq_true ho.1
      have e : Nat.shiftLeft 1 n = 2 ^ n := Nat.one_shiftLeft n
      rw [e] at h1; exact h1
    | cons a r => exact absurd ho.2 (by simp)
  | x :: r, acc, hr, s, s', hmem, ho, hc, h => by
    obtain ⟨hx1, hx2⟩ := hl x (hmem x (by simp))
    have hmem' : ∀ y ∈ r, y ∈ l := fun y hy => hmem y (by simp [hy])
    simp only [ordOk, Bool.and_eq_true, Bool.not_eq_true'] at ho
    obtain ⟨⟨hn, hland⟩, ho⟩ := ho
    have hmask : ∀ k, Nat.testBit (mAt pm x.i) k = true → Nat.testBit acc k = true := fun k hk => land_sub hland hk
    obtain ⟨pre, hpre, hplen⟩ := hc.rest
    simp only [drawsK, thenD, ob_some] at h
    obtain ⟨s1, h1, h2⟩ := h
    have hx := hmem x (by simp)
    simp only [draw1, ob_some] at h1
    obtain ⟨wnt, hw, h1⟩ := h1
    cases wnt with
    | false =>
      rw [bt_false, Option.some.injEq] at h1
      subst h1
      cases hh : x.heavy with
      | true =>
        rw [hh] at ho
        cases hr with
        | nil => cases ho
        | cons a hr =>
          simp only [Bool.and_eq_true] at ho
          obtain ⟨⟨ha, hlo⟩, ho⟩ := ho
          have ha := Nat.eq_of_beq_eq_true ha
          have hlo := Nat.eq_of_beq_eq_true hlo
          rw [hh] at h2
          simp only [bt_true] at h2
          have hp := Can.push hc (d := { x, T := .e, want := false, v := undefA, blk := none, hp := some (s.H, s.H) }) (hr' := hr) (.push s.H (Nat.le_refl _)) hx hn hmask hx2 (fun h => by cases h) hw
            ⟨fun _ => rfl, (fun b o h => by cases h), (fun h => by cases h), fun _ => ⟨by simp [hlo], by rw [hpre, hlo, ← hplen]; simp [ha], s.H, s.H, s.H, rfl, by rw [hlo, hAt_push _ (Nat.le_refl _), hAt_len], Nat.le_refl _, by rw [hlo, hAt_top], Grow.refl _, fun _ => rfl⟩⟩
            ⟨pre ++ [a], by simp [hpre], by simp [hplen]⟩ (fun b o h => by cases h) (fun G G' h => by cases h; exact ⟨rfl, rfl⟩)
          exact draws_can hl hmem' (by exact ho) hp h2
      | false =>
        rw [hh] at ho
        simp only [Bool.and_eq_true] at ho
        rw [hh] at h2
        simp only [bt_false] at h2
        have hp := Can.push hc (d := { x, T := .e, want := false, v := undefA, blk := none, hp := none }) (hr' := hr) (.grow s.H (Grow.refl _)) hx hn hmask hx2 (fun h => by cases h) hw
          ⟨fun _ => rfl, (fun b o h => by cases h), (fun h => by cases h), fun h => by rw [show x.heavy = false from hh] at h; cases h⟩ ⟨pre, hpre, hplen⟩ (fun b o h => by cases h) (fun G G' h => by cases h)
        exact draws_can hl hmem' (by exact ho.2) hp h2
    | true =>
      rw [bt_true] at h1
      unfold drawAct at h1
      split at h1
      · rename_i k hact
        simp only [ob_some, Option.some.injEq] at h1
        obtain ⟨v, h1, rfl⟩ := h1
        have hh : x.heavy = false := by rw [hx1, hact]; rfl
        rw [hh] at ho
        simp only [Bool.and_eq_true] at ho
        have hp := Can.push hc (d := { x, T := resT (looksA x) s.T, want := true, v, blk := none, hp := none }) (hr' := hr) (.grow s.H (Grow.refl _)) hx hn hmask hx2 (fun _ => rfl) hw
          ⟨(fun h => by cases h), (fun b o h => by cases h), fun _ => .inl ⟨k, s.H, hact, h1⟩, fun h => by rw [show x.heavy = false from hh] at h; cases h⟩ ⟨pre, hpre, hplen⟩ (fun b o h => by cases h) (fun G G' h => by cases h)
        exact draws_can hl hmem' (by exact ho.2) hp h2
      · rename_i k hact
        simp only [ob_some, bt_some, Option.some.injEq] at h1
        obtain ⟨⟨v, H'⟩, h1, hnx, rfl⟩ := h1
        have hh : x.heavy = true := by rw [hx1, hact]; rfl
        rw [hh] at ho
        cases hr with
        | nil => cases ho
        | cons a hr =>
          simp only [Bool.and_eq_true] at ho
          obtain ⟨⟨ha, hlo⟩, ho⟩ := ho
          have ha := Nat.eq_of_beq_eq_true ha
          have hlo := Nat.eq_of_beq_eq_true hlo
          have hnx : s.H.next ≤ H'.next := Nat.le_of_ble_eq_true hnx
          have hp := Can.push hc (d := { x, T := resT (looksA x) s.T, want := true, v, blk := none, hp := some (s.H, H') }) (hr' := hr) (.push H' hnx) hx hn hmask hx2 (fun _ => rfl) hw
            ⟨(fun h => by cases h), (fun b o h => by cases h), fun _ => .inr (.inr ⟨k, s.H, H', hact, rfl, h1⟩), fun _ => ⟨by simp [hlo], by rw [hpre, hlo, ← hplen]; simp [ha], s.H, H', H', rfl, by rw [hlo, hAt_push _ (Nat.le_refl _), hAt_len], hnx, by rw [hlo, hAt_top], Grow.refl _, fun h => by cases h⟩⟩
            ⟨pre ++ [a], by simp [hpre], by simp [hplen]⟩ (fun b o h => by cases h) (fun G G' h => by cases h; exact ⟨rfl, rfl⟩)
          exact draws_can hl hmem' (by exact ho) hp h2
      · rename_i k hact
        simp only [ob_some, Option.some.injEq] at h1
        obtain ⟨⟨v, o⟩, h1, rfl⟩ := h1
        have hh : x.heavy = false := by rw [hx1, hact]; rfl
        rw [hh] at ho
        simp only [Bool.and_eq_true] at ho
        have hlo := Nat.le_of_ble_eq_true ho.1
        have hp := Can.push hc (d := { x, T := resT (looksA x) s.T, want := true, v, blk := some (s.H.next, o), hp := none }) (hr' := hr) (.grow (s.H.new o) (Grow.new _ _)) hx hn hmask hx2 (fun _ => rfl) hw
          ⟨(fun h => by cases h), (fun b o h => by cases h; exact hc.low), fun _ => .inr (.inl ⟨k, s.H.next, o, hact, rfl, h1, hc.low, fun j G hj hG => by
            have e : j = s.hs.length := by
              have := hAt_le hG
              have hj : x.lo ≤ j := hj
              omega
            subst e
            rw [hAt_len] at hG; cases hG; simp⟩), fun h => by rw [show x.heavy = false from hh] at h; cases h⟩ ⟨pre, hpre, hplen⟩ (fun b o' h => by cases h; exact ⟨rfl, by simp, rfl⟩) (fun G G' h => by cases h)
        exact draws_can hl hmem' (by exact ho.2) hp h2
      · cases h1
end Go.Xq
namespace Go.Xq
section
variable {P : Program} {E : Env}
theorem pureK_ok {op : Op} {k : LK} (hp : pureK op = true) (h : lookK E op = some k) (T : Tr AV) (H H' : AH) : k.f T H = k.f T H' := by
  unfold lookK at h
  split at h <;> first | (simp [pureK] at hp; done) | skip
  · cases h; rfl
  · cases h; rfl
  · cases h; rfl
  · simp only [buildK, ob_some] at h
    obtain ⟨ti, _, z, _, h⟩ := h
    split at h
    · simp only [bt_some, ob_some, Option.some.injEq] at h
      obtain ⟨_, g, _, rfl⟩ := h; rfl
    · cases h
  · cases h; rfl
  · simp only [ob_some, Option.some.injEq] at h
    obtain ⟨g, _, rfl⟩ := h; rfl
  · simp only [ob_some] at h
    obtain ⟨ti, _, h⟩ := h
    split at h
    · cases h
    · cases h; rfl
  · split at h
    · cases h
    · cases h; rfl
  · simp only [fieldAddrK, ob_some] at h
    obtain ⟨ti, _, fd, _, tf, _, h⟩ := h
    split at h
    · cases h; rfl
    · cases h
  · simp only [fieldK, ob_some, Option.some.injEq] at h
    obtain ⟨ti, _, fd, _, k', _, rfl⟩ := h; rfl
  · simp only [indexAddrK, ob_some] at h
    obtain ⟨ti, _, h⟩ := h
    split at h
    · simp only [ob_some, Option.some.injEq] at h; obtain ⟨te, _, rfl⟩ := h; rfl
    · simp only [ob_some, Option.some.injEq] at h; obtain ⟨te, _, rfl⟩ := h; rfl
    · cases h
  · simp only [indexK, ob_some] at h
    obtain ⟨ti, _, h⟩ := h
    split at h
    · simp only [ob_some, Option.some.injEq] at h; obtain ⟨te, _, k', _, rfl⟩ := h; rfl
    · cases h; rfl
    · cases h
  · simp only [assertK, ob_some] at h
    obtain ⟨ti, _, h⟩ := h
    split at h
    · cases h; rfl
    · cases h; rfl
  · cases h; rfl
structure Cur (cx : Cx) (ops : Array Oper) (hv : List Nat) (m0 : Ren) (H0 : AH) (w0 : World) (T0 : Tr AV) (D : List ADf) (s : DS) (L : Nat → Prop) (m : Ren) (a : Act) (w : World) : Prop where
  st : ∃ j G, hAt s.hs s.H j = some G ∧ St m0 H0 w0 m G w ∧ ∀ q i, hv[q]? = some i → (L i ↔ q < j)
  ed : ∀ (i : Nat) (o : Oper), ops.toList[i]? = some o → L i → ∀ e ∈ o.after.toList, bindsA e = true → L e.on
  size : a.tmps.size = cx.n
  tmp : ∀ t, (∃ d ∈ s.dn, L d.x.i ∧ d.x.o.dst = some t ∧ VR m d.v (a.tmps.getD t undef)) ∨ ((∀ d ∈ s.dn, L d.x.i → d.x.o.dst ≠ some t) ∧ ∀ v, T0.get (bits t) = some v → VR m v (a.tmps.getD t undef))
  dfr : DfR m D a.defers
  rd : RdR cx m
  unm : ∀ d ∈ s.dn, ∀ b o, d.blk = some (b, o) → ¬ L d.x.i → m b = none
theorem Cur.put {cx : Cx} {ops : Array Oper} {hv : List Nat} {m0 : Ren} {H0 : AH} {w0 : World} {T0 : Tr AV} {D : List ADf} {s : DS} {L : Nat → Prop} {m : Ren} {a : Act} {w : World} (h : Cur cx ops hv m0 H0 w0 T0 D s L m a w)
    (one : ∀ d ∈ s.dn, ∀ e ∈ s.dn, d.x.i = e.x.i → d = e) {d : Done} (hd : d ∈ s.dn) {o : Oper} (ho : ops.toList[d.x.i]? = some o) (hod : d.x.o = o) (hdst : dstOk cx.n o.dst = true) (hed : ∀ e ∈ o.after.toList, bindsA e = true → L e.on)
    {m' : Ren} (hm : Le m m') {w' : World} {v' : Value} (hv' : VR m' d.v v')
    (hst : ∃ j G, hAt s.hs s.H j = some G ∧ St m0 H0 w0 m' G w' ∧ ∀ q i, hv[q]? = some i → ((L i ∨ i = d.x.i) ↔ q < j))
    (hun : ∀ e ∈ s.dn, ∀ b o, e.blk = some (b, o) → ¬ (L e.x.i ∨ e.x.i = d.x.i) → m' b = none) :
    Cur cx ops hv m0 H0 w0 T0 D s (fun i => L i ∨ i = d.x.i) m' (a.put o.dst v') w' := by
  have hsz : (a.put o.dst v').tmps.size = a.tmps.size := by cases o.dst <;> simp [Act.put]
  have hdf : (a.put o.dst v').defers = a.defers := by cases o.dst <;> rfl
  refine ⟨hst, ?_, by rw [hsz]; exact h.size, ?_, by rw [hdf]; exact h.dfr.mono hm, h.rd.mono hm, hun⟩
  · intro i o2 ho2 hL e he hb
    rcases hL with hL | rfl
    · exact .inl (h.ed i o2 ho2 hL e he hb)
    · rw [ho] at ho2; cases ho2
      exact .inl (hed e he hb)
  · intro t
    by_cases e : o.dst = some t
    · refine .inl ⟨d, hd, .inr rfl, by rw [hod, e], ?_⟩
      have hlt : t < cx.n := by rw [e] at hdst; simpa [dstOk, Nat.blt_eq] using hdst
      have : (a.put o.dst v').tmps.getD t undef = v' := by
        rw [e]; simp [Act.put, Array.getD_eq_getD_getElem?, h.size, hlt]
      rw [this]; exact hv'
    · have hg : (a.put o.dst v').tmps.getD t undef = a.tmps.getD t undef := by
        cases hq : o.dst with
        | none => rfl
        | some u =>
          have hne : u ≠ t := fun e2 => e (by rw [hq, e2])
          simp [Act.put, Array.getD_eq_getD_getElem?, Array.getElem?_setIfInBounds_ne hne]
      rw [hg]
      rcases h.tmp t with ⟨y, h1, h2, h3, h4⟩ | ⟨h1, h2⟩
      · exact .inl ⟨y, h1, .inl h2, h3, h4.mono hm⟩
      · refine .inr ⟨fun y hy hL => ?_, fun v hv => (h2 v hv).mono hm⟩
        rcases hL with hL | hL
        · exact h1 y hy hL
        · have := one y hy d hd hL
          subst this; rw [hod]; exact e
theorem St.grow {m0 m : Ren} {H0 G G' : AH} {w0 w : World} (h : St m0 H0 w0 m G w) (hg : Grow G G') : St m0 H0 w0 m G' w :=
  ⟨⟨fun b o hb i hi => h.rel.live b o (by rw [← hg.get b (h.rel.bnd b i hi).1]; exact hb) i hi,
    fun b b' o o' i i' hb hb' hi hi' e => h.rel.inj b b' o o' i i' (by rw [← hg.get b (h.rel.bnd b i hi).1]; exact hb) (by rw [← hg.get b' (h.rel.bnd b' i' hi').1]; exact hb') hi hi' e,
    fun b i hi => ⟨Nat.lt_of_lt_of_le (h.rel.bnd b i hi).1 hg.next, (h.rel.bnd b i hi).2⟩, h.rel.glob⟩,
   h.ext, Nat.le_trans h.next hg.next, h.os, h.out, h.size, h.keep, fun b i hi hl => h.new b i hi (by rw [← hg.get b (h.rel.bnd b i hi).1]; exact hl)⟩
theorem St.reveal {m0 m : Ren} {H0 G : AH} {w0 w w' : World} (h : St m0 H0 w0 m G w) {b : Nat} {o : AObj} (hb : G.get b = some o) (hmb : m b = none) (hlt : b < G.next) (hlo : H0.next ≤ b) {i : BI} {x : Obj} (hi : i.blk = w.heap.size) (hw : w'.heap = w.heap.push x)
    (ho : OR (m.ext b i) x o i) (hos : w'.os = w.os) (hout : w'.output = w.output) : Le m (m.ext b i) ∧ St m0 H0 w0 (m.ext b i) G w' := by
  have hle : Le m (m.ext b i) := fun b' i' h' => by
    rw [Ren.ext_ne m i (fun e => by subst e; rw [hmb] at h'; cases h')]; exact h'
  refine ⟨hle, ⟨⟨?_, ?_, ?_, ?_⟩, ?_, h.next, hos.trans h.os, hout.trans h.out, ?_, ?_, ?_⟩⟩
  · intro b' o' hb' i' hi'
    by_cases e : b' = b
    · subst e
      rw [Ren.ext_same] at hi'; cases hi'
      rw [hb] at hb'; cases hb'
      exact ⟨x, by rw [hw, hi]; simp, ho⟩
    · rw [Ren.ext_ne m i e] at hi'
      obtain ⟨y, h1, h2⟩ := h.rel.live b' o' hb' i' hi'
      have := (h.rel.bnd b' i' hi').2
      exact ⟨y, by rw [hw, Array.getElem?_push, if_neg (by omega)]; exact h1, h2.mono hle⟩
  · intro b1 b2 o1 o2 i1 i2 g1 g2 k1 k2 e
    by_cases e1 : b1 = b
    · by_cases e2 : b2 = b
      · rw [e1, e2]
      · subst e1
        rw [Ren.ext_same] at k1; cases k1
        rw [Ren.ext_ne m i e2] at k2
        have := (h.rel.bnd b2 i2 k2).2
        omega
    · rw [Ren.ext_ne m i e1] at k1
      by_cases e2 : b2 = b
      · subst e2
        rw [Ren.ext_same] at k2; cases k2
        have := (h.rel.bnd b1 i1 k1).2
        omega
      · rw [Ren.ext_ne m i e2] at k2
        exact h.rel.inj b1 b2 o1 o2 i1 i2 g1 g2 k1 k2 e
  · intro b' i' hi'
    rw [hw, Array.size_push]
    by_cases e : b' = b
    · subst e
      rw [Ren.ext_same] at hi'; cases hi'
      exact ⟨hlt, by omega⟩
    · rw [Ren.ext_ne m i e] at hi'
      have := h.rel.bnd b' i' hi'
      exact ⟨this.1, by omega⟩
  · intro g hg
    obtain ⟨i', h1, h2⟩ := h.rel.glob g hg
    exact ⟨i', hle _ _ h1, h2⟩
  · intro b' hb'
    rw [Ren.ext_ne m i (by omega)]; exact h.ext b' hb'
  · rw [hw, Array.size_push]; have := h.size; omega
  · intro k hk hn
    have := h.size
    rw [hw, Array.getElem?_push, if_neg (by omega)]; exact h.keep k hk hn
  · intro b' i' hi' hl
    by_cases e : b' = b
    · subst e
      rw [Ren.ext_same] at hi'; cases hi'
      exact .inl (by have := h.size; omega)
    · rw [Ren.ext_ne m i e] at hi'; exact h.new b' i' hi' hl
end
end Go.Xq
