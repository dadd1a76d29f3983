/- A part of the proof that what the evaluator answers is what the machine does. Its conditions stand in each theorem. -/
import Derived.Test.YtgcgpblccnajjacGreatDoorY29
namespace Go.Xq
/-! ### Equality of what lies in a block -/
theorem Tr.beq_eq {α : Type} {f : α → α → Bool} (hf : ∀ a b, f a b = true → a = b) : ∀ {s t : Tr α}, Tr.beq f s t = true → s = t := by
  intro s
  induction s with
  | e => intro t h; cases t <;> simp_all [Tr.beq]
  | n v a b c d iha ihb ihc ihd =>
    intro t h
    cases t with
    | e => simp [Tr.beq] at h
    | n v' a' b' c' d' =>
      simp only [Tr.beq, Bool.and_eq_true] at h
      obtain ⟨h0, ⟨h1, h2⟩, h3, h4⟩ := h
      rw [iha h1, ihb h2, ihc h3, ihd h4]
      cases v <;> cases v' <;> first | rfl | (simp at h0; done) | (rw [hf _ _ h0])
theorem objBeq_eq {a b : AObj} (h : objBeq a b = true) : a = b := by
  unfold objBeq at h
  split at h
  · simp only [Bool.and_eq_true, Nat.beq_eq, bEq_iff] at h
    obtain ⟨⟨rfl, rfl⟩, rfl, rfl⟩ := h; rfl
  · simp only [Bool.and_eq_true, Nat.beq_eq, bEq_iff] at h
    obtain ⟨⟨⟨rfl, rfl⟩, rfl, rfl⟩, h1, h2⟩ := h
    rw [AV.beq_eq h1, Tr.beq_eq (fun a b => AV.beq_eq) h2]
  · rw [Nat.eq_of_beq_eq_true h]
  · simp only [Bool.and_eq_true, Nat.beq_eq, optBeq_iff] at h
    obtain ⟨rfl, rfl, rfl⟩ := h; rfl
  · cases h
/-! ### Masks -/
theorem binds_any (e : Edge) : Region.binds .any e = bindsA e := by
  unfold Region.binds bindsA; cases e.ground <;> rfl
theorem bit_shl (i k : Nat) : Nat.testBit (Nat.shiftLeft 1 i) k = true ↔ k = i := by
  have e : Nat.shiftLeft 1 i = 2 ^ i := Nat.one_shiftLeft i
  rw [e, Nat.testBit_two_pow]; simp [eq_comm]
theorem bit_lor (a b k : Nat) : Nat.testBit (Nat.lor a b) k = true ↔ (Nat.testBit a k = true ∨ Nat.testBit b k = true) := by
  have e : Nat.lor a b = a ||| b := rfl
  rw [e, Nat.testBit_or, Bool.or_eq_true]
theorem bit_set (a i k : Nat) : Nat.testBit (setBit a i) k = true ↔ (Nat.testBit a k = true ∨ k = i) := by
  unfold setBit; rw [bit_lor, bit_shl]
theorem maskOf_mem {pm : Tr Nat} {k : Nat} : ∀ {l : List Edge}, Nat.testBit (maskOf pm l) k = true → ∃ e ∈ l, bindsA e = true ∧ (k = e.on ∨ Nat.testBit (mAt pm e.on) k = true)
  | [], h => by simp [maskOf] at h
  | e :: r, h => by
    simp only [maskOf] at h
    cases hb : bindsA e with
    | true =>
      rw [hb, bt_true, bit_lor, bit_lor, bit_shl] at h
      rcases h with (h | h) | h
      · exact ⟨e, by simp, hb, .inl h⟩
      · exact ⟨e, by simp, hb, .inr h⟩
      · obtain ⟨e', h1, h2⟩ := maskOf_mem h; exact ⟨e', by simp [h1], h2⟩
    | false =>
      rw [hb, bt_false] at h
      obtain ⟨e', h1, h2⟩ := maskOf_mem h; exact ⟨e', by simp [h1], h2⟩
theorem maskOf_congr {pm pm' : Tr Nat} : ∀ {l : List Edge}, (∀ e ∈ l, bindsA e = true → mAt pm e.on = mAt pm' e.on) → maskOf pm l = maskOf pm' l
  | [], _ => rfl
  | e :: r, h => by
    have ih := maskOf_congr (l := r) fun e' he' => h e' (by simp [he'])
    simp only [maskOf]
    cases hb : bindsA e with
    | true =>
      have := h e (by simp) hb
      unfold mAt at this
      simp only [bt_true, this, ih]
    | false => simp only [bt_false, ih]
theorem edgesOk_mem : ∀ {l : List Oper} {i : Nat}, edgesOk l i = true → ∀ q o, l[q]? = some o → ∀ e ∈ o.after.toList, bindsA e = true → e.on < i + q
  | [], _, _, q, o, h, _, _, _ => by simp at h
  | o :: r, i, h, q, o', hq, e, he, hb => by
    simp only [edgesOk, Bool.and_eq_true, List.all_eq_true] at h
    cases q with
    | zero =>
      simp only [List.getElem?_cons_zero, Option.some.injEq] at hq
      subst hq
      have := h.1 e he
      simpa [hb, Nat.blt_eq] using this
    | succ q =>
      have := edgesOk_mem h.2 q o' (by simpa using hq) e he hb
      have e1 : Nat.add i 1 = i + 1 := rfl
      omega
theorem masks_spec : ∀ {l : List Oper} {i : Nat} {pm : Tr Nat}, edgesOk l i = true → (∀ k, k < i → mAt (masks l i pm) k = mAt pm k) ∧ ∀ q o, l[q]? = some o → mAt (masks l i pm) (i + q) = maskOf (masks l i pm) o.after.toList
  | [], i, pm, _ => ⟨fun _ _ => rfl, fun q o h => by simp at h⟩
  | o :: r, i, pm, h => by
    have h0 := h
    simp only [edgesOk, Bool.and_eq_true, List.all_eq_true] at h
    obtain ⟨g1, g2⟩ := masks_spec (pm := pm.put (some (maskOf pm o.after.toList)) (bits i)) h.2
    have e1 : Nat.add i 1 = i + 1 := rfl
    have low : ∀ k, k < i → mAt (masks (o :: r) i pm) k = mAt pm k := by
      intro k hk
      have := g1 k (by omega)
      simp only [masks, this]
      unfold mAt
      rw [Tr.get_put_ne _ _ _ _ (bits_ne (by omega))]
    refine ⟨low, fun q o' hq => ?_⟩
    cases q with
    | zero =>
      simp only [List.getElem?_cons_zero, Option.some.injEq] at hq
      subst hq
      have hc : maskOf (masks (o :: r) i pm) o.after.toList = maskOf pm o.after.toList := by
        apply maskOf_congr
        intro e he hb
        have := edgesOk_mem h0 0 o rfl e he hb
        exact low _ (by omega)
      rw [hc]
      have := g1 i (by omega)
      simp only [masks, Nat.add_zero, this]
      unfold mAt
      rw [Tr.get_put_same]; rfl
    | succ q =>
      have := g2 q o' (by simpa using hq)
      have e2 : i + (q + 1) = Nat.add i 1 + q := by omega
      rw [e2]; exact this
/-- a set that has with each what it comes behind -/
theorem masks_closed {ops : List Oper} (he : edgesOk ops 0 = true) {L : Nat → Prop} (hd : ∀ i o, ops[i]? = some o → L i → ∀ e ∈ o.after.toList, bindsA e = true → L e.on) :
    ∀ i, i < ops.length → L i → ∀ k, Nat.testBit (mAt (masks ops 0 .e) i) k = true → L k := by
  intro i
  induction i using Nat.strongRecOn with
  | _ i ih =>
    intro hi hL k hk
    have ho : ops[i]? = some ops[i] := List.getElem?_eq_getElem hi
    have h1 := (masks_spec (pm := .e) he).2 i _ ho
    rw [Nat.zero_add] at h1
    rw [h1] at hk
    obtain ⟨e, h2, h3, h4⟩ := maskOf_mem hk
    have h5 := hd i _ ho hL e h2 h3
    rcases h4 with rfl | h4
    · exact h5
    · have := edgesOk_mem he i _ ho e h2 h3
      exact ih e.on (by omega) (by omega) h5 k h4
section
variable {E : Env}
/-! ### The lists -/
theorem ros_spec {n : Nat} {all : List Oper} {pm : Tr Nat} {hv : List Nat} : ∀ {l : List Oper} {i : Nat} {r : List RO}, ros E n all pm hv l i = some r →
    ∀ x ∈ r, ∃ q, x.i = i + q ∧ l[q]? = some x.o ∧ spK E n all x.o = some x.sp ∧ x.heavy = isHv x.sp.act ∧ x.lo = countLo (mAt pm x.i) hv ∧ x.hi = countHi pm x.i hv
  | [], _, r, h, x, hx => by cases h; simp at hx
  | o :: l, i, r, h, x, hx => by
    simp only [ros, ob_some, Option.some.injEq] at h
    obtain ⟨sp, h1, l', h2, rfl⟩ := h
    rcases List.mem_cons.1 hx with rfl | hx
    · exact ⟨0, rfl, rfl, h1, rfl, rfl, rfl⟩
    · obtain ⟨q, g1, g2⟩ := ros_spec h2 x hx
      refine ⟨q + 1, ?_, by simpa using g2⟩
      rw [g1]; show i + 1 + q = _; omega
theorem ros_inj {n : Nat} {all : List Oper} {pm : Tr Nat} {hv : List Nat} {l : List Oper} {i : Nat} {r : List RO} (h : ros E n all pm hv l i = some r) {x y : RO} (hx : x ∈ r) (hy : y ∈ r) (e : x.i = y.i) : x = y := by
  obtain ⟨q, a1, a2, a3, a4, a5, a6⟩ := ros_spec h x hx
  obtain ⟨p, b1, b2, b3, b4, b5, b6⟩ := ros_spec h y hy
  have : q = p := by omega
  subst this
  have e1 : x.o = y.o := by rw [a2] at b2; exact Option.some.inj b2
  have e2 : x.sp = y.sp := by rw [e1, b3] at a3; exact (Option.some.inj a3).symm
  rw [e2] at a4
  rw [← a4] at b4
  rw [e, ← b5] at a5
  rw [e, ← b6] at a6
  cases x; cases y
  simp only at e e1 e2 a5 a6 b4
  subst e e1 e2 a5 a6 b4
  rfl
theorem mem_stageOf {j : Nat} : ∀ {l : List RO} {x}, x ∈ stageOf j l → x ∈ l
  | [], _, h => by simp [stageOf] at h
  | y :: r, x, h => by
    simp only [stageOf] at h
    split at h
    · rcases List.mem_cons.1 h with rfl | h
      · simp
      · simp [mem_stageOf h]
    · simp [mem_stageOf h]
theorem mem_heavyOf {j : Nat} : ∀ {l : List RO} {x}, x ∈ heavyOf j l → x ∈ l
  | [], _, h => by simp [heavyOf] at h
  | y :: r, x, h => by
    simp only [heavyOf] at h
    split at h
    · rcases List.mem_cons.1 h with rfl | h
      · simp
      · simp [mem_heavyOf h]
    · simp [mem_heavyOf h]
theorem mem_orderOf {l : List RO} : ∀ {k j : Nat} {x}, x ∈ orderOf l k j → x ∈ l
  | 0, _, _, h => mem_stageOf h
  | k + 1, j, x, h => by
    simp only [orderOf, List.mem_append] at h
    rcases h with h | h | h
    · exact mem_stageOf h
    · exact mem_heavyOf h
    · exact mem_orderOf h
theorem heavies_mem : ∀ {l : List Oper} {i k : Nat}, k ∈ heavies E l i → ∃ q o, k = i + q ∧ l[q]? = some o ∧ isHv (actK E o.op) = true
  | [], _, _, h => by simp [heavies] at h
  | o :: r, i, k, h => by
    have step : k ∈ heavies E r (Nat.add i 1) → ∃ q o', k = i + q ∧ (o :: r)[q]? = some o' ∧ isHv (actK E o'.op) = true := by
      intro h
      obtain ⟨q, o', h1, h2, h3⟩ := heavies_mem h
      refine ⟨q + 1, o', ?_, by simpa using h2, h3⟩
      rw [h1]; show i + 1 + q = _; omega
    simp only [heavies] at h
    split at h
    · rename_i hh
      rcases List.mem_cons.1 h with rfl | h
      · exact ⟨0, o, rfl, rfl, hh⟩
      · exact step h
    · exact step h
theorem heavies_inc : ∀ {l : List Oper} {i : Nat}, (heavies E l i).Pairwise (· < ·)
  | [], _ => .nil
  | o :: r, i => by
    simp only [heavies]
    split
    · refine .cons (fun k hk => ?_) heavies_inc
      obtain ⟨q, o', h1, _⟩ := heavies_mem hk
      have : Nat.add i 1 = i + 1 := rfl
      omega
    · exact heavies_inc
theorem heavies_nodup {l : List Oper} {i p q k : Nat} (hp : (heavies E l i)[p]? = some k) (hq : (heavies E l i)[q]? = some k) : p = q := by
  have h := heavies_inc (E := E) (l := l) (i := i)
  rw [List.pairwise_iff_getElem] at h
  obtain ⟨a1, a2⟩ := List.getElem?_eq_some_iff.1 hp
  obtain ⟨b1, b2⟩ := List.getElem?_eq_some_iff.1 hq
  rcases Nat.lt_trichotomy p q with g | g | g
  · have := h p q a1 b1 g; omega
  · exact g
  · have := h q p b1 a1 g; omega
end
theorem countLo_spec {m : Nat} : ∀ {hv : List Nat} {q : Nat}, q < countLo m hv → ∃ h, hv[q]? = some h ∧ Nat.testBit m h = true
  | [], q, h => by simp [countLo] at h
  | a :: r, q, h => by
    simp only [countLo] at h
    split at h
    · rename_i ht
      cases q with
      | zero => exact ⟨a, rfl, ht⟩
      | succ q =>
        have e : Nat.add (countLo m r) 1 = countLo m r + 1 := rfl
        obtain ⟨b, h1, h2⟩ := countLo_spec (m := m) (hv := r) (q := q) (by omega)
        exact ⟨b, by simpa using h1, h2⟩
    · omega
theorem countHi_spec {pm : Tr Nat} {i : Nat} : ∀ {hv : List Nat} {h : Nat}, hv[countHi pm i hv]? = some h → Nat.testBit (mAt pm h) i = true
  | [], h, hh => by simp at hh
  | a :: r, h, hh => by
    simp only [countHi] at hh
    split at hh
    · rename_i ht
      simp only [List.getElem?_cons_zero, Option.some.injEq] at hh
      subst hh; exact ht
    · have e : Nat.add (countHi pm i r) 1 = countHi pm i r + 1 := rfl
      rw [e, List.getElem?_cons_succ] at hh
      exact countHi_spec hh
theorem tmpsOk_spec {pm : Tr Nat} {x : RO} : ∀ {l : List RO}, tmpsOk pm x l = true → ∀ y ∈ l,
    (x.i = y.i ∨ Nat.testBit (mAt pm x.i) y.i = true ∨ Nat.testBit (mAt pm y.i) x.i = true ∨ ∀ t ∈ looksA x, y.o.dst ≠ some t) ∧ (x.i = y.i ∨ ∀ d, x.o.dst = some d → y.o.dst ≠ some d)
  | [], _, y, hy => by simp at hy
  | z :: r, h, y, hy => by
    simp only [tmpsOk, Bool.and_eq_true, Bool.or_eq_true, Nat.beq_eq, Bool.not_eq_true'] at h
    obtain ⟨h1, h2, h3⟩ := h
    rcases List.mem_cons.1 hy with rfl | hy
    · refine ⟨?_, ?_⟩
      · rcases h1 with h1 | h1 | h1 | h1
        · exact .inl h1
        · exact .inr (.inl h1)
        · exact .inr (.inr (.inl h1))
        · refine .inr (.inr (.inr fun t ht e => ?_))
          rw [List.any_eq_false] at h1
          exact h1 t ht (by rw [e]; simp [dstIs])
      · rcases h2 with h2 | h2
        · exact .inl h2
        · refine .inr fun d hd e => ?_
          rw [hd, e] at h2; simp [dstIs] at h2
    · exact tmpsOk_spec h3 y hy
theorem sameAt_spec {f : AH → Bool} : ∀ {l : List AH} {lo cnt : Nat}, sameAt f lo cnt l = true → ∀ j, lo ≤ j → j < lo + cnt → ∃ G, l[j]? = some G ∧ f G = true
  | [], 0, 0, _, j, _, h2 => by omega
  | [], 0, c + 1, h, _, _, _ => by simp [sameAt] at h
  | [], lo + 1, c, h, _, _, _ => by simp [sameAt] at h
  | g :: r, 0, 0, _, j, _, h2 => by omega
  | g :: r, 0, c + 1, h, j, h1, h2 => by
    simp only [sameAt, Bool.and_eq_true] at h
    cases j with
    | zero => exact ⟨g, rfl, h.1⟩
    | succ j =>
      obtain ⟨G, a1, a2⟩ := sameAt_spec h.2 j (by omega) (by omega)
      exact ⟨G, by simpa using a1, a2⟩
  | g :: r, lo + 1, c, h, j, h1, h2 => by
    simp only [sameAt] at h
    cases j with
    | zero => omega
    | succ j =>
      obtain ⟨G, a1, a2⟩ := sameAt_spec h j (by omega) (by omega)
      exact ⟨G, by simpa using a1, a2⟩
theorem checkA_spec {hs : List AH} : ∀ {dn : List Done}, checkA hs dn = true → ∀ d ∈ dn, check1 hs d = true
  | [], _, d, hd => by simp at hd
  | e :: r, h, d, hd => by
    simp only [checkA, Bool.and_eq_true] at h
    rcases List.mem_cons.1 hd with rfl | hd
    · exact h.1
    · exact checkA_spec h.2 d hd
theorem resT_get {T : Tr AV} : ∀ {l : List Nat} {t : Nat}, (resT l T).get (bits t) = if t ∈ l then T.get (bits t) else none
  | [], t => by simp [resT]
  | a :: r, t => by
    simp only [resT]
    cases h : T.get (bits a) with
    | none =>
      rw [oc_none, resT_get]
      by_cases e : t = a
      · subst e; simp [h]
      · simp [e]
    | some v =>
      rw [oc_some]
      by_cases e : t = a
      · subst e; rw [Tr.get_put_same]; simp [h]
      · rw [Tr.get_put_ne _ _ _ _ (bits_ne (Ne.symm e)), resT_get]; simp [e]
end Go.Xq
