/- A part of the proof that what the evaluator answers is what the machine does. Its conditions stand in each theorem. -/
import Derived.Test.YtgcgpblccnajjacGreatDoorY30
namespace Go.Xq
/-! ### The run in one order, and what it leaves on record -/
structure Grow (H H' : AH) : Prop where
  next : H.next ≤ H'.next
  get : ∀ b, b < H.next → H'.get b = H.get b
theorem Grow.refl (H : AH) : Grow H H := ⟨Nat.le_refl _, fun _ _ => rfl⟩
theorem Grow.trans {A B C : AH} (h : Grow A B) (h' : Grow B C) : Grow A C := ⟨Nat.le_trans h.next h'.next, fun b hb => by rw [h'.get b (Nat.lt_of_lt_of_le hb h.next), h.get b hb]⟩
theorem Grow.new (H : AH) (o : AObj) : Grow H (H.new o) := ⟨by simp, fun b hb => by rw [AH.get_new, if_neg (by omega)]⟩
def hAt (hs : List AH) (H : AH) (j : Nat) : Option AH := (H :: hs).reverse[j]?
theorem hAt_eq (hs : List AH) (H : AH) (j : Nat) : hAt hs H j = if j < hs.length then hs.reverse[j]? else if j = hs.length then some H else none := by
  unfold hAt
  rw [List.reverse_cons, List.getElem?_append, List.length_reverse]
  split
  · rfl
  · split
    · rename_i h; subst h; simp
    · rw [List.getElem?_eq_none]; simp; omega
theorem hAt_lt {hs : List AH} {H : AH} (H' : AH) {j : Nat} (h : j < hs.length) : hAt hs H' j = hAt hs H j := by rw [hAt_eq, hAt_eq, if_pos h, if_pos h]
theorem hAt_len (hs : List AH) (H : AH) : hAt hs H hs.length = some H := by rw [hAt_eq, if_neg (by omega), if_pos rfl]
theorem hAt_le {hs : List AH} {H G : AH} {j : Nat} (h : hAt hs H j = some G) : j ≤ hs.length := by
  rw [hAt_eq] at h; split at h
  · omega
  · split at h
    · omega
    · cases h
theorem hAt_push {hs : List AH} {H : AH} (H' : AH) {j : Nat} (h : j ≤ hs.length) : hAt (H :: hs) H' j = hAt hs H j := by
  rw [hAt_eq, hAt_eq, if_pos (by simp; omega), List.reverse_cons, List.getElem?_append, List.length_reverse]
  split
  · rfl
  · rw [if_pos (by omega)]
    have : j - hs.length = 0 := by omega
    rw [this]; rfl
theorem hAt_top (hs : List AH) (H H' : AH) : hAt (H :: hs) H' (hs.length + 1) = some H' := hAt_len (H :: hs) H'
/-- one step of the run: the heap has grown, or a heavy one was carried out -/
inductive HStep (hs : List AH) (H : AH) : List AH → AH → Prop
  | grow (H' : AH) (h : Grow H H') : HStep hs H hs H'
  | push (H' : AH) (h : H.next ≤ H'.next) : HStep hs H (H :: hs) H'
section
variable {hs hs' : List AH} {H H' G : AH} {j : Nat}
theorem HStep.next (h : HStep hs H hs' H') : H.next ≤ H'.next := by
  cases h with
  | grow _ h => exact h.next
  | push _ h => exact h
theorem HStep.len (h : HStep hs H hs' H') : hs.length ≤ hs'.length := by cases h <;> simp
theorem HStep.keep (h : HStep hs H hs' H') (hg : hAt hs H j = some G) (hj : j < hs.length) : hAt hs' H' j = some G := by
  cases h with
  | grow => rw [hAt_lt (H := H) H' hj, hg]
  | push => rw [hAt_push H' (by omega), hg]
theorem HStep.up (h : HStep hs H hs' H') (hg : hAt hs H j = some G) : ∃ G', hAt hs' H' j = some G' ∧ Grow G G' := by
  have hle := hAt_le hg
  cases h with
  | grow _ h =>
    rcases Nat.lt_or_ge j hs.length with hj | hj
    · exact ⟨G, by rw [hAt_lt (H := H) H' hj, hg], Grow.refl _⟩
    · have e : j = hs.length := by omega
      subst e
      rw [hAt_len] at hg; cases hg
      exact ⟨_, hAt_len _ _, h⟩
  | push => exact ⟨G, by rw [hAt_push H' hle, hg], Grow.refl _⟩
theorem HStep.back (h : HStep hs H hs' H') {G' : AH} (hg : hAt hs' H' j = some G') : (∃ G, hAt hs H j = some G ∧ G.next ≤ G'.next) ∨ (G' = H' ∧ H.next ≤ H'.next) := by
  have hle := hAt_le hg
  cases h with
  | grow _ h =>
    rcases Nat.lt_or_ge j hs.length with hj | hj
    · rw [hAt_lt (H := H) H' hj] at hg
      exact .inl ⟨_, hg, Nat.le_refl _⟩
    · have e : j = hs.length := by omega
      subst e
      rw [hAt_len] at hg; cases hg
      exact .inr ⟨rfl, h.next⟩
  | push _ h =>
    rcases Nat.lt_or_ge hs.length j with hj | hj
    · have e : j = hs.length + 1 := by simp at hle; omega
      subst e
      rw [hAt_top] at hg; cases hg
      exact .inr ⟨rfl, h⟩
    · rw [hAt_push H' hj] at hg
      exact .inl ⟨_, hg, Nat.le_refl _⟩
end
/-- what the record of an operation says -/
structure ValOk (R : Rec) (hv : List Nat) (H0 : AH) (hs : List AH) (H : AH) (d : Done) : Prop where
  no : d.want = false → d.v = undefA
  low : ∀ b o, d.blk = some (b, o) → H0.next ≤ b
  yes : d.want = true → (∃ k H1, d.x.sp.act = .look k ∧ k.f d.T H1 = some d.v) ∨
    (∃ k b o, d.x.sp.act = .fresh k ∧ d.blk = some (b, o) ∧ k.f d.T b = some (d.v, o) ∧ H0.next ≤ b ∧ ∀ j G, d.x.lo ≤ j → hAt hs H j = some G → b < G.next) ∨
    (∃ k G G', d.x.sp.act = .heavy k ∧ d.hp = some (G, G') ∧ k.f R d.T G = some (d.v, G'))
  hvy : d.x.heavy = true → d.x.lo < hs.length ∧ hv[d.x.lo]? = some d.x.i ∧ ∃ G G' G2, d.hp = some (G, G') ∧ hAt hs H d.x.lo = some G ∧ G.next ≤ G'.next ∧ hAt hs H (d.x.lo + 1) = some G2 ∧ Grow G' G2 ∧ (d.want = false → G' = G)
theorem ValOk.step {R : Rec} {hv : List Nat} {H0 : AH} {hs hs' : List AH} {H H' : AH} {d : Done} (h : ValOk R hv H0 hs H d) (hst : HStep hs H hs' H') (hb : ∀ b o, d.blk = some (b, o) → b < H.next) : ValOk R hv H0 hs' H' d := by
  refine ⟨h.no, h.low, fun hw => ?_, fun hh => ?_⟩
  · rcases h.yes hw with g | ⟨k, b, o, g1, g2, g3, g4, g5⟩ | g
    · exact .inl g
    · refine .inr (.inl ⟨k, b, o, g1, g2, g3, g4, fun j G' hj hG => ?_⟩)
      rcases hst.back hG with ⟨G, a1, a2⟩ | ⟨rfl, a2⟩
      · exact Nat.lt_of_lt_of_le (g5 j G hj a1) a2
      · exact Nat.lt_of_lt_of_le (hb b o g2) a2
    · exact .inr (.inr g)
  · obtain ⟨a1, a2, G, G', G2, a3, a4, a5, a6, a7, a8⟩ := h.hvy hh
    obtain ⟨G3, b1, b2⟩ := hst.up a6
    exact ⟨Nat.lt_of_lt_of_le a1 hst.len, a2, G, G', G3, a3, hst.keep a4 a1, a5, b1, a7.trans b2, a8⟩
/-- what the record says of the temporaries that were looked at -/
def TmpOk (pm : Tr Nat) (T0 : Tr AV) (dn : List Done) (d : Done) : Prop :=
  ∃ (acc : Nat → Prop) (S : Tr AV), ¬ acc d.x.i ∧ (∀ k, acc k → ∃ y ∈ dn, y.x.i = k) ∧ (∀ k, Nat.testBit (mAt pm d.x.i) k = true → acc k) ∧ (∀ i k, acc i → Nat.testBit (mAt pm i) k = true → acc k) ∧
    (d.want = true → d.T = resT (looksA d.x) S) ∧ d.want = wantA d.x.sp.g S ∧
    ∀ t ∈ looksA d.x, (∃ y ∈ dn, acc y.x.i ∧ y.x.o.dst = some t ∧ S.get (bits t) = some y.v) ∨ ((∀ y ∈ dn, acc y.x.i → y.x.o.dst ≠ some t) ∧ S.get (bits t) = T0.get (bits t))
theorem TmpOk.step {pm : Tr Nat} {T0 : Tr AV} {dn : List Done} {d e : Done} (h : TmpOk pm T0 dn d) (he : ∀ y ∈ dn, y.x.i ≠ e.x.i) : TmpOk pm T0 (e :: dn) d := by
  obtain ⟨acc, S, h1, h2, h3, h4, h5, h6, h7⟩ := h
  refine ⟨acc, S, h1, fun k hk => ?_, h3, h4, h5, h6, fun t ht => ?_⟩
  · obtain ⟨y, a1, a2⟩ := h2 k hk; exact ⟨y, by simp [a1], a2⟩
  · rcases h7 t ht with ⟨y, a1, a2⟩ | ⟨a1, a2⟩
    · exact .inl ⟨y, by simp [a1], a2⟩
    · refine .inr ⟨fun y hy hacc => ?_, a2⟩
      rcases List.mem_cons.1 hy with rfl | hy
      · obtain ⟨z, b1, b2⟩ := h2 _ hacc
        exact absurd b2 (he z b1)
      · exact a1 y hy hacc
structure Can (R : Rec) (l : List RO) (pm : Tr Nat) (hv : List Nat) (T0 : Tr AV) (H0 : AH) (s : DS) (acc : Nat) (hr : List Nat) : Prop where
  mem : ∀ d ∈ s.dn, d.x ∈ l
  ain : ∀ d ∈ s.dn, Nat.testBit acc d.x.i = true
  out : ∀ i, Nat.testBit acc i = true → ∃ d ∈ s.dn, d.x.i = i
  cl : ∀ i k, Nat.testBit acc i = true → Nat.testBit (mAt pm i) k = true → Nat.testBit acc k = true
  tmp : ∀ t, (∃ y ∈ s.dn, y.x.o.dst = some t ∧ s.T.get (bits t) = some y.v) ∨ ((∀ y ∈ s.dn, y.x.o.dst ≠ some t) ∧ s.T.get (bits t) = T0.get (bits t))
  tok : ∀ d ∈ s.dn, TmpOk pm T0 s.dn d
  vok : ∀ d ∈ s.dn, ValOk R hv H0 s.hs s.H d
  one : ∀ d ∈ s.dn, ∀ e ∈ s.dn, d.x.i = e.x.i → d = e
  rest : ∃ pre, hv = pre ++ hr ∧ pre.length = s.hs.length
  blk : ∀ d ∈ s.dn, ∀ b o, d.blk = some (b, o) → b < s.H.next
  bone : ∀ d ∈ s.dn, ∀ e ∈ s.dn, ∀ b o o', d.blk = some (b, o) → e.blk = some (b, o') → d.x.i = e.x.i
  hpb : ∀ d ∈ s.dn, ∀ e ∈ s.dn, ∀ b o G G', d.blk = some (b, o) → e.hp = some (G, G') → b < G.next ∨ G'.next ≤ b
  hpn : ∀ e ∈ s.dn, ∀ G G', e.hp = some (G, G') → G'.next ≤ s.H.next
  start : ∃ G, hAt s.hs s.H 0 = some G ∧ Grow H0 G
  low : H0.next ≤ s.H.next
theorem Can.init (R : Rec) (l : List RO) (pm : Tr Nat) (hv : List Nat) (T0 : Tr AV) (H0 : AH) : Can R l pm hv T0 H0 { T := T0, H := H0, hs := [], dn := [] } 0 hv where
  mem := by simp
  ain := by simp
  out := by simp
  cl := by simp
  tmp := by simp
  tok := by simp
  vok := by simp
  one := by simp
  rest := ⟨[], rfl, rfl⟩
  blk := by simp
  bone := by simp
  hpb := by simp
  hpn := by simp
  start := ⟨H0, rfl, Grow.refl _⟩
  low := Nat.le_refl _
theorem Can.push {R : Rec} {l : List RO} {pm : Tr Nat} {hv : List Nat} {T0 : Tr AV} {H0 : AH} {s : DS} {acc : Nat} {hr hr' : List Nat} (hc : Can R l pm hv T0 H0 s acc hr) {d : Done} {hs' : List AH} {H' : AH} (hst : HStep s.hs s.H hs' H')
    (hm : d.x ∈ l) (hn : Nat.testBit acc d.x.i = false) (hmask : ∀ k, Nat.testBit (mAt pm d.x.i) k = true → Nat.testBit acc k = true) (hdst : d.x.sp.dst = d.x.o.dst)
    (hT : d.want = true → d.T = resT (looksA d.x) s.T) (hw : d.want = wantA d.x.sp.g s.T) (hv' : ValOk R hv H0 hs' H' d) (hrest : ∃ pre, hv = pre ++ hr' ∧ pre.length = hs'.length)
    (hblk : ∀ b o, d.blk = some (b, o) → b = s.H.next ∧ H'.next = s.H.next + 1 ∧ d.hp = none) (hhp : ∀ G G', d.hp = some (G, G') → G = s.H ∧ G' = H') :
    Can R l pm hv T0 H0 { T := putA s.T d.x.sp.dst d.v, H := H', hs := hs', dn := d :: s.dn } (setBit acc d.x.i) hr' := by
  have hne : ∀ y ∈ s.dn, y.x.i ≠ d.x.i := fun y hy e => by have := hc.ain y hy; rw [e, hn] at this; cases this
  constructor
  · intro e he
    rcases List.mem_cons.1 he with rfl | he'
    · exact hm
    · exact hc.mem e he'
  · intro e he
    rw [bit_set]
    rcases List.mem_cons.1 he with rfl | he'
    · exact .inr rfl
    · exact .inl (hc.ain e he')
  · intro i hi
    rw [bit_set] at hi
    rcases hi with hi | rfl
    · obtain ⟨e, h1, h2⟩ := hc.out i hi; exact ⟨e, by simp [h1], h2⟩
    · exact ⟨d, by simp, rfl⟩
  · intro i k hi hk
    rw [bit_set] at hi ⊢
    rcases hi with hi | rfl
    · exact .inl (hc.cl i k hi hk)
    · exact .inl (hmask k hk)
  · intro t
    show (∃ y ∈ d :: s.dn, y.x.o.dst = some t ∧ (putA s.T d.x.sp.dst d.v).get (bits t) = some y.v) ∨ ((∀ y ∈ d :: s.dn, y.x.o.dst ≠ some t) ∧ (putA s.T d.x.sp.dst d.v).get (bits t) = T0.get (bits t))
    rw [hdst]
    by_cases e : d.x.o.dst = some t
    · refine .inl ⟨d, by simp, e, ?_⟩
      rw [e]; simp only [putA, oc_some]; rw [Tr.get_put_same]
    · have hget : (putA s.T d.x.o.dst d.v).get (bits t) = s.T.get (bits t) := by
        cases hd : d.x.o.dst with
        | none => rfl
        | some u => simp only [putA, oc_some]; rw [Tr.get_put_ne _ _ _ _ (bits_ne (fun e2 => e (by rw [hd, e2])))]
      rw [hget]
      rcases hc.tmp t with ⟨y, h1, h2⟩ | ⟨h1, h2⟩
      · exact .inl ⟨y, by simp [h1], h2⟩
      · refine .inr ⟨fun y hy => ?_, h2⟩
        rcases List.mem_cons.1 hy with rfl | hy
        · exact e
        · exact h1 y hy
  · intro e he
    rcases List.mem_cons.1 he with rfl | he'
    · refine ⟨fun k => Nat.testBit acc k = true, s.T, by simp [hn], fun k hk => ?_, hmask, hc.cl, hT, hw, fun t ht => ?_⟩
      · obtain ⟨y, h1, h2⟩ := hc.out k hk; exact ⟨y, by simp [h1], h2⟩
      · rcases hc.tmp t with ⟨y, h1, h2, h3⟩ | ⟨h1, h2⟩
        · exact .inl ⟨y, by simp [h1], hc.ain y h1, h2, h3⟩
        · refine .inr ⟨fun y hy hacc => ?_, h2⟩
          rcases List.mem_cons.1 hy with rfl | hy
          · exact absurd hacc (by simp [hn])
          · exact h1 y hy
    · exact (hc.tok e he').step hne
  · intro e he
    rcases List.mem_cons.1 he with rfl | he'
    · exact hv'
    · exact (hc.vok e he').step hst (hc.blk e he')
  · intro e he f hf hi
    rcases List.mem_cons.1 he with rfl | he'
    · rcases List.mem_cons.1 hf with rfl | hf'
      · rfl
      · exact absurd hi.symm (hne f hf')
    · rcases List.mem_cons.1 hf with rfl | hf'
      · exact absurd hi (hne e he')
      · exact hc.one e he' f hf' hi
  · exact hrest
  · intro e he b o hb
    rcases List.mem_cons.1 he with rfl | he'
    · obtain ⟨h1, h2, _⟩ := hblk b o hb
      show b < H'.next; omega
    · exact Nat.lt_of_lt_of_le (hc.blk e he' b o hb) hst.next
  · intro e he f hf b o o' h1 h2
    rcases List.mem_cons.1 he with rfl | he'
    · rcases List.mem_cons.1 hf with rfl | hf'
      · rfl
      · have := (hblk b o h1).1
        have := hc.blk f hf' b o' h2
        omega
    · rcases List.mem_cons.1 hf with rfl | hf'
      · have := (hblk b o' h2).1
        have := hc.blk e he' b o h1
        omega
      · exact hc.bone e he' f hf' b o o' h1 h2
  · intro e he f hf b o G G' h1 h2
    rcases List.mem_cons.1 he with rfl | he'
    · obtain ⟨a1, a2, a3⟩ := hblk b o h1
      rcases List.mem_cons.1 hf with rfl | hf'
      · rw [a3] at h2; cases h2
      · exact .inr (by rw [a1]; exact hc.hpn f hf' G G' h2)
    · rcases List.mem_cons.1 hf with rfl | hf'
      · obtain ⟨rfl, rfl⟩ := hhp G G' h2
        exact .inl (hc.blk e he' b o h1)
      · exact hc.hpb e he' f hf' b o G G' h1 h2
  · intro e he G G' h2
    rcases List.mem_cons.1 he with rfl | he'
    · obtain ⟨rfl, rfl⟩ := hhp G G' h2
      exact Nat.le_refl _
    · exact Nat.le_trans (hc.hpn e he' G G' h2) hst.next
  · obtain ⟨G, h1, h2⟩ := hc.start
    obtain ⟨G', h3, h4⟩ := hst.up h1
    exact ⟨G', h3, h2.trans h4⟩
  · exact Nat.le_trans hc.low hst.next
/-! ### The whole run -/
theorem land_sub {a b k : Nat} (h : Nat.beq (Nat.land a b) a = true) (hk : Nat.testBit a k = true) : Nat.testBit b k = true := by
  have e : a &&& b = a := Nat.eq_of_beq_eq_true h
  rw [← e, Nat.testBit_and, Bool.and_eq_true] at hk
  exact hk.2
theorem draws_can {n : Nat} {l : List RO} {pm : Tr Nat} {hv : List Nat} {T0 : Tr AV} {H0 : AH} {R : Rec} (hl : ∀ x ∈ l, x.heavy = isHv x.sp.act ∧ x.sp.dst = x.o.dst) : ∀ {ord : List RO} {acc : Nat} {hr : List Nat} {s s' : DS}, (∀ x ∈ ord, x ∈ l) →
    ordOk pm n ord acc s.hs.length hr = true → Can R l pm hv T0 H0 s acc hr → (drawsK ord).f R s = some s' → ∃ acc', Can R l pm hv T0 H0 s' acc' [] ∧ acc' + 1 = 2 ^ n
  | [], acc, hr, s, s', _, ho, hc, h => by
    simp only [drawsK, Option.some.injEq] at h
    subst h
    simp only [ordOk, Bool.and_eq_true] at ho
    cases hr with
    | nil =>
      refine ⟨acc, hc, ?_⟩
      have h1 := Nat.eq_of_beq_eq_true ho.1
      have e : Nat.shiftLeft 1 n = 2 ^ n := Nat.one_shiftLeft n
      rw [e] at h1; exact h1
    | cons a r => exact absurd ho.2 (by simp)
  | x :: r, acc, hr, s, s', hmem, ho, hc, h => by
    obtain ⟨hx1, hx2⟩ := hl x (hmem x (by simp))
    have hmem' : ∀ y ∈ r, y ∈ l := fun y hy => hmem y (by simp [hy])
    simp only [ordOk, Bool.and_eq_true, Bool.not_eq_true'] at ho
    obtain ⟨⟨hn, hland⟩, ho⟩ := ho
    have hmask : ∀ k, Nat.testBit (mAt pm x.i) k = true → Nat.testBit acc k = true := fun k hk => land_sub hland hk
    obtain ⟨pre, hpre, hplen⟩ := hc.rest
    simp only [drawsK, thenD, ob_some] at h
    obtain ⟨s1, h1, h2⟩ := h
    have hx := hmem x (by simp)
    simp only [draw1] at h1
    cases hw : wantA x.sp.g s.T with
    | false =>
      rw [hw, bt_false, Option.some.injEq] at h1
      subst h1
      cases hh : x.heavy with
      | true =>
        rw [hh] at ho
        cases hr with
        | nil => cases ho
        | cons a hr =>
          simp only [Bool.and_eq_true] at ho
          obtain ⟨⟨ha, hlo⟩, ho⟩ := ho
          have ha := Nat.eq_of_beq_eq_true ha
          have hlo := Nat.eq_of_beq_eq_true hlo
          rw [hh] at h2
          simp only [bt_true] at h2
          have hp := Can.push hc (d := { x, T := .e, want := false, v := undefA, blk := none, hp := some (s.H, s.H) }) (hr' := hr) (.push s.H (Nat.le_refl _)) hx hn hmask hx2 (fun h => by cases h) (by rw [hw])
            ⟨fun _ => rfl, (fun b o h => by cases h), (fun h => by cases h), fun _ => ⟨by simp [hlo], by rw [hpre, hlo, ← hplen]; simp [ha], s.H, s.H, s.H, rfl, by rw [hlo, hAt_push _ (Nat.le_refl _), hAt_len], Nat.le_refl _, by rw [hlo, hAt_top], Grow.refl _, fun _ => rfl⟩⟩
            ⟨pre ++ [a], by simp [hpre], by simp [hplen]⟩ (fun b o h => by cases h) (fun G G' h => by cases h; exact ⟨rfl, rfl⟩)
          exact draws_can hl hmem' (by exact ho) hp h2
      | false =>
        rw [hh] at ho
        simp only [Bool.and_eq_true] at ho
        rw [hh] at h2
        simp only [bt_false] at h2
        have hp := Can.push hc (d := { x, T := .e, want := false, v := undefA, blk := none, hp := none }) (hr' := hr) (.grow s.H (Grow.refl _)) hx hn hmask hx2 (fun h => by cases h) (by rw [hw])
          ⟨fun _ => rfl, (fun b o h => by cases h), (fun h => by cases h), fun h => by rw [show x.heavy = false from hh] at h; cases h⟩ ⟨pre, hpre, hplen⟩ (fun b o h => by cases h) (fun G G' h => by cases h)
        exact draws_can hl hmem' (by exact ho.2) hp h2
    | true =>
      rw [hw, bt_true] at h1
      unfold drawAct at h1
      split at h1
      · rename_i k hact
        simp only [ob_some, Option.some.injEq] at h1
        obtain ⟨v, h1, rfl⟩ := h1
        have hh : x.heavy = false := by rw [hx1, hact]; rfl
        rw [hh] at ho
        simp only [Bool.and_eq_true] at ho
        have hp := Can.push hc (d := { x, T := resT (looksA x) s.T, want := true, v, blk := none, hp := none }) (hr' := hr) (.grow s.H (Grow.refl _)) hx hn hmask hx2 (fun _ => rfl) (by rw [hw])
          ⟨(fun h => by cases h), (fun b o h => by cases h), fun _ => .inl ⟨k, s.H, hact, h1⟩, fun h => by rw [show x.heavy = false from hh] at h; cases h⟩ ⟨pre, hpre, hplen⟩ (fun b o h => by cases h) (fun G G' h => by cases h)
        exact draws_can hl hmem' (by exact ho.2) hp h2
      · rename_i k hact
        simp only [ob_some, bt_some, Option.some.injEq] at h1
        obtain ⟨⟨v, H'⟩, h1, hnx, rfl⟩ := h1
        have hh : x.heavy = true := by rw [hx1, hact]; rfl
        rw [hh] at ho
        cases hr with
        | nil => cases ho
        | cons a hr =>
          simp only [Bool.and_eq_true] at ho
          obtain ⟨⟨ha, hlo⟩, ho⟩ := ho
          have ha := Nat.eq_of_beq_eq_true ha
          have hlo := Nat.eq_of_beq_eq_true hlo
          have hnx : s.H.next ≤ H'.next := Nat.le_of_ble_eq_true hnx
          have hp := Can.push hc (d := { x, T := resT (looksA x) s.T, want := true, v, blk := none, hp := some (s.H, H') }) (hr' := hr) (.push H' hnx) hx hn hmask hx2 (fun _ => rfl) (by rw [hw])
            ⟨(fun h => by cases h), (fun b o h => by cases h), fun _ => .inr (.inr ⟨k, s.H, H', hact, rfl, h1⟩), fun _ => ⟨by simp [hlo], by rw [hpre, hlo, ← hplen]; simp [ha], s.H, H', H', rfl, by rw [hlo, hAt_push _ (Nat.le_refl _), hAt_len], hnx, by rw [hlo, hAt_top], Grow.refl _, fun h => by cases h⟩⟩
            ⟨pre ++ [a], by simp [hpre], by simp [hplen]⟩ (fun b o h => by cases h) (fun G G' h => by cases h; exact ⟨rfl, rfl⟩)
          exact draws_can hl hmem' (by exact ho) hp h2
      · rename_i k hact
        simp only [ob_some, Option.some.injEq] at h1
        obtain ⟨⟨v, o⟩, h1, rfl⟩ := h1
        have hh : x.heavy = false := by rw [hx1, hact]; rfl
        rw [hh] at ho
        simp only [Bool.and_eq_true] at ho
        have hlo := Nat.le_of_ble_eq_true ho.1
        have hp := Can.push hc (d := { x, T := resT (looksA x) s.T, want := true, v, blk := some (s.H.next, o), hp := none }) (hr' := hr) (.grow (s.H.new o) (Grow.new _ _)) hx hn hmask hx2 (fun _ => rfl) (by rw [hw])
          ⟨(fun h => by cases h), (fun b o h => by cases h; exact hc.low), fun _ => .inr (.inl ⟨k, s.H.next, o, hact, rfl, h1, hc.low, fun j G hj hG => by
            have e : j = s.hs.length := by
              have := hAt_le hG
              have hj : x.lo ≤ j := hj
              omega
            subst e
            rw [hAt_len] at hG; cases hG; simp⟩), fun h => by rw [show x.heavy = false from hh] at h; cases h⟩ ⟨pre, hpre, hplen⟩ (fun b o' h => by cases h; exact ⟨rfl, by simp, rfl⟩) (fun G G' h => by cases h)
        exact draws_can hl hmem' (by exact ho.2) hp h2
      · cases h1
end Go.Xq
