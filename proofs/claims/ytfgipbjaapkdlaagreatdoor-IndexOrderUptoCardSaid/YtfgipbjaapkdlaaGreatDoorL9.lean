/- A part of the proof of this seat's statement. Conditions: in each theorem. -/
import Derived.Test.YtfgipbjaapkdlaaGreatDoorL8
namespace Go.Proofs.YtfgipbjaapkdlaaGreatDoor
open Go.Xq
noncomputable section
theorem idxE {H : AH} {v : AV} {c r : List UInt8} (h : RdS H v (c ++ 0 :: r)) (hc : ∀ x ∈ c, x ≠ 0) : E.ext 200 (.cons v (.cons (.int .u8 0) .nil)) H = some (.int .i64 (c.length : Int)) := by
  show ob (bytesA H v) (fun p => bt (Nat.blt 0 256) (some (AV.int .i64 (idxN p.1 p.2 0 0))) none) = _
  rw [h.bytesA, ob_some']
  show some (AV.int .i64 (idxN (c ++ 0 :: r).length (leNat (c ++ 0 :: r)) 0 0)) = _
  rw [idxN_first c r 0 hc, Nat.zero_add]
theorem indexByte_ok {H : AH} {v : AV} {c r : List UInt8} (h : RdS H v (c ++ 0 :: r)) (hc : ∀ x ∈ c, x ≠ 0) : DC Tryz.prog .normal 171 (.cons v (.cons (.int .u8 0) .nil)) H fun v' H2 => v' = .int .i64 (c.length : Int) ∧ H2 = H := by
  refine DC.of_wd (re := reTmp 4 reNil) tyOk Tryz.func171 (by kernel_rfl) rfl (by kernel_rfl) (by kernel_rfl) ?_
  rw [tl_nil, argsT_cons, argsT_cons, argsT_nil]
  refine WD.seqR ?_
  refine WDO.looks1 tyOk extOk 1 (ls := [xK 0 4]) (by kernel_rfl) (by simp (disch := omega) []; exact rfl) ?_
  refine WDO.nilS (WD.seqR ?_)
  refine WDO.looks1 tyOk extOk 2 (ls := [xM 0 5, xM 1 6]) (by kernel_rfl) (by simp (disch := omega) []; exact rfl) ?_
  refine WDO.heavy1 tyOk extOk (k := ⟨hvCallF E 200 (opnds [(.tmp 5), (.tmp 6)])⟩) (v := .int .i64 (c.length : Int)) (H2 := H) (by kernel_rfl) rfl (by kernel_rfl) ?_ ?_
  · have hc := idxE h hc
    simp [hvCallF, callFA, hc]
  refine WDO.looks1 tyOk extOk 1 (ls := [xM 7 4]) (by kernel_rfl) (by simp (disch := omega) []; exact rfl) ?_
  exact WDO.nilS (WD.ret (endR _ (by simp; rfl) ⟨rfl, rfl⟩))
set_option maxHeartbeats 1000000 in
theorem readOrdered_ok {H : AH} {v : AV} {b t rest : List UInt8} {p : Nat} (h : RdS H v b) (hs : SlOk H v) (hd : b.drop p = ordB t ++ rest) (hp : p ≤ b.length) (hmx : b.length ≤ 17179869184) (hv : ∀ x, blk v = some x → x < H.next) :
    DC Tryz.prog .normal 137 (.cons v (.cons (.int .i64 (p : Int)) .nil)) H fun v' H2 => ∃ u, v' = .tup (.cons u (.cons (.int .i64 ((p + (ordB t).length : Nat) : Int)) (.cons (.int .i64 0) .nil))) ∧ OwnB 5 H2 H.next u t ∧ Keep noB H H2 := by
  refine DC.of_wd (re := reTmp 4 (reTmp 5 (reTmp 6 reNil))) tyOk Tryz.func137 (by kernel_rfl) rfl (by kernel_rfl) (by kernel_rfl) ?_
  rw [tl_nil, argsT_cons, argsT_cons, argsT_nil]
  have hlen := h.len
  have f1 : ¬ (p : Int) < 0 := by omega
  have f2 : ¬ (b.length : Int) < (p : Int) := by omega
  refine WD.seqR ?_
  refine WDO.looks1 tyOk extOk 3 (ls := [⟨lkMove (.const (.slice none 0 0)), (some 4), none⟩, xK 0 5, xK 0 6]) (by kernel_rfl) (by simp (disch := omega) []; exact rfl) ?_
  refine WDO.nilS (WD.seq (WD.seqR ?_))
  refine WDO.looks1 tyOk extOk 8 (ls := [xM 1 9, xC akLss 9 0 10, xM 10 11, yM 1 12 11 false, yM 0 13 11 false, yN 13 14 11 false, yB akGtr 12 14 15 11 false, xP 11 15 16 true]) (by kernel_rfl) (by simp (disch := omega) [f1, f2, hlen]; exact rfl) ?_
  refine WDO.nilS (WD.cond (t := false) (by simp) (by simp) fun _ => WD.skip (.inl rfl) (WD.seqR ?_))
  refine WDO.looks1 tyOk extOk 1 (ls := [⟨lkMove (.const (.slice none 0 0)), (some 7), none⟩]) (by kernel_rfl) (by simp (disch := omega) []; exact rfl) ?_
  refine WDO.nilS ?_
  refine WD.block (WD.loopS (σ := AV × Nat × List UInt8 × List UInt8) (fun s => [(0, v), (1, .int .i64 (s.2.1 : Int)), (7, s.1)]) (fun s H' => OwnB 5 H' H.next s.1 s.2.2.1 ∧ Keep noB H H' ∧ s.2.1 ≤ b.length ∧ b.drop s.2.1 = ordB s.2.2.2 ++ rest ∧ t = s.2.2.1 ++ s.2.2.2 ∧ s.2.1 + (ordB s.2.2.2).length = p + (ordB t).length) (fun s => s.2.2.2.length) (.snil, p, [], t) ⟨.inl ⟨rfl, rfl⟩, Keep.refl _ _, hp, hd, rfl, rfl⟩ (by simp) ?_)
  have hT : t.length + 2 ≤ b.length := by
    have h1 := drop_len hd hp
    rw [List.length_append, ordB_eq, List.length_append, ord1_len] at h1
    simp at h1; omega
  rintro ⟨c, q, dn, td⟩ H' ⟨ho, hk, hq, hdq, ht, hsum⟩
  simp only at ho hq hdq ht hsum
  obtain ⟨ch, hch, hor⟩ := ord_chunk td
  have hod : ∃ m r, ordB td = ch ++ 0 :: m :: r := by
    rcases hor with ⟨_, e⟩ | ⟨t', _, e⟩
    · exact ⟨_, _, e⟩
    · exact ⟨_, _, e⟩
  obtain ⟨m, r, hod⟩ := hod
  have hdr : b.drop q = ch ++ 0 :: (m :: (r ++ rest)) := by rw [hdq, hod]; simp
  have hbl := drop_len hdr hq
  simp only [List.length_append, List.length_cons] at hbl
  have hbn : b ≠ [] := by intro e; rw [e] at hbl; simp at hbl
  have hr' := h.keep hk fun _ _ => id
  have hs' := hs.keep h hbn hk fun _ _ => id
  obtain ⟨s1, a1, a2, a3, a4⟩ := slC_gen (lo := q) none (n := b.length) rfl hr' hs' hbn hq (Nat.le_refl _)
  rw [sub_drop, hdr] at a2
  obtain ⟨k, hkk⟩ : ∃ k, k = ch.length := ⟨_, rfl⟩
  obtain ⟨e1, he1⟩ : ∃ e, e = q + k := ⟨_, rfl⟩
  obtain ⟨s2, c1, c2, c3, c4⟩ := slC_gen (lo := q) (some e1) (n := e1) rfl hr' hs' hbn (by omega) (by omega)
  have hx := drop_at (c := ch ++ [0]) (x := m) (r := r ++ rest) (p := q) (b := b) (by rw [hdr]; simp)
  rw [List.length_append, ← hkk] at hx
  have c2' : RdS H' s2 ch := by
    have : sub b q (e1 - q) = ch := by rw [he1, Nat.add_sub_cancel_left, hkk]; exact sub_pre hdr
    rwa [this] at c2
  refine WD.block ?_
  refine WD.seqR ?_
  refine WDO.looks1 tyOk extOk 3 (ls := [xM 0 17, xM 1 18, ⟨⟨slSl 1 (.tmp 17) (some (.tmp 18)) none none⟩, (some 19), none⟩]) (by kernel_rfl) (by simp (disch := omega) [a1]; exact rfl) ?_
  refine WDO.callF (g := 171) rfl rfl rfl (by kernel_rfl) (l := .cons s1 (.cons (.int .u8 0) .nil)) (by simp) (indexByte_ok a2 hch) fun u H2 ⟨hu, hH⟩ => ?_
  subst hu
  subst hH
  rw [← hkk]
  refine WDO.looks1 tyOk extOk 1 (ls := [xM 20 8]) (by kernel_rfl) (by simp (disch := omega) []; exact rfl) ?_
  have g1 : ¬ (k : Int) < 0 := by omega
  have i1 : (q : Int) + (k : Int) = (e1 : Int) := by omega
  have g2 : (e1 : Int) + 1 < (b.length : Int) := by omega
  refine WDO.nilS (WD.seq (WD.seqR ?_))
  refine WDO.looks1 tyOk extOk 11 (ls := [xM 8 21, xC akLss 21 0 22, xM 22 23, yM 1 24 23 false, yM 8 25 23 false, yB akAdd 24 25 26 23 false, yC akAdd 26 1 27 23 false, yM 0 28 23 false, yN 28 29 23 false, yB akGeq 27 29 30 23 false, xP 23 30 31 true]) (by kernel_rfl) (by simp (disch := omega) [g1, i1, g2, hlen]; exact rfl) ?_
  refine WDO.nilS (WD.cond (t := false) (by simp) (by simp) fun _ => WD.skip (.inl rfl) ?_)
  refine WD.seqR ?_
  refine WDO.looks1 tyOk extOk 7 (ls := [xM 7 32, xM 0 33, xM 1 34, xM 1 35, xM 8 36, xB akAdd 35 36 37, ⟨⟨slSl 1 (.tmp 33) (some (.tmp 34)) (some (.tmp 37)) none⟩, (some 38), none⟩]) (by kernel_rfl) (by simp (disch := omega) [i1, c1]; exact rfl) ?_
  obtain ⟨w1, H3, d1, d2, d3, d4⟩ := ho.more hk.1 c2' (by
    have h1 := congrArg List.length ht
    rw [List.length_append] at h1
    have h2 : ch.length ≤ td.length := by rcases hor with ⟨e, _⟩ | ⟨t', e, _⟩ <;> (rw [e]; simp)
    omega)
  refine WDO.heavy1 tyOk extOk (k := ⟨hvAppend ⟨grownBy 5⟩ 1 (.tmp 32) (.tmp 38)⟩) (by kernel_rfl) rfl (by kernel_rfl) (by simp; exact d1) ?_
  have hk3 : Keep noB H H3 := hk.trans' d3 fun x hx e => by have := (ho.low e).1; omega
  refine WDO.looks1 tyOk extOk 1 (ls := [xM 39 7]) (by kernel_rfl) (by simp (disch := omega) []; exact rfl) ?_
  obtain ⟨e2, he2⟩ : ∃ e, e = q + (k + 2) := ⟨_, rfl⟩
  have i2 : (q : Int) + ((k : Int) + 2) = (e2 : Int) := by omega
  refine WDO.nilS (WD.seqR ?_)
  refine WDO.looks1 tyOk extOk 5 (ls := [xM 1 40, xM 8 41, xC akAdd 41 2 42, xB akAdd 40 42 43, xM 43 1]) (by kernel_rfl) (by simp (disch := omega) [i2]; exact rfl) ?_
  have hr3 := h.keep hk3 fun _ _ => id
  obtain ⟨vb, off, cap, o, hvb, hbn', hg, hby⟩ := hr3.pos (by omega)
  obtain ⟨e3, he3⟩ : ∃ e, e = e1 + 1 := ⟨_, rfl⟩
  have i3 : (e2 : Int) - 1 = (e3 : Int) := by omega
  have hrd := hby e3 m (by rw [he3, he1]; exact hx)
  have g3 : e3 < b.length := by omega
  refine WDO.nilS (WD.seqR ?_)
  refine WDO.looks1 tyOk extOk 5 (ls := [xM 0 44, xM 1 45, xC akSub 45 1 46, xI 1 44 46 47, xL 47 48]) (by kernel_rfl) (by simp (disch := omega) [i3, hvb, hg, hrd]; exact rfl) ?_
  refine WDO.nilS (WD.block ?_)
  rcases hor with ⟨e, e'⟩ | ⟨t', e, e'⟩
  · have hm : m = 1 := by
      rw [hod] at e'
      have := List.append_cancel_left e'
      simp at this; exact this.1
    subst hm
    subst e
    refine WD.seqR ?_
    refine WDO.looks1 tyOk extOk 2 (ls := [⟨⟨binInt akEql (.tmp 48) (.const (.int .u8 1))⟩, (some 50), none⟩, xM 50 49]) (by kernel_rfl) (by simp (disch := omega) []; exact rfl) ?_
    refine WDO.nilS (WD.cond (t := true) (by simp) (fun _ => WD.seqR ?_) (by simp))
    refine WDO.looks1 tyOk extOk 5 (ls := [xM 7 51, xM 1 52, xM 51 4, xM 52 5, xK 0 6]) (by kernel_rfl) (by simp (disch := omega) []; exact rfl) ?_
    refine WDO.nilS (WD.ret (endR _ (by simp; rfl) ⟨w1, ?_, by rw [ht]; exact d2, hk3⟩))
    have : e2 = p + (ordB t).length := by rw [← hsum, e', List.length_append, ← hkk, he2]; rfl
    rw [this]; rfl
  · have hm : m = 255 ∧ r = ordB t' := by
      rw [hod] at e'
      have := List.append_cancel_left e'
      simp at this; exact this
    obtain ⟨rfl, rfl⟩ := hm
    refine WD.seqR ?_
    refine WDO.looks1 tyOk extOk 2 (ls := [⟨⟨binInt akEql (.tmp 48) (.const (.int .u8 1))⟩, (some 50), none⟩, xM 50 49]) (by kernel_rfl) (by simp (disch := omega) []; exact rfl) ?_
    refine WDO.nilS (WD.cond (t := false) (by simp) (by simp) fun _ => WD.seqR ?_)
    refine WDO.looks1 tyOk extOk 2 (ls := [⟨⟨binInt akEql (.tmp 48) (.const (.int .u8 255))⟩, (some 54), none⟩, xM 54 53]) (by kernel_rfl) (by simp (disch := omega) []; exact rfl) ?_
    refine WDO.nilS (WD.cond (t := true) (by simp) (fun _ => WD.region ?_) (by simp))
    refine WDO.looks1 tyOk extOk 1 (ls := [xM 7 55]) (by kernel_rfl) (by simp (disch := omega) []; exact rfl) ?_
    obtain ⟨w2, H4, k1, k2, k3, k4⟩ := d2.push hk3.1 0 (by
      have h1 := congrArg List.length ht
      rw [List.length_append, e] at h1
      simp at h1 ⊢; omega)
    refine WDO.fresh1 tyOk (k := ⟨frSlice 1 (zerosA (.cons (.int .u8 0) .nil) 1) ⟨fill1 (.const (.int .u8 0)) 0 1 flEnd⟩ ⟨mkBy 5⟩⟩) (by kernel_rfl) rfl (by kernel_rfl) (v := .sl H3.next 0 1 (some 1)) (x := bb 5 false [0]) ?_ ?_
    · have e0 : leA (.cons (.int .u8 0) .nil) = some (leNat [0]) := leA_1 0
      simp [mkBy, e0, bb]
    refine WDO.heavy1 tyOk extOk (k := ⟨hvAppend ⟨grownBy 5⟩ 1 (.tmp 55) (.tmp 56)⟩) (by kernel_rfl) rfl (by kernel_rfl) (by simp; exact k1) ?_
    refine WDO.looks1 tyOk extOk 1 (ls := [xM 57 7]) (by kernel_rfl) (by simp (disch := omega) []; exact rfl) ?_
    refine WDO.nil ⟨rfl, (w2, e2, dn ++ ch ++ [0], t'), _, rfl, by simp [hvb], ⟨k2, hk3.trans' k3 fun x hx e => by have := (d2.low e).1; omega, by simp only; omega, ?_, by simp only; rw [ht, e]; simp, ?_⟩, by simp only; rw [e]; simp; omega⟩
    · simp only
      have : e2 = q + (ch ++ [0, 255]).length := by rw [he2, List.length_append, ← hkk]; rfl
      rw [this]
      exact drop_more (r := ordB t' ++ rest) (by rw [hdr]; simp)
    · simp only
      rw [← hsum, e', List.length_append, List.length_cons, List.length_cons, ← hkk]
      omega
abbrev qN2_1 : List Dk := [⟨[0], lkMove (.tmp 0), (some 19), none⟩, ⟨[19], ⟨nilChk E (.tmp 19)⟩, (some 20), none⟩, ⟨[20], ⟨fAddr (.tmp 20) 0⟩, (some 21), none⟩, ⟨[21], ⟨ldA ⟨ld1⟩ (.tmp 21)⟩, (some 22), none⟩, ⟨[0], lkMove (.tmp 0), (some 23), none⟩, ⟨[23], ⟨nilChk E (.tmp 23)⟩, (some 24), none⟩, ⟨[24], ⟨fAddr (.tmp 24) 1⟩, (some 25), none⟩, ⟨[25], ⟨ldA ⟨ld1⟩ (.tmp 25)⟩, (some 26), none⟩, ⟨[22, 26], ⟨ixSl 1 (.tmp 22) (.tmp 26)⟩, (some 27), none⟩, ⟨[27], ⟨ldA ⟨ld1⟩ (.tmp 27)⟩, (some 28), none⟩, ⟨[28], ⟨binInt akLss (.tmp 28) (.const (.int .u8 128))⟩, (some 29), none⟩]
structure Rdv where
  v : AV
  p : Nat
  c : isCell v = true
def encG (x : Rdv) : List AV := [x.v, .int .i64 (x.p : Int)]
theorem encG_len (x : Rdv) : (encG x).length = 2 := rfl
def zG : AV := .cons .snil (.cons (.int .i64 0) .nil)
structure RdrAt (H : AH) (B : Nat) (v : AV) (b : List UInt8) (p : Nat) : Prop where
  c : isCell v = true
  bx : Bx encG 93 2 zG H B ⟨v, p, c⟩
  rd : RdS H v b
  sl : SlOk H v
  ne : ∀ x, blk v = some x → x ≠ B
  lo : ∀ x, blk v = some x → x < H.next
  bd : B < H.next
theorem RdrAt.keep {S : Nat → Prop} {H H2 : AH} {B p : Nat} {v : AV} {b : List UInt8} (h : RdrAt H B v b p) (hb : b ≠ []) (hk : Keep S H H2) (hB : ¬ S B) (hs : ∀ x, blk v = some x → ¬ S x) : RdrAt H2 B v b p :=
  ⟨h.c, h.bx.keep hk h.bd hB, h.rd.keep hk hs, h.sl.keep h.rd hb hk hs, h.ne, fun x hx => Nat.lt_of_lt_of_le (h.lo x hx) hk.1, Nat.lt_of_lt_of_le h.bd hk.1⟩
theorem RdrAt.to {H : AH} {B p : Nat} {v : AV} {b : List UInt8} (h : RdrAt H B v b p) (hb : b ≠ []) (q : Nat) :
    ∃ H2, st1' H (.int .i64 (q : Int)) (.ptr B 1) = some H2 ∧ RdrAt H2 B v b q ∧ Keep (fun x => x = B) H H2 := by
  obtain ⟨H2, s1, s2, s3, s4⟩ := h.bx.store1 encG_len (⟨v, q, h.c⟩ : Rdv) (f := 1) (v := .int .i64 (q : Int)) (by omega) rfl rfl
  exact ⟨H2, s1, ⟨h.c, s3, h.rd.keep s4 fun x hx e => h.ne x hx e, h.sl.keep h.rd hb s4 fun x hx e => h.ne x hx e, h.ne, fun x hx => by rw [s2]; exact h.lo x hx, by rw [s2]; exact h.bd⟩, s4⟩
theorem RdrAt.looks {H : AH} {B p : Nat} {v : AV} {b : List UInt8} (h : RdrAt H B v b p) : ∃ o, H.get B = some o ∧ rdCell o 0 = some v ∧ rdCell o 1 = some (.int .i64 (p : Int)) := by
  obtain ⟨o, g1, g2, g3⟩ := h.bx.get encG_len
  exact ⟨o, g1, g2 0 _ rfl, g2 1 _ rfl⟩
theorem RdrAt.byte {H : AH} {B p : Nat} {v : AV} {b r : List UInt8} {x : UInt8} (h : RdrAt H B v b p) (hd : b.drop p = x :: r) : ∃ vb off cap o, v = .sl vb off b.length cap ∧ H.get vb = some o ∧ p < b.length ∧ rdCell o (off + p) = some (.int .u8 (x.toNat : Int)) := by
  have hx := drop_at (c := []) hd
  rw [List.length_nil, Nat.add_zero] at hx
  have hl : p < b.length := by
    rcases Nat.lt_or_ge p b.length with h | h
    · exact h
    · rw [List.getElem?_eq_none h] at hx; cases hx
  obtain ⟨vb, off, cap, o, e, _, hg, hby⟩ := h.rd.pos (by omega)
  exact ⟨vb, off, cap, o, e, hg, hl, hby p x hx⟩
set_option maxHeartbeats 2000000 in
theorem rdInt_ok {H : AH} {B p : Nat} {v : AV} {b rest : List UInt8} {n : Int} (h : RdrAt H B v b p) (h1 : -9223372036854775808 ≤ n) (h2 : n < 9223372036854775808) (hd : b.drop p = intB n ++ rest) (hmx : b.length ≤ 65536) :
    DC Tryz.prog .normal 135 (.cons (.ptr B 0) .nil) H fun v' H2 => v' = .tup (.cons (.int .i64 n) (.cons (.int .i64 0) .nil)) ∧ RdrAt H2 B v b (p + (intB n).length) ∧ Keep (fun x => x = B) H H2 := by
  refine DC.of_wd (re := reTmp 2 (reTmp 3 reNil)) tyOk Tryz.func135 (by kernel_rfl) rfl (by kernel_rfl) (by kernel_rfl) ?_
  rw [tl_nil, argsT_cons, argsT_nil]
  obtain ⟨τ, hd0, m, hτ, hm, hB, hh, h7⟩ := int_shape h1 h2
  have hwd := wid_pow (n := m) (by omega)
  have hw8 := wid_le m
  have hiL : (intB n).length = 1 + wid m := by rw [hB]; simp [fixedL_len]; omega
  obtain ⟨w, hw⟩ : ∃ w, w = wid m := ⟨_, rfl⟩
  rw [← hw] at hB hh hwd hw8 hiL
  rw [hB] at hd
  have hbn : b ≠ [] := by intro e; rw [e] at hd; simp at hd
  obtain ⟨vb, off, cap, o, hv, hg, hpl, hrd⟩ := h.byte (x := hd0) (r := (fixedL m w).map (· ^^^ τ) ++ rest) hd
  obtain ⟨og, hgB, r0, r1⟩ := h.looks
  have hlen := h.rd.len
  have f1 : ¬ (p : Int) = (b.length : Int) := by omega
  refine WD.seqR ?_
  refine WDO.looks1 tyOk extOk 2 (ls := [xK 0 2, xK 0 3]) (by kernel_rfl) (by simp (disch := omega) []; exact rfl) ?_
  refine WDO.nilS (WD.seq (WD.seq ?_))
  refine WD.drawLooks tyOk extOk (by kernel_rfl) (ls := [⟨[0], lkMove (.tmp 0), (some 9), none⟩, ⟨[9], ⟨nilChk E (.tmp 9)⟩, (some 10), none⟩, ⟨[10], ⟨fAddr (.tmp 10) 1⟩, (some 11), none⟩, ⟨[11], ⟨ldA ⟨ld1⟩ (.tmp 11)⟩, (some 12), none⟩, ⟨[0], lkMove (.tmp 0), (some 13), none⟩, ⟨[13], ⟨nilChk E (.tmp 13)⟩, (some 14), none⟩, ⟨[14], ⟨fAddr (.tmp 14) 0⟩, (some 15), none⟩, ⟨[15], ⟨ldA ⟨ld1⟩ (.tmp 15)⟩, (some 16), none⟩, ⟨[16], ⟨lenSl (.tmp 16)⟩, (some 17), none⟩, ⟨[12, 17], ⟨binInt akEql (.tmp 12) (.tmp 17)⟩, (some 18), none⟩]) (by kernel_rfl) (by simp (disch := omega) [hgB, r0, r1, hlen, f1]; exact rfl) ?_
  refine WD.cond (t := false) (by simp) (by simp) fun _ => WD.skip (.inl rfl) ?_
  refine WD.seqR ?_
  refine WDO.looks1 tyOk extOk 1 (ls := [⟨lkMove (.const (.int .u8 0)), (some 4), none⟩]) (by kernel_rfl) (by simp (disch := omega) []; exact rfl) ?_
  refine WDO.nilS (WD.seq ?_)
  refine WD.mono (Q := fun o => ∃ l', o = .nor (tl l') [] H ∧ lsub [(0, .ptr B 0), (4, .int .u8 (τ.toNat : Int))] l') (WD.seq ?_) ?_
  · rcases h7 with ⟨g, e⟩ | ⟨g, e⟩
    · subst e
      refine WD.drawLooks tyOk extOk (by kernel_rfl) (ls := qN2_1) (by kernel_rfl) (by simp (disch := omega) [hgB, r0, r1, hv, hg, hrd, decT]; exact rfl) ?_
      refine WD.cond (t := true) (by simp) (fun _ => WD.region ?_) (by simp)
      refine WDO.looks1 tyOk extOk 1 (ls := [⟨lkMove (.const (.int .u8 255)), (some 4), none⟩]) (by kernel_rfl) (by simp (disch := omega) []; exact rfl) ?_
      exact WDO.nil ⟨_, rfl, by simp⟩
    · subst e
      have g' : ¬ hd0.toNat < 128 := by omega
      refine WD.drawLooks tyOk extOk (by kernel_rfl) (ls := qN2_1) (by kernel_rfl) (by simp (disch := omega) [hgB, r0, r1, hv, hg, hrd, decF]; exact rfl) ?_
      refine WD.cond (t := false) (by simp) (by simp) fun _ => WD.skip (.inl rfl) ?_
      exact ⟨_, rfl, by simp⟩
  rintro _ ⟨l', rfl, hl'⟩
  refine WD.keep (l := [(0, .ptr B 0), (4, .int .u8 (τ.toNat : Int))]) ?_ hl'
  clear l' hl'
  have gx := akXor_u8 hd0 τ
  rw [hh] at gx
  have e0 : mkInt .i64 (128 + (w : Int)) = some (.int .i64 (128 + (w : Int))) := mkInt_i64 (by omega) (by omega)
  have e1 : akSub.f .i64 (128 + (w : Int)) 128 = some (.int .i64 (w : Int)) := by
    show mkInt .i64 (subI _ _) = _
    rw [subI_eq, show 128 + (w : Int) - 128 = (w : Int) by omega, mkInt_i64 (by omega) (by omega)]
  refine WD.seq ?_
  refine WD.drawLooks tyOk extOk (by kernel_rfl) (ls := [⟨[0], lkMove (.tmp 0), (some 30), none⟩, ⟨[30], ⟨nilChk E (.tmp 30)⟩, (some 31), none⟩, ⟨[31], ⟨fAddr (.tmp 31) 0⟩, (some 32), none⟩, ⟨[32], ⟨ldA ⟨ld1⟩ (.tmp 32)⟩, (some 33), none⟩, ⟨[0], lkMove (.tmp 0), (some 34), none⟩, ⟨[34], ⟨nilChk E (.tmp 34)⟩, (some 35), none⟩, ⟨[35], ⟨fAddr (.tmp 35) 1⟩, (some 36), none⟩, ⟨[36], ⟨ldA ⟨ld1⟩ (.tmp 36)⟩, (some 37), none⟩, ⟨[33, 37], ⟨ixSl 1 (.tmp 33) (.tmp 37)⟩, (some 38), none⟩, ⟨[38], ⟨ldA ⟨ld1⟩ (.tmp 38)⟩, (some 39), none⟩, ⟨[4], lkMove (.tmp 4), (some 40), none⟩, ⟨[39, 40], ⟨binInt akXor (.tmp 39) (.tmp 40)⟩, (some 41), none⟩, ⟨[41], ⟨cvInt .i64 (.tmp 41)⟩, (some 42), none⟩, ⟨[42], ⟨binInt akSub (.tmp 42) (.const (.int .i64 128))⟩, (some 43), none⟩, ⟨[43], lkMove (.tmp 43), (some 5), none⟩]) (by kernel_rfl) (by simp (disch := omega) [hgB, r0, r1, hv, hg, hrd, gx, e0, e1]; exact rfl) ?_
  obtain ⟨p1, hp1⟩ : ∃ q, q = p + 1 := ⟨_, rfl⟩
  have i1 : (p : Int) + 1 = (p1 : Int) := by omega
  obtain ⟨H1, s1, s2, s3⟩ := h.to hbn p1
  refine WD.seqR ?_
  refine WDO.looks1 tyOk extOk 7 (ls := [xM 0 44, ⟨⟨nilChk E (.tmp 44)⟩, (some 45), none⟩, xF 45 1 46, xL 46 47, xC akAdd 47 1 48, ⟨⟨nilChk E (.tmp 44)⟩, (some 49), none⟩, xF 49 1 50]) (by kernel_rfl) (by simp (disch := omega) [hgB, r1, i1]; exact rfl) ?_
  refine WDO.heavy1 tyOk extOk (k := ⟨hvStore ⟨st1'⟩ (.tmp 50) (.tmp 48)⟩) (by kernel_rfl) rfl (by kernel_rfl) (by simp [s1]; exact ⟨rfl, rfl⟩) ?_
  refine WDO.nilS (WD.seq (WD.seq ?_))
  have hdl := drop_len hd (by omega)
  simp only [List.length_append, List.length_cons, List.length_map, fixedL_len] at hdl
  obtain ⟨o1, hg1, q0, q1⟩ := s2.looks
  have hlen1 := s2.rd.len
  have f2 : ¬ (8 : Int) < (w : Int) := by omega
  have f3 : ¬ (b.length : Int) - (p1 : Int) < (w : Int) := by omega
  refine WD.drawLooks tyOk extOk (by kernel_rfl) (ls := [⟨[5], lkMove (.tmp 5), (some 51), none⟩, ⟨[51], ⟨binInt akGtr (.tmp 51) (.const (.int .i64 8))⟩, (some 52), none⟩, ⟨[52], lkMove (.tmp 52), (some 53), none⟩, ⟨[5, 53], lkMove (.tmp 5), (some 54), (some (53, false))⟩, ⟨[0, 53], lkMove (.tmp 0), (some 55), (some (53, false))⟩, ⟨[55, 53], ⟨nilChk E (.tmp 55)⟩, (some 56), (some (53, false))⟩, ⟨[56, 53], ⟨fAddr (.tmp 56) 0⟩, (some 57), (some (53, false))⟩, ⟨[57, 53], ⟨ldA ⟨ld1⟩ (.tmp 57)⟩, (some 58), (some (53, false))⟩, ⟨[58, 53], ⟨lenSl (.tmp 58)⟩, (some 59), (some (53, false))⟩, ⟨[0, 53], lkMove (.tmp 0), (some 60), (some (53, false))⟩, ⟨[60, 53], ⟨nilChk E (.tmp 60)⟩, (some 61), (some (53, false))⟩, ⟨[61, 53], ⟨fAddr (.tmp 61) 1⟩, (some 62), (some (53, false))⟩, ⟨[62, 53], ⟨ldA ⟨ld1⟩ (.tmp 62)⟩, (some 63), (some (53, false))⟩, ⟨[59, 63, 53], ⟨binInt akSub (.tmp 59) (.tmp 63)⟩, (some 64), (some (53, false))⟩, ⟨[54, 64, 53], ⟨binInt akGtr (.tmp 54) (.tmp 64)⟩, (some 65), (some (53, false))⟩, ⟨[53, 65], ⟨pickA (.tmp 53) (.const (.bool true)) (.tmp 65)⟩, (some 66), none⟩]) (by kernel_rfl) (by simp (disch := omega) [hg1, q0, q1, hlen1, f2, f3]; exact rfl) ?_
  refine WD.cond (t := false) (by simp) (by simp) fun _ => WD.skip (.inl rfl) ?_
  refine WD.seqR ?_
  refine WDO.looks1 tyOk extOk 1 (ls := [⟨lkMove (.const (.int .u64 0)), (some 6), none⟩]) (by kernel_rfl) (by simp (disch := omega) []; exact rfl) ?_
  obtain ⟨e2, he2⟩ : ∃ e, e = p1 + w := ⟨_, rfl⟩
  have i2 : (p1 : Int) + (w : Int) = (e2 : Int) := by omega
  obtain ⟨sl, c1, c2, c3, c4⟩ := slC_gen (lo := p1) (some e2) (n := e2) rfl s2.rd s2.sl hbn (by omega) (by omega)
  have hd1 : b.drop p1 = (fixedL m w).map (· ^^^ τ) ++ rest := by
    rw [hp1]; exact drop_more (c := [hd0]) (by rw [hd]; rfl)
  have hsub : sub b p1 (e2 - p1) = (fixedL m w).map (· ^^^ τ) := by
    have h3 := sub_pre hd1
    rw [List.length_map, fixedL_len] at h3
    rw [he2, Nat.add_sub_cancel_left]; exact h3
  rw [hsub] at c2
  have hls := c2.len
  rw [List.length_map, fixedL_len] at hls
  refine WDO.nilS (WD.seq (WD.seq ?_))
  refine WD.drawLooks tyOk extOk (by kernel_rfl) (ls := [⟨[0], lkMove (.tmp 0), (some 67), none⟩, ⟨[67], ⟨nilChk E (.tmp 67)⟩, (some 68), none⟩, ⟨[68], ⟨fAddr (.tmp 68) 0⟩, (some 69), none⟩, ⟨[69], ⟨ldA ⟨ld1⟩ (.tmp 69)⟩, (some 70), none⟩, ⟨[0], lkMove (.tmp 0), (some 71), none⟩, ⟨[71], ⟨nilChk E (.tmp 71)⟩, (some 72), none⟩, ⟨[72], ⟨fAddr (.tmp 72) 1⟩, (some 73), none⟩, ⟨[73], ⟨ldA ⟨ld1⟩ (.tmp 73)⟩, (some 74), none⟩, ⟨[0], lkMove (.tmp 0), (some 75), none⟩, ⟨[75], ⟨nilChk E (.tmp 75)⟩, (some 76), none⟩, ⟨[76], ⟨fAddr (.tmp 76) 1⟩, (some 77), none⟩, ⟨[77], ⟨ldA ⟨ld1⟩ (.tmp 77)⟩, (some 78), none⟩, ⟨[5], lkMove (.tmp 5), (some 79), none⟩, ⟨[78, 79], ⟨binInt akAdd (.tmp 78) (.tmp 79)⟩, (some 80), none⟩, ⟨[70, 74, 80], ⟨slSl 1 (.tmp 70) (some (.tmp 74)) (some (.tmp 80)) none⟩, (some 81), none⟩, ⟨[81], ⟨lenSl (.tmp 81)⟩, (some 82), none⟩, ⟨[], lkMove (.const (.int .i64 0)), (some 83), none⟩]) (by kernel_rfl) (by simp (disch := omega) [hg1, q0, q1, i2, c1, hls]; exact rfl) ?_
  trace_state
  refine WD.forR (σ := Nat) (fun i => [(0, .ptr B 0), (4, .int .u8 (τ.toNat : Int)), (5, .int .i64 (w : Int)), (6, .int .u64 ((readL ((fixedL m w).take i) : Nat) : Int)), (81, sl), (82, .int .i64 (w : Int)), (83, .int .i64 (i : Int))]) (fun i H' => i ≤ w ∧ H1 = H') (fun i => w - i) 0 ⟨Nat.zero_le _, rfl⟩ (by simp [readL]) ?_
  rintro i _ ⟨hi, rfl⟩
  refine WDO.looks1 tyOk extOk 1 (ls := [xB akLss 83 82 84]) (by kernel_rfl) (by simp (disch := omega) []; exact rfl) ?_
  refine WDO.nil ⟨decide (i < w), _, rfl, by simp, fun hc => ?_, fun hc => ?_⟩
  · have hc : i = w := by have := of_decide_eq_false hc; omega
    subst hc
    rw [List.take_of_length_le (by rw [fixedL_len]; exact Nat.le_refl _), readL_fixedL _ _ hwd]
    refine WD.seqR ?_
    obtain ⟨H2, t1, t2, t3⟩ := s2.to hbn e2
    refine WDO.looks1 tyOk extOk 8 (ls := [xM 0 95, ⟨⟨nilChk E (.tmp 95)⟩, (some 96), none⟩, xF 96 1 97, xL 97 98, xM 5 99, xB akAdd 98 99 100, ⟨⟨nilChk E (.tmp 95)⟩, (some 101), none⟩, xF 101 1 102]) (by kernel_rfl) (by simp (disch := omega) [hg1, q1, i2]; exact rfl) ?_
    refine WDO.heavy1 tyOk extOk (k := ⟨hvStore ⟨st1'⟩ (.tmp 102) (.tmp 100)⟩) (by kernel_rfl) rfl (by kernel_rfl) (by simp [t1]; exact ⟨rfl, rfl⟩) ?_
    refine WDO.nilS (WD.seq (WD.seqR ?_))
    refine WDO.looks1 tyOk extOk 1 (ls := [xM 6 103]) (by kernel_rfl) (by simp (disch := omega) []; exact rfl) ?_
    refine WDO.callF (g := 168) rfl rfl rfl (by kernel_rfl) (l := .cons (.int .u64 (m : Int)) .nil) (by simp) (width_ok (by omega)) fun u H3 ⟨hu, hH⟩ => ?_
    subst hu
    subst hH
    rw [← hw]
    have f4 : ¬ (9223372036854775807 : Int) < (m : Int) := by omega
    refine WDO.looks1 tyOk extOk 6 (ls := [xM 5 105, xB akNeq 104 105 106, xM 106 107, yM 6 108 107 false, ⟨⟨binInt akGtr (.tmp 108) (.const (.int .u64 9223372036854775807))⟩, (some 109), (some (107, false))⟩, xP 107 109 110 true]) (by kernel_rfl) (by simp (disch := omega) [f4]; exact rfl) ?_
    refine WDO.nilS (WD.cond (t := false) (by simp) (by simp) fun _ => WD.skip (.inl rfl) ?_)
    have j1 : mkInt .i64 (m : Int) = some (.int .i64 (m : Int)) := mkInt_i64 (by omega) (by omega)
    obtain ⟨z, j2, j3, j4⟩ : ∃ z : Int, mkInt .i8 (τ.toNat : Int) = some (.int .i8 z) ∧ mkInt .i64 z = some (.int .i64 z) ∧ akXor.f .i64 (m : Int) z = some (.int .i64 n) := by
      rcases hτ with ⟨e, _, e'⟩ | ⟨e, _, e'⟩
      · subst e
        exact ⟨0, rfl, rfl, by rw [e']; exact xor_pos (by omega) (by omega)⟩
      · subst e
        exact ⟨-1, rfl, rfl, by rw [e']; exact xor_m1 hm⟩
    refine WD.seqR ?_
    refine WDO.looks1 tyOk extOk 8 (ls := [xM 6 111, ⟨⟨cvInt .i64 (.tmp 111)⟩, (some 112), none⟩, xM 4 113, ⟨⟨cvInt .i8 (.tmp 113)⟩, (some 114), none⟩, ⟨⟨cvInt .i64 (.tmp 114)⟩, (some 115), none⟩, xB akXor 112 115 116, xM 116 2, xK 0 3]) (by kernel_rfl) (by simp (disch := omega) [j1, j2, j3, j4]; exact rfl) ?_
    refine WDO.nilS (WD.ret (endR _ (by simp; rfl) ⟨rfl, ?_, s3.trans t3⟩))
    rw [hiL, show p + (1 + i) = e2 by omega]; exact t2
  · have hc : i < w := of_decide_eq_true hc
    obtain ⟨b2, off2, cap2, o2, hv2, _, hg2, hby2⟩ := c2.pos (by rw [List.length_map, fixedL_len]; omega)
    rw [List.length_map, fixedL_len] at hv2
    have hy : (fixedL m w)[i]? = some ((fixedL m w)[i]'(by rw [fixedL_len]; exact hc)) := List.getElem?_eq_getElem _
    generalize (fixedL m w)[i]'_ = y at hy
    have hrd2 := hby2 i (y ^^^ τ) (by rw [List.getElem?_map, hy]; rfl)
    have gx2 := akXor_u8 (y ^^^ τ) τ
    rw [UInt8.xor_assoc, UInt8.xor_self, UInt8.xor_zero] at gx2
    generalize y ^^^ τ = x at hrd2 gx2
    have hyl := y.toNat_lt
    have hts : (fixedL m w).take (i + 1) = (fixedL m w).take i ++ [y] := by rw [List.take_add_one, hy]; rfl
    have hnn : readL ((fixedL m w).take (i + 1)) = 256 * readL ((fixedL m w).take i) + y.toNat := by rw [hts, readL_snoc]
    have hlt : readL ((fixedL m w).take i) < 72057594037927936 := by
      have h1 := readL_lt i ((fixedL m w).take i) (by rw [List.length_take, fixedL_len]; omega)
      have h2 : 256 ^ i ≤ 256 ^ 7 := Nat.pow_le_pow_right (by omega) (by omega)
      have h3 : (256 : Nat) ^ 7 = 72057594037927936 := by decide
      omega
    generalize readL ((fixedL m w).take i) = a at hnn hlt ⊢
    obtain ⟨q, hq⟩ : ∃ q, q = a * 256 := ⟨_, rfl⟩
    obtain ⟨z, hz⟩ : ∃ z, z = q ||| y.toNat := ⟨_, rfl⟩
    have g1 : shlA .u64 (a : Int) 8 = some (.int .u64 (q : Int)) := shlA_u64 hlt hq
    have g2 : mkInt .u64 (y.toNat : Int) = some (.int .u64 (y.toNat : Int)) := mkInt_u64n (by omega)
    have g3 : akOr.f .u64 (q : Int) (y.toNat : Int) = some (.int .u64 (z : Int)) := akOr_u64 (by omega) (by omega) hz
    have hzz : readL ((fixedL m w).take (i + 1)) = z := by rw [hnn, hz, hq, or_add hyl]
    refine WD.seqR ?_
    refine WDO.looks1 tyOk extOk 3 (ls := [xI 1 81 83 85, xL 85 86, xM 86 8]) (by kernel_rfl) (by simp (disch := omega) [hv2, hg2, hrd2, hc]; exact rfl) ?_
    refine WDO.nilS (WD.region ?_)
    refine WDO.looks1 tyOk extOk 8 (ls := [xM 6 87, ⟨⟨binShl (.tmp 87) (.const (.int .u64 8))⟩, (some 88), none⟩, xM 8 89, xM 4 90, xB akXor 89 90 91, ⟨⟨cvInt .u64 (.tmp 91)⟩, (some 92), none⟩, xB akOr 88 92 93, xM 93 6]) (by kernel_rfl) (by simp (disch := omega) [g1, gx2, g2, g3]; exact rfl) ?_
    refine WDO.nil ?_
    refine WDO.looks1 tyOk extOk 2 (ls := [xC akAdd 83 1 94, xM 94 83]) (by kernel_rfl) (by simp (disch := omega) []; exact rfl) ?_
    exact WDO.nil ⟨rfl, i + 1, _, rfl, by simp [hv2, hzz], ⟨by omega, rfl⟩, by omega⟩
end
end Go.Proofs.YtfgipbjaapkdlaaGreatDoor
