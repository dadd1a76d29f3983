/- A part of the proof of this seat's statement. Conditions: in each theorem. -/
import Derived.Test.YtfgipbjaapkdlaaGreatDoorN1
namespace Go.Proofs.YtfgipbjaapkdlaaGreatDoor
open Go.Xq
noncomputable section
theorem xor_63 {a : Nat} (hb : a < 9223372036854775808) : a ^^^ 9223372036854775808 = a + 9223372036854775808 := by
  apply Nat.eq_of_testBit_eq
  intro i
  rw [Nat.testBit_xor, Nat.add_comm]
  have e1 : (9223372036854775808 : Nat) = 2 ^ 63 := by decide
  rw [e1, Nat.testBit_two_pow]
  rcases Nat.lt_trichotomy i 63 with h | h | h
  · rw [Nat.testBit_two_pow_add_gt h]
    have : ¬ 63 = i := by omega
    simp [this]
  · subst h
    rw [Nat.testBit_two_pow_add_eq]
    simp
  · have l1 : a.testBit i = false := Nat.testBit_lt_two_pow (Nat.lt_of_lt_of_le (by rw [e1] at hb; exact hb) (Nat.pow_le_pow_right (by omega) (by omega)))
    have l2 : (2 ^ 63 + a).testBit i = false := Nat.testBit_lt_two_pow (Nat.lt_of_lt_of_le (m := 2 ^ 64) (by omega) (Nat.pow_le_pow_right (by omega) (by omega)))
    have : ¬ 63 = i := by omega
    rw [l1, l2]
    simp [this]
theorem mkInt_wrap {k : Int} (h1 : 9223372036854775808 ≤ k) (h2 : k < 18446744073709551616) : mkInt .i64 k = some (.int .i64 (k - 18446744073709551616)) := by
  rw [mkInt_eq]
  have e1 : k % (2 ^ 64 : Int) = k := by omega
  have e : IntKind.i64.wrap k = k - 18446744073709551616 := by
    show (if (true && decide (k % (2 ^ 64 : Int) ≥ (2 ^ 63 : Int))) = true then k % (2 ^ 64 : Int) - (2 ^ 64 : Int) else k % (2 ^ 64 : Int)) = _
    rw [e1, if_pos (by simp; omega)]
    omega
  rw [e]
theorem float_back {n : Int} (h1 : -9223372036854775808 ≤ n) (h2 : n < 9223372036854775808) : ∃ (a s : Int) (c d e f : Int), mkInt .i64 ((turned n : Nat) : Int) = some (.int .i64 a) ∧ shrA .i64 a 63 = some (.int .i64 s) ∧ mkInt .u64 s = some (.int .u64 c) ∧
    ukXor.f (.int .u64 c) = some (.int .u64 d) ∧ akOr.f .u64 d 9223372036854775808 = some (.int .u64 e) ∧ akXor.f .u64 ((turned n : Nat) : Int) e = some (.int .u64 f) ∧ mkInt .i64 f = some (.int .i64 n) := by
  by_cases h : 0 ≤ n
  · have ht : turned n = n.toNat + 9223372036854775808 := by unfold turned; rw [if_pos h]
    refine ⟨n - 9223372036854775808, -1, ((18446744073709551615 : Nat) : Int), ((0 : Nat) : Int), ((9223372036854775808 : Nat) : Int), ((n.toNat : Nat) : Int), ?_, shr63_neg (by omega) (by omega), by rfl, ?_, by rfl, ?_, ?_⟩
    · rw [ht, mkInt_wrap (by omega) (by omega), show ((n.toNat + 9223372036854775808 : Nat) : Int) - 18446744073709551616 = n - 9223372036854775808 by omega]
    · have := ukXor_u64 (a := 18446744073709551615) (by decide)
      rw [Nat.sub_self] at this
      exact this
    · rw [ht]
      refine akXor_u64 (by omega) (by omega) ?_
      rw [← xor_63 (by omega), Nat.xor_assoc, Nat.xor_self, Nat.xor_zero]
    · rw [mkInt_i64 (by omega) (by omega)]; congr 2; omega
  · have ht : turned n = (-(n + 1)).toNat := by unfold turned; rw [if_neg h]
    refine ⟨((turned n : Nat) : Int), 0, ((0 : Nat) : Int), ((18446744073709551615 : Nat) : Int), ((18446744073709551615 : Nat) : Int), ((18446744073709551615 - turned n : Nat) : Int), ?_, shr63_pos (by omega) (by rw [ht]; omega), by rfl, ?_, by rfl, ?_, ?_⟩
    · rw [mkInt_i64 (by omega) (by rw [ht]; omega)]
    · have := ukXor_u64 (a := 0) (by decide)
      rw [Nat.sub_zero] at this
      exact this
    · refine akXor_u64 (by rw [ht]; omega) (by omega) ?_
      rw [xor_all (by rw [ht]; omega)]
    · rw [mkInt_wrap (by rw [ht]; omega) (by omega)]; congr 2; rw [ht]; omega
def enc1T (k n : Int) (t e : List UInt8) : List UInt8 := if k = 3 then intB n else if k = 4 then fixedL (turned n) 8 else if k = 5 ∨ k = 6 then ordB t else if k = 7 then e ++ [0] else []
def ItemsOk (s : Its) (d : Nat) : Prop := ∀ {H : AH} {B p : Nat} {v : AV} {b rest : List UInt8}, RdrAt H B v b p → b.drop p = s.enc ++ 0 :: rest → b.length ≤ 65536 → GlobU H → 3 ≤ B →
  DC Tryz.prog .normal 46 (.cons (.ptr B 0) (.cons (.int .i64 (d : Int)) .nil)) H fun v' H2 => ∃ u, v' = .tup (.cons u (.cons (.int .i64 0) .nil)) ∧ SaysR H2 (fun b => H.next ≤ b ∧ b < H2.next) u s ∧ RdrAt H2 B v b (p + s.enc.length + 1) ∧ Keep (fun x => x = B) H H2
set_option maxHeartbeats 4000000 in
theorem rdItem_ok {H : AH} {B p d : Nat} {v : AV} {b rest : List UInt8} {k n : Int} {t : List UInt8} {s : Its} (hib : itemB k n t s.len = true) (h1 : -9223372036854775808 ≤ n) (h2 : n < 9223372036854775808) (hs : k = 7 → ItemsOk s (d + 1)) (hdm : d ≤ 100)
    (h : RdrAt H B v b p) (hd : b.drop p = enc1T k n t s.enc ++ rest) (hp : p ≤ b.length) (hbn : b ≠ []) (hmx : b.length ≤ 65536) (hG : GlobU H) (hB : 3 ≤ B) :
    DC Tryz.prog .normal 98 (.cons (.ptr B 0) (.cons (.int .i64 k) (.cons (.int .i64 (d : Int)) .nil))) H fun v' H2 => ∃ u, v' = .tup (.cons (itA k n t u) (.cons (.int .i64 0) .nil)) ∧ SaysR H2 (fun b => H.next ≤ b ∧ b < H2.next) u s ∧ RdrAt H2 B v b (p + (enc1T k n t s.enc).length) ∧ Keep (fun x => x = B) H H2 := by
  refine DC.of_wd (re := reCell ⟨ldN 4⟩ 6 (reTmp 7 reNil)) tyOk Tryz.func98 (by kernel_rfl) rfl (by kernel_rfl) (by kernel_rfl) ?_
  rw [tl_nil, argsT_cons, argsT_cons, argsT_cons, argsT_nil]
  obtain ⟨a1, a2, a3, a4, a5⟩ := itemB_parts hib
  have hhi := h.bd
  have hvl := h.lo
  refine WD.seqR ?_
  refine WDO.fresh1 tyOk (k := ⟨frAlloc (.cs 27 4 4 false (.cons (.int .i64 0) (.cons (.int .i64 0) (.cons (.str 0 0) (.cons .snil .nil)))) .e)⟩) (by kernel_rfl) rfl (by kernel_rfl) (v := .ptr H.next 0) (x := .cs 27 4 4 false zIv .e) ?_ ?_
  · simp [zIv]
  have B6 := Bx.new (enc := encI) (e := 27) (es := 4) (z := zIv) (a := zeroIv) encI_len rfl H (n := 4) rfl
  have k1 : Keep noB H (H.new (.cs 27 4 4 false zIv .e)) := Keep.new _ _ _
  have n1 : (H.new (.cs 27 4 4 false zIv .e)).next = H.next + 1 := by simp
  have r1 := h.keep hbn k1 id fun _ _ => id
  generalize H.new (.cs 27 4 4 false zIv .e) = H1 at *
  refine WDO.looks1 tyOk extOk 1 (ls := [xK 0 7]) (by kernel_rfl) (by simp (disch := omega) []; exact rfl) ?_
  refine WDO.nilS (WD.seqR ?_)
  refine WDO.looks1 tyOk extOk 2 (ls := [xM 1 12, ⟨⟨buildA (.cons (.int .i64 0) (.cons (.int .i64 0) (.cons (.str 0 0) (.cons .snil .nil)))) ⟨fill1 (.tmp 12) 0 1 flEnd⟩⟩, (some 13), none⟩]) (by kernel_rfl) (by simp (disch := omega) []; exact rfl) ?_
  refine WDO.fresh1 tyOk (k := ⟨frAlloc (.cs 27 4 4 false (.cons (.int .i64 0) (.cons (.int .i64 0) (.cons (.str 0 0) (.cons .snil .nil)))) .e)⟩) (by kernel_rfl) rfl (by kernel_rfl) (v := .ptr H1.next 0) (x := .cs 27 4 4 false zIv .e) ?_ ?_
  · simp [zIv]
  have B8 := Bx.new (enc := encI) (e := 27) (es := 4) (z := zIv) (a := zeroIv) encI_len rfl H1 (n := 4) rfl
  have k2 : Keep noB H1 (H1.new (.cs 27 4 4 false zIv .e)) := Keep.new _ _ _
  have n2 : (H1.new (.cs 27 4 4 false zIv .e)).next = H1.next + 1 := by simp
  have r2 := r1.keep hbn k2 id fun _ _ => id
  have B6 := B6.keep k2 (by omega) id
  obtain ⟨H3, s1, s2, B8, s4⟩ := B8.store encI_len ⟨k, 0, [], .snil, rfl⟩ (cells_iv _)
  have s1' : stN 4 (H1.new (.cs 27 4 4 false zIv .e)) (.agg (.cons (.int .i64 k) (.cons (.int .i64 0) (.cons (.str 0 0) (.cons .snil .nil))))) (.ptr H1.next 0) = some H3 := s1
  refine WDO.heavy1 tyOk extOk (k := ⟨hvStore ⟨stN 4⟩ (.tmp 8) (.tmp 13)⟩) (by kernel_rfl) rfl (by kernel_rfl) (by simp [s1']; exact ⟨rfl, rfl⟩) ?_
  have r3 := r2.keep hbn s4 (by omega) fun x hx e => by have := r1.lo x hx; omega
  have B6 := B6.keep s4 (by omega) (by omega)
  have kk : Keep noB H H3 := (k1.trans k2).trans' s4 fun b hb e => by omega
  have hG3 := hG.keep kk fun _ _ => id
  rw [n2] at s2
  generalize hN6 : H.next = N6 at *
  generalize hN8 : H1.next = N8 at *
  clear s1 s1' k1 k2 n2 r1 r2 s4 h
  clear hN8
  refine WDO.nilS (WD.seqR ?_)
  refine WDO.looks1 tyOk extOk 1 (ls := [xK 0 9]) (by kernel_rfl) (by simp (disch := omega) []; exact rfl) ?_
  refine WDO.nilS (WD.seq (WD.seqR ?_))
  refine WDO.looks1 tyOk extOk 1 (ls := [xM 1 14]) (by kernel_rfl) (by simp (disch := omega) []; exact rfl) ?_
  refine WDO.nilS ?_
  by_cases k7 : k = 7
  · subst k7
    have hsz : enc1T 7 n t s.enc = s.enc ++ [0] := rfl
    have hn0 : n = 0 := (a3.resolve_left (by omega)).resolve_left (by omega)
    have ht0 : t = [] := (a4.resolve_left (by omega)).resolve_left (by omega)
    refine WD.block (WD.seqR ?_)
    refine WDO.looks1 tyOk extOk 2 (ls := [xC akEql 14 3 16, xM 16 15]) (by kernel_rfl) (by simp (disch := omega) []; exact rfl) ?_
    refine WDO.nilS (WD.cond (t := false) (by simp) (by simp) fun _ => WD.seqR ?_)
    refine WDO.looks1 tyOk extOk 2 (ls := [xC akEql 14 4 24, xM 24 23]) (by kernel_rfl) (by simp (disch := omega) []; exact rfl) ?_
    refine WDO.nilS (WD.cond (t := false) (by simp) (by simp) fun _ => WD.seq (WD.seqR ?_))
    refine WDO.looks1 tyOk extOk 2 (ls := [xC akEql 14 5 55, xM 55 54]) (by kernel_rfl) (by simp (disch := omega) []; exact rfl) ?_
    refine WDO.nilS (WD.cond (t := false) (by simp) (by simp) fun _ => WD.region ?_)
    refine WDO.looks1 tyOk extOk 2 (ls := [xC akEql 14 6 56, xM 56 54]) (by kernel_rfl) (by simp (disch := omega) []; exact rfl) ?_
    refine WDO.nil ?_
    refine WD.cond (t := false) (by simp) (by simp) fun _ => WD.seqR ?_
    refine WDO.looks1 tyOk extOk 2 (ls := [xC akEql 14 7 84, xM 84 83]) (by kernel_rfl) (by simp (disch := omega) []; exact rfl) ?_
    refine WDO.nilS (WD.cond (t := true) (by simp) (fun _ => WD.seqR ?_) (by simp))
    obtain ⟨d1, hd1⟩ : ∃ e, e = d + 1 := ⟨_, rfl⟩
    have i1 : (d : Int) + 1 = (d1 : Int) := by omega
    rw [← hd1] at hs
    refine WDO.looks1 tyOk extOk 3 (ls := [xM 0 86, xM 2 87, xC akAdd 87 1 88]) (by kernel_rfl) (by simp (disch := omega) [i1]; exact rfl) ?_
    rw [hsz, List.append_assoc] at hd
    refine WDO.callF (g := 46) rfl rfl rfl (by kernel_rfl) (l := .cons (.ptr B 0) (.cons (.int .i64 (d1 : Int)) .nil)) (by simp) (hs rfl r3 hd hmx hG3 hB) fun w H4 ⟨u, hw, hu, r4, k4⟩ => ?_
    subst hw
    have n4 := k4.1
    have B64 := B6.keep k4 (by omega) (by omega)
    obtain ⟨H5, w1, w2, B85, s5⟩ := (B8.keep k4 (by omega) (by omega)).store1 encI_len (⟨7, 0, [], u, hu.cell⟩ : Iv) (f := 3) (v := u) (by omega) rfl hu.cell
    refine WDO.looks1 tyOk extOk 4 (ls := [xM 89 85, xE 85 0 90, xE 85 1 91, xF 8 3 92]) (by kernel_rfl) (by simp (disch := omega) []; exact rfl) ?_
    refine WDO.heavy1 tyOk extOk (k := ⟨hvStore ⟨st1'⟩ (.tmp 92) (.tmp 90)⟩) (by kernel_rfl) rfl (by kernel_rfl) (by simp [w1]; exact ⟨rfl, rfl⟩) ?_
    refine WDO.looks1 tyOk extOk 1 (ls := [xM 91 9]) (by kernel_rfl) (by simp (disch := omega) []; exact rfl) ?_
    have r5 := r4.keep hbn s5 (by omega) fun x hx e => by have := hvl x hx; omega
    have B65 := B64.keep s5 (by omega) (by omega)
    obtain ⟨o8, g1, g2, g3⟩ := B85.get encI_len
    obtain ⟨H6, t1, t2, B66, t4⟩ := B65.store encI_len (⟨7, 0, [], u, hu.cell⟩ : Iv) (cells_iv _)
    have t1' : stN 4 H5 (.agg (avl (encI (⟨7, 0, [], u, hu.cell⟩ : Iv)))) (.ptr N6 0) = some H6 := t1
    refine WDO.nilS (WD.seqR ?_)
    refine WDO.looks1 tyOk extOk 2 (ls := [xD 4 8 93, xM 9 94]) (by kernel_rfl) (by simp (disch := omega) [g1, g3]; exact rfl) ?_
    refine WDO.heavy1 tyOk extOk (k := ⟨hvStore ⟨stN 4⟩ (.tmp 6) (.tmp 93)⟩) (by kernel_rfl) rfl (by kernel_rfl) (by simp [t1]; exact ⟨rfl, rfl⟩) ?_
    refine WDO.looks1 tyOk extOk 1 (ls := [xM 94 7]) (by kernel_rfl) (by simp (disch := omega) []; exact rfl) ?_
    obtain ⟨o6, q1, q2, q3⟩ := B66.get encI_len
    have kf : Keep (fun x => x = B) H H6 := (((kk.mono fun b _ e => e.elim).trans k4).trans' s5 fun b hb e => by omega).trans' t4 fun b hb e => by omega
    refine WDO.nilS (WD.ret (endR _ (by simp [q1, q3]; rfl) ⟨u, by rw [hn0, ht0]; rfl, (hu.keep (R2 := fun b => N8 < b ∧ b < H5.next) s5 fun b (hb : H3.next ≤ b ∧ b < H4.next) => ⟨by omega, by omega, show N8 < b ∧ b < H5.next by omega⟩).keep t4 fun b (hb : N8 < b ∧ b < H5.next) => ⟨by omega, by omega, show N6 ≤ b ∧ b < H6.next by omega⟩, ?_, kf⟩))
    have r6 := r5.keep hbn t4 (by omega) fun x hx e => by have := hvl x hx; omega
    rw [hsz, List.length_append, List.length_singleton, ← Nat.add_assoc]
    exact r6
  have hsn : s = .nil := len_zero (a5.resolve_left k7)
  subst hsn
  refine WD.mono (Q := fun o => ∃ (l' : List (Nat × AV)) (H5 : AH), o = .nor (tl l') [] H5 ∧ lsub [(6, .ptr N6 0), (8, .ptr N8 0), (9, .int .i64 0)] l' ∧ Bx encI 27 4 zIv H5 N8 ⟨k, n, t, .snil, rfl⟩ ∧ Bx encI 27 4 zIv H5 N6 zeroIv ∧ RdrAt H5 B v b (p + (enc1T k n t Its.nil.enc).length) ∧ Keep (fun x => x = B) H H5 ∧ N8 < H5.next) (WD.block ?_) ?_
  rotate_left
  · rintro _ ⟨l', H5, rfl, hl', B85, B65, r5, k5, n5⟩
    refine WD.keep ?_ hl'
    refine WD.seq (WD.seqR ?_)
    refine WDO.looks1 tyOk extOk 2 (ls := [xM 9 95, xC akNeq 95 0 96]) (by kernel_rfl) (by simp (disch := omega) []; exact rfl) ?_
    refine WDO.nilS (WD.cond (t := false) (by simp) (by simp) fun _ => WD.skip (.inl rfl) ?_)
    obtain ⟨o8, g1, g2, g3⟩ := B85.get encI_len
    obtain ⟨H6, t1, t2, B66, t4⟩ := B65.store encI_len (⟨k, n, t, .snil, rfl⟩ : Iv) (cells_iv _)
    refine WD.seqR ?_
    refine WDO.looks1 tyOk extOk 1 (ls := [xD 4 8 98]) (by kernel_rfl) (by simp (disch := omega) [g1, g3]; exact rfl) ?_
    refine WDO.heavy1 tyOk extOk (k := ⟨hvStore ⟨stN 4⟩ (.tmp 6) (.tmp 98)⟩) (by kernel_rfl) rfl (by kernel_rfl) (by simp [t1]; exact ⟨rfl, rfl⟩) ?_
    refine WDO.looks1 tyOk extOk 1 (ls := [xK 0 7]) (by kernel_rfl) (by simp (disch := omega) []; exact rfl) ?_
    obtain ⟨o6, q1, q2, q3⟩ := B66.get encI_len
    refine WDO.nilS (WD.ret (endR _ (by simp [q1, q3]; rfl) ⟨.snil, rfl, SaysR.nil _ _, ?_, k5.trans' t4 fun b hb e => by omega⟩))
    exact r5.keep hbn t4 (by omega) fun x hx e => by have := hvl x hx; omega
  refine WD.seqR ?_
  by_cases k3 : k = 3
  · subst k3
    have hsz : enc1T 3 n t Its.nil.enc = intB n := rfl
    have ht0 : t = [] := (a4.resolve_left (by omega)).resolve_left (by omega)
    rw [hsz] at hd ⊢
    refine WDO.looks1 tyOk extOk 2 (ls := [xC akEql 14 3 16, xM 16 15]) (by kernel_rfl) (by simp (disch := omega) []; exact rfl) ?_
    refine WDO.nilS (WD.cond (t := true) (by simp) (fun _ => WD.region ?_) (by simp))
    refine WDO.looks1 tyOk extOk 1 (ls := [xM 0 18]) (by kernel_rfl) (by simp (disch := omega) []; exact rfl) ?_
    refine WDO.callF (g := 135) rfl rfl rfl (by kernel_rfl) (l := .cons (.ptr B 0) .nil) (by simp) (rdInt_ok r3 h1 h2 hd hmx) fun w H4 ⟨hw, r4, k4⟩ => ?_
    subst hw
    have n4 := k4.1
    obtain ⟨H5, w1, w2, B85, s5⟩ := (B8.keep k4 (by omega) (by omega)).store1 encI_len (⟨3, n, [], .snil, rfl⟩ : Iv) (f := 1) (v := .int .i64 n) (by omega) rfl rfl
    refine WDO.looks1 tyOk extOk 4 (ls := [xM 19 17, xE 17 0 20, xE 17 1 21, xF 8 1 22]) (by kernel_rfl) (by simp (disch := omega) []; exact rfl) ?_
    refine WDO.heavy1 tyOk extOk (k := ⟨hvStore ⟨st1'⟩ (.tmp 22) (.tmp 20)⟩) (by kernel_rfl) rfl (by kernel_rfl) (by simp [w1]; exact ⟨rfl, rfl⟩) ?_
    refine WDO.looks1 tyOk extOk 1 (ls := [xM 21 9]) (by kernel_rfl) (by simp (disch := omega) []; exact rfl) ?_
    refine WDO.nil ⟨_, H5, rfl, by simp, ?_, (B6.keep k4 (by omega) (by omega)).keep s5 (by omega) (by omega), r4.keep hbn s5 (by omega) (fun x hx e => by have := hvl x hx; omega), (((kk.mono fun b _ e => e.elim).trans k4).trans' s5 fun b hb e => by omega), by omega⟩
    rw [ht0]; exact B85
  by_cases k4 : k = 4
  · subst k4
    have hsz : enc1T 4 n t Its.nil.enc = fixedL (turned n) 8 := rfl
    have ht0 : t = [] := (a4.resolve_left (by omega)).resolve_left (by omega)
    rw [hsz] at hd ⊢
    rw [fixedL_len]
    refine WDO.looks1 tyOk extOk 2 (ls := [xC akEql 14 3 16, xM 16 15]) (by kernel_rfl) (by simp (disch := omega) []; exact rfl) ?_
    refine WDO.nilS (WD.cond (t := false) (by simp) (by simp) fun _ => WD.seqR ?_)
    refine WDO.looks1 tyOk extOk 2 (ls := [xC akEql 14 4 24, xM 24 23]) (by kernel_rfl) (by simp (disch := omega) []; exact rfl) ?_
    refine WDO.nilS (WD.cond (t := true) (by simp) (fun _ => WD.seqR ?_) (by simp))
    refine WDO.looks1 tyOk extOk 1 (ls := [⟨lkMove (.const (.int .u64 0)), (some 10), none⟩]) (by kernel_rfl) (by simp (disch := omega) []; exact rfl) ?_
    refine WDO.nilS (WD.seq ?_)
    obtain ⟨og, hgB, r0, rp⟩ := r3.looks
    have hlb := drop_len hd hp
    rw [List.length_append, fixedL_len] at hlb
    have hsub : sub b p 8 = fixedL (turned n) 8 := by have := sub_pre hd; rwa [fixedL_len] at this
    have htl := turned_lt h1 (by omega : n ≤ 9223372036854775807)
    have hrl : readL (sub b p 8) = turned n := by rw [hsub]; exact readL_fixedL 8 _ (by rw [show (256 : Nat) ^ 8 = 18446744073709551616 by decide]; exact htl)
    obtain ⟨R, hR, hRc⟩ := specR_ex Tryz.prog (fun _ _ Hx u H2 => u = .tup (.cons (.int .u64 ((turned n : Nat) : Int)) (.cons (.int .i64 0) .nil)) ∧ H2 = Hx)
    refine WD.drawnK tyOk extOk (by kernel_rfl) (ls := [⟨[0], .look (lkMove (.tmp 0)), (some 26), none, 0, 1, true, false⟩, ⟨[26], .look (⟨nilChk E (.tmp 26)⟩), (some 27), none, 0, 1, true, false⟩, ⟨[27], .look (⟨fAddr (.tmp 27) 0⟩), (some 28), none, 0, 1, true, false⟩, ⟨[28], .look (⟨ldA ⟨ld1⟩ (.tmp 28)⟩), (some 29), none, 0, 1, false, false⟩, ⟨[0], .look (lkMove (.tmp 0)), (some 30), none, 0, 1, true, false⟩, ⟨[30], .look (⟨nilChk E (.tmp 30)⟩), (some 31), none, 0, 1, true, false⟩, ⟨[31], .look (⟨fAddr (.tmp 31) 1⟩), (some 32), none, 0, 1, true, false⟩, ⟨[32], .look (⟨ldA ⟨ld1⟩ (.tmp 32)⟩), (some 33), none, 0, 1, false, false⟩, ⟨[29, 33], .heavy ⟨hvCallF E 136 (opnds [(.tmp 29), (.tmp 33), (.const (.int .i64 8))])⟩, (some 34), none, 0, 2, false, true⟩, ⟨[34], .look (lkMove (.tmp 34)), (some 25), none, 1, 1, true, false⟩, ⟨[25], .look (⟨exA (.tmp 25) 0⟩), (some 35), none, 1, 1, true, false⟩, ⟨[25], .look (⟨exA (.tmp 25) 1⟩), (some 36), none, 1, 1, true, false⟩, ⟨[35], .look (lkMove (.tmp 35)), (some 10), none, 1, 1, true, false⟩, ⟨[36], .look (lkMove (.tmp 36)), (some 9), none, 1, 1, true, false⟩]) (by kernel_rfl) hR fun K hK => ?_
    iterate 3 (refine diLookP (by simp [-resL_cons, resL_cc]; exact rfl) (by simp (disch := omega) []; exact rfl) ?_)
    refine diLookC (by simp [-resL_cons, resL_cc]; exact rfl) (by simp (disch := omega) [hgB, r0]; exact rfl) ?_
    iterate 3 (refine diLookP (by simp [-resL_cons, resL_cc]; exact rfl) (by simp (disch := omega) []; exact rfl) ?_)
    refine diLookC (by simp [-resL_cons, resL_cc]; exact rfl) (by simp (disch := omega) [hgB, rp]; exact rfl) ?_
    obtain ⟨uw, H4, q3, rfl, rfl⟩ := hRc 136 _ _ ((readFixed_ok (w := 8) (at_ := p) r3.rd r3.sl (by omega) (by omega) (by omega) (by omega) (by omega)).mono fun v' H2 ⟨e1, e2⟩ => ⟨by rw [e1, hrl], e2⟩)
    refine diCallF (by simp [-resL_cons, resL_cc]; exact rfl) (by simp) (extFree _ _ _ rfl rfl rfl) q3 (Nat.le_refl _) ?_
    iterate 5 (refine diLookP (by simp [-resL_cons, resL_cc]; exact rfl) (by simp (disch := omega) []; exact rfl) ?_)
    simp only [diRun_nil, List.reverse_cons, List.reverse_nil, List.nil_append, List.cons_append, chkAdd_f, atAll_s, atAll_z, and_true, true_and]
    refine ⟨by simp (disch := omega) [hgB, r0, rp], hK _ _ ?_⟩
    clear hK hRc hR q3
    obtain ⟨p8, hp8⟩ : ∃ e, e = p + 8 := ⟨_, rfl⟩
    have i1 : (p : Int) + 8 = (p8 : Int) := by omega
    obtain ⟨H5, w1, w2, w5⟩ := r3.to hbn p8
    refine WD.seqR ?_
    refine WDO.looks1 tyOk extOk 7 (ls := [xM 0 37, ⟨⟨nilChk E (.tmp 37)⟩, (some 38), none⟩, xF 38 1 39, xL 39 40, xC akAdd 40 8 41, ⟨⟨nilChk E (.tmp 37)⟩, (some 42), none⟩, xF 42 1 43]) (by kernel_rfl) (by simp (disch := omega) [hgB, rp, i1]; exact rfl) ?_
    refine WDO.heavy1 tyOk extOk (k := ⟨hvStore ⟨st1'⟩ (.tmp 43) (.tmp 41)⟩) (by kernel_rfl) rfl (by kernel_rfl) (by simp [w1]; exact ⟨rfl, rfl⟩) ?_
    have n5 := w5.1
    obtain ⟨H6, x1, x2, B86, x5⟩ := (B8.keep w5 (by omega) (by omega)).store1 encI_len (⟨4, n, [], .snil, rfl⟩ : Iv) (f := 1) (v := .int .i64 n) (by omega) rfl rfl
    obtain ⟨fa, fs, fc, fd, fe, ff, j1, j2, j3, j4, j5, j6, j7⟩ := float_back h1 h2
    refine WDO.nilS (WD.region ?_)
    refine WDO.looks1 tyOk extOk 10 (ls := [xM 10 44, xM 10 45, ⟨⟨cvInt .i64 (.tmp 45)⟩, (some 46), none⟩, ⟨⟨binShr (.tmp 46) (.const (.int .u64 63))⟩, (some 47), none⟩, ⟨⟨cvInt .u64 (.tmp 47)⟩, (some 48), none⟩, ⟨lkUn ukXor (.tmp 48), (some 49), none⟩, ⟨⟨binInt akOr (.tmp 49) (.const (.int .u64 9223372036854775808))⟩, (some 50), none⟩, xB akXor 44 50 51, ⟨⟨cvInt .i64 (.tmp 51)⟩, (some 52), none⟩, xF 8 1 53]) (by kernel_rfl) (by simp (disch := omega) [j1, j2, j3, j4, j5, j6, j7]; exact rfl) ?_
    refine WDO.heavy1 tyOk extOk (k := ⟨hvStore ⟨st1'⟩ (.tmp 53) (.tmp 52)⟩) (by kernel_rfl) rfl (by kernel_rfl) (by simp [x1]; exact ⟨rfl, rfl⟩) ?_
    refine WDO.nil ⟨_, H6, rfl, by simp, by rw [ht0]; exact B86, (B6.keep w5 (by omega) (by omega)).keep x5 (by omega) (by omega), ?_, (((kk.mono fun b _ e => e.elim).trans w5).trans' x5 fun b hb e => by omega), by omega⟩
    rw [← hp8]
    exact w2.keep hbn x5 (by omega) fun x hx e => by have := hvl x hx; omega
  have hn0 : n = 0 := (a3.resolve_left k3).resolve_left k4
  subst hn0
  refine WDO.looks1 tyOk extOk 2 (ls := [xC akEql 14 3 16, xM 16 15]) (by kernel_rfl) (by simp (disch := omega) [k3]; exact rfl) ?_
  refine WDO.nilS (WD.cond (t := false) (by simp) (by simp) fun _ => WD.seqR ?_)
  refine WDO.looks1 tyOk extOk 2 (ls := [xC akEql 14 4 24, xM 24 23]) (by kernel_rfl) (by simp (disch := omega) [k4]; exact rfl) ?_
  refine WDO.nilS (WD.cond (t := false) (by simp) (by simp) fun _ => WD.seq ?_)
  by_cases k56 : k = 5 ∨ k = 6
  rotate_left
  · have ht0 : t = [] := (a4.resolve_left (by omega)).resolve_left (by omega)
    have k5 : ¬ k = 5 := by omega
    have k6 : ¬ k = 6 := by omega
    have hsz : enc1T k 0 t Its.nil.enc = [] := by unfold enc1T; rw [if_neg k3, if_neg k4, if_neg k56, if_neg k7]
    rw [hsz]
    refine WD.seqR ?_
    refine WDO.looks1 tyOk extOk 2 (ls := [xC akEql 14 5 55, xM 55 54]) (by kernel_rfl) (by simp (disch := omega) [k5]; exact rfl) ?_
    refine WDO.nilS (WD.cond (t := false) (by simp) (by simp) fun _ => WD.region ?_)
    refine WDO.looks1 tyOk extOk 2 (ls := [xC akEql 14 6 56, xM 56 54]) (by kernel_rfl) (by simp (disch := omega) [k6]; exact rfl) ?_
    refine WDO.nil ?_
    refine WD.cond (t := false) (by simp) (by simp) fun _ => WD.seqR ?_
    refine WDO.looks1 tyOk extOk 2 (ls := [xC akEql 14 7 84, xM 84 83]) (by kernel_rfl) (by simp (disch := omega) [k7]; exact rfl) ?_
    refine WDO.nilS (WD.cond (t := false) (by simp) (by simp) fun _ => WD.skip (.inl rfl) ?_)
    exact ⟨_, H3, rfl, by simp, by rw [ht0]; exact B8, B6, r3, kk.mono fun b _ e => e.elim, by omega⟩
  · have hsz : enc1T k 0 t Its.nil.enc = ordB t := by unfold enc1T; rw [if_neg k3, if_neg k4, if_pos k56]
    rw [hsz] at hd ⊢
    refine WD.mono (Q := fun o => ∃ l', o = .nor (tl l') [] H3 ∧ lsub [(0, .ptr B 0), (1, .int .i64 k), (6, .ptr N6 0), (8, .ptr N8 0), (9, .int .i64 0), (54, .bool true)] l') ?_ ?_
    · refine WD.seqR ?_
      by_cases k5 : k = 5
      · subst k5
        refine WDO.looks1 tyOk extOk 2 (ls := [xC akEql 14 5 55, xM 55 54]) (by kernel_rfl) (by simp (disch := omega) []; exact rfl) ?_
        refine WDO.nilS (WD.cond (t := true) (by simp) (fun _ => WD.skip (.inl rfl) ?_) (by simp))
        exact ⟨_, rfl, by simp⟩
      · have k6 : k = 6 := by omega
        subst k6
        refine WDO.looks1 tyOk extOk 2 (ls := [xC akEql 14 5 55, xM 55 54]) (by kernel_rfl) (by simp (disch := omega) []; exact rfl) ?_
        refine WDO.nilS (WD.cond (t := false) (by simp) (by simp) fun _ => WD.region ?_)
        refine WDO.looks1 tyOk extOk 2 (ls := [xC akEql 14 6 56, xM 56 54]) (by kernel_rfl) (by simp (disch := omega) []; exact rfl) ?_
        exact WDO.nil ⟨_, rfl, by simp⟩
    rintro _ ⟨l', rfl, hl'⟩
    refine WD.keep ?_ hl'
    clear l' hl'
    refine WD.cond (t := true) (by simp) (fun _ => WD.seqR ?_) (by simp)
    refine WDO.looks1 tyOk extOk 1 (ls := [⟨lkMove (.const (.slice none 0 0)), (some 11), none⟩]) (by kernel_rfl) (by simp (disch := omega) []; exact rfl) ?_
    refine WDO.nilS (WD.seq ?_)
    obtain ⟨og, hgB, r0, rp⟩ := r3.looks
    obtain ⟨q, hq⟩ : ∃ e, e = p + (ordB t).length := ⟨_, rfl⟩
    obtain ⟨R, hR, hRc⟩ := specR_ex Tryz.prog (fun _ _ Hx u H2 => ∃ x, u = .tup (.cons x (.cons (.int .i64 (q : Int)) (.cons (.int .i64 0) .nil))) ∧ OwnB 5 H2 Hx.next x t ∧ Keep noB Hx H2)
    refine WD.drawnK tyOk extOk (by kernel_rfl) (ls := [⟨[0], .look (lkMove (.tmp 0)), (some 58), none, 0, 2, true, false⟩, ⟨[0], .look (lkMove (.tmp 0)), (some 59), none, 0, 1, true, false⟩, ⟨[59], .look (⟨nilChk E (.tmp 59)⟩), (some 60), none, 0, 1, true, false⟩, ⟨[60], .look (⟨fAddr (.tmp 60) 0⟩), (some 61), none, 0, 1, true, false⟩, ⟨[61], .look (⟨ldA ⟨ld1⟩ (.tmp 61)⟩), (some 62), none, 0, 1, false, false⟩, ⟨[0], .look (lkMove (.tmp 0)), (some 63), none, 0, 1, true, false⟩, ⟨[63], .look (⟨nilChk E (.tmp 63)⟩), (some 64), none, 0, 1, true, false⟩, ⟨[64], .look (⟨fAddr (.tmp 64) 1⟩), (some 65), none, 0, 1, true, false⟩, ⟨[65], .look (⟨ldA ⟨ld1⟩ (.tmp 65)⟩), (some 66), none, 0, 1, false, false⟩, ⟨[62, 66], .heavy ⟨hvCallF E 137 (opnds [(.tmp 62), (.tmp 66)])⟩, (some 67), none, 0, 2, false, true⟩, ⟨[67], .look (lkMove (.tmp 67)), (some 57), none, 1, 1, true, false⟩, ⟨[57], .look (⟨exA (.tmp 57) 0⟩), (some 68), none, 1, 1, true, false⟩, ⟨[57], .look (⟨exA (.tmp 57) 1⟩), (some 69), none, 1, 1, true, false⟩, ⟨[57], .look (⟨exA (.tmp 57) 2⟩), (some 70), none, 1, 2, true, false⟩, ⟨[68], .look (lkMove (.tmp 68)), (some 11), none, 1, 1, true, false⟩, ⟨[58], .look (⟨nilChk E (.tmp 58)⟩), (some 71), none, 1, 1, true, false⟩, ⟨[71], .look (⟨fAddr (.tmp 71) 1⟩), (some 72), none, 1, 1, true, false⟩, ⟨[72, 69], .heavy ⟨hvStore ⟨st1'⟩ (.tmp 72) (.tmp 69)⟩, none, none, 1, 2, false, true⟩, ⟨[70], .look (lkMove (.tmp 70)), (some 9), none, 2, 1, true, false⟩]) (by kernel_rfl) hR fun K hK => ?_
    iterate 4 (refine diLookP (by simp [-resL_cons, resL_cc]; exact rfl) (by simp (disch := omega) []; exact rfl) ?_)
    refine diLookC (by simp [-resL_cons, resL_cc]; exact rfl) (by simp (disch := omega) [hgB, r0]; exact rfl) ?_
    iterate 3 (refine diLookP (by simp [-resL_cons, resL_cc]; exact rfl) (by simp (disch := omega) []; exact rfl) ?_)
    refine diLookC (by simp [-resL_cons, resL_cc]; exact rfl) (by simp (disch := omega) [hgB, rp]; exact rfl) ?_
    obtain ⟨uw, H4, q3, x, rfl, hx, k4'⟩ := hRc 137 _ _ ((readOrdered_ok r3.rd r3.sl hd hp (by omega) r3.lo).mono fun v' H2 ⟨x, e1, e2, e3⟩ => ⟨x, by rw [e1, hq], e2, e3⟩)
    refine diCallF (by simp [-resL_cons, resL_cc]; exact rfl) (by simp) (extFree _ _ _ rfl rfl rfl) q3 k4'.1 ?_
    iterate 7 (refine diLookP (by simp [-resL_cons, resL_cc]; exact rfl) (by simp (disch := omega) []; exact rfl) ?_)
    obtain ⟨H5, w1, w2, w5⟩ := (r3.keep hbn k4' id fun _ _ => id).to hbn q
    refine diHeavy (by simp [-resL_cons, resL_cc]; exact rfl) (v := undefA) (H2 := H5) (by simp [w1]) (by have := w5.1; omega) ?_
    refine diLookP (by simp [-resL_cons, resL_cc]; exact rfl) (by simp (disch := omega) []; exact rfl) ?_
    simp only [diRun_nil, List.reverse_cons, List.reverse_nil, List.nil_append, List.cons_append, chkAdd_f, atAll_s, atAll_z, and_true, true_and]
    refine ⟨by simp (disch := omega) [hgB, r0, rp], hK _ _ ?_⟩
    clear hK hRc hR q3
    have n4 := k4'.1
    have n5 := w5.1
    have hx5 : OwnB 5 H5 H3.next x t := hx.keep w5 fun b e h => by have := (hx.low e).1; omega
    have hs5 : Sl8 H5 x t := ⟨hx5.rd, fun ht => by
      rcases hx5 with ⟨_, e⟩ | ⟨b', e, _, _, _, hg⟩
      · exact absurd e ht
      · exact .inr (.inr ⟨b', 0, _, 5, t, e, hg⟩)⟩
    have hG5 := (hG3.keep k4' fun _ _ => id).keep w5 fun b hb e => by omega
    have htb : t.length < 17179869184 := by
      have h1 := drop_len hd hp
      rw [List.length_append, ordB_eq, List.length_append, ord1_len] at h1
      omega
    have k3' : Keep (fun x => x = B) H3 H5 := (k4'.mono fun b _ e => e.elim).trans w5
    have B85 := B8.keep k3' (by omega) (by omega)
    have B65 := B6.keep k3' (by omega) (by omega)
    refine WD.seq (WD.mono (Q := fun o => ∃ (l' : List (Nat × AV)) (H6 : AH), o = .nor (tl l') [] H6 ∧ lsub [(6, .ptr N6 0), (8, .ptr N8 0), (9, .int .i64 0), (11, x)] l' ∧ Keep noB H5 H6) (WD.seqR ?_) ?_)
    · by_cases k6 : k = 6
      · subst k6
        have hu8 : utf8L t = true := by
          unfold itemB at hib
          simp only [Bool.and_eq_true, Bool.or_eq_true, Bool.not_eq_true', decide_eq_true_eq, decide_eq_false_iff_not] at hib
          exact hib.2.resolve_left (by simp)
        refine WDO.looks1 tyOk extOk 4 (ls := [xM 1 73, xC akEql 73 6 74, xM 74 75, yM 11 76 75 true]) (by kernel_rfl) (by simp (disch := omega) []; exact rfl) ?_
        refine WDO.callG (g := 138) (gd := some (75, true)) rfl rfl (by kernel_rfl) (by simp) (by kernel_rfl) (l := .cons x .nil) (by simp) (validB_ok hs5 (fun e => by
          rcases hx5 with ⟨e', _⟩ | ⟨b', _, e', _⟩
          · exact e'
          · exact absurd e e') htb hG5 hu8) fun w H6 ⟨hw, k6⟩ => ?_
        subst hw
        refine WDO.looks1 tyOk extOk 2 (ls := [⟨lkUn ukNot (.tmp 77), (some 78), (some (75, true))⟩, xA 75 78 79 false]) (by kernel_rfl) (by simp (disch := omega) []; exact rfl) ?_
        refine WDO.nilS (WD.cond (t := false) (by simp) (by simp) fun _ => WD.skip (.inl rfl) ?_)
        exact ⟨_, H6, rfl, by simp, k6⟩
      · refine WDO.looks1 tyOk extOk 4 (ls := [xM 1 73, xC akEql 73 6 74, xM 74 75, yM 11 76 75 true]) (by kernel_rfl) (by simp (disch := omega) [k6]; exact rfl) ?_
        refine WDO.skipG (g := some (75, true)) (by kernel_rfl) (by simp) (by kernel_rfl) ?_
        refine WDO.looks1 tyOk extOk 2 (ls := [⟨lkUn ukNot (.tmp 77), (some 78), (some (75, true))⟩, xA 75 78 79 false]) (by kernel_rfl) (by simp (disch := omega) []; exact rfl) ?_
        refine WDO.nilS (WD.cond (t := false) (by simp) (by simp) fun _ => WD.skip (.inl rfl) ?_)
        exact ⟨_, H5, rfl, by simp, Keep.refl _ _⟩
    rintro _ ⟨l', H6, rfl, hl', k6⟩
    refine WD.keep ?_ hl'
    have n6 := k6.1
    have hx6 := hx5.keep k6 fun _ _ => id
    have hst := hx6.rd.str
    obtain ⟨H7, y1, y2, B87, y5⟩ := (B85.keep k6 (by omega) id).store1 encI_len (⟨k, 0, t, .snil, rfl⟩ : Iv) (f := 2) (v := sb t) (by omega) rfl rfl
    refine WD.region ?_
    refine WDO.looks1 tyOk extOk 3 (ls := [xM 11 80, ⟨⟨cvStr (.tmp 80)⟩, (some 81), none⟩, xF 8 2 82]) (by kernel_rfl) (by simp (disch := omega) [hst]; exact rfl) ?_
    refine WDO.heavy1 tyOk extOk (k := ⟨hvStore ⟨st1'⟩ (.tmp 82) (.tmp 81)⟩) (by kernel_rfl) rfl (by kernel_rfl) (by simp [y1]; exact ⟨rfl, rfl⟩) ?_
    refine WDO.nil ⟨_, H7, rfl, by simp, B87, (B65.keep k6 (by omega) id).keep y5 (by omega) (by omega), ?_, ?_, by omega⟩
    · rw [← hq]
      exact (w2.keep hbn k6 id fun _ _ => id).keep hbn y5 (by omega) fun x hx e => by have := hvl x hx; omega
    · exact (((kk.mono fun b _ e => e.elim).trans k3').trans (k6.mono fun b _ e => e.elim)).trans' y5 fun b hb e => by omega
abbrev qN5_1 : List Dk := [⟨[0], lkMove (.tmp 0), (some 11), none⟩, ⟨[11], ⟨nilChk E (.tmp 11)⟩, (some 12), none⟩, ⟨[12], ⟨fAddr (.tmp 12) 1⟩, (some 13), none⟩, ⟨[13], ⟨ldA ⟨ld1⟩ (.tmp 13)⟩, (some 14), none⟩, ⟨[0], lkMove (.tmp 0), (some 15), none⟩, ⟨[15], ⟨nilChk E (.tmp 15)⟩, (some 16), none⟩, ⟨[16], ⟨fAddr (.tmp 16) 0⟩, (some 17), none⟩, ⟨[17], ⟨ldA ⟨ld1⟩ (.tmp 17)⟩, (some 18), none⟩, ⟨[18], ⟨lenSl (.tmp 18)⟩, (some 19), none⟩, ⟨[14, 19], ⟨binInt akEql (.tmp 14) (.tmp 19)⟩, (some 20), none⟩, ⟨[20], lkMove (.tmp 20), (some 21), none⟩, ⟨[1, 21], lkMove (.tmp 1), (some 22), (some (21, true))⟩, ⟨[22, 21], ⟨binInt akEql (.tmp 22) (.const (.int .i64 0))⟩, (some 23), (some (21, true))⟩, ⟨[21, 23], ⟨pickA (.tmp 21) (.tmp 23) (.const (.bool false))⟩, (some 24), none⟩, ⟨[24], lkMove (.tmp 24), (some 10), none⟩]
abbrev qN5_2 : List Dk := [⟨[0], lkMove (.tmp 0), (some 27), none⟩, ⟨[27], ⟨nilChk E (.tmp 27)⟩, (some 28), none⟩, ⟨[28], ⟨fAddr (.tmp 28) 1⟩, (some 29), none⟩, ⟨[29], ⟨ldA ⟨ld1⟩ (.tmp 29)⟩, (some 30), none⟩, ⟨[0], lkMove (.tmp 0), (some 31), none⟩, ⟨[31], ⟨nilChk E (.tmp 31)⟩, (some 32), none⟩, ⟨[32], ⟨fAddr (.tmp 32) 0⟩, (some 33), none⟩, ⟨[33], ⟨ldA ⟨ld1⟩ (.tmp 33)⟩, (some 34), none⟩, ⟨[34], ⟨lenSl (.tmp 34)⟩, (some 35), none⟩, ⟨[30, 35], ⟨binInt akEql (.tmp 30) (.tmp 35)⟩, (some 36), none⟩, ⟨[36], lkMove (.tmp 36), (some 26), none⟩]
abbrev qN5_3 : List Dk := [⟨[1], lkMove (.tmp 1), (some 38), none⟩, ⟨[38], ⟨binInt akGtr (.tmp 38) (.const (.int .i64 0))⟩, (some 39), none⟩, ⟨[39], lkMove (.tmp 39), (some 40), none⟩, ⟨[0, 40], lkMove (.tmp 0), (some 41), (some (40, true))⟩, ⟨[41, 40], ⟨nilChk E (.tmp 41)⟩, (some 42), (some (40, true))⟩, ⟨[42, 40], ⟨fAddr (.tmp 42) 0⟩, (some 43), (some (40, true))⟩, ⟨[43, 40], ⟨ldA ⟨ld1⟩ (.tmp 43)⟩, (some 44), (some (40, true))⟩, ⟨[0, 40], lkMove (.tmp 0), (some 45), (some (40, true))⟩, ⟨[45, 40], ⟨nilChk E (.tmp 45)⟩, (some 46), (some (40, true))⟩, ⟨[46, 40], ⟨fAddr (.tmp 46) 1⟩, (some 47), (some (40, true))⟩, ⟨[47, 40], ⟨ldA ⟨ld1⟩ (.tmp 47)⟩, (some 48), (some (40, true))⟩, ⟨[44, 48, 40], ⟨ixSl 1 (.tmp 44) (.tmp 48)⟩, (some 49), (some (40, true))⟩, ⟨[49, 40], ⟨ldA ⟨ld1⟩ (.tmp 49)⟩, (some 50), (some (40, true))⟩, ⟨[50, 40], ⟨binInt akEql (.tmp 50) (.const (.int .u8 0))⟩, (some 51), (some (40, true))⟩, ⟨[40, 51], ⟨pickA (.tmp 40) (.tmp 51) (.const (.bool false))⟩, (some 52), none⟩, ⟨[52], lkMove (.tmp 52), (some 37), none⟩]
abbrev qN5_4 : List Lk := [xM 7 84, xC akEql 84 7 85, xM 85 86, yM 1 87 86 true, yC akEql 87 16 88 86 true, xA 86 88 89 false, xM 89 80]
theorem drop_enc {l : Its} {i : Nat} {x : It} (h : l.get i = some x) : (l.drop i).enc = UInt8.ofNat (16 + x.k.toNat) :: (enc1T x.k x.n x.t x.s.enc ++ (l.drop (i + 1)).enc) := by
  rw [Its.drop_get h]; rfl
theorem toL_take {l : Its} {i : Nat} {x : It} (h : l.get i = some x) : l.toL.take (i + 1) = l.toL.take i ++ [x] := by
  rw [List.take_add_one, Its.toL_get, h]; rfl
def tailL (d : Nat) (rest : List UInt8) : List UInt8 := if d = 0 then [] else 0 :: rest
theorem check_parts {l : Its} {d : Nat} (h : l.check d = 0) : l.len ≤ 64 ∧ d ≤ 16 ∧ l.chk d = 0 := by
  unfold Its.check at h
  split at h
  · cases h
  · rename_i g; exact ⟨by omega, by omega, h⟩
set_option maxHeartbeats 4000000 in
theorem rdItems_ok : ∀ (z : Nat) {l : Its} {d : Nat}, l.size ≤ z → l.check d = 0 → l.rng → ∀ {H : AH} {B p : Nat} {v : AV} {b rest : List UInt8}, RdrAt H B v b p → p ≤ b.length → b ≠ [] → b.drop p = l.enc ++ tailL d rest → b.length ≤ 65536 → GlobU H → 3 ≤ B →
    DC Tryz.prog .normal 46 (.cons (.ptr B 0) (.cons (.int .i64 (d : Int)) .nil)) H fun v' H2 => ∃ u, v' = .tup (.cons u (.cons (.int .i64 0) .nil)) ∧ SaysR H2 (fun b => H.next ≤ b ∧ b < H2.next) u l ∧ RdrAt H2 B v b (p + l.enc.length + (if d = 0 then 0 else 1)) ∧ Keep (fun x => x = B) H H2
  | z, l, d, hz, hchk, hrng, H, B, p, v, b, rest, h, hp, hbn, hd, hmx, hG, hB => by
    refine DC.of_wd (re := reTmp 4 (reTmp 5 reNil)) tyOk Tryz.func46 (by kernel_rfl) rfl (by kernel_rfl) (by kernel_rfl) ?_
    rw [tl_nil, argsT_cons, argsT_cons, argsT_nil]
    obtain ⟨c1, c2, c3⟩ := check_parts hchk
    have hvl := h.lo
    have hbd := h.bd
    refine WD.seqR ?_
    refine WDO.looks1 tyOk extOk 2 (ls := [⟨lkMove (.const (.slice none 0 0)), (some 4), none⟩, xK 0 5]) (by kernel_rfl) (by simp (disch := omega) []; exact rfl) ?_
    refine WDO.nilS (WD.seqR ?_)
    refine WDO.looks1 tyOk extOk 1 (ls := [⟨lkMove (.const (.slice none 0 0)), (some 6), none⟩]) (by kernel_rfl) (by simp (disch := omega) []; exact rfl) ?_
    refine WDO.nilS ?_
    refine WD.block (WD.loopS (σ := Nat × AV × Nat) (fun s => [(0, .ptr B 0), (1, .int .i64 (d : Int)), (6, s.2.1)]) (fun s H' => s.1 ≤ l.len ∧ OwnR H' H.next s.2.1 (l.toL.take s.1) ∧ RdrAt H' B v b s.2.2 ∧ b.drop s.2.2 = (l.drop s.1).enc ++ tailL d rest ∧ s.2.2 + (l.drop s.1).enc.length = p + l.enc.length ∧ s.2.2 ≤ b.length ∧ Keep (fun x => x = B) H H') (fun s => l.len - s.1) (0, .snil, p) ⟨Nat.zero_le _, OwnR.nil _ _, h, by rw [drop0]; exact hd, by rw [drop0], hp, Keep.refl _ _⟩ (by simp) ?_)
    rintro ⟨i, c, q⟩ H' ⟨hi, ho, hr, hdq, hsum, hq, hk⟩
    simp only at hi ho hr hdq hsum hq
    have nn := hk.1
    obtain ⟨og, hgB, r0, rp⟩ := hr.looks
    have hlen := hr.rd.len
    refine WD.block (WD.seq ?_)
    by_cases hc : i < l.len
    rotate_left
    · have hc : i = l.len := by omega
      subst hc
      rw [Its.drop_len] at hdq hsum
      have hsum' : q = p + l.enc.length := by simpa [Its.enc] using hsum
      have hall : l.toL.take l.len = l.toL := by rw [← Its.toL_len, List.take_length]
      rw [hall] at ho
      have hsays := ho.says
      rw [Its.ofL_toL] at hsays
      by_cases hd0 : d = 0
      · subst hd0
        have hqe : q = b.length := by
          have := drop_len hdq hq
          exact (by simpa [Its.enc, tailL] using this : b.length = q).symm
        have f1 : (q : Int) = (b.length : Int) := by omega
        refine WD.block (WD.seq ?_)
        refine WD.drawLooks tyOk extOk (by kernel_rfl) (ls := qN5_1) (by kernel_rfl) (by simp (disch := omega) [hgB, r0, rp, hlen, f1]; exact rfl) ?_
        refine WD.cond (t := true) (by simp) (fun _ => WD.seqR ?_) (by simp)
        refine WDO.looks1 tyOk extOk 3 (ls := [xM 6 25, xM 25 4, xK 0 5]) (by kernel_rfl) (by simp (disch := omega) []; exact rfl) ?_
        exact WDO.nilS (WD.ret (endR _ (by simp; rfl) ⟨c, rfl, hsays, by rw [← hsum']; exact hr, hk⟩))
      · have hdq' : b.drop q = 0 :: rest := by rw [hdq]; simp [Its.enc, tailL, hd0]
        obtain ⟨vb, off, cap, o, hv, hg, hpl, hrd⟩ := hr.byte hdq'
        have hrd : rdCell o (off + q) = some (.int .u8 0) := hrd
        have f1 : ¬ (q : Int) = (b.length : Int) := by omega
        have f2 : 0 < d := by omega
        refine WD.block (WD.seq ?_)
        refine WD.drawLooks tyOk extOk (by kernel_rfl) (ls := qN5_1) (by kernel_rfl) (by simp (disch := omega) [hgB, r0, rp, hlen, f1]; exact rfl) ?_
        refine WD.cond (t := false) (by simp) (by simp) fun _ => WD.seq ?_
        refine WD.drawLooks tyOk extOk (by kernel_rfl) (ls := qN5_2) (by kernel_rfl) (by simp (disch := omega) [hgB, r0, rp, hlen, f1]; exact rfl) ?_
        refine WD.cond (t := false) (by simp) (by simp) fun _ => WD.seq ?_
        refine WD.drawLooks tyOk extOk (by kernel_rfl) (ls := qN5_3) (by kernel_rfl) (by simp (disch := omega) [hgB, r0, rp, f2, hv, hg, hrd]; exact rfl) ?_
        refine WD.cond (t := true) (by simp) (fun _ => WD.seqR ?_) (by simp)
        obtain ⟨q1, hq1⟩ : ∃ e, e = q + 1 := ⟨_, rfl⟩
        have i1 : (q : Int) + 1 = (q1 : Int) := by omega
        obtain ⟨H2, s1, s2, s3⟩ := hr.to hbn q1
        refine WDO.looks1 tyOk extOk 7 (ls := [xM 0 53, ⟨⟨nilChk E (.tmp 53)⟩, (some 54), none⟩, xF 54 1 55, xL 55 56, xC akAdd 56 1 57, ⟨⟨nilChk E (.tmp 53)⟩, (some 58), none⟩, xF 58 1 59]) (by kernel_rfl) (by simp (disch := omega) [hgB, rp, i1]; exact rfl) ?_
        refine WDO.heavy1 tyOk extOk (k := ⟨hvStore ⟨st1'⟩ (.tmp 59) (.tmp 57)⟩) (by kernel_rfl) rfl (by kernel_rfl) (by simp [s1]; exact ⟨rfl, rfl⟩) ?_
        refine WDO.nilS (WD.seqR ?_)
        refine WDO.looks1 tyOk extOk 3 (ls := [xM 6 60, xM 60 4, xK 0 5]) (by kernel_rfl) (by simp (disch := omega) []; exact rfl) ?_
        have n2 := s3.1
        refine WDO.nilS (WD.ret (endR _ (by simp; rfl) ⟨c, rfl, hsays.keep s3 fun x (hx : H.next ≤ x ∧ x < H'.next) => ⟨hx.2, by omega, show H.next ≤ x ∧ x < H2.next by omega⟩, ?_, hk.trans s3⟩))
        rw [if_neg hd0, ← hsum', ← hq1]; exact s2
    · obtain ⟨x, hx⟩ := l.get_some i hc
      obtain ⟨hib, hsub⟩ := Its.chk_item c3 hx
      obtain ⟨hxn, hxr⟩ := Its.rng_get hrng hx
      have hsx := Its.size_get hx
      obtain ⟨a1, a2, a3, a4, a5⟩ := itemB_parts hib
      have hde := drop_enc hx
      rw [hde] at hdq hsum
      have hh := head16 a1 a2
      generalize UInt8.ofNat (16 + x.k.toNat) = y at hh hdq hsum
      rw [List.cons_append] at hdq
      obtain ⟨vb, off, cap, o, hv, hg, hpl, hrd⟩ := hr.byte hdq
      have f1 : ¬ (q : Int) = (b.length : Int) := by omega
      have f3 : ¬ y.toNat = 0 := by omega
      have f4 : ¬ y = 0 := fun e => by subst e; exact f3 rfl
      refine WD.mono (Q := fun o => ∃ l', o = .nor (tl l') [] H' ∧ lsub [(0, .ptr B 0), (1, .int .i64 (d : Int)), (6, c)] l') (WD.block (WD.seq ?_)) ?_
      · refine WD.drawLooks tyOk extOk (by kernel_rfl) (ls := qN5_1) (by kernel_rfl) (by simp (disch := omega) [hgB, r0, rp, hlen, f1]; exact rfl) ?_
        refine WD.cond (t := false) (by simp) (by simp) fun _ => WD.seq ?_
        refine WD.drawLooks tyOk extOk (by kernel_rfl) (ls := qN5_2) (by kernel_rfl) (by simp (disch := omega) [hgB, r0, rp, hlen, f1]; exact rfl) ?_
        refine WD.cond (t := false) (by simp) (by simp) fun _ => WD.seq ?_
        by_cases hd0 : d = 0
        · subst hd0
          refine WD.drawLooks tyOk extOk (by kernel_rfl) (ls := qN5_3) (by kernel_rfl) (by simp (disch := omega) []; exact rfl) ?_
          refine WD.cond (t := false) (by simp) (by simp) fun _ => WD.skip (.inl rfl) ?_
          exact ⟨_, rfl, by simp⟩
        · have f2 : 0 < d := by omega
          refine WD.drawLooks tyOk extOk (by kernel_rfl) (ls := qN5_3) (by kernel_rfl) (by simp (disch := omega) [hgB, r0, rp, f2, hv, hg, hrd, f3]; exact rfl) ?_
          refine WD.cond (t := false) (by simp) (by simp) fun _ => WD.skip (.inl rfl) ?_
          exact ⟨_, rfl, by simp⟩
      rintro _ ⟨l', rfl, hl'⟩
      refine WD.keep ?_ hl'
      clear l' hl'
      have e0 : mkInt .i64 (y.toNat : Int) = some (.int .i64 (y.toNat : Int)) := mkInt_i64 (by omega) (by omega)
      have e1 : akSub.f .i64 (y.toNat : Int) 16 = some (.int .i64 x.k) := by
        show mkInt .i64 (subI _ _) = _
        rw [subI_eq, show (y.toNat : Int) - 16 = x.k by omega, mkInt_i64 (by omega) (by omega)]
      refine WD.seq ?_
      refine WD.drawLooks tyOk extOk (by kernel_rfl) (ls := [⟨[0], lkMove (.tmp 0), (some 61), none⟩, ⟨[61], ⟨nilChk E (.tmp 61)⟩, (some 62), none⟩, ⟨[62], ⟨fAddr (.tmp 62) 0⟩, (some 63), none⟩, ⟨[63], ⟨ldA ⟨ld1⟩ (.tmp 63)⟩, (some 64), none⟩, ⟨[0], lkMove (.tmp 0), (some 65), none⟩, ⟨[65], ⟨nilChk E (.tmp 65)⟩, (some 66), none⟩, ⟨[66], ⟨fAddr (.tmp 66) 1⟩, (some 67), none⟩, ⟨[67], ⟨ldA ⟨ld1⟩ (.tmp 67)⟩, (some 68), none⟩, ⟨[64, 68], ⟨ixSl 1 (.tmp 64) (.tmp 68)⟩, (some 69), none⟩, ⟨[69], ⟨ldA ⟨ld1⟩ (.tmp 69)⟩, (some 70), none⟩, ⟨[70], ⟨cvInt .i64 (.tmp 70)⟩, (some 71), none⟩, ⟨[71], ⟨binInt akSub (.tmp 71) (.const (.int .i64 16))⟩, (some 72), none⟩, ⟨[72], lkMove (.tmp 72), (some 7), none⟩]) (by kernel_rfl) (by simp (disch := omega) [hgB, r0, rp, hv, hg, hrd, e0, e1]; exact rfl) ?_
      refine WD.seq (WD.mono (Q := fun o => ∃ l', o = .nor (tl l') [] H' ∧ lsub [(0, .ptr B 0), (1, .int .i64 (d : Int)), (6, c), (7, .int .i64 x.k)] l') (WD.block (WD.seqR ?_)) ?_)
      · have g1 : ¬ x.k < 0 := by omega
        have g2 : ¬ (7 : Int) < x.k := by omega
        have hcl := ho.len
        have hcn : (l.toL.take i).length = i := by rw [List.length_take, Its.toL_len]; omega
        rw [hcn] at hcl
        have g3 : ¬ (i : Int) = 64 := by omega
        refine WDO.looks1 tyOk extOk 7 (ls := [xM 7 74, xC akLss 74 0 75, xM 75 76, yM 7 77 76 false, yC akGtr 77 7 78 76 false, xP 76 78 79 true, xM 79 73]) (by kernel_rfl) (by simp (disch := omega) [g1, g2]; exact rfl) ?_
        refine WDO.nilS (WD.cond (t := false) (by simp) (by simp) fun _ => WD.seq (WD.seqR ?_))
        refine WDO.looks1 tyOk extOk 4 (ls := [xM 6 81, xN 81 82, xC akEql 82 64 83, xM 83 80]) (by kernel_rfl) (by simp (disch := omega) [hcl, g3]; exact rfl) ?_
        refine WDO.nilS (WD.cond (t := false) (by simp) (by simp) fun _ => WD.region ?_)
        by_cases h7 : x.k = 7
        · have h16 := (check_parts (hsub h7)).2.1
          have g4 : ¬ (d : Int) = 16 := by omega
          refine WDO.looks1 tyOk extOk 7 (ls := qN5_4) (by kernel_rfl) (by simp (disch := omega) [h7, g4]; exact rfl) ?_
          refine WDO.nil ?_
          refine WD.cond (t := false) (by simp) (by simp) fun _ => WD.skip (.inl rfl) ?_
          exact ⟨_, rfl, by simp [h7]⟩
        · refine WDO.looks1 tyOk extOk 7 (ls := qN5_4) (by kernel_rfl) (by simp (disch := omega) [h7]; exact rfl) ?_
          refine WDO.nil ?_
          refine WD.cond (t := false) (by simp) (by simp) fun _ => WD.skip (.inl rfl) ?_
          exact ⟨_, rfl, by simp⟩
      rintro _ ⟨l', rfl, hl'⟩
      refine WD.keep ?_ hl'
      clear l' hl'
      obtain ⟨q1, hq1⟩ : ∃ e, e = q + 1 := ⟨_, rfl⟩
      have i1 : (q : Int) + 1 = (q1 : Int) := by omega
      obtain ⟨H2, s1, s2, s3⟩ := hr.to hbn q1
      have n2 := s3.1
      refine WD.seqR ?_
      refine WDO.looks1 tyOk extOk 7 (ls := [xM 0 90, ⟨⟨nilChk E (.tmp 90)⟩, (some 91), none⟩, xF 91 1 92, xL 92 93, xC akAdd 93 1 94, ⟨⟨nilChk E (.tmp 90)⟩, (some 95), none⟩, xF 95 1 96]) (by kernel_rfl) (by simp (disch := omega) [hgB, rp, i1]; exact rfl) ?_
      refine WDO.heavy1 tyOk extOk (k := ⟨hvStore ⟨st1'⟩ (.tmp 96) (.tmp 94)⟩) (by kernel_rfl) rfl (by kernel_rfl) (by simp [s1]; exact ⟨rfl, rfl⟩) ?_
      have hd1 : b.drop q1 = enc1T x.k x.n x.t x.s.enc ++ ((l.drop (i + 1)).enc ++ tailL d rest) := by
        rw [hq1]; exact drop_more (c := [y]) (by rw [hdq]; simp)
      have hG2 := (hG.keep hk fun b hb e => by omega).keep s3 fun b hb e => by omega
      refine WDO.nilS (WD.seqR ?_)
      refine WDO.looks1 tyOk extOk 3 (ls := [xM 0 98, xM 7 99, xM 1 100]) (by kernel_rfl) (by simp (disch := omega) []; exact rfl) ?_
      refine WDO.callF (g := 98) rfl rfl rfl (by kernel_rfl) (l := .cons (.ptr B 0) (.cons (.int .i64 x.k) (.cons (.int .i64 (d : Int)) .nil))) (by simp) (rdItem_ok hib hxn.1 hxn.2 (fun h7 => fun {H B p v b rest} g1 g2 g3 g4 g5 => by
        have hne : b ≠ [] := by intro e; rw [e] at g2; simp at g2
        have hpl : p ≤ b.length := by
          rcases Nat.lt_or_ge b.length p with h | h
          · rw [List.drop_eq_nil_of_le (by omega)] at g2
            have := congrArg List.length g2
            simp at this
          · exact h
        have := rdItems_ok x.s.size (Nat.le_refl _) (hsub h7) hxr g1 hpl hne (rest := rest) (by rw [g2]; rfl) g3 g4 g5
        exact this) (by omega) s2 hd1 (by omega) hbn hmx hG2 hB) fun w H3 ⟨u, hw, hu, r3, k3⟩ => ?_
      subst hw
      have n3 := k3.1
      refine WDO.looks1 tyOk extOk 3 (ls := [xM 101 97, xE 97 0 102, xE 97 1 103]) (by kernel_rfl) (by simp (disch := omega) []; exact rfl) ?_
      refine WDO.fresh1 tyOk (k := ⟨frAlloc (.cs 27 4 4 false (.cons (.int .i64 0) (.cons (.int .i64 0) (.cons (.str 0 0) (.cons .snil .nil)))) .e)⟩) (by kernel_rfl) rfl (by kernel_rfl) (v := .ptr H3.next 0) (x := .cs 27 4 4 false zIv .e) ?_ ?_
      · simp [zIv]
      have B8 := Bx.new (enc := encI) (e := 27) (es := 4) (z := zIv) (a := zeroIv) encI_len rfl H3 (n := 4) rfl
      have k4 : Keep noB H3 (H3.new (.cs 27 4 4 false zIv .e)) := Keep.new _ _ _
      have n4 : (H3.new (.cs 27 4 4 false zIv .e)).next = H3.next + 1 := by simp
      obtain ⟨H4, t1, t2, B8, t4⟩ := B8.store encI_len (⟨x.k, x.n, x.t, u, hu.cell⟩ : Iv) (cells_iv _)
      refine WDO.heavy1 tyOk extOk (k := ⟨hvStore ⟨stN 4⟩ (.tmp 8) (.tmp 102)⟩) (by kernel_rfl) rfl (by kernel_rfl) (by simp only [encI, avl_cons, avl_nil] at t1; simp [itA, t1]; exact ⟨rfl, rfl⟩) ?_
      refine WDO.looks1 tyOk extOk 1 (ls := [xM 103 9]) (by kernel_rfl) (by simp (disch := omega) []; exact rfl) ?_
      refine WDO.nilS (WD.seq (WD.seqR ?_))
      refine WDO.looks1 tyOk extOk 2 (ls := [xM 9 104, xC akNeq 104 0 105]) (by kernel_rfl) (by simp (disch := omega) []; exact rfl) ?_
      refine WDO.nilS (WD.cond (t := false) (by simp) (by simp) fun _ => WD.skip (.inl rfl) ?_)
      have kk4 : Keep noB H3 H4 := k4.trans' t4 fun b hb e => by omega
      have n5 := t4.1
      obtain ⟨o8, g1, g2, g3⟩ := B8.get encI_len
      refine WD.region ?_
      refine WDO.looks1 tyOk extOk 2 (ls := [xM 6 107, xD 4 8 108]) (by kernel_rfl) (by simp (disch := omega) [g1, g3]; exact rfl) ?_
      refine WDO.slice1 (enc := encI) (a := ⟨x.k, x.n, x.t, u, hu.cell⟩) tyOk encI_len (by kernel_rfl : freshK E _ = some ⟨frSlice 1 (zerosA (.cons (.int .i64 0) (.cons (.int .i64 0) (.cons (.str 0 0) (.cons .snil .nil)))) 1) ⟨fill1 (.tmp 108) 0 4 flEnd⟩ ⟨mkCs 27 4 (.cons (.int .i64 0) (.cons (.int .i64 0) (.cons (.str 0 0) (.cons .snil .nil))))⟩⟩) rfl (by kernel_rfl) (by simp; rfl) (by rfl) (by rfl) (by rfl) fun o4 b4 => ?_
      have k5 : Keep noB H4 (H4.new o4) := Keep.new _ _ _
      have g5 : (H4.new o4).get H4.next = some o4 := get_new_same _ _
      have n6 : (H4.new o4).next = H4.next + 1 := by simp
      have hoA : OwnR (H4.new o4) H.next c (l.toL.take i) := (((ho.keep s3 fun b hb1 hb2 e => by omega).keep k3 fun b hb1 hb2 e => by omega).keep kk4 fun _ _ _ => id).keep k5 fun _ _ _ => id
      have hlow : ∀ b, blk c = some b → b < H'.next := fun b e => (ho.low e).2
      have huA : SaysR (H4.new o4) (Rv1 H.next (H4.new o4) c) u x.s := (hu.keep (R2 := fun b => H2.next ≤ b ∧ b < H3.next) kk4 fun b hb => ⟨hb.2, id, hb⟩).keep k5 fun b (hb : H2.next ≤ b ∧ b < H3.next) => ⟨by omega, id, by omega, by omega, fun e => by have := hlow b e; omega⟩
      obtain ⟨c', Ha, y1, y2, y3, y4, y5⟩ := hoA.app (x := .sl H4.next 0 1 (some 1)) (a := ⟨x.k, x.n, x.t, u, hu.cell⟩) (y := x) (by omega) (One.of g5 b4) rfl rfl rfl huA (by rw [List.length_take, Its.toL_len]; omega)
      refine WDO.heavy1 tyOk extOk (k := ⟨hvAppend ⟨grownCs 4 ⟨mkCs 27 4 (.cons (.int .i64 0) (.cons (.int .i64 0) (.cons (.str 0 0) (.cons .snil .nil))))⟩⟩ 4 (.tmp 107) (.tmp 109)⟩) (by kernel_rfl) rfl (by kernel_rfl) (by simp; exact y1) ?_
      refine WDO.looks1 tyOk extOk 1 (ls := [xM 110 6]) (by kernel_rfl) (by simp (disch := omega) []; exact rfl) ?_
      have kB : Keep (fun x => x = B) H Ha := ((((hk.trans s3).trans k3).trans (kk4.mono fun b _ e => e.elim)).trans (k5.mono fun b _ e => e.elim)).trans' y5 fun b hb e => by have := (ho.low e).1; omega
      have hlenx : q1 + (enc1T x.k x.n x.t x.s.enc).length ≤ b.length := by
        have := drop_len hd1 (by omega)
        rw [List.length_append] at this
        omega
      refine WDO.nil ⟨rfl, (i + 1, c', q1 + (enc1T x.k x.n x.t x.s.enc).length), _, rfl, by simp, ⟨by simp only; omega, by rw [toL_take hx]; exact y2, ?_, ?_, ?_, hlenx, kB⟩, by simp only; omega⟩
      · exact ((r3.keep hbn kk4 id fun _ _ => id).keep hbn k5 id fun _ _ => id).keep hbn y5 (fun e => by have := (ho.low e).1; omega) fun z hz e => by have := (ho.low e).1; have := hvl z hz; omega
      · exact drop_more hd1
      · simp only
        rw [← hsum, List.length_cons, List.length_append]
        omega
end
end Go.Proofs.YtfgipbjaapkdlaaGreatDoor
