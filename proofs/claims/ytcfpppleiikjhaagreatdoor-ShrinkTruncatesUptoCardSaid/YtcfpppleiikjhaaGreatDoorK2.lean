/- A part of the proof of this seat's statement: what is particular to its program. Its conditions stand in each theorem. -/
import Derived.Test.YtcfpppleiikjhaaGreatDoorK1
import Derived.Test.YtcfpppleiikjhaaGreatDoorZ5
import Derived.Test.YtcfpppleiikjhaaGreatDoorZ6
namespace Go.Proofs.YtcfpppleiikjhaaGreatDoor
open Go.Xq
noncomputable section
theorem number05_ok {H : AH} {v : AV} {l : List UInt8} {at_ w : Nat} (h : RdS H v l) (hat : at_ + w ≤ l.length) (hb : readL (sub l at_ w) < 9223372036854775808) (hw : w ≤ 8) (ha : at_ ≤ 1000) :
    DC Tryz.prog .normal 83 (.cons v (.cons (.int .i64 (at_ : Int)) (.cons (.int .i64 (w : Int)) .nil))) H fun v' H2 => v' = .int .i64 ((readL (sub l at_ w) : Nat) : Int) ∧ H2 = H := by
  refine DC.of_wd (re := reTmp 6 reNil) tyOk Tryz.func83 (by kernel_rfl) rfl (by kernel_rfl) (by kernel_rfl) ?_
  rw [tl_nil, argsT_cons, argsT_cons, argsT_cons, argsT_nil]
  refine WD.seqR ?_
  refine lkD 1 [⟨lkMove (.const (.int .i64 0)), (some 6), none⟩] (by simp (disch := omega) []; exact rfl) ?_
  refine WDO.nilS (WD.seqR ?_)
  refine lkD 1 [⟨lkMove (.const (.int .i64 0)), (some 7), none⟩] (by simp (disch := omega) []; exact rfl) ?_
  refine WDO.nilS (WD.seq (WD.seqR ?_))
  refine lkD 1 [⟨lkMove (.const (.int .i64 0)), (some 8), none⟩] (by simp (disch := omega) []; exact rfl) ?_
  refine WDO.nilS (WD.forE (σ := Nat) (fun i => [(0, v), (1, .int .i64 (at_ : Int)), (2, .int .i64 (w : Int)), (7, .int .i64 ((readL (sub l at_ i) : Nat) : Int)), (8, .int .i64 (i : Int))]) (fun i H' => i ≤ w ∧ H = H') (fun i => w - i) 0 ⟨Nat.zero_le _, rfl⟩ (by simp [sub, readL]) ?_)
  rintro i _ ⟨hi, rfl⟩
  refine lkD 3 [xM 8 9, xM 2 10, xB akLss 9 10 11] (by simp (disch := omega) []; exact rfl) ?_
  refine WDO.nil ⟨decide (i < w), _, rfl, by simp, fun hc => ?_, fun hc => ?_⟩
  · have hc : i = w := by have := of_decide_eq_false hc; omega
    subst hc
    refine WD.seqR ?_
    refine lkD 2 [xM 7 24, xM 24 6] (by simp (disch := omega) []; exact rfl) ?_
    exact WDO.nilS (WD.ret (endR _ (by simp; rfl) ⟨rfl, rfl⟩))
  · have hc : i < w := of_decide_eq_true hc
    obtain ⟨b, off, cap, o, hv, hb', ho, hby⟩ := h.pos (by omega)
    have hx : l[at_ + i]? = some (l[at_ + i]'(by omega)) := List.getElem?_eq_getElem _
    generalize l[at_ + i]'_ = x at hx
    have hrd := hby _ _ hx
    have hs := sub_succ hx
    have hle : readL (sub l at_ (i + 1)) ≤ readL (sub l at_ w) := readL_sub_le l at_ hc hat
    have hs2 : readL (sub l at_ (i + 1)) = 256 * readL (sub l at_ i) + x.toNat := by rw [hs, readL_snoc]
    have hxl := x.toNat_lt
    rw [hs2] at hle
    generalize readL (sub l at_ i) = n at hle hs2 ⊢
    obtain ⟨j, hj⟩ : ∃ j, j = at_ + i := ⟨_, rfl⟩
    have hj' : (at_ : Int) + (i : Int) = (j : Int) := by omega
    rw [← hj] at hrd
    have hjl : j < l.length := by omega
    refine WD.region ?_
    have gm : akMul.f .i64 256 (n : Int) = some (.int .i64 (256 * (n : Int))) := akMul_i64 (by omega) (by omega)
    have gc : mkInt .i64 (x.toNat : Int) = some (.int .i64 (x.toNat : Int)) := mkInt_i64 (by omega) (by omega)
    refine lkD 11 [xM 7 14, ⟨⟨binInt akMul (.const (.int .i64 256)) (.tmp 14)⟩, (some 15), none⟩, xM 0 16, xM 1 17, xM 8 18, xB akAdd 17 18 19, xI 1 16 19 20, xL 20 21, ⟨⟨cvInt .i64 (.tmp 21)⟩, (some 22), none⟩, xB akAdd 15 22 23, xM 23 7] (by simp (disch := omega) [hv, ho, hrd, hj', hjl, gm, gc]; exact rfl) ?_
    refine WDO.nil ?_
    refine lkD 3 [xM 8 12, xC akAdd 12 1 13, xM 13 8] (by simp (disch := omega) []; exact rfl) ?_
    exact WDO.nil ⟨rfl, i + 1, _, rfl, by simp [hv, hs2], ⟨by omega, rfl⟩, by omega⟩
theorem step01_ok {H : AH} {r x : Nat} (hr : r < 4294967296) (hx : x < 256) :
    DC Tryz.prog .normal 185 (.cons (.int .u32 (r : Int)) (.cons (.int .u8 (x : Int)) .nil)) H fun v' H2 => v' = .int .u32 ((halfN (halfN (r ^^^ x)) : Nat) : Int) ∧ H2 = H := by
  refine DC.of_wd (re := reTmp 4 reNil) tyOk Tryz.func185 (by kernel_rfl) rfl (by kernel_rfl) (by kernel_rfl) ?_
  rw [tl_nil, argsT_cons, argsT_cons, argsT_nil]
  obtain ⟨y, hy⟩ : ∃ y, y = r ^^^ x := ⟨_, rfl⟩
  have hyl : y < 4294967296 := by rw [hy]; exact xor_lt32 hr (by omega)
  have f1 : mkInt .u32 (x : Int) = some (.int .u32 (x : Int)) := mkInt_u32n (by omega)
  have f2 : akXor.f .u32 (r : Int) (x : Int) = some (.int .u32 (y : Int)) := akXor_u32 hr (by omega) hy
  refine WD.seqR ?_
  refine lkD 1 [⟨lkMove (.const (.int .u32 0)), (some 4), none⟩] (by simp (disch := omega) []; exact rfl) ?_
  refine WDO.nilS (WD.seqR ?_)
  refine lkD 5 [xM 0 7, xM 1 8, ⟨⟨cvInt .u32 (.tmp 8)⟩, (some 9), none⟩, xB akXor 7 9 10, xM 10 5] (by simp (disch := omega) [f1, f2]; exact rfl) ?_
  refine WDO.nilS (WD.seq (WD.seqR ?_))
  refine lkD 1 [⟨lkMove (.const (.int .i64 0)), (some 6), none⟩] (by simp (disch := omega) []; exact rfl) ?_
  refine WDO.nilS (WD.forE (σ := Nat) (fun i => [(5, .int .u32 ((itN i y : Nat) : Int)), (6, .int .i64 (i : Int))]) (fun i H' => i ≤ 8 ∧ H = H') (fun i => 8 - i) 0 ⟨Nat.zero_le _, rfl⟩ (by simp [itN]) ?_)
  rintro i _ ⟨hi, rfl⟩
  refine lkD 2 [xM 6 11, xC akLss 11 8 12] (by simp (disch := omega) []; exact rfl) ?_
  refine WDO.nil ⟨decide ((i : Int) < 8), _, rfl, by simp, fun hc => ?_, fun hc => ?_⟩
  · have hc : i = 8 := by have := of_decide_eq_false hc; omega
    subst hc
    refine WD.seqR ?_
    refine lkD 2 [xM 5 23, xM 23 4] (by simp (disch := omega) []; exact rfl) ?_
    exact WDO.nilS (WD.ret (endR _ (by simp; rfl) ⟨by rw [itN_8, hy]; rfl, rfl⟩))
  · have hc : i < 8 := by have := of_decide_eq_true hc; omega
    have hml := itN_lt hyl i
    have hnx : itN (i + 1) y = bitN (itN i y) := rfl
    generalize itN i y = m at hml hnx ⊢
    obtain ⟨q, hq⟩ : ∃ q, q = m % 2 := ⟨_, rfl⟩
    obtain ⟨d, hd⟩ : ∃ d, d = m / 2 := ⟨_, rfl⟩
    have g1 : remA .u32 (m : Int) 2 = some (.int .u32 (q : Int)) := remA_nat (d := 2) (by omega) hq
    have g2 : quoA .u32 (m : Int) 2 = some (.int .u32 (d : Int)) := quoA_u32 (d := 2) (by omega) hml hd
    refine WD.seqR ?_
    refine lkD 3 [xM 5 15, ⟨⟨binInt ⟨remA⟩ (.tmp 15) (.const (.int .u32 2))⟩, (some 16), none⟩, ⟨⟨binInt akEql (.tmp 16) (.const (.int .u32 1))⟩, (some 17), none⟩] (by simp (disch := omega) [g1]; exact rfl) ?_
    by_cases hq1 : q = 1
    · obtain ⟨z, hz⟩ : ∃ z, z = d ^^^ 2197175160 := ⟨_, rfl⟩
      have g3 : akXor.f .u32 (d : Int) 2197175160 = some (.int .u32 (z : Int)) := akXor_u32 (b := 2197175160) (by omega) (by omega) hz
      have hb : itN (i + 1) y = z := by rw [hnx, bitN, if_pos (by omega), ← hd, hz]
      refine WDO.nilS (WD.cond (t := true) (by simp [hq1]) (fun _ => WD.region ?_) (by simp))
      refine lkD 4 [xM 5 18, ⟨⟨binInt ⟨quoA⟩ (.tmp 18) (.const (.int .u32 2))⟩, (some 19), none⟩, ⟨⟨binInt akXor (.tmp 19) (.const (.int .u32 2197175160))⟩, (some 20), none⟩, xM 20 5] (by simp (disch := omega) [g2, g3]; exact rfl) ?_
      refine WDO.nil ?_
      refine lkD 3 [xM 6 13, xC akAdd 13 1 14, xM 14 6] (by simp (disch := omega) []; exact rfl) ?_
      exact WDO.nil ⟨rfl, i + 1, _, rfl, by simp [hb], ⟨by omega, rfl⟩, by omega⟩
    · have hb : itN (i + 1) y = d := by rw [hnx, bitN, if_neg (by omega), ← hd]
      refine WDO.nilS (WD.cond (t := false) (by simp; omega) (by simp) (fun _ => WD.region ?_))
      refine lkD 3 [xM 5 21, ⟨⟨binInt ⟨quoA⟩ (.tmp 21) (.const (.int .u32 2))⟩, (some 22), none⟩, xM 22 5] (by simp (disch := omega) [g2]; exact rfl) ?_
      refine WDO.nil ?_
      refine lkD 3 [xM 6 13, xC akAdd 13 1 14, xM 14 6] (by simp (disch := omega) []; exact rfl) ?_
      exact WDO.nil ⟨rfl, i + 1, _, rfl, by simp [hb], ⟨by omega, rfl⟩, by omega⟩
theorem sumOf_ok {H : AH} {v : AV} {l : List UInt8} (h : RdS H v l) (hl : l.length < 17179869184) :
    DC Tryz.prog .normal 128 (.cons v .nil) H fun v' H2 => v' = .int .u32 ((sumL l : Nat) : Int) ∧ H2 = H := by
  refine DC.of_wd (re := reTmp 2 reNil) tyOk Tryz.func128 (by kernel_rfl) rfl (by kernel_rfl) (by kernel_rfl) ?_
  rw [tl_nil, argsT_cons, argsT_nil]
  have hlen := h.len
  refine WD.seqR ?_
  refine lkD 1 [⟨lkMove (.const (.int .u32 0)), (some 2), none⟩] (by simp (disch := omega) []; exact rfl) ?_
  refine WDO.nilS (WD.seqR ?_)
  refine lkD 1 [⟨lkMove (.const (.int .u32 4294967295)), (some 3), none⟩] (by simp (disch := omega) []; exact rfl) ?_
  refine WDO.nilS (WD.seq (WD.seqR ?_))
  refine lkD 1 [⟨lkMove (.const (.int .i64 0)), (some 4), none⟩] (by simp (disch := omega) []; exact rfl) ?_
  refine WDO.nilS (WD.forE (σ := Nat) (fun i => [(0, v), (3, .int .u32 ((regN (l.take i) 4294967295 : Nat) : Int)), (4, .int .i64 (i : Int))]) (fun i H' => i ≤ l.length ∧ H = H') (fun i => l.length - i) 0 ⟨Nat.zero_le _, rfl⟩ (by simp [regN]) ?_)
  rintro i _ ⟨hi, rfl⟩
  have hrl := regN_lt (l.take i) (r := 4294967295) (by omega)
  refine lkD 4 [xM 4 5, xM 0 6, xN 6 7, xB akLss 5 7 8] (by simp (disch := omega) [hlen]; exact rfl) ?_
  refine WDO.nil ⟨decide (i < l.length), _, rfl, by simp, fun hc => ?_, fun hc => ?_⟩
  · have hc : i = l.length := by have := of_decide_eq_false hc; omega
    subst hc
    rw [List.take_length] at hrl ⊢
    obtain ⟨z, hz⟩ : ∃ z, z = regN l 4294967295 ^^^ 4294967295 := ⟨_, rfl⟩
    have hs : sumL l = z := by rw [sumL, sumN_reg, hz]
    generalize regN l 4294967295 = r at hrl hz ⊢
    have g3 : akXor.f .u32 (r : Int) 4294967295 = some (.int .u32 (z : Int)) := akXor_u32 (b := 4294967295) hrl (by omega) hz
    refine WD.seqR ?_
    refine lkD 3 [xM 3 17, ⟨⟨binInt akXor (.tmp 17) (.const (.int .u32 4294967295))⟩, (some 18), none⟩, xM 18 2] (by simp (disch := omega) [g3]; exact rfl) ?_
    exact WDO.nilS (WD.ret (endR _ (by simp; rfl) ⟨by rw [hs]; rfl, rfl⟩))
  · have hc : i < l.length := of_decide_eq_true hc
    obtain ⟨b, off, cap, o, hv, hb', ho, hby⟩ := h.pos (by omega)
    have hx : l[i]? = some (l[i]) := List.getElem?_eq_getElem _
    generalize l[i] = x at hx
    have hrd := hby _ _ hx
    have hnx : regN (l.take (i + 1)) 4294967295 = halfN (halfN (regN (l.take i) 4294967295 ^^^ x.toNat)) := by
      rw [List.take_add_one, hx]
      exact regN_snoc _ _ _
    generalize regN (l.take i) 4294967295 = r at hrl hnx ⊢
    refine WD.region ?_
    refine lkD 5 [xM 3 11, xM 0 12, xM 4 13, xI 1 12 13 14, xL 14 15] (by simp (disch := omega) [hv, ho, hrd, hc]; exact rfl) ?_
    refine WDO.callF (g := 185) rfl rfl rfl (by kernel_rfl) (l := .cons (.int .u32 (r : Int)) (.cons (.int .u8 (x.toNat : Int)) .nil)) (by simp) (step01_ok hrl (by have := x.toNat_lt; omega)) fun u H2 ⟨hu, hH⟩ => ?_
    subst hu
    subst hH
    refine lkD 1 [xM 16 3] (by simp (disch := omega) []; exact rfl) ?_
    refine WDO.nil ?_
    refine lkD 3 [xM 4 9, xC akAdd 9 1 10, xM 10 4] (by simp (disch := omega) []; exact rfl) ?_
    exact WDO.nil ⟨rfl, i + 1, _, rfl, by simp [hv, hnx], ⟨by omega, rfl⟩, by omega⟩
end
end Go.Proofs.YtcfpppleiikjhaaGreatDoor
namespace Go.Proofs.YtcfpppleiikjhaaGreatDoor
open Go.Xq
noncomputable section
theorem fix_byte (n k : Nat) : ((UInt8.ofNat (n / 256 ^ k)).toNat : Int) = (((n / 256 ^ k) % 256 : Nat) : Int) := by rw [UInt8.toNat_ofNat']
theorem fixed01_ok {H : AH} {n w : Nat} (hn : n < 18446744073709551616) (hw : 1 ≤ w) (hw8 : w ≤ 8) :
    DC Tryz.prog .normal 127 (.cons (.int .u64 (n : Int)) (.cons (.int .i64 (w : Int)) .nil)) H fun v' H2 => OwnB 5 H2 H.next v' (fixedL n w) ∧ Keep noB H H2 := by
  refine DC.of_wd (re := reTmp 4 reNil) tyOk Tryz.func127 (by kernel_rfl) rfl (by kernel_rfl) (by kernel_rfl) ?_
  rw [tl_nil, argsT_cons, argsT_cons, argsT_nil]
  have f1 : ¬ (w : Int) < 1 := by omega
  have f2 : ¬ (8 : Int) < (w : Int) := by omega
  refine WD.seqR ?_
  refine lkD 1 [⟨lkMove (.const (.slice none 0 0)), (some 4), none⟩] (by simp (disch := omega) []; exact rfl) ?_
  refine WDO.nilS (WD.seqR ?_)
  refine lkD 1 [⟨lkMove (.const (.slice none 0 0)), (some 5), none⟩] (by simp (disch := omega) []; exact rfl) ?_
  refine WDO.nilS (WD.seq (WD.seqR ?_))
  refine lkD 6 [xM 1 9, xC akLss 9 1 10, xM 10 11, yM 1 12 11 false, yC akGtr 12 8 13 11 false, xP 11 13 14 true] (by simp (disch := omega) [f1, f2]; exact rfl) ?_
  refine WDO.nilS (WD.cond (t := false) (by simp) (by simp) fun _ => WD.skip (.inl rfl) (WD.seq (WD.seqR ?_)))
  refine lkD 3 [xM 1 16, xC akSub 16 1 17, xM 17 6] (by simp (disch := omega) []; exact rfl) ?_
  refine WDO.nilS (WD.forE (σ := Nat × AV) (fun s => [(0, .int .u64 (n : Int)), (1, .int .i64 (w : Int)), (5, s.2), (6, .int .i64 ((s.1 : Int) - 1))])
    (fun s H' => s.1 ≤ w ∧ OwnB 5 H' H.next s.2 ((fixedL n w).take (w - s.1)) ∧ Keep noB H H') (fun s => s.1) (w, .snil) ⟨Nat.le_refl _, .inl ⟨rfl, by simp⟩, Keep.refl _ _⟩ (by simp) ?_)
  rintro ⟨r, lv⟩ H' ⟨hr, ho, hk⟩
  refine lkD 2 [xM 6 18, xC akGeq 18 0 19] (by simp (disch := omega) []; exact rfl) ?_
  refine WDO.nil ⟨!decide ((r : Int) - 1 < 0), _, rfl, by simp, fun hc => ?_, fun hc => ?_⟩
  · have hc : r = 0 := by simp at hc; omega
    subst hc
    rw [Nat.sub_zero, List.take_of_length_le (by rw [fixedL_len]; exact Nat.le_refl _)] at ho
    refine WD.seqR ?_
    refine lkD 2 [xM 5 36, xM 36 4] (by simp (disch := omega) []; exact rfl) ?_
    refine WDO.nilS (WD.ret (endR _ (by simp; rfl) ⟨?_, hk⟩))
    exact ho
  · obtain ⟨k, rfl⟩ : ∃ k, r = k + 1 := ⟨r - 1, by simp at hc; omega⟩
    simp only at hr ho
    refine WD.seqR ?_
    refine lkD 2 [xM 0 22, xM 22 7] (by simp (disch := omega) []; exact rfl) ?_
    refine WDO.nilS (WD.seq (WD.seqR ?_))
    refine lkD 1 [⟨lkMove (.const (.int .i64 0)), (some 8), none⟩] (by simp (disch := omega) []; exact rfl) ?_
    refine WDO.nilS (WD.forE (σ := Nat) (fun i => [(0, .int .u64 (n : Int)), (1, .int .i64 (w : Int)), (5, lv), (6, .int .i64 (k : Int)), (7, .int .u64 ((n / 256 ^ i : Nat) : Int)), (8, .int .i64 (i : Int))]) (fun i H2 => i ≤ k ∧ H' = H2) (fun i => k - i) 0 ⟨Nat.zero_le _, rfl⟩ (by simp) ?_)
    rintro i _ ⟨hi, rfl⟩
    have hfb := fix_byte n i
    have hm : n / 256 ^ i < 18446744073709551616 := Nat.lt_of_le_of_lt (Nat.div_le_self _ _) hn
    have hnx : n / 256 ^ (i + 1) = n / 256 ^ i / 256 := by rw [Nat.pow_succ, Nat.div_div_eq_div_mul]
    have hget := fixedL_get n w (i := w - (k + 1)) (by omega)
    rw [show w - 1 - (w - (k + 1)) = k by omega] at hget
    generalize hm0 : n / 256 ^ i = m at hfb hm hnx ⊢
    refine lkD 3 [xM 8 23, xM 6 24, xB akLss 23 24 25] (by simp (disch := omega) []; exact rfl) ?_
    refine WDO.nil ⟨decide (i < k), _, rfl, by simp, fun hc => ?_, fun hc => ?_⟩
    · have hc : i = k := by have := of_decide_eq_false hc; omega
      subst hc
      rw [hm0] at hget
      generalize hy : UInt8.ofNat m = y at hget hfb
      obtain ⟨q, hq⟩ : ∃ q, q = m % 256 := ⟨_, rfl⟩
      have g1 : remA .u64 (m : Int) 256 = some (.int .u64 (q : Int)) := remA_nat (d := 256) (by omega) hq
      have g2 : (q : Int) % 256 = (y.toNat : Int) := by omega
      refine WD.region ?_
      refine lkD 4 [xM 5 30, xM 7 31, ⟨⟨binInt ⟨remA⟩ (.tmp 31) (.const (.int .u64 256))⟩, (some 32), none⟩, ⟨⟨cvInt .u8 (.tmp 32)⟩, (some 33), none⟩] (by simp (disch := omega) [g1, g2]; exact rfl) ?_
      refine WDO.fresh1 tyOk (k := ⟨frSlice 1 (zerosA (.cons (.int .u8 0) .nil) 1) ⟨fill1 (.tmp 33) 0 1 flEnd⟩ ⟨mkBy 5⟩⟩) (by kernel_rfl) rfl (by kernel_rfl) (v := .sl H'.next 0 1 (some 1)) (x := bb 5 false [y]) ?_ ?_
      · dsimp only
        have := leA_bytes [y]
        simp only [List.map_cons, List.map_nil, avl_cons, avl_nil] at this
        simp [mkBy, g1, g2, this, bb]
      have kn : Keep noB H' (H'.new (bb 5 false [y])) := Keep.new _ _ _
      have ho2 := ho.keep kn fun _ _ => id
      obtain ⟨v', H2, a1, a2, a3, a4⟩ := ho2.app (l := [y]) (x := .sl H'.next 0 1 (some 1)) (by have := hk.1; simp; omega) (.bb' rfl (by simp) (get_new_same _ _)) (by simp [fixedL_len]; omega)
      refine WDO.heavy1 tyOk extOk (k := ⟨hvAppend ⟨grownBy 5⟩ 1 (.tmp 30) (.tmp 34)⟩) (by kernel_rfl) rfl (by kernel_rfl) (by simp; exact a1) ?_
      refine lkD 1 [xM 35 5] (by simp (disch := omega) []; exact rfl) ?_
      refine WDO.nil ?_
      refine lkD 3 [xM 6 20, xC akSub 20 1 21, xM 21 6] (by simp (disch := omega) []; exact rfl) ?_
      refine WDO.nil ⟨rfl, (i, v'), _, rfl, by simp, ⟨by first | omega | (simp only; omega), ?_, (hk.trans kn).trans' a3 fun b hb e => absurd (ho2.low e).1 (by omega)⟩, by simp⟩
      have e : w - i = (w - (i + 1)) + 1 := by omega
      simp only
      rw [e, List.take_add_one, hget]
      exact a2
    · have hc : i < k := of_decide_eq_true hc
      obtain ⟨d, hd⟩ : ∃ d, d = m / 256 := ⟨_, rfl⟩
      have g2 : quoA .u64 (m : Int) 256 = some (.int .u64 (d : Int)) := quoA_u64 (d := 256) (by omega) hm hd
      rw [← hd] at hnx
      refine WD.region ?_
      refine lkD 3 [xM 7 28, ⟨⟨binInt ⟨quoA⟩ (.tmp 28) (.const (.int .u64 256))⟩, (some 29), none⟩, xM 29 7] (by simp (disch := omega) [g2]; exact rfl) ?_
      refine WDO.nil ?_
      refine lkD 3 [xM 8 26, xC akAdd 26 1 27, xM 27 8] (by simp (disch := omega) []; exact rfl) ?_
      exact WDO.nil ⟨rfl, i + 1, _, rfl, by simp [hnx], ⟨by omega, rfl⟩, by omega⟩
end
end Go.Proofs.YtcfpppleiikjhaaGreatDoor
namespace Go.Proofs.YtcfpppleiikjhaaGreatDoor
open Go.Xq
noncomputable section
theorem fill_down {t : List UInt8} {k : Nat} {x : UInt8} (hx : t[k]? = some x) : (List.replicate (k + 1) 0 ++ t.drop (k + 1)).set k x = List.replicate k 0 ++ t.drop k := by
  have hk := get_lt hx
  have e : List.replicate (k + 1) (0 : UInt8) = List.replicate k 0 ++ [0] := List.replicate_succ'
  have h2 : t.drop k = x :: t.drop (k + 1) := by
    rw [List.drop_eq_getElem_cons hk]
    rw [List.getElem?_eq_getElem hk] at hx
    cases hx; rfl
  rw [e, List.append_assoc, List.set_append, if_neg (by simp), List.length_replicate, Nat.sub_self, h2]; rfl
theorem fixedInk_ok {H : AH} {n w : Nat} (hn : n < 18446744073709551616) (hw : 1 ≤ w) (hw8 : w ≤ 8) :
    DC Tryz.prog .normal 124 (.cons (.int .u64 (n : Int)) (.cons (.int .i64 (w : Int)) .nil)) H fun v' H2 => v' = .sl H.next 0 w (some w) ∧ H2.next = H.next + 1 ∧ H2.get H.next = some (bb 5 false (fixedL n w)) ∧ Keep noB H H2 := by
  refine DC.of_wd (re := reTmp 4 reNil) tyOk Tryz.func124 (by kernel_rfl) rfl (by kernel_rfl) (by kernel_rfl) ?_
  rw [tl_nil, argsT_cons, argsT_cons, argsT_nil]
  have f1 : ¬ (w : Int) < 1 := by omega
  have f2 : ¬ (8 : Int) < (w : Int) := by omega
  refine WD.seqR ?_
  refine lkD 1 [⟨lkMove (.const (.slice none 0 0)), (some 4), none⟩] (by simp (disch := omega) []; exact rfl) ?_
  refine WDO.nilS (WD.seq (WD.seqR ?_))
  refine lkD 6 [xM 1 7, xC akLss 7 1 8, xM 8 9, yM 1 10 9 false, yC akGtr 10 8 11 9 false, xP 9 11 12 true] (by simp (disch := omega) [f1, f2]; exact rfl) ?_
  refine WDO.nilS (WD.cond (t := false) (by simp) (by simp) fun _ => WD.skip (.inl rfl) (WD.seqR ?_))
  refine lkD 1 [xM 1 13] (by simp (disch := omega) []; exact rfl) ?_
  refine WDO.fresh1 tyOk (k := ⟨frMake E 5 1 (.tmp 13) (.tmp 13)⟩) (by kernel_rfl) rfl (by kernel_rfl) (v := .sl H.next 0 w (some w)) (x := bb 5 false (List.replicate w 0)) ?_ ?_
  · dsimp only
    refine frMake_u8 (E := E) (e := 5) (bytes := 1) (l := .tmp 13) (c := .tmp 13) (n := w) (m := w) (mkZero5 _) ?_ ?_ (Nat.le_refl _) (by omega) (by omega)
    · simp
    · simp
  refine lkD 1 [xM 14 5] (by simp (disch := omega) []; exact rfl) ?_
  refine WDO.nilS (WD.seq (WD.seqR ?_))
  refine lkD 3 [xM 1 15, xC akSub 15 1 16, xM 16 6] (by simp (disch := omega) []; exact rfl) ?_
  refine WDO.nilS (WD.forE (σ := Nat) (fun r => [(0, .int .u64 ((n / 256 ^ (w - r) : Nat) : Int)), (1, .int .i64 (w : Int)), (5, .sl H.next 0 w (some w)), (6, .int .i64 ((r : Int) - 1))])
    (fun r H' => r ≤ w ∧ H'.next = H.next + 1 ∧ H'.get H.next = some (bb 5 false (List.replicate r 0 ++ (fixedL n w).drop r)) ∧ Keep noB H H') (fun r => r) w
    ⟨Nat.le_refl _, by simp, by rw [List.drop_of_length_le (by rw [fixedL_len]; exact Nat.le_refl _), List.append_nil]; exact get_new_same _ _, Keep.new _ _ _⟩ (by simp) ?_)
  rintro r H' ⟨hr, hnx, hg, hk⟩
  generalize hm0 : n / 256 ^ (w - r) = m
  refine lkD 2 [xM 6 17, xC akGeq 17 0 18] (by simp (disch := omega) []; exact rfl) ?_
  refine WDO.nil ⟨!decide ((r : Int) - 1 < 0), _, rfl, by simp, fun hc => ?_, fun hc => ?_⟩
  · have hc : r = 0 := by simp at hc; omega
    subst hc
    refine WD.seqR ?_
    refine lkD 2 [xM 5 28, xM 28 4] (by simp (disch := omega) []; exact rfl) ?_
    exact WDO.nilS (WD.ret (endR _ (by simp; rfl) ⟨rfl, hnx, by simpa using hg, hk⟩))
  · obtain ⟨k, rfl⟩ : ∃ k, r = k + 1 := ⟨r - 1, by simp at hc; omega⟩
    have hfb := fix_byte n (w - (k + 1))
    have hget := fixedL_get n w (i := k) (by omega)
    rw [show w - 1 - k = w - (k + 1) by omega] at hget
    have hst0 := fill_down hget
    have hd : n / 256 ^ (w - k) = n / 256 ^ (w - (k + 1)) / 256 := by rw [show w - k = (w - (k + 1)) + 1 by omega, Nat.pow_succ, Nat.div_div_eq_div_mul]
    rw [hm0] at hfb hget hst0 hd
    generalize UInt8.ofNat m = y at hget hfb hst0
    obtain ⟨q, hq⟩ : ∃ q, q = m / 256 := ⟨_, rfl⟩
    rw [← hq] at hd
    have g2 : (m : Int) % 256 = (y.toNat : Int) := by omega
    have g3 : shrA .u64 (m : Int) 8 = some (.int .u64 (q : Int)) := shrA_u64 hq
    have hst := st1'_bb y hg (i := k) (by simp; omega)
    rw [hst0] at hst
    have hkw : k < w := by omega
    refine WD.seqR ?_
    refine lkD 5 [xM 5 21, xM 6 22, xM 0 23, ⟨⟨cvInt .u8 (.tmp 23)⟩, (some 24), none⟩, xI 1 21 22 25] (by simp (disch := omega) [g2, hkw]; exact rfl) ?_
    refine WDO.heavy1 tyOk extOk (k := ⟨hvStore ⟨st1'⟩ (.tmp 25) (.tmp 24)⟩) (by kernel_rfl) rfl (by kernel_rfl) (by simp [hst]; exact ⟨rfl, rfl⟩) ?_
    refine WDO.nilS (WD.region ?_)
    refine lkD 3 [xM 0 26, ⟨⟨binShr (.tmp 26) (.const (.int .u64 8))⟩, (some 27), none⟩, xM 27 0] (by simp (disch := omega) [g3]; exact rfl) ?_
    refine WDO.nil ?_
    refine lkD 3 [xM 6 19, xC akSub 19 1 20, xM 20 6] (by simp (disch := omega) []; exact rfl) ?_
    refine WDO.nil ⟨rfl, k, _, rfl, by simp [hd], ⟨by omega, by simp [hnx], get_set_same _ _ _, hk.trans' (Keep.set (S := fun b => b = H.next) _ fun _ => rfl) fun b hb h => ?_⟩, by omega⟩
    subst h; exact absurd hb (by omega)
theorem readFixed_ok {H : AH} {v : AV} {l : List UInt8} {at_ w : Nat} (h : RdS H v l) (hs : SlOk H v) (hat : at_ + w ≤ l.length) (hw : 1 ≤ w) (hw8 : w ≤ 8) (ha : at_ ≤ 17179869184) (hmx : l.length ≤ 17179869184) :
    DC Tryz.prog .normal 81 (.cons v (.cons (.int .i64 (at_ : Int)) (.cons (.int .i64 (w : Int)) .nil))) H fun v' H2 => v' = .tup (.cons (.int .u64 ((readL (sub l at_ w) : Nat) : Int)) (.cons (.int .i64 0) .nil)) ∧ H2 = H := by
  refine DC.of_wd (re := reTmp 6 (reTmp 7 reNil)) tyOk Tryz.func81 (by kernel_rfl) rfl (by kernel_rfl) (by kernel_rfl) ?_
  rw [tl_nil, argsT_cons, argsT_cons, argsT_cons, argsT_nil]
  have hlen := h.len
  have f1 : ¬ (w : Int) < 1 := by omega
  have f2 : ¬ (8 : Int) < (w : Int) := by omega
  have f3 : ¬ (at_ : Int) < 0 := by omega
  have f4 : ¬ (l.length : Int) < (at_ : Int) := by omega
  have f5 : ¬ (l.length : Int) - (at_ : Int) < (w : Int) := by omega
  refine WD.seqR ?_
  refine lkD 2 [⟨lkMove (.const (.int .u64 0)), (some 6), none⟩, ⟨lkMove (.const (.int .i64 0)), (some 7), none⟩] (by simp (disch := omega) []; exact rfl) ?_
  refine WDO.nilS (WD.seq (WD.block (WD.seqR ?_)))
  refine lkD 17 [xM 2 12, xC akLss 12 1 13, xM 13 14, yM 2 15 14 false, yC akGtr 15 8 16 14 false, xP 14 16 17 true, xM 17 18, yM 1 19 18 false, yC akLss 19 0 20 18 false, xP 18 20 21 true, xM 21 22, yM 1 23 22 false, yM 0 24 22 false, yN 24 25 22 false, yB akGtr 23 25 26 22 false, xP 22 26 27 true, xM 27 11] (by simp (disch := omega) [f1, f2, f3, f4, hlen]; exact rfl) ?_
  refine WDO.nilS (WD.cond (t := false) (by simp) (by simp) fun _ => WD.seqR ?_)
  refine lkD 7 [xM 0 29, xN 29 30, xM 1 31, xB akSub 30 31 32, xM 2 33, xB akLss 32 33 34, xM 34 28] (by simp (disch := omega) [hlen, f5]; exact rfl) ?_
  refine WDO.nilS (WD.cond (t := false) (by simp) (by simp) fun _ => WD.skip (.inl rfl) ?_)
  refine WD.seqR ?_
  refine lkD 1 [⟨lkMove (.const (.int .u64 0)), (some 8), none⟩] (by simp (disch := omega) []; exact rfl) ?_
  obtain ⟨s, hs1, hs2⟩ := slC_lh (lo := at_) (hi := at_ + w) h hs (by omega) hat
  rw [Nat.add_sub_cancel_left] at hs2
  have hsl := hs2.len
  rw [sub_len hat] at hsl
  obtain ⟨e, he⟩ : ∃ e, e = at_ + w := ⟨_, rfl⟩
  have he' : (at_ : Int) + (w : Int) = (e : Int) := by omega
  rw [← he] at hs1
  refine WDO.nilS (WD.seq (WD.seqR ?_))
  refine lkD 8 [xM 0 35, xM 1 36, xM 1 37, xM 2 38, xB akAdd 37 38 39, ⟨⟨slSl 1 (.tmp 35) (some (.tmp 36)) (some (.tmp 39)) none⟩, (some 40), none⟩, xN 40 41, ⟨lkMove (.const (.int .i64 0)), (some 42), none⟩] (by simp (disch := omega) [hs1, he', hsl]; exact rfl) ?_
  refine WDO.nilS (WD.forR (σ := Nat) (fun i => [(8, .int .u64 ((readL (sub l at_ i) : Nat) : Int)), (40, s), (41, .int .i64 (w : Int)), (42, .int .i64 (i : Int))]) (fun i H' => i ≤ w ∧ H = H') (fun i => w - i) 0 ⟨Nat.zero_le _, rfl⟩ (by simp [sub, readL]) ?_)
  rintro i _ ⟨hi, rfl⟩
  refine lkD 1 [xB akLss 42 41 43] (by simp (disch := omega) []; exact rfl) ?_
  refine WDO.nil ⟨decide (i < w), _, rfl, by simp, fun hc => ?_, fun hc => ?_⟩
  · have hc : i = w := by have := of_decide_eq_false hc; omega
    subst hc
    refine WD.seqR ?_
    refine lkD 3 [xM 8 52, xM 52 6, ⟨lkMove (.const (.int .i64 0)), (some 7), none⟩] (by simp (disch := omega) []; exact rfl) ?_
    exact WDO.nilS (WD.ret (endR _ (by simp; rfl) ⟨rfl, rfl⟩))
  · have hc : i < w := of_decide_eq_true hc
    obtain ⟨b, off, cap, o, hv, hb', ho, hby⟩ := hs2.pos (by rw [sub_len hat]; omega)
    rw [sub_len hat] at hv
    have hx : l[at_ + i]? = some (l[at_ + i]'(by omega)) := List.getElem?_eq_getElem _
    generalize l[at_ + i]'_ = x at hx
    have hx2 : (sub l at_ w)[i]? = some x := by
      unfold sub
      rw [List.getElem?_take_of_lt hc, List.getElem?_drop]; exact hx
    have hrd := hby _ _ hx2
    have hxl := x.toNat_lt
    have hnn : readL (sub l at_ (i + 1)) = 256 * readL (sub l at_ i) + x.toNat := by rw [sub_succ hx, readL_snoc]
    have hlt : readL (sub l at_ i) < 72057594037927936 := by
      have h1 := readL_lt i (sub l at_ i) (sub_len (by omega))
      have h2 : 256 ^ i ≤ 256 ^ 7 := Nat.pow_le_pow_right (by omega) (by omega)
      have h3 : (256 : Nat) ^ 7 = 72057594037927936 := by decide
      omega
    generalize readL (sub l at_ i) = m at hnn hlt ⊢
    obtain ⟨q, hq⟩ : ∃ q, q = m * 256 := ⟨_, rfl⟩
    obtain ⟨z, hz⟩ : ∃ z, z = q ||| x.toNat := ⟨_, rfl⟩
    have g1 : shlA .u64 (m : Int) 8 = some (.int .u64 (q : Int)) := shlA_u64 hlt hq
    have g2 : mkInt .u64 (x.toNat : Int) = some (.int .u64 (x.toNat : Int)) := mkInt_u64n (by omega)
    have g3 : akOr.f .u64 (q : Int) (x.toNat : Int) = some (.int .u64 (z : Int)) := akOr_u64 (by omega) (by omega) hz
    have hzz : readL (sub l at_ (i + 1)) = z := by rw [hnn, hz, hq, or_add hxl]
    refine WD.seqR ?_
    refine lkD 3 [xI 1 40 42 44, xL 44 45, xM 45 10] (by simp (disch := omega) [hv, ho, hrd, hc]; exact rfl) ?_
    refine WDO.nilS (WD.region ?_)
    refine lkD 6 [xM 8 46, ⟨⟨binShl (.tmp 46) (.const (.int .u64 8))⟩, (some 47), none⟩, xM 10 48, ⟨⟨cvInt .u64 (.tmp 48)⟩, (some 49), none⟩, xB akOr 47 49 50, xM 50 8] (by simp (disch := omega) [g1, g2, g3]; exact rfl) ?_
    refine WDO.nil ?_
    refine lkD 2 [xC akAdd 42 1 51, xM 51 42] (by simp (disch := omega) []; exact rfl) ?_
    exact WDO.nil ⟨rfl, i + 1, _, rfl, by simp [hv, hzz], ⟨by omega, rfl⟩, by omega⟩
theorem inkSum_ok {H : AH} {b off : Nat} {cap : Option Nat} {o : AObj} {s : AV} {l : List UInt8} (hg : H.get b = some o) (hr : rdCell o off = some s) (h : RdS H s l) (hl : l.length < 17179869184) :
    DC Tryz.prog .normal 125 (.cons (.sl b off 1 cap) .nil) H fun v' H2 => v' = .int .u32 ((sumL l : Nat) : Int) ∧ H2 = H := by
  have hst : isStr s = false := by rcases h with ⟨rfl, _⟩ | ⟨_, _, _, rfl, _⟩ <;> rfl
  have hsum : sum1 (.cons (.sl b off 1 cap) .nil) H = some (.int .u32 ((sumL l : Nat) : Int), H) := by
    show ob (H.get b) _ = _
    rw [hg, ob_some', hr, ob_some', h.bytesA, ob_some', hst]
    have : Nat.blt l.length 17179869184 = true := by simpa [Nat.blt_eq] using hl
    show bt (!false && Nat.blt l.length 17179869184) _ none = _
    rw [this]
    rfl
  obtain ⟨h1, h2⟩ := sum1_ok hsum
  exact ⟨_, _, ⟨rfl, rfl⟩, h1, fun m w vs hr hl => (h2 m w vs hr hl).mono fun _ _ p => ⟨_, _, ⟨rfl, rfl⟩, p⟩⟩
end
end Go.Proofs.YtcfpppleiikjhaaGreatDoor
namespace Go.Proofs.YtcfpppleiikjhaaGreatDoor
open Go.Xq
noncomputable section
theorem pw_le {j : Nat} (h : j ≤ 8) : 512 * 2 ^ j ≤ 131072 ∧ (512 * 2 ^ j ≤ 65536 ↔ j < 8) := by
  have : j = 0 ∨ j = 1 ∨ j = 2 ∨ j = 3 ∨ j = 4 ∨ j = 5 ∨ j = 6 ∨ j = 7 ∨ j = 8 := by omega
  rcases this with rfl | rfl | rfl | rfl | rfl | rfl | rfl | rfl | rfl <;> decide
theorem pg_pow {j : Nat} (h : j < 8) : isPgI ((512 * 2 ^ j : Nat) : Int) = true := by
  have : j = 0 ∨ j = 1 ∨ j = 2 ∨ j = 3 ∨ j = 4 ∨ j = 5 ∨ j = 6 ∨ j = 7 := by omega
  rcases this with rfl | rfl | rfl | rfl | rfl | rfl | rfl | rfl <;> rfl
theorem pg_none {n : Int} (h : ∀ i : Nat, i < 8 → n ≠ ((512 * 2 ^ i : Nat) : Int)) : isPgI n = false := by
  cases e : isPgI n with
  | false => rfl
  | true =>
    rcases pgI_cases e with rfl | rfl | rfl | rfl | rfl | rfl | rfl | rfl
    · exact absurd rfl (h 0 (by omega))
    · exact absurd rfl (h 1 (by omega))
    · exact absurd rfl (h 2 (by omega))
    · exact absurd rfl (h 3 (by omega))
    · exact absurd rfl (h 4 (by omega))
    · exact absurd rfl (h 5 (by omega))
    · exact absurd rfl (h 6 (by omega))
    · exact absurd rfl (h 7 (by omega))
theorem isPage03_ok {H : AH} {n : Int} : DC Tryz.prog .normal 18 (.cons (.int .i64 n) .nil) H fun v' H2 => v' = .bool (isPgI n) ∧ H2 = H := by
  refine DC.of_wd (re := reTmp 2 reNil) tyOk Tryz.func18 (by kernel_rfl) rfl (by kernel_rfl) (by kernel_rfl) ?_
  rw [tl_nil, argsT_cons, argsT_nil]
  refine WD.seqR ?_
  refine lkD 1 [⟨lkMove (.const (.bool false)), (some 2), none⟩] (by simp (disch := omega) []; exact rfl) ?_
  refine WDO.nilS (WD.seq (WD.seqR ?_))
  refine lkD 1 [⟨lkMove (.const (.int .i64 512)), (some 3), none⟩] (by simp (disch := omega) []; exact rfl) ?_
  refine WDO.nilS (WD.forE (σ := Nat) (fun j => [(0, .int .i64 n), (3, .int .i64 ((512 * 2 ^ j : Nat) : Int))]) (fun j H' => j ≤ 8 ∧ (∀ i : Nat, i < j → n ≠ ((512 * 2 ^ i : Nat) : Int)) ∧ H = H') (fun j => 8 - j) 0 ⟨by omega, fun i hi => by omega, rfl⟩ (by simp) ?_)
  rintro j _ ⟨hj, hno, rfl⟩
  obtain ⟨h1, h2⟩ := pw_le hj
  have hpg := @pg_pow j
  have hnx : 512 * 2 ^ (j + 1) = 2 * (512 * 2 ^ j) := by rw [Nat.pow_succ]; omega
  have hst : ∀ i : Nat, i < j + 1 → n ≠ ((512 * 2 ^ j : Nat) : Int) → n ≠ ((512 * 2 ^ i : Nat) : Int) := fun i hi hne => by
    by_cases e : i = j
    · subst e; exact hne
    · exact hno i (by omega)
  generalize 512 * 2 ^ j = p at h1 h2 hnx hpg hst ⊢
  have gm : akMul.f .i64 2 (p : Int) = some (.int .i64 (2 * (p : Int))) := akMul_i64 (by omega) (by omega)
  refine lkD 2 [xM 3 4, xC akLeq 4 65536 5] (by simp (disch := omega) []; exact rfl) ?_
  refine WDO.nil ⟨!decide (65536 < (p : Int)), _, rfl, by simp, fun hc => ?_, fun hc => ?_⟩
  · have hc : j = 8 := by simp at hc; omega
    subst hc
    refine WD.seqR ?_
    refine lkD 1 [⟨lkMove (.const (.bool false)), (some 2), none⟩] (by simp (disch := omega) []; exact rfl) ?_
    exact WDO.nilS (WD.ret (endR _ (by simp; rfl) ⟨by rw [pg_none hno]; rfl, rfl⟩))
  · have hc : j < 8 := by simp at hc; omega
    refine WD.seqR ?_
    refine lkD 3 [xM 3 8, xM 0 9, xB akEql 8 9 10] (by simp (disch := omega) []; exact rfl) ?_
    by_cases hpn : (p : Int) = n
    · refine WDO.nilS (WD.cond (t := true) (by simp [hpn]) (fun _ => WD.seqR ?_) (by simp))
      refine lkD 1 [⟨lkMove (.const (.bool true)), (some 2), none⟩] (by simp (disch := omega) []; exact rfl) ?_
      exact WDO.nilS (WD.ret (endR _ (by simp; rfl) ⟨by rw [← hpn, hpg hc]; rfl, rfl⟩))
    · refine WDO.nilS (WD.cond (t := false) (by simp [hpn]) (by simp) fun _ => WD.skip (.inl rfl) ?_)
      refine lkD 3 [xM 3 6, ⟨⟨binInt akMul (.const (.int .i64 2)) (.tmp 6)⟩, (some 7), none⟩, xM 7 3] (by simp (disch := omega) [gm]; exact rfl) ?_
      exact WDO.nil ⟨rfl, j + 1, _, rfl, by simp [hnx], ⟨by omega, fun i hi => hst i hi (fun e => hpn e.symm), rfl⟩, by omega⟩
theorem isPage05_ok {H : AH} {n : Int} : DC Tryz.prog .normal 184 (.cons (.int .i64 n) .nil) H fun v' H2 => v' = .bool (isPgI n) ∧ H2 = H := by
  refine DC.of_wd (re := reTmp 2 reNil) tyOk Tryz.func184 (by kernel_rfl) rfl (by kernel_rfl) (by kernel_rfl) ?_
  rw [tl_nil, argsT_cons, argsT_nil]
  refine WD.seqR ?_
  refine lkD 1 [⟨lkMove (.const (.bool false)), (some 2), none⟩] (by simp (disch := omega) []; exact rfl) ?_
  refine WDO.nilS (WD.seq (WD.seqR ?_))
  refine lkD 1 [⟨lkMove (.const (.int .i64 512)), (some 3), none⟩] (by simp (disch := omega) []; exact rfl) ?_
  refine WDO.nilS (WD.forE (σ := Nat) (fun j => [(0, .int .i64 n), (3, .int .i64 ((512 * 2 ^ j : Nat) : Int))]) (fun j H' => j ≤ 8 ∧ (∀ i : Nat, i < j → n ≠ ((512 * 2 ^ i : Nat) : Int)) ∧ H = H') (fun j => 8 - j) 0 ⟨by omega, fun i hi => by omega, rfl⟩ (by simp) ?_)
  rintro j _ ⟨hj, hno, rfl⟩
  obtain ⟨h1, h2⟩ := pw_le hj
  have hpg := @pg_pow j
  have hnx : 512 * 2 ^ (j + 1) = 2 * (512 * 2 ^ j) := by rw [Nat.pow_succ]; omega
  have hst : ∀ i : Nat, i < j + 1 → n ≠ ((512 * 2 ^ j : Nat) : Int) → n ≠ ((512 * 2 ^ i : Nat) : Int) := fun i hi hne => by
    by_cases e : i = j
    · subst e; exact hne
    · exact hno i (by omega)
  generalize 512 * 2 ^ j = p at h1 h2 hnx hpg hst ⊢
  have gm : akMul.f .i64 2 (p : Int) = some (.int .i64 (2 * (p : Int))) := akMul_i64 (by omega) (by omega)
  refine lkD 2 [xM 3 4, xC akLeq 4 65536 5] (by simp (disch := omega) []; exact rfl) ?_
  refine WDO.nil ⟨!decide (65536 < (p : Int)), _, rfl, by simp, fun hc => ?_, fun hc => ?_⟩
  · have hc : j = 8 := by simp at hc; omega
    subst hc
    refine WD.seqR ?_
    refine lkD 1 [⟨lkMove (.const (.bool false)), (some 2), none⟩] (by simp (disch := omega) []; exact rfl) ?_
    exact WDO.nilS (WD.ret (endR _ (by simp; rfl) ⟨by rw [pg_none hno]; rfl, rfl⟩))
  · have hc : j < 8 := by simp at hc; omega
    refine WD.seqR ?_
    refine lkD 3 [xM 3 8, xM 0 9, xB akEql 8 9 10] (by simp (disch := omega) []; exact rfl) ?_
    by_cases hpn : (p : Int) = n
    · refine WDO.nilS (WD.cond (t := true) (by simp [hpn]) (fun _ => WD.seqR ?_) (by simp))
      refine lkD 1 [⟨lkMove (.const (.bool true)), (some 2), none⟩] (by simp (disch := omega) []; exact rfl) ?_
      exact WDO.nilS (WD.ret (endR _ (by simp; rfl) ⟨by rw [← hpn, hpg hc]; rfl, rfl⟩))
    · refine WDO.nilS (WD.cond (t := false) (by simp [hpn]) (by simp) fun _ => WD.skip (.inl rfl) ?_)
      refine lkD 3 [xM 3 6, ⟨⟨binInt akMul (.const (.int .i64 2)) (.tmp 6)⟩, (some 7), none⟩, xM 7 3] (by simp (disch := omega) [gm]; exact rfl) ?_
      exact WDO.nil ⟨rfl, j + 1, _, rfl, by simp [hnx], ⟨by omega, fun i hi => hst i hi (fun e => hpn e.symm), rfl⟩, by omega⟩
end
end Go.Proofs.YtcfpppleiikjhaaGreatDoor
