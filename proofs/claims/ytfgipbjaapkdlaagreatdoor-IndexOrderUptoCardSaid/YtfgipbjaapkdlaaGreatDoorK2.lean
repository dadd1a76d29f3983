/- A part of the proof of this seat's statement. Conditions: in each theorem. -/
import Derived.Test.YtfgipbjaapkdlaaGreatDoorK1
import Derived.Test.YtfgipbjaapkdlaaGreatDoorZ6
namespace Go.Proofs.YtfgipbjaapkdlaaGreatDoor
open Go.Xq
noncomputable section
def sblk : AV → Option Nat
  | .sl b _ _ none => some b
  | _ => none
def Apart (l : List AV) : Prop := l.Pairwise fun v w => ∀ b, sblk v = some b → sblk w ≠ some b
def mix (k : Nat) (m l : List UInt8) : List UInt8 := m.take k ++ l.drop k
def ofS (S : List AV) : Nat → Prop := fun b => ∃ u ∈ S, sblk u = some b
theorem s5 : (tyOf E 5).isSome = true := by kernel_rfl
theorem n5 : ((tyOf E 5).get s5).size = 1 := by kernel_rfl
theorem a5 : appOk ((tyOf E 5).get s5) (.int .u8 0) = true := by kernel_rfl
theorem g5 : grownK E 5 = some ⟨grownBy 5⟩ := by kernel_rfl
def AppB (H : AH) (v : AV) (l : List UInt8) (y : UInt8) (v' : AV) (H2 : AH) : Prop :=
  (∃ b, v = .sl b 0 l.length none ∧ l ≠ [] ∧ H.get b = some (bb 5 true l) ∧ v' = .sl b 0 (l.length + 1) none ∧ H2 = H.set b (bb 5 true (l ++ [y]))) ∨
  (v' = .sl H.next 0 (l.length + 1) none ∧ H2 = H.new (bb 5 true (l ++ [y])))
section
variable {b : Frame} {n : Cx} {T : Tr AV} {D : List ADf} {H : AH} {Q : Out → Prop}
end
def Good (H : AH) (v : AV) (j len : Nat) : Prop := ∃ b N, v = .sl b 0 len none ∧ 0 < len ∧ len ≤ N ∧ b < H.next ∧ H.get b = some (bb 5 true (marks j N))
def GoodS (H : AH) (v : AV) (j len : Nat) : Prop := (v = .snil ∧ len = 0) ∨ (∃ b, v = .sl b 0 0 (some 0) ∧ len = 0) ∨ Good H v j len
structure Ph2 (S : List AV) (Bs : List (List UInt8)) (H H1 : AH) (B i : Nat) (gv : AV) (G : List AV) (H2 : AH) : Prop where
  le : i ≤ S.length
  keep : Keep (ofS S) H H2
  next : H1.next ≤ H2.next
  lst : LstAt enc1 33 1 z1 H2 H1.next gv G
  len : G.length = 5 * i
  own : ∀ (j : Nat) (v : AV) (l : List UInt8), S[j]? = some v → Bs[j]? = some l → (i ≤ j → Own H2 0 B v (marks j l.length)) ∧ GoodS H2 v j l.length
  good : ∀ (t : Nat) (g : AV), G[t]? = some g → ∃ len, Good H2 g (t / 5) len ∧ len ≤ 67108900
structure Ph2i (S : List AV) (Bs : List (List UInt8)) (H H1 : AH) (B i n : Nat) (v : AV) (k : Nat) (cur gv : AV) (G : List AV) (H3 : AH) : Prop where
  le : k ≤ 20
  keep : Keep (ofS S) H H3
  next : H1.next ≤ H3.next
  lst : LstAt enc1 33 1 z1 H3 H1.next gv G
  len : (k ≤ 3 → G.length = 5 * i + k) ∧ (3 ≤ k → k ≤ 8 → G.length = 5 * i + 3) ∧ (9 ≤ k → k ≤ 19 → G.length = 5 * i + 4) ∧ (20 ≤ k → G.length = 5 * i + 5)
  own0 : Own H3 0 H3.next cur (marks i (n + k))
  src : ∀ b, sblk cur = some b → sblk v = some b ∨ H1.next ≤ b
  own : ∀ (j : Nat) (w : AV) (m : List UInt8), S[j]? = some w → Bs[j]? = some m → (i < j → Own H3 0 B w (marks j m.length)) ∧ GoodS H3 w j m.length
  good : ∀ (t : Nat) (g : AV), G[t]? = some g → ∃ len, Good H3 g (t / 5) len ∧ len ≤ 67108900
theorem fix_byte (n k : Nat) : ((UInt8.ofNat (n / 256 ^ k)).toNat : Int) = (((n / 256 ^ k) % 256 : Nat) : Int) := by rw [UInt8.toNat_ofNat']
theorem fill_down {t : List UInt8} {k : Nat} {x : UInt8} (hx : t[k]? = some x) : (List.replicate (k + 1) 0 ++ t.drop (k + 1)).set k x = List.replicate k 0 ++ t.drop k := by
  have hk := get_lt hx
  have e : List.replicate (k + 1) (0 : UInt8) = List.replicate k 0 ++ [0] := List.replicate_succ'
  have h2 : t.drop k = x :: t.drop (k + 1) := by
    rw [List.drop_eq_getElem_cons hk]
    rw [List.getElem?_eq_getElem hk] at hx
    cases hx; rfl
  rw [e, List.append_assoc, List.set_append, if_neg (by simp), List.length_replicate, Nat.sub_self, h2]; rfl
theorem fixedInk_ok {H : AH} {n w : Nat} (hn : n < 18446744073709551616) (hw : 1 ≤ w) (hw8 : w ≤ 8) :
    DC Tryz.prog .normal 130 (.cons (.int .u64 (n : Int)) (.cons (.int .i64 (w : Int)) .nil)) H fun v' H2 => v' = .sl H.next 0 w (some w) ∧ H2.next = H.next + 1 ∧ H2.get H.next = some (bb 5 false (fixedL n w)) ∧ Keep noB H H2 := by
  refine DC.of_wd (re := reTmp 4 reNil) tyOk Tryz.func130 (by kernel_rfl) rfl (by kernel_rfl) (by kernel_rfl) ?_
  rw [tl_nil, argsT_cons, argsT_cons, argsT_nil]
  have f1 : ¬ (w : Int) < 1 := by omega
  have f2 : ¬ (8 : Int) < (w : Int) := by omega
  refine WD.seqR ?_
  refine leD 1 [⟨lkMove (.const (.slice none 0 0)), (some 4), none⟩] ?_
  refine WDO.nilS (WD.seq (WD.seqR ?_))
  refine lkD 6 [xM 1 7, xC akLss 7 1 8, xM 8 9, yM 1 10 9 false, yC akGtr 10 8 11 9 false, xP 9 11 12 true] (by simp (disch := omega) [f1, f2]; exact rfl) ?_
  refine WDO.nilS (WD.cond (t := false) (by simp) (by simp) fun _ => WD.skip (.inl rfl) (WD.seqR ?_))
  refine leD 1 [xM 1 13] ?_
  refine WDO.fresh1 tyOk (k := ⟨frMake E 5 1 (.tmp 13) (.tmp 13)⟩) (by kernel_rfl) rfl (by kernel_rfl) (v := .sl H.next 0 w (some w)) (x := bb 5 false (List.replicate w 0)) ?_ ?_
  · dsimp only
    refine frMake_u8 (E := E) (e := 5) (bytes := 1) (l := .tmp 13) (c := .tmp 13) (n := w) (m := w) (mkZero5 _) ?_ ?_ (Nat.le_refl _) (by omega) (by omega)
    · simp
    · simp
  refine leD 1 [xM 14 5] ?_
  refine WDO.nilS (WD.seq (WD.seqR ?_))
  refine leD 3 [xM 1 15, xC akSub 15 1 16, xM 16 6] ?_
  refine WDO.nilS (WD.forE (σ := Nat) (fun r => [(0, .int .u64 ((n / 256 ^ (w - r) : Nat) : Int)), (1, .int .i64 (w : Int)), (5, .sl H.next 0 w (some w)), (6, .int .i64 ((r : Int) - 1))])
    (fun r H' => r ≤ w ∧ H'.next = H.next + 1 ∧ H'.get H.next = some (bb 5 false (List.replicate r 0 ++ (fixedL n w).drop r)) ∧ Keep noB H H') (fun r => r) w
    ⟨Nat.le_refl _, by simp, by rw [List.drop_of_length_le (by rw [fixedL_len]; exact Nat.le_refl _), List.append_nil]; exact get_new_same _ _, Keep.new _ _ _⟩ (by simp) ?_)
  rintro r H' ⟨hr, hnx, hg, hk⟩
  generalize hm0 : n / 256 ^ (w - r) = m
  refine leD 2 [xM 6 17, xC akGeq 17 0 18] ?_
  refine WDO.nil ⟨!decide ((r : Int) - 1 < 0), _, rfl, by simp, fun hc => ?_, fun hc => ?_⟩
  · have hc : r = 0 := by simp at hc; omega
    subst hc
    refine WD.seqR ?_
    refine leD 2 [xM 5 28, xM 28 4] ?_
    exact WDO.nilS (WD.ret (endR _ (by simp; rfl) ⟨rfl, hnx, by simpa using hg, hk⟩))
  · obtain ⟨k, rfl⟩ : ∃ k, r = k + 1 := ⟨r - 1, by simp at hc; omega⟩
    have hfb := fix_byte n (w - (k + 1))
    have hget := fixedL_get n w (i := k) (by omega)
    rw [show w - 1 - k = w - (k + 1) by omega] at hget
    have hst0 := fill_down hget
    have hd : n / 256 ^ (w - k) = n / 256 ^ (w - (k + 1)) / 256 := by rw [show w - k = (w - (k + 1)) + 1 by omega, Nat.pow_succ, Nat.div_div_eq_div_mul]
    rw [hm0] at hfb hget hst0 hd
    generalize UInt8.ofNat m = y at hget hfb hst0
    obtain ⟨q, hq⟩ : ∃ q, q = m / 256 := ⟨_, rfl⟩
    rw [← hq] at hd
    have g2 : (m : Int) % 256 = (y.toNat : Int) := by omega
    have g3 : shrA .u64 (m : Int) 8 = some (.int .u64 (q : Int)) := shrA_u64 hq
    have hst := st1'_bb y hg (i := k) (by simp; omega)
    rw [hst0] at hst
    have hkw : k < w := by omega
    refine WD.seqR ?_
    refine lkD 5 [xM 5 21, xM 6 22, xM 0 23, ⟨⟨cvInt .u8 (.tmp 23)⟩, (some 24), none⟩, xI 1 21 22 25] (by simp (disch := omega) [g2]; exact rfl) ?_
    refine WDO.heavy1 tyOk extOk (k := ⟨hvStore ⟨st1'⟩ (.tmp 25) (.tmp 24)⟩) (by kernel_rfl) rfl (by kernel_rfl) (by simp [hst]; exact ⟨rfl, rfl⟩) ?_
    refine WDO.nilS (WD.region ?_)
    refine lkD 3 [xM 0 26, ⟨⟨binShr (.tmp 26) (.const (.int .u64 8))⟩, (some 27), none⟩, xM 27 0] (by simp (disch := omega) [g3]; exact rfl) ?_
    refine WDO.nil ?_
    refine leD 3 [xM 6 19, xC akSub 19 1 20, xM 20 6] ?_
    refine WDO.nil ⟨rfl, k, _, rfl, by simp [hd], ⟨by omega, by simp [hnx], get_set_same _ _ _, hk.trans' (Keep.set (S := fun b => b = H.next) _ fun _ => rfl) fun b hb h => ?_⟩, by omega⟩
    subst h; exact absurd hb (by omega)
theorem readFixed_ok {H : AH} {v : AV} {l : List UInt8} {at_ w : Nat} (h : RdS H v l) (hs : SlOk H v) (hat : at_ + w ≤ l.length) (hw : 1 ≤ w) (hw8 : w ≤ 8) (ha : at_ ≤ 17179869184) (hmx : l.length ≤ 17179869184) :
    DC Tryz.prog .normal 136 (.cons v (.cons (.int .i64 (at_ : Int)) (.cons (.int .i64 (w : Int)) .nil))) H fun v' H2 => v' = .tup (.cons (.int .u64 ((readL (sub l at_ w) : Nat) : Int)) (.cons (.int .i64 0) .nil)) ∧ H2 = H := by
  refine DC.of_wd (re := reTmp 6 (reTmp 7 reNil)) tyOk Tryz.func136 (by kernel_rfl) rfl (by kernel_rfl) (by kernel_rfl) ?_
  rw [tl_nil, argsT_cons, argsT_cons, argsT_cons, argsT_nil]
  have hlen := h.len
  have f1 : ¬ (w : Int) < 1 := by omega
  have f2 : ¬ (8 : Int) < (w : Int) := by omega
  have f3 : ¬ (at_ : Int) < 0 := by omega
  have f4 : ¬ (l.length : Int) < (at_ : Int) := by omega
  have f5 : ¬ (l.length : Int) - (at_ : Int) < (w : Int) := by omega
  refine WD.seqR ?_
  refine leD 2 [⟨lkMove (.const (.int .u64 0)), (some 6), none⟩, xK 0 7] ?_
  refine WDO.nilS (WD.seq (WD.block (WD.seqR ?_)))
  refine lkD 17 [xM 2 12, xC akLss 12 1 13, xM 13 14, yM 2 15 14 false, yC akGtr 15 8 16 14 false, xP 14 16 17 true, xM 17 18, yM 1 19 18 false, yC akLss 19 0 20 18 false, xP 18 20 21 true, xM 21 22, yM 1 23 22 false, yM 0 24 22 false, yN 24 25 22 false, yB akGtr 23 25 26 22 false, xP 22 26 27 true, xM 27 11] (by simp (disch := omega) [f1, f2, f3, f4, hlen]; exact rfl) ?_
  refine WDO.nilS (WD.cond (t := false) (by simp) (by simp) fun _ => WD.seqR ?_)
  refine lkD 7 [xM 0 29, xN 29 30, xM 1 31, xB akSub 30 31 32, xM 2 33, xB akLss 32 33 34, xM 34 28] (by simp (disch := omega) [hlen, f5]; exact rfl) ?_
  refine cdF ?_
  refine WD.seqR ?_
  refine leD 1 [⟨lkMove (.const (.int .u64 0)), (some 8), none⟩] ?_
  obtain ⟨s, hs1, hs2⟩ := slC_lh (lo := at_) (hi := at_ + w) h hs (by omega) hat
  rw [Nat.add_sub_cancel_left] at hs2
  have hsl := hs2.len
  rw [sub_len hat] at hsl
  obtain ⟨e, he⟩ : ∃ e, e = at_ + w := ⟨_, rfl⟩
  have he' : (at_ : Int) + (w : Int) = (e : Int) := by omega
  rw [← he] at hs1
  refine WDO.nilS (WD.seq (WD.seqR ?_))
  refine lkD 8 [xM 0 35, xM 1 36, xM 1 37, xM 2 38, xB akAdd 37 38 39, ⟨⟨slSl 1 (.tmp 35) (some (.tmp 36)) (some (.tmp 39)) none⟩, (some 40), none⟩, xN 40 41, xK 0 42] (by simp (disch := omega) [hs1, he', hsl]; exact rfl) ?_
  refine WDO.nilS (WD.forR (σ := Nat) (fun i => [(8, .int .u64 ((readL (sub l at_ i) : Nat) : Int)), (40, s), (41, .int .i64 (w : Int)), (42, .int .i64 (i : Int))]) (fun i H' => i ≤ w ∧ H = H') (fun i => w - i) 0 ⟨Nat.zero_le _, rfl⟩ (by simp [sub, readL]) ?_)
  rintro i _ ⟨hi, rfl⟩
  refine leD 1 [xB akLss 42 41 43] ?_
  refine WDO.nil ⟨decide (i < w), _, rfl, by simp, fun hc => ?_, fun hc => ?_⟩
  · have hc : i = w := by have := of_decide_eq_false hc; omega
    subst hc
    refine WD.seqR ?_
    refine leD 3 [xM 8 52, xM 52 6, xK 0 7] ?_
    exact WDO.nilS (WD.ret (endR _ (by simp; rfl) ⟨rfl, rfl⟩))
  · have hc : i < w := of_decide_eq_true hc
    obtain ⟨b, off, cap, o, hv, hb', ho, hby⟩ := hs2.pos (by rw [sub_len hat]; omega)
    rw [sub_len hat] at hv
    have hx : l[at_ + i]? = some (l[at_ + i]'(by omega)) := List.getElem?_eq_getElem _
    generalize l[at_ + i]'_ = x at hx
    have hx2 : (sub l at_ w)[i]? = some x := by
      unfold sub
      rw [List.getElem?_take_of_lt hc, List.getElem?_drop]; exact hx
    have hrd := hby _ _ hx2
    have hxl := x.toNat_lt
    have hnn : readL (sub l at_ (i + 1)) = 256 * readL (sub l at_ i) + x.toNat := by rw [sub_succ hx, readL_snoc]
    have hlt : readL (sub l at_ i) < 72057594037927936 := by
      have h1 := readL_lt i (sub l at_ i) (sub_len (by omega))
      have h2 : 256 ^ i ≤ 256 ^ 7 := Nat.pow_le_pow_right (by omega) (by omega)
      have h3 : (256 : Nat) ^ 7 = 72057594037927936 := by decide
      omega
    generalize readL (sub l at_ i) = m at hnn hlt ⊢
    obtain ⟨q, hq⟩ : ∃ q, q = m * 256 := ⟨_, rfl⟩
    obtain ⟨z, hz⟩ : ∃ z, z = q ||| x.toNat := ⟨_, rfl⟩
    have g1 : shlA .u64 (m : Int) 8 = some (.int .u64 (q : Int)) := shlA_u64 hlt hq
    have g2 : mkInt .u64 (x.toNat : Int) = some (.int .u64 (x.toNat : Int)) := mkInt_u64n (by omega)
    have g3 : akOr.f .u64 (q : Int) (x.toNat : Int) = some (.int .u64 (z : Int)) := akOr_u64 (by omega) (by omega) hz
    have hzz : readL (sub l at_ (i + 1)) = z := by rw [hnn, hz, hq, or_add hxl]
    refine WD.seqR ?_
    refine lkD 3 [xI 1 40 42 44, xL 44 45, xM 45 10] (by simp (disch := omega) [hv, ho, hrd, hc]; exact rfl) ?_
    refine WDO.nilS (WD.region ?_)
    refine lkD 6 [xM 8 46, ⟨⟨binShl (.tmp 46) (.const (.int .u64 8))⟩, (some 47), none⟩, xM 10 48, ⟨⟨cvInt .u64 (.tmp 48)⟩, (some 49), none⟩, xB akOr 47 49 50, xM 50 8] (by simp (disch := omega) [g1, g2, g3]; exact rfl) ?_
    refine WDO.nil ?_
    refine leD 2 [xC akAdd 42 1 51, xM 51 42] ?_
    exact WDO.nil ⟨rfl, i + 1, _, rfl, by simp [hv, hzz], ⟨by omega, rfl⟩, by omega⟩
end
end Go.Proofs.YtfgipbjaapkdlaaGreatDoor
