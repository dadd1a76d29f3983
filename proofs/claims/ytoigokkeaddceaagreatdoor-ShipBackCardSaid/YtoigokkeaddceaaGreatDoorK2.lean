/- A part of the proof of this seat's statement: what is particular to its program. Its conditions stand in each theorem. -/
import Derived.Test.YtoigokkeaddceaaGreatDoorK1
import Derived.Test.YtoigokkeaddceaaGreatDoorZ5
import Derived.Test.YtoigokkeaddceaaGreatDoorZ6
namespace Go.Proofs.YtoigokkeaddceaaGreatDoor
open Go.Xq
noncomputable section
end
end Go.Proofs.YtoigokkeaddceaaGreatDoor
namespace Go.Proofs.YtoigokkeaddceaaGreatDoor
open Go.Xq
noncomputable section
theorem fix_byte (n k : Nat) : ((UInt8.ofNat (n / 256 ^ k)).toNat : Int) = (((n / 256 ^ k) % 256 : Nat) : Int) := by rw [UInt8.toNat_ofNat']
end
end Go.Proofs.YtoigokkeaddceaaGreatDoor
namespace Go.Proofs.YtoigokkeaddceaaGreatDoor
open Go.Xq
noncomputable section
theorem fill_down {t : List UInt8} {k : Nat} {x : UInt8} (hx : t[k]? = some x) : (List.replicate (k + 1) 0 ++ t.drop (k + 1)).set k x = List.replicate k 0 ++ t.drop k := by
  have hk := get_lt hx
  have e : List.replicate (k + 1) (0 : UInt8) = List.replicate k 0 ++ [0] := List.replicate_succ'
  have h2 : t.drop k = x :: t.drop (k + 1) := by
    rw [List.drop_eq_getElem_cons hk]
    rw [List.getElem?_eq_getElem hk] at hx
    cases hx; rfl
  rw [e, List.append_assoc, List.set_append, if_neg (by simp), List.length_replicate, Nat.sub_self, h2]; rfl
theorem fixedInk_ok {H : AH} {n w : Nat} (hn : n < 18446744073709551616) (hw : 1 ≤ w) (hw8 : w ≤ 8) :
    DC Tryz.prog .normal 37 (.cons (.int .u64 (n : Int)) (.cons (.int .i64 (w : Int)) .nil)) H fun v' H2 => v' = .sl H.next 0 w (some w) ∧ H2.next = H.next + 1 ∧ H2.get H.next = some (bb 5 false (fixedL n w)) ∧ Keep noB H H2 := by
  refine DC.of_wd (re := reTmp 4 reNil) tyOk Tryz.func37 (by kernel_rfl) rfl (by kernel_rfl) (by kernel_rfl) ?_
  rw [tl_nil, argsT_cons, argsT_cons, argsT_nil]
  have f1 : ¬ (w : Int) < 1 := by omega
  have f2 : ¬ (8 : Int) < (w : Int) := by omega
  refine WD.seqR ?_
  refine WDO.looks1 tyOk extOk 1 (ls := [⟨lkMove (.const (.slice none 0 0)), (some 4), none⟩]) (by kernel_rfl) (by simp (disch := omega) []; exact rfl) ?_
  refine WDO.nilS (WD.seq (WD.seqR ?_))
  refine WDO.looks1 tyOk extOk 6 (ls := [⟨lkMove (.tmp 1), (some 7), none⟩, ⟨⟨binInt akLss (.tmp 7) (.const (.int .i64 1))⟩, (some 8), none⟩, ⟨lkMove (.tmp 8), (some 9), none⟩, ⟨lkMove (.tmp 1), (some 10), (some (9, false))⟩, ⟨⟨binInt akGtr (.tmp 10) (.const (.int .i64 8))⟩, (some 11), (some (9, false))⟩, ⟨⟨pickA (.tmp 9) (.const (.bool true)) (.tmp 11)⟩, (some 12), none⟩]) (by kernel_rfl) (by simp (disch := omega) [f1, f2]; exact rfl) ?_
  refine WDO.nilS (WD.cond (t := false) (by simp) (by simp) fun _ => WD.skip (.inl rfl) (WD.seqR ?_))
  refine WDO.looks1 tyOk extOk 1 (ls := [⟨lkMove (.tmp 1), (some 13), none⟩]) (by kernel_rfl) (by simp (disch := omega) []; exact rfl) ?_
  refine WDO.fresh1 tyOk (k := ⟨frMake E 5 1 (.tmp 13) (.tmp 13)⟩) (by kernel_rfl) rfl (by kernel_rfl) (v := .sl H.next 0 w (some w)) (x := bb 5 false (List.replicate w 0)) ?_ ?_
  · dsimp only
    refine frMake_u8 (E := E) (e := 5) (bytes := 1) (l := .tmp 13) (c := .tmp 13) (n := w) (m := w) (mkZero5 _) ?_ ?_ (Nat.le_refl _) (by omega) (by omega)
    · simp
    · simp
  refine WDO.looks1 tyOk extOk 1 (ls := [⟨lkMove (.tmp 14), (some 5), none⟩]) (by kernel_rfl) (by simp (disch := omega) []; exact rfl) ?_
  refine WDO.nilS (WD.seq (WD.seqR ?_))
  refine WDO.looks1 tyOk extOk 3 (ls := [⟨lkMove (.tmp 1), (some 15), none⟩, ⟨⟨binInt akSub (.tmp 15) (.const (.int .i64 1))⟩, (some 16), none⟩, ⟨lkMove (.tmp 16), (some 6), none⟩]) (by kernel_rfl) (by simp (disch := omega) []; exact rfl) ?_
  refine WDO.nilS (WD.forE (σ := Nat) (fun r => [(0, .int .u64 ((n / 256 ^ (w - r) : Nat) : Int)), (1, .int .i64 (w : Int)), (5, .sl H.next 0 w (some w)), (6, .int .i64 ((r : Int) - 1))])
    (fun r H' => r ≤ w ∧ H'.next = H.next + 1 ∧ H'.get H.next = some (bb 5 false (List.replicate r 0 ++ (fixedL n w).drop r)) ∧ Keep noB H H') (fun r => r) w
    ⟨Nat.le_refl _, by simp, by rw [List.drop_of_length_le (by rw [fixedL_len]; exact Nat.le_refl _), List.append_nil]; exact get_new_same _ _, Keep.new _ _ _⟩ (by simp) ?_)
  rintro r H' ⟨hr, hnx, hg, hk⟩
  generalize hm0 : n / 256 ^ (w - r) = m
  refine WDO.looks1 tyOk extOk 2 (ls := [⟨lkMove (.tmp 6), (some 17), none⟩, ⟨⟨binInt akGeq (.tmp 17) (.const (.int .i64 0))⟩, (some 18), none⟩]) (by kernel_rfl) (by simp (disch := omega) []; exact rfl) ?_
  refine WDO.nil ⟨!decide ((r : Int) - 1 < 0), _, rfl, by simp, fun hc => ?_, fun hc => ?_⟩
  · have hc : r = 0 := by simp at hc; omega
    subst hc
    refine WD.seqR ?_
    refine WDO.looks1 tyOk extOk 2 (ls := [⟨lkMove (.tmp 5), (some 28), none⟩, ⟨lkMove (.tmp 28), (some 4), none⟩]) (by kernel_rfl) (by simp (disch := omega) []; exact rfl) ?_
    exact WDO.nilS (WD.ret (endR _ (by simp; rfl) ⟨rfl, hnx, by simpa using hg, hk⟩))
  · obtain ⟨k, rfl⟩ : ∃ k, r = k + 1 := ⟨r - 1, by simp at hc; omega⟩
    have hfb := fix_byte n (w - (k + 1))
    have hget := fixedL_get n w (i := k) (by omega)
    rw [show w - 1 - k = w - (k + 1) by omega] at hget
    have hst0 := fill_down hget
    have hd : n / 256 ^ (w - k) = n / 256 ^ (w - (k + 1)) / 256 := by rw [show w - k = (w - (k + 1)) + 1 by omega, Nat.pow_succ, Nat.div_div_eq_div_mul]
    rw [hm0] at hfb hget hst0 hd
    generalize UInt8.ofNat m = y at hget hfb hst0
    obtain ⟨q, hq⟩ : ∃ q, q = m / 256 := ⟨_, rfl⟩
    rw [← hq] at hd
    have g2 : (m : Int) % 256 = (y.toNat : Int) := by omega
    have g3 : shrA .u64 (m : Int) 8 = some (.int .u64 (q : Int)) := shrA_u64 hq
    have hst := st1'_bb y hg (i := k) (by simp; omega)
    rw [hst0] at hst
    have hkw : k < w := by omega
    refine WD.seqR ?_
    refine WDO.looks1 tyOk extOk 5 (ls := [⟨lkMove (.tmp 5), (some 21), none⟩, ⟨lkMove (.tmp 6), (some 22), none⟩, ⟨lkMove (.tmp 0), (some 23), none⟩, ⟨⟨cvInt .u8 (.tmp 23)⟩, (some 24), none⟩, ⟨⟨ixSl 1 (.tmp 21) (.tmp 22)⟩, (some 25), none⟩]) (by kernel_rfl) (by simp (disch := omega) [g2]; exact rfl) ?_
    refine WDO.heavy1 tyOk extOk (k := ⟨hvStore ⟨st1'⟩ (.tmp 25) (.tmp 24)⟩) (by kernel_rfl) rfl (by kernel_rfl) (by simp [hst]; exact ⟨rfl, rfl⟩) ?_
    refine WDO.nilS (WD.region ?_)
    refine WDO.looks1 tyOk extOk 3 (ls := [⟨lkMove (.tmp 0), (some 26), none⟩, ⟨⟨binShr (.tmp 26) (.const (.int .u64 8))⟩, (some 27), none⟩, ⟨lkMove (.tmp 27), (some 0), none⟩]) (by kernel_rfl) (by simp (disch := omega) [g3]; exact rfl) ?_
    refine WDO.nil ?_
    refine WDO.looks1 tyOk extOk 3 (ls := [⟨lkMove (.tmp 6), (some 19), none⟩, ⟨⟨binInt akSub (.tmp 19) (.const (.int .i64 1))⟩, (some 20), none⟩, ⟨lkMove (.tmp 20), (some 6), none⟩]) (by kernel_rfl) (by simp (disch := omega) []; exact rfl) ?_
    refine WDO.nil ⟨rfl, k, _, rfl, by simp [hd], ⟨by omega, by simp [hnx], get_set_same _ _ _, hk.trans' (Keep.set (S := fun b => b = H.next) _ fun _ => rfl) fun b hb h => ?_⟩, by omega⟩
    subst h; exact absurd hb (by omega)
theorem readFixed_ok {H : AH} {v : AV} {l : List UInt8} {at_ w : Nat} (h : RdS H v l) (hs : SlOk H v) (hat : at_ + w ≤ l.length) (hw : 1 ≤ w) (hw8 : w ≤ 8) (ha : at_ ≤ 17179869184) (hmx : l.length ≤ 17179869184) :
    DC Tryz.prog .normal 95 (.cons v (.cons (.int .i64 (at_ : Int)) (.cons (.int .i64 (w : Int)) .nil))) H fun v' H2 => v' = .tup (.cons (.int .u64 ((readL (sub l at_ w) : Nat) : Int)) (.cons (.int .i64 0) .nil)) ∧ H2 = H := by
  refine DC.of_wd (re := reTmp 6 (reTmp 7 reNil)) tyOk Tryz.func95 (by kernel_rfl) rfl (by kernel_rfl) (by kernel_rfl) ?_
  rw [tl_nil, argsT_cons, argsT_cons, argsT_cons, argsT_nil]
  have hlen := h.len
  have f1 : ¬ (w : Int) < 1 := by omega
  have f2 : ¬ (8 : Int) < (w : Int) := by omega
  have f3 : ¬ (at_ : Int) < 0 := by omega
  have f4 : ¬ (l.length : Int) < (at_ : Int) := by omega
  have f5 : ¬ (l.length : Int) - (at_ : Int) < (w : Int) := by omega
  refine WD.seqR ?_
  refine WDO.looks1 tyOk extOk 2 (ls := [⟨lkMove (.const (.int .u64 0)), (some 6), none⟩, ⟨lkMove (.const (.int .i64 0)), (some 7), none⟩]) (by kernel_rfl) (by simp (disch := omega) []; exact rfl) ?_
  refine WDO.nilS (WD.seq (WD.block (WD.seqR ?_)))
  refine WDO.looks1 tyOk extOk 17 (ls := [⟨lkMove (.tmp 2), (some 12), none⟩, ⟨⟨binInt akLss (.tmp 12) (.const (.int .i64 1))⟩, (some 13), none⟩, ⟨lkMove (.tmp 13), (some 14), none⟩, ⟨lkMove (.tmp 2), (some 15), (some (14, false))⟩, ⟨⟨binInt akGtr (.tmp 15) (.const (.int .i64 8))⟩, (some 16), (some (14, false))⟩, ⟨⟨pickA (.tmp 14) (.const (.bool true)) (.tmp 16)⟩, (some 17), none⟩, ⟨lkMove (.tmp 17), (some 18), none⟩, ⟨lkMove (.tmp 1), (some 19), (some (18, false))⟩, ⟨⟨binInt akLss (.tmp 19) (.const (.int .i64 0))⟩, (some 20), (some (18, false))⟩, ⟨⟨pickA (.tmp 18) (.const (.bool true)) (.tmp 20)⟩, (some 21), none⟩, ⟨lkMove (.tmp 21), (some 22), none⟩, ⟨lkMove (.tmp 1), (some 23), (some (22, false))⟩, ⟨lkMove (.tmp 0), (some 24), (some (22, false))⟩, ⟨⟨lenSl (.tmp 24)⟩, (some 25), (some (22, false))⟩, ⟨⟨binInt akGtr (.tmp 23) (.tmp 25)⟩, (some 26), (some (22, false))⟩, ⟨⟨pickA (.tmp 22) (.const (.bool true)) (.tmp 26)⟩, (some 27), none⟩, ⟨lkMove (.tmp 27), (some 11), none⟩]) (by kernel_rfl) (by simp (disch := omega) [f1, f2, f3, f4, hlen]; exact rfl) ?_
  refine WDO.nilS (WD.cond (t := false) (by simp) (by simp) fun _ => WD.seqR ?_)
  refine WDO.looks1 tyOk extOk 7 (ls := [⟨lkMove (.tmp 0), (some 29), none⟩, ⟨⟨lenSl (.tmp 29)⟩, (some 30), none⟩, ⟨lkMove (.tmp 1), (some 31), none⟩, ⟨⟨binInt akSub (.tmp 30) (.tmp 31)⟩, (some 32), none⟩, ⟨lkMove (.tmp 2), (some 33), none⟩, ⟨⟨binInt akLss (.tmp 32) (.tmp 33)⟩, (some 34), none⟩, ⟨lkMove (.tmp 34), (some 28), none⟩]) (by kernel_rfl) (by simp (disch := omega) [hlen, f5]; exact rfl) ?_
  refine WDO.nilS (WD.cond (t := false) (by simp) (by simp) fun _ => WD.skip (.inl rfl) ?_)
  refine WD.seqR ?_
  refine WDO.looks1 tyOk extOk 1 (ls := [⟨lkMove (.const (.int .u64 0)), (some 8), none⟩]) (by kernel_rfl) (by simp (disch := omega) []; exact rfl) ?_
  obtain ⟨s, hs1, hs2⟩ := slC_lh (lo := at_) (hi := at_ + w) h hs (by omega) hat
  rw [Nat.add_sub_cancel_left] at hs2
  have hsl := hs2.len
  rw [sub_len hat] at hsl
  obtain ⟨e, he⟩ : ∃ e, e = at_ + w := ⟨_, rfl⟩
  have he' : (at_ : Int) + (w : Int) = (e : Int) := by omega
  rw [← he] at hs1
  refine WDO.nilS (WD.seq (WD.seqR ?_))
  refine WDO.looks1 tyOk extOk 8 (ls := [⟨lkMove (.tmp 0), (some 35), none⟩, ⟨lkMove (.tmp 1), (some 36), none⟩, ⟨lkMove (.tmp 1), (some 37), none⟩, ⟨lkMove (.tmp 2), (some 38), none⟩, ⟨⟨binInt akAdd (.tmp 37) (.tmp 38)⟩, (some 39), none⟩, ⟨⟨slSl 1 (.tmp 35) (some (.tmp 36)) (some (.tmp 39)) none⟩, (some 40), none⟩, ⟨⟨lenSl (.tmp 40)⟩, (some 41), none⟩, ⟨lkMove (.const (.int .i64 0)), (some 42), none⟩]) (by kernel_rfl) (by simp (disch := omega) [hs1, he', hsl]; exact rfl) ?_
  refine WDO.nilS (WD.forR (σ := Nat) (fun i => [(8, .int .u64 ((readL (sub l at_ i) : Nat) : Int)), (40, s), (41, .int .i64 (w : Int)), (42, .int .i64 (i : Int))]) (fun i H' => i ≤ w ∧ H = H') (fun i => w - i) 0 ⟨Nat.zero_le _, rfl⟩ (by simp [sub, readL]) ?_)
  rintro i _ ⟨hi, rfl⟩
  refine WDO.looks1 tyOk extOk 1 (ls := [⟨⟨binInt akLss (.tmp 42) (.tmp 41)⟩, (some 43), none⟩]) (by kernel_rfl) (by simp (disch := omega) []; exact rfl) ?_
  refine WDO.nil ⟨decide (i < w), _, rfl, by simp, fun hc => ?_, fun hc => ?_⟩
  · have hc : i = w := by have := of_decide_eq_false hc; omega
    subst hc
    refine WD.seqR ?_
    refine WDO.looks1 tyOk extOk 3 (ls := [⟨lkMove (.tmp 8), (some 52), none⟩, ⟨lkMove (.tmp 52), (some 6), none⟩, ⟨lkMove (.const (.int .i64 0)), (some 7), none⟩]) (by kernel_rfl) (by simp (disch := omega) []; exact rfl) ?_
    exact WDO.nilS (WD.ret (endR _ (by simp; rfl) ⟨rfl, rfl⟩))
  · have hc : i < w := of_decide_eq_true hc
    obtain ⟨b, off, cap, o, hv, hb', ho, hby⟩ := hs2.pos (by rw [sub_len hat]; omega)
    rw [sub_len hat] at hv
    have hx : l[at_ + i]? = some (l[at_ + i]'(by omega)) := List.getElem?_eq_getElem _
    generalize l[at_ + i]'_ = x at hx
    have hx2 : (sub l at_ w)[i]? = some x := by
      unfold sub
      rw [List.getElem?_take_of_lt hc, List.getElem?_drop]; exact hx
    have hrd := hby _ _ hx2
    have hxl := x.toNat_lt
    have hnn : readL (sub l at_ (i + 1)) = 256 * readL (sub l at_ i) + x.toNat := by rw [sub_succ hx, readL_snoc]
    have hlt : readL (sub l at_ i) < 72057594037927936 := by
      have h1 := readL_lt i (sub l at_ i) (sub_len (by omega))
      have h2 : 256 ^ i ≤ 256 ^ 7 := Nat.pow_le_pow_right (by omega) (by omega)
      have h3 : (256 : Nat) ^ 7 = 72057594037927936 := by decide
      omega
    generalize readL (sub l at_ i) = m at hnn hlt ⊢
    obtain ⟨q, hq⟩ : ∃ q, q = m * 256 := ⟨_, rfl⟩
    obtain ⟨z, hz⟩ : ∃ z, z = q ||| x.toNat := ⟨_, rfl⟩
    have g1 : shlA .u64 (m : Int) 8 = some (.int .u64 (q : Int)) := shlA_u64 hlt hq
    have g2 : mkInt .u64 (x.toNat : Int) = some (.int .u64 (x.toNat : Int)) := mkInt_u64n (by omega)
    have g3 : akOr.f .u64 (q : Int) (x.toNat : Int) = some (.int .u64 (z : Int)) := akOr_u64 (by omega) (by omega) hz
    have hzz : readL (sub l at_ (i + 1)) = z := by rw [hnn, hz, hq, or_add hxl]
    refine WD.seqR ?_
    refine WDO.looks1 tyOk extOk 3 (ls := [⟨⟨ixSl 1 (.tmp 40) (.tmp 42)⟩, (some 44), none⟩, ⟨⟨ldA ⟨ld1⟩ (.tmp 44)⟩, (some 45), none⟩, ⟨lkMove (.tmp 45), (some 10), none⟩]) (by kernel_rfl) (by simp (disch := omega) [hv, ho, hrd, hc]; exact rfl) ?_
    refine WDO.nilS (WD.region ?_)
    refine WDO.looks1 tyOk extOk 6 (ls := [⟨lkMove (.tmp 8), (some 46), none⟩, ⟨⟨binShl (.tmp 46) (.const (.int .u64 8))⟩, (some 47), none⟩, ⟨lkMove (.tmp 10), (some 48), none⟩, ⟨⟨cvInt .u64 (.tmp 48)⟩, (some 49), none⟩, ⟨⟨binInt akOr (.tmp 47) (.tmp 49)⟩, (some 50), none⟩, ⟨lkMove (.tmp 50), (some 8), none⟩]) (by kernel_rfl) (by simp (disch := omega) [g1, g2, g3]; exact rfl) ?_
    refine WDO.nil ?_
    refine WDO.looks1 tyOk extOk 2 (ls := [⟨⟨binInt akAdd (.tmp 42) (.const (.int .i64 1))⟩, (some 51), none⟩, ⟨lkMove (.tmp 51), (some 42), none⟩]) (by kernel_rfl) (by simp (disch := omega) []; exact rfl) ?_
    exact WDO.nil ⟨rfl, i + 1, _, rfl, by simp [hv, hzz], ⟨by omega, rfl⟩, by omega⟩
theorem inkSum_ok {H : AH} {b off : Nat} {cap : Option Nat} {o : AObj} {s : AV} {l : List UInt8} (hg : H.get b = some o) (hr : rdCell o off = some s) (h : RdS H s l) (hl : l.length < 17179869184) :
    DC Tryz.prog .normal 38 (.cons (.sl b off 1 cap) .nil) H fun v' H2 => v' = .int .u32 ((sumL l : Nat) : Int) ∧ H2 = H := by
  have hst : isStr s = false := by rcases h with ⟨rfl, _⟩ | ⟨_, _, _, rfl, _⟩ <;> rfl
  have hsum : sum1 (.cons (.sl b off 1 cap) .nil) H = some (.int .u32 ((sumL l : Nat) : Int), H) := by
    show ob (H.get b) _ = _
    rw [hg, ob_some', hr, ob_some', h.bytesA, ob_some', hst]
    have : Nat.blt l.length 17179869184 = true := by simpa [Nat.blt_eq] using hl
    show bt (!false && Nat.blt l.length 17179869184) _ none = _
    rw [this]
    rfl
  obtain ⟨h1, h2⟩ := sum1_ok hsum
  exact ⟨_, _, ⟨rfl, rfl⟩, h1, fun m w vs hr hl => (h2 m w vs hr hl).mono fun _ _ p => ⟨_, _, ⟨rfl, rfl⟩, p⟩⟩
end
end Go.Proofs.YtoigokkeaddceaaGreatDoor
namespace Go.Proofs.YtoigokkeaddceaaGreatDoor
open Go.Xq
noncomputable section
theorem isPageShip_ok {H : AH} {n : Int} : DC Tryz.prog .normal 43 (.cons (.int .i64 n) .nil) H fun v' H2 => v' = .bool (isPgI n) ∧ H2 = H := by
  refine DC.of_wd (re := reTmp 2 reNil) tyOk Tryz.func43 (by kernel_rfl) rfl (by kernel_rfl) (by kernel_rfl) ?_
  rw [tl_nil, argsT_cons, argsT_nil]
  refine WD.seqR ?_
  refine WDO.looks1 tyOk extOk 1 (ls := [⟨lkMove (.const (.bool false)), (some 2), none⟩]) (by kernel_rfl) (by simp (disch := omega) []; exact rfl) ?_
  have hpg := @pgI_cases n
  by_cases h1 : 512 ≤ n
  · by_cases h2 : n ≤ 65536
    · obtain ⟨m, rfl⟩ : ∃ m : Nat, n = (m : Int) := ⟨n.toNat, by omega⟩
      obtain ⟨q, hq⟩ : ∃ q, q = Nat.land m (m - 1) := ⟨_, rfl⟩
      have e1 : (m : Int) - 1 = ((m - 1 : Nat) : Int) := by omega
      have g1 : akAnd.f .i64 (m : Int) ((m : Int) - 1) = some (.int .i64 (q : Int)) := by rw [e1]; exact akAnd_i64 (by omega) (by omega) hq
      have e2 : isPgI (m : Int) = decide ((q : Int) = 0) := by
        have h := pg_land (n := m) (by omega) (by omega)
        rw [← hq] at h
        by_cases h0 : q = 0
        · have := h.1 h0
          simp [isPgI, this, h0]
        · have : isPg m = false := by
            cases e : isPg m with
            | false => rfl
            | true => exact absurd (h.2 e) h0
          simp [isPgI, this, h0]
      have h1' : ¬ (m : Int) < 512 := by omega
      have h2' : ¬ 65536 < (m : Int) := by omega
      refine WDO.nilS (WD.seqR ?_)
      refine WDO.looks1 tyOk extOk 14 (ls := [⟨lkMove (.tmp 0), (some 3), none⟩, ⟨⟨binInt akGeq (.tmp 3) (.const (.int .i64 512))⟩, (some 4), none⟩, ⟨lkMove (.tmp 4), (some 5), none⟩, ⟨lkMove (.tmp 0), (some 6), (some (5, true))⟩, ⟨⟨binInt akLeq (.tmp 6) (.const (.int .i64 65536))⟩, (some 7), (some (5, true))⟩, ⟨⟨pickA (.tmp 5) (.tmp 7) (.const (.bool false))⟩, (some 8), none⟩, ⟨lkMove (.tmp 8), (some 9), none⟩, ⟨lkMove (.tmp 0), (some 10), (some (9, true))⟩, ⟨lkMove (.tmp 0), (some 11), (some (9, true))⟩, ⟨⟨binInt akSub (.tmp 11) (.const (.int .i64 1))⟩, (some 12), (some (9, true))⟩, ⟨⟨binInt akAnd (.tmp 10) (.tmp 12)⟩, (some 13), (some (9, true))⟩, ⟨⟨binInt akEql (.tmp 13) (.const (.int .i64 0))⟩, (some 14), (some (9, true))⟩, ⟨⟨pickA (.tmp 9) (.tmp 14) (.const (.bool false))⟩, (some 15), none⟩, ⟨lkMove (.tmp 15), (some 2), none⟩]) (by kernel_rfl) (by simp (disch := omega) [h1', h2', g1]; exact rfl) ?_
      refine WDO.nilS (WD.ret (endR _ (by simp; rfl) ⟨?_, rfl⟩))
      rw [e2]
      simp [resultA_one]
    · have e2 : isPgI n = false := by
        cases e : isPgI n with
        | false => rfl
        | true => have := hpg e; omega
      have h1' : ¬ n < 512 := by omega
      have h2' : 65536 < n := by omega
      refine WDO.nilS (WD.seqR ?_)
      refine WDO.looks1 tyOk extOk 14 (ls := [⟨lkMove (.tmp 0), (some 3), none⟩, ⟨⟨binInt akGeq (.tmp 3) (.const (.int .i64 512))⟩, (some 4), none⟩, ⟨lkMove (.tmp 4), (some 5), none⟩, ⟨lkMove (.tmp 0), (some 6), (some (5, true))⟩, ⟨⟨binInt akLeq (.tmp 6) (.const (.int .i64 65536))⟩, (some 7), (some (5, true))⟩, ⟨⟨pickA (.tmp 5) (.tmp 7) (.const (.bool false))⟩, (some 8), none⟩, ⟨lkMove (.tmp 8), (some 9), none⟩, ⟨lkMove (.tmp 0), (some 10), (some (9, true))⟩, ⟨lkMove (.tmp 0), (some 11), (some (9, true))⟩, ⟨⟨binInt akSub (.tmp 11) (.const (.int .i64 1))⟩, (some 12), (some (9, true))⟩, ⟨⟨binInt akAnd (.tmp 10) (.tmp 12)⟩, (some 13), (some (9, true))⟩, ⟨⟨binInt akEql (.tmp 13) (.const (.int .i64 0))⟩, (some 14), (some (9, true))⟩, ⟨⟨pickA (.tmp 9) (.tmp 14) (.const (.bool false))⟩, (some 15), none⟩, ⟨lkMove (.tmp 15), (some 2), none⟩]) (by kernel_rfl) (by simp (disch := omega) [h1', h2']; exact rfl) ?_
      exact WDO.nilS (WD.ret (endR _ (by simp; rfl) ⟨by rw [e2]; rfl, rfl⟩))
  · have e2 : isPgI n = false := by
      cases e : isPgI n with
      | false => rfl
      | true => have := hpg e; omega
    have h1' : n < 512 := by omega
    refine WDO.nilS (WD.seqR ?_)
    refine WDO.looks1 tyOk extOk 14 (ls := [⟨lkMove (.tmp 0), (some 3), none⟩, ⟨⟨binInt akGeq (.tmp 3) (.const (.int .i64 512))⟩, (some 4), none⟩, ⟨lkMove (.tmp 4), (some 5), none⟩, ⟨lkMove (.tmp 0), (some 6), (some (5, true))⟩, ⟨⟨binInt akLeq (.tmp 6) (.const (.int .i64 65536))⟩, (some 7), (some (5, true))⟩, ⟨⟨pickA (.tmp 5) (.tmp 7) (.const (.bool false))⟩, (some 8), none⟩, ⟨lkMove (.tmp 8), (some 9), none⟩, ⟨lkMove (.tmp 0), (some 10), (some (9, true))⟩, ⟨lkMove (.tmp 0), (some 11), (some (9, true))⟩, ⟨⟨binInt akSub (.tmp 11) (.const (.int .i64 1))⟩, (some 12), (some (9, true))⟩, ⟨⟨binInt akAnd (.tmp 10) (.tmp 12)⟩, (some 13), (some (9, true))⟩, ⟨⟨binInt akEql (.tmp 13) (.const (.int .i64 0))⟩, (some 14), (some (9, true))⟩, ⟨⟨pickA (.tmp 9) (.tmp 14) (.const (.bool false))⟩, (some 15), none⟩, ⟨lkMove (.tmp 15), (some 2), none⟩]) (by kernel_rfl) (by simp (disch := omega) [h1']; exact rfl) ?_
    exact WDO.nilS (WD.ret (endR _ (by simp; rfl) ⟨by rw [e2]; rfl, rfl⟩))
end
end Go.Proofs.YtoigokkeaddceaaGreatDoor
