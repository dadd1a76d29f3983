/- A part of the proof of this seat's statement. Conditions: in each theorem. -/
import Derived.Test.YtfgipbjaapkdlaaGreatDoorL2
import Derived.Test.YtfgipbjaapkdlaaGreatDoorZ10
namespace Go.Proofs.YtfgipbjaapkdlaaGreatDoor
open Go.Xq
noncomputable section
abbrev qM4_1 : List Lk := [xM 0 3, ⟨⟨cvInt .u64 (.tmp 3)⟩, (some 4), none⟩, xM 0 5, ⟨⟨binShr (.tmp 5) (.const (.int .u64 63))⟩, (some 6), none⟩, ⟨⟨cvInt .u64 (.tmp 6)⟩, (some 7), none⟩, ⟨⟨binInt akOr (.tmp 7) (.const (.int .u64 9223372036854775808))⟩, (some 8), none⟩, xB akXor 4 8 9, xM 9 2]
theorem ukXor_u64 {a : Nat} (h : a < 18446744073709551616) : ukXor.f (.int .u64 (a : Int)) = some (.int .u64 ((18446744073709551615 - a : Nat) : Int)) := by
  show mkInt .u64 (.ofNat (Nat.xor (toU .u64 (if IntKind.u64.signed then -1 else IntKind.u64.max)) (toU .u64 (a : Int)))) = _
  rw [toU_u64 h]
  have e : Nat.xor (toU .u64 (if IntKind.u64.signed then -1 else IntKind.u64.max)) a = 18446744073709551615 - a := by
    show (18446744073709551615 : Nat) ^^^ a = _
    rw [Nat.xor_comm, xor_all h]
  rw [e]
  exact mkInt_u64n (by omega)
theorem akXor_u64 {a b q : Nat} (ha : a < 18446744073709551616) (hb : b < 18446744073709551616) (hq : q = a ^^^ b) : akXor.f .u64 (a : Int) (b : Int) = some (.int .u64 (q : Int)) := by
  show mkInt .u64 (Int.ofNat (Nat.xor (toU .u64 a) (toU .u64 b))) = _
  rw [toU_u64 ha, toU_u64 hb]
  subst hq
  exact mkInt_u64n (Nat.xor_lt_two_pow (n := 64) ha hb)
theorem u64_pos {n : Int} (h : 0 ≤ n) (h2 : n < 18446744073709551616) : u64 n = n.toNat := by unfold u64; omega
theorem u64_neg {n : Int} (h : n < 0) (h2 : -18446744073709551616 ≤ n) : u64 n = (n + 18446744073709551616).toNat := by unfold u64; omega
theorem sorted_ok {H : AH} {n : Int} (h1 : -9223372036854775808 ≤ n) (h2 : n < 9223372036854775808) : DC Tryz.prog .normal 95 (.cons (.int .i64 n) .nil) H fun v' H2 => v' = .int .u64 ((turned n : Nat) : Int) ∧ H2 = H := by
  refine DC.of_wd (re := reTmp 2 reNil) tyOk Tryz.func95 (by kernel_rfl) rfl (by kernel_rfl) (by kernel_rfl) ?_
  rw [tl_nil, argsT_cons, argsT_nil]
  have gc := mkInt_cv n
  refine WD.seqR ?_
  refine leD 1 [⟨lkMove (.const (.int .u64 0)), (some 2), none⟩] ?_
  refine WDO.nilS (WD.seqR ?_)
  by_cases hn : n < 0
  · have hu := u64_neg hn (by omega)
    have gs := shr63_neg h1 hn
    have gm : mkInt .u64 (-1) = some (.int .u64 ((18446744073709551615 : Nat) : Int)) := by rfl
    have go : akOr.f .u64 ((18446744073709551615 : Nat) : Int) 9223372036854775808 = some (.int .u64 ((18446744073709551615 : Nat) : Int)) := by rfl
    have ht : turned n = u64 n ^^^ 18446744073709551615 := by rw [xor_all (u64_lt n)]; unfold turned; rw [if_neg (by omega), hu]; omega
    have gx : akXor.f .u64 ((u64 n : Nat) : Int) ((18446744073709551615 : Nat) : Int) = _ := akXor_u64 (u64_lt n) (by omega) ht
    generalize hg : ((18446744073709551615 : Nat) : Int) = g at gm go gx
    refine lkD 8 qM4_1 (by simp (disch := omega) [gc, gs, gm, go, gx]; exact rfl) ?_
    exact WDO.nilS (WD.ret (endR _ (by simp; rfl) ⟨rfl, rfl⟩))
  · have hu := u64_pos (n := n) (by omega) (by omega)
    have gs := shr63_pos (n := n) (by omega) (by omega)
    have gm : mkInt .u64 0 = some (.int .u64 0) := by rfl
    have go : akOr.f .u64 0 9223372036854775808 = some (.int .u64 ((9223372036854775808 : Nat) : Int)) := by rfl
    have hx : u64 n ^^^ 9223372036854775808 = u64 n + 9223372036854775808 := by
      have hb : u64 n < 9223372036854775808 := by omega
      generalize u64 n = a at hb
      apply Nat.eq_of_testBit_eq
      intro i
      rw [Nat.testBit_xor, Nat.add_comm]
      have e1 : (9223372036854775808 : Nat) = 2 ^ 63 := by decide
      rw [e1, Nat.testBit_two_pow]
      rcases Nat.lt_trichotomy i 63 with h | h | h
      · rw [Nat.testBit_two_pow_add_gt h]
        have : ¬ 63 = i := by omega
        simp [this]
      · subst h
        rw [Nat.testBit_two_pow_add_eq]
        simp
      · have l1 : a.testBit i = false := Nat.testBit_lt_two_pow (Nat.lt_of_lt_of_le (by rw [e1] at hb; exact hb) (Nat.pow_le_pow_right (by omega) (by omega)))
        have l2 : (2 ^ 63 + a).testBit i = false := Nat.testBit_lt_two_pow (Nat.lt_of_lt_of_le (m := 2 ^ 64) (by omega) (Nat.pow_le_pow_right (by omega) (by omega)))
        have : ¬ 63 = i := by omega
        rw [l1, l2]
        simp [this]
    have ht : turned n = u64 n ^^^ 9223372036854775808 := by rw [hx]; unfold turned; rw [if_pos (by omega), hu]
    have gx : akXor.f .u64 ((u64 n : Nat) : Int) ((9223372036854775808 : Nat) : Int) = _ := akXor_u64 (u64_lt n) (by omega) ht
    generalize hg : ((9223372036854775808 : Nat) : Int) = g at go gx
    refine lkD 8 qM4_1 (by simp (disch := omega) [gc, gs, gm, go, gx]; exact rfl) ?_
    exact WDO.nilS (WD.ret (endR _ (by simp; rfl) ⟨rfl, rfl⟩))
def tab8 : List UInt8 := [0, 1, 2, 2, 3, 3, 3, 3, 4, 4, 4, 4, 4, 4, 4, 4, 5, 5, 5, 5, 5, 5, 5, 5, 5, 5, 5, 5, 5, 5, 5, 5, 6, 6, 6, 6, 6, 6, 6, 6, 6, 6, 6, 6, 6, 6, 6, 6, 6, 6, 6, 6, 6, 6, 6, 6, 6, 6, 6, 6, 6, 6, 6, 6, 7, 7, 7, 7, 7, 7, 7, 7, 7, 7, 7, 7, 7, 7, 7, 7, 7, 7, 7, 7, 7, 7, 7, 7, 7, 7, 7, 7, 7, 7, 7, 7, 7, 7, 7, 7, 7, 7, 7, 7, 7, 7, 7, 7, 7, 7, 7, 7, 7, 7, 7, 7, 7, 7, 7, 7, 7, 7, 7, 7, 7, 7, 7, 7, 8, 8, 8, 8, 8, 8, 8, 8, 8, 8, 8, 8, 8, 8, 8, 8, 8, 8, 8, 8, 8, 8, 8, 8, 8, 8, 8, 8, 8, 8, 8, 8, 8, 8, 8, 8, 8, 8, 8, 8, 8, 8, 8, 8, 8, 8, 8, 8, 8, 8, 8, 8, 8, 8, 8, 8, 8, 8, 8, 8, 8, 8, 8, 8, 8, 8, 8, 8, 8, 8, 8, 8, 8, 8, 8, 8, 8, 8, 8, 8, 8, 8, 8, 8, 8, 8, 8, 8, 8, 8, 8, 8, 8, 8, 8, 8, 8, 8, 8, 8, 8, 8, 8, 8, 8, 8, 8, 8, 8, 8, 8, 8, 8, 8, 8, 8, 8, 8, 8, 8, 8, 8, 8, 8, 8, 8, 8, 8]
theorem opnd_tab8 (T : Tr AV) : opnd (.const (.string ⟨#[0, 1, 2, 2, 3, 3, 3, 3, 4, 4, 4, 4, 4, 4, 4, 4, 5, 5, 5, 5, 5, 5, 5, 5, 5, 5, 5, 5, 5, 5, 5, 5, 6, 6, 6, 6, 6, 6, 6, 6, 6, 6, 6, 6, 6, 6, 6, 6, 6, 6, 6, 6, 6, 6, 6, 6, 6, 6, 6, 6, 6, 6, 6, 6, 7, 7, 7, 7, 7, 7, 7, 7, 7, 7, 7, 7, 7, 7, 7, 7, 7, 7, 7, 7, 7, 7, 7, 7, 7, 7, 7, 7, 7, 7, 7, 7, 7, 7, 7, 7, 7, 7, 7, 7, 7, 7, 7, 7, 7, 7, 7, 7, 7, 7, 7, 7, 7, 7, 7, 7, 7, 7, 7, 7, 7, 7, 7, 7, 8, 8, 8, 8, 8, 8, 8, 8, 8, 8, 8, 8, 8, 8, 8, 8, 8, 8, 8, 8, 8, 8, 8, 8, 8, 8, 8, 8, 8, 8, 8, 8, 8, 8, 8, 8, 8, 8, 8, 8, 8, 8, 8, 8, 8, 8, 8, 8, 8, 8, 8, 8, 8, 8, 8, 8, 8, 8, 8, 8, 8, 8, 8, 8, 8, 8, 8, 8, 8, 8, 8, 8, 8, 8, 8, 8, 8, 8, 8, 8, 8, 8, 8, 8, 8, 8, 8, 8, 8, 8, 8, 8, 8, 8, 8, 8, 8, 8, 8, 8, 8, 8, 8, 8, 8, 8, 8, 8, 8, 8, 8, 8, 8, 8, 8, 8, 8, 8, 8, 8, 8, 8, 8, 8, 8, 8, 8, 8]⟩)) T = some (sb tab8) := rfl
theorem tab8_get (x : Nat) (h : x < 256) : ∃ y : UInt8, tab8[x]? = some y ∧ y.toNat ≤ 8 ∧ (x = 0 → y.toNat = 0) ∧ (0 < x → 0 < y.toNat) := by
  have : ∀ q : Fin 256, (tab8[q.val]?).any (fun y => decide (y.toNat ≤ 8) && (if q.val = 0 then decide (y.toNat = 0) else decide (0 < y.toNat))) = true := by decide +kernel
  have h2 := this ⟨x, h⟩
  rw [Option.any_eq_true] at h2
  obtain ⟨y, h3, h4⟩ := h2
  simp only [Bool.and_eq_true, decide_eq_true_eq] at h4
  refine ⟨y, h3, h4.1, fun e => ?_, fun e => ?_⟩
  · have := h4.2; rw [if_pos e] at this; exact of_decide_eq_true this
  · have := h4.2; rw [if_neg (by omega)] at this; exact of_decide_eq_true this
abbrev qM5_1 : List Lk := [xM 0 3, ⟨⟨binInt akGeq (.tmp 3) (.const (.int .u64 4294967296))⟩, (some 4), none⟩]
abbrev qM5_2 : List Lk := [xM 0 7, ⟨⟨binInt akGeq (.tmp 7) (.const (.int .u64 65536))⟩, (some 8), none⟩]
abbrev qM5_3 : List Lk := [xM 0 13, ⟨⟨binInt akGeq (.tmp 13) (.const (.int .u64 256))⟩, (some 14), none⟩]
abbrev qM5_4 : List Lk := [xM 0 15, ⟨⟨binShr (.tmp 15) (.const (.int .u64 8))⟩, (some 16), none⟩, xM 16 0]
abbrev qM5_5 : List Lk := [xM 2 19, xM 0 20, ⟨⟨cvInt .u8 (.tmp 20)⟩, (some 21), none⟩]
abbrev qM5_6 : List Lk := [⟨⟨cvInt .i64 (.tmp 22)⟩, (some 23), none⟩, xB akAdd 19 23 24, xM 24 2]
set_option maxRecDepth 10000 in
theorem tab8_len : tab8.length = 256 := by decide
def tabK : LK := ⟨ixStr (.const (.string ⟨#[0, 1, 2, 2, 3, 3, 3, 3, 4, 4, 4, 4, 4, 4, 4, 4, 5, 5, 5, 5, 5, 5, 5, 5, 5, 5, 5, 5, 5, 5, 5, 5, 6, 6, 6, 6, 6, 6, 6, 6, 6, 6, 6, 6, 6, 6, 6, 6, 6, 6, 6, 6, 6, 6, 6, 6, 6, 6, 6, 6, 6, 6, 6, 6, 7, 7, 7, 7, 7, 7, 7, 7, 7, 7, 7, 7, 7, 7, 7, 7, 7, 7, 7, 7, 7, 7, 7, 7, 7, 7, 7, 7, 7, 7, 7, 7, 7, 7, 7, 7, 7, 7, 7, 7, 7, 7, 7, 7, 7, 7, 7, 7, 7, 7, 7, 7, 7, 7, 7, 7, 7, 7, 7, 7, 7, 7, 7, 7, 8, 8, 8, 8, 8, 8, 8, 8, 8, 8, 8, 8, 8, 8, 8, 8, 8, 8, 8, 8, 8, 8, 8, 8, 8, 8, 8, 8, 8, 8, 8, 8, 8, 8, 8, 8, 8, 8, 8, 8, 8, 8, 8, 8, 8, 8, 8, 8, 8, 8, 8, 8, 8, 8, 8, 8, 8, 8, 8, 8, 8, 8, 8, 8, 8, 8, 8, 8, 8, 8, 8, 8, 8, 8, 8, 8, 8, 8, 8, 8, 8, 8, 8, 8, 8, 8, 8, 8, 8, 8, 8, 8, 8, 8, 8, 8, 8, 8, 8, 8, 8, 8, 8, 8, 8, 8, 8, 8, 8, 8, 8, 8, 8, 8, 8, 8, 8, 8, 8, 8, 8, 8, 8, 8, 8, 8, 8, 8]⟩)) (.tmp 21)⟩
theorem tabK_f {T : List (Nat × AV)} {H : AH} {x : Nat} {y : UInt8} (h : tget 21 T = some (.int .u8 (x : Int))) (hx : x < 256) (hy : tab8[x]? = some y) : runLk [⟨tabK, some 22, none⟩] (tl T) H = some (tl ((22, .int .u8 (y.toNat : Int)) :: T)) := by
  have hk : tabK.f (tl T) H = some (.int .u8 (y.toNat : Int)) := by
    unfold tabK
    dsimp only
    rw [ixStr_f, opnd_tab8, ob_some', opnd_tmp, h, ob_some', onStr_sb, natOf_cast, ob_some', blt_true (by rw [tab8_len]; exact hx), bt_true, byte_at hy]
  rw [runLk_cons, hk]
  rfl
set_option maxHeartbeats 1000000 in
theorem len64_ok {H : AH} {n : Nat} (hn : n < 18446744073709551616) : DC Tryz.prog .normal 196 (.cons (.int .u64 (n : Int)) .nil) H fun v' H2 => (∃ b : Nat, v' = .int .i64 (b : Int) ∧ b ≤ 64 ∧ (b + 7) / 8 = wid n) ∧ H2 = H := by
  refine DC.of_wd (re := reTmp 2 reNil) tyOk Tryz.func196 (by kernel_rfl) rfl (by kernel_rfl) (by kernel_rfl) ?_
  rw [tl_nil, argsT_cons, argsT_nil]
  have hw := wid_tab hn
  refine WD.seqR ?_
  refine leD 1 [xK 0 2] ?_
  refine WDO.nilS (WD.seq (WD.seqR ?_))
  by_cases c0 : 4294967296 ≤ n
  · obtain ⟨q1, hq1⟩ : ∃ q, q = n / 4294967296 := ⟨_, rfl⟩
    have g0 : shrA .u64 (n : Int) 32 = some (.int .u64 (q1 : Int)) := shr_u64 (k := 32) (by omega) hq1
    refine lkD 2 qM5_1 (by simp (disch := omega) [decF]; exact rfl) ?_
    refine cdT ?_
    refine lkD 3 [xM 0 5, ⟨⟨binShr (.tmp 5) (.const (.int .u64 32))⟩, (some 6), none⟩, xM 6 0] (by simp (disch := omega) [g0]; exact rfl) ?_
    refine WDO.nilS (WD.region ?_)
    refine leD 1 [xK 32 2] ?_
    refine WDO.nil ?_
    refine WD.seq (WD.seqR ?_)
    by_cases c1 : 65536 ≤ q1
    · obtain ⟨q2, hq2⟩ : ∃ q, q = q1 / 65536 := ⟨_, rfl⟩
      have g1 : shrA .u64 (q1 : Int) 16 = some (.int .u64 (q2 : Int)) := shr_u64 (k := 16) (by omega) hq2
      refine lkD 2 qM5_2 (by simp (disch := omega) [decF]; exact rfl) ?_
      refine cdT ?_
      refine lkD 3 [xM 0 9, ⟨⟨binShr (.tmp 9) (.const (.int .u64 16))⟩, (some 10), none⟩, xM 10 0] (by simp (disch := omega) [g1]; exact rfl) ?_
      refine WDO.nilS (WD.region ?_)
      refine leD 3 [xM 2 11, xC akAdd 11 16 12, xM 12 2] ?_
      refine WDO.nil ?_
      refine WD.seq (WD.seqR ?_)
      by_cases c2 : 256 ≤ q2
      · obtain ⟨q3, hq3⟩ : ∃ q, q = q2 / 256 := ⟨_, rfl⟩
        have g2 : shrA .u64 (q2 : Int) 8 = some (.int .u64 (q3 : Int)) := shr_u64 (k := 8) (by omega) hq3
        refine lkD 2 qM5_3 (by simp (disch := omega) [decF]; exact rfl) ?_
        refine cdT ?_
        refine lkD 3 qM5_4 (by simp (disch := omega) [g2]; exact rfl) ?_
        refine WDO.nilS (WD.region ?_)
        refine leD 3 [xM 2 17, xC akAdd 17 8 18, xM 18 2] ?_
        refine WDO.nil ?_
        refine WD.seqR ?_
        have gc : (q3 : Int) % 256 = (q3 : Int) := by omega
        obtain ⟨y, hy, y1, y2, y3⟩ := tab8_get q3 (by omega)
        have gy : mkInt .i64 (y.toNat : Int) = some (.int .i64 (y.toNat : Int)) := mkInt_i64 (by omega) (by omega)
        refine lkD 3 qM5_5 (by simp [gc]; exact rfl) ?_
        refine lkD 1 [⟨tabK, some 22, none⟩] (tabK_f (x := q3) (by simp) (by omega) hy) ?_
        refine lkD 3 qM5_6 (by simp (disch := omega) [gy]; exact rfl) ?_
        exact WDO.nilS (WD.ret (endR _ (by simp; rfl) ⟨⟨56 + y.toNat, by simp; rfl, by omega, by omega⟩, rfl⟩))
      · skip
        refine lkD 2 qM5_3 (by simp (disch := omega) [decT]; exact rfl) ?_
        refine cdF ?_
        refine WD.seqR ?_
        have gc : (q2 : Int) % 256 = (q2 : Int) := by omega
        obtain ⟨y, hy, y1, y2, y3⟩ := tab8_get q2 (by omega)
        have gy : mkInt .i64 (y.toNat : Int) = some (.int .i64 (y.toNat : Int)) := mkInt_i64 (by omega) (by omega)
        refine lkD 3 qM5_5 (by simp [gc]; exact rfl) ?_
        refine lkD 1 [⟨tabK, some 22, none⟩] (tabK_f (x := q2) (by simp) (by omega) hy) ?_
        refine lkD 3 qM5_6 (by simp (disch := omega) [gy]; exact rfl) ?_
        exact WDO.nilS (WD.ret (endR _ (by simp; rfl) ⟨⟨48 + y.toNat, by simp; rfl, by omega, by omega⟩, rfl⟩))
    · skip
      refine lkD 2 qM5_2 (by simp (disch := omega) [decT]; exact rfl) ?_
      refine cdF ?_
      refine WD.seq (WD.seqR ?_)
      by_cases c2 : 256 ≤ q1
      · obtain ⟨q3, hq3⟩ : ∃ q, q = q1 / 256 := ⟨_, rfl⟩
        have g2 : shrA .u64 (q1 : Int) 8 = some (.int .u64 (q3 : Int)) := shr_u64 (k := 8) (by omega) hq3
        refine lkD 2 qM5_3 (by simp (disch := omega) [decF]; exact rfl) ?_
        refine cdT ?_
        refine lkD 3 qM5_4 (by simp (disch := omega) [g2]; exact rfl) ?_
        refine WDO.nilS (WD.region ?_)
        refine leD 3 [xM 2 17, xC akAdd 17 8 18, xM 18 2] ?_
        refine WDO.nil ?_
        refine WD.seqR ?_
        have gc : (q3 : Int) % 256 = (q3 : Int) := by omega
        obtain ⟨y, hy, y1, y2, y3⟩ := tab8_get q3 (by omega)
        have gy : mkInt .i64 (y.toNat : Int) = some (.int .i64 (y.toNat : Int)) := mkInt_i64 (by omega) (by omega)
        refine lkD 3 qM5_5 (by simp [gc]; exact rfl) ?_
        refine lkD 1 [⟨tabK, some 22, none⟩] (tabK_f (x := q3) (by simp) (by omega) hy) ?_
        refine lkD 3 qM5_6 (by simp (disch := omega) [gy]; exact rfl) ?_
        exact WDO.nilS (WD.ret (endR _ (by simp; rfl) ⟨⟨40 + y.toNat, by simp; rfl, by omega, by omega⟩, rfl⟩))
      · skip
        refine lkD 2 qM5_3 (by simp (disch := omega) [decT]; exact rfl) ?_
        refine cdF ?_
        refine WD.seqR ?_
        have gc : (q1 : Int) % 256 = (q1 : Int) := by omega
        obtain ⟨y, hy, y1, y2, y3⟩ := tab8_get q1 (by omega)
        have gy : mkInt .i64 (y.toNat : Int) = some (.int .i64 (y.toNat : Int)) := mkInt_i64 (by omega) (by omega)
        refine lkD 3 qM5_5 (by simp [gc]; exact rfl) ?_
        refine lkD 1 [⟨tabK, some 22, none⟩] (tabK_f (x := q1) (by simp) (by omega) hy) ?_
        refine lkD 3 qM5_6 (by simp (disch := omega) [gy]; exact rfl) ?_
        exact WDO.nilS (WD.ret (endR _ (by simp; rfl) ⟨⟨32 + y.toNat, by simp; rfl, by omega, by omega⟩, rfl⟩))
  · skip
    refine lkD 2 qM5_1 (by simp (disch := omega) [decT]; exact rfl) ?_
    refine cdF ?_
    refine WD.seq (WD.seqR ?_)
    by_cases c1 : 65536 ≤ n
    · obtain ⟨q2, hq2⟩ : ∃ q, q = n / 65536 := ⟨_, rfl⟩
      have g1 : shrA .u64 (n : Int) 16 = some (.int .u64 (q2 : Int)) := shr_u64 (k := 16) (by omega) hq2
      refine lkD 2 qM5_2 (by simp (disch := omega) [decF]; exact rfl) ?_
      refine cdT ?_
      refine lkD 3 [xM 0 9, ⟨⟨binShr (.tmp 9) (.const (.int .u64 16))⟩, (some 10), none⟩, xM 10 0] (by simp (disch := omega) [g1]; exact rfl) ?_
      refine WDO.nilS (WD.region ?_)
      refine leD 3 [xM 2 11, xC akAdd 11 16 12, xM 12 2] ?_
      refine WDO.nil ?_
      refine WD.seq (WD.seqR ?_)
      by_cases c2 : 256 ≤ q2
      · obtain ⟨q3, hq3⟩ : ∃ q, q = q2 / 256 := ⟨_, rfl⟩
        have g2 : shrA .u64 (q2 : Int) 8 = some (.int .u64 (q3 : Int)) := shr_u64 (k := 8) (by omega) hq3
        refine lkD 2 qM5_3 (by simp (disch := omega) [decF]; exact rfl) ?_
        refine cdT ?_
        refine lkD 3 qM5_4 (by simp (disch := omega) [g2]; exact rfl) ?_
        refine WDO.nilS (WD.region ?_)
        refine leD 3 [xM 2 17, xC akAdd 17 8 18, xM 18 2] ?_
        refine WDO.nil ?_
        refine WD.seqR ?_
        have gc : (q3 : Int) % 256 = (q3 : Int) := by omega
        obtain ⟨y, hy, y1, y2, y3⟩ := tab8_get q3 (by omega)
        have gy : mkInt .i64 (y.toNat : Int) = some (.int .i64 (y.toNat : Int)) := mkInt_i64 (by omega) (by omega)
        refine lkD 3 qM5_5 (by simp [gc]; exact rfl) ?_
        refine lkD 1 [⟨tabK, some 22, none⟩] (tabK_f (x := q3) (by simp) (by omega) hy) ?_
        refine lkD 3 qM5_6 (by simp (disch := omega) [gy]; exact rfl) ?_
        exact WDO.nilS (WD.ret (endR _ (by simp; rfl) ⟨⟨24 + y.toNat, by simp; rfl, by omega, by omega⟩, rfl⟩))
      · skip
        refine lkD 2 qM5_3 (by simp (disch := omega) [decT]; exact rfl) ?_
        refine cdF ?_
        refine WD.seqR ?_
        have gc : (q2 : Int) % 256 = (q2 : Int) := by omega
        obtain ⟨y, hy, y1, y2, y3⟩ := tab8_get q2 (by omega)
        have gy : mkInt .i64 (y.toNat : Int) = some (.int .i64 (y.toNat : Int)) := mkInt_i64 (by omega) (by omega)
        refine lkD 3 qM5_5 (by simp [gc]; exact rfl) ?_
        refine lkD 1 [⟨tabK, some 22, none⟩] (tabK_f (x := q2) (by simp) (by omega) hy) ?_
        refine lkD 3 qM5_6 (by simp (disch := omega) [gy]; exact rfl) ?_
        exact WDO.nilS (WD.ret (endR _ (by simp; rfl) ⟨⟨16 + y.toNat, by simp; rfl, by omega, by omega⟩, rfl⟩))
    · skip
      refine lkD 2 qM5_2 (by simp (disch := omega) [decT]; exact rfl) ?_
      refine cdF ?_
      refine WD.seq (WD.seqR ?_)
      by_cases c2 : 256 ≤ n
      · obtain ⟨q3, hq3⟩ : ∃ q, q = n / 256 := ⟨_, rfl⟩
        have g2 : shrA .u64 (n : Int) 8 = some (.int .u64 (q3 : Int)) := shr_u64 (k := 8) (by omega) hq3
        refine lkD 2 qM5_3 (by simp (disch := omega) [decF]; exact rfl) ?_
        refine cdT ?_
        refine lkD 3 qM5_4 (by simp (disch := omega) [g2]; exact rfl) ?_
        refine WDO.nilS (WD.region ?_)
        refine leD 3 [xM 2 17, xC akAdd 17 8 18, xM 18 2] ?_
        refine WDO.nil ?_
        refine WD.seqR ?_
        have gc : (q3 : Int) % 256 = (q3 : Int) := by omega
        obtain ⟨y, hy, y1, y2, y3⟩ := tab8_get q3 (by omega)
        have gy : mkInt .i64 (y.toNat : Int) = some (.int .i64 (y.toNat : Int)) := mkInt_i64 (by omega) (by omega)
        refine lkD 3 qM5_5 (by simp [gc]; exact rfl) ?_
        refine lkD 1 [⟨tabK, some 22, none⟩] (tabK_f (x := q3) (by simp) (by omega) hy) ?_
        refine lkD 3 qM5_6 (by simp (disch := omega) [gy]; exact rfl) ?_
        exact WDO.nilS (WD.ret (endR _ (by simp; rfl) ⟨⟨8 + y.toNat, by simp; rfl, by omega, by omega⟩, rfl⟩))
      · skip
        refine lkD 2 qM5_3 (by simp (disch := omega) [decT]; exact rfl) ?_
        refine cdF ?_
        refine WD.seqR ?_
        have gc : (n : Int) % 256 = (n : Int) := by omega
        obtain ⟨y, hy, y1, y2, y3⟩ := tab8_get n (by omega)
        have gy : mkInt .i64 (y.toNat : Int) = some (.int .i64 (y.toNat : Int)) := mkInt_i64 (by omega) (by omega)
        refine lkD 3 qM5_5 (by simp [gc]; exact rfl) ?_
        refine lkD 1 [⟨tabK, some 22, none⟩] (tabK_f (x := n) (by simp) (by omega) hy) ?_
        refine lkD 3 qM5_6 (by simp (disch := omega) [gy]; exact rfl) ?_
        exact WDO.nilS (WD.ret (endR _ (by simp; rfl) ⟨⟨0 + y.toNat, by simp; rfl, by omega, by omega⟩, rfl⟩))
theorem width_ok {H : AH} {n : Nat} (hn : n < 18446744073709551616) : DC Tryz.prog .normal 168 (.cons (.int .u64 (n : Int)) .nil) H fun v' H2 => v' = .int .i64 ((wid n : Nat) : Int) ∧ H2 = H := by
  refine DC.of_wd (re := reTmp 2 reNil) tyOk Tryz.func168 (by kernel_rfl) rfl (by kernel_rfl) (by kernel_rfl) ?_
  rw [tl_nil, argsT_cons, argsT_nil]
  refine WD.seqR ?_
  refine leD 1 [xK 0 2] ?_
  refine WDO.nilS (WD.seqR ?_)
  refine leD 1 [xM 0 3] ?_
  refine WDO.callF (g := 196) rfl rfl rfl (by kernel_rfl) (l := .cons (.int .u64 (n : Int)) .nil) (by simp) (len64_ok hn) fun u H2 ⟨⟨b, hb, hb1, hb2⟩, hH⟩ => ?_
  subst hb
  subst hH
  have g : quoA .i64 ((b : Int) + 7) 8 = some (.int .i64 ((wid n : Nat) : Int)) := by
    rw [quoA_i64 (by omega) (by omega) (by omega)]
    congr 2
    omega
  refine lkD 3 [xC akAdd 4 7 5, ⟨⟨binInt ⟨quoA⟩ (.tmp 5) (.const (.int .i64 8))⟩, (some 6), none⟩, xM 6 2] (by simp (disch := omega) [g]; exact rfl) ?_
  exact WDO.nilS (WD.ret (endR _ (by simp; rfl) ⟨rfl, rfl⟩))
def intX (m : Nat) (y : UInt8) : List UInt8 := (UInt8.ofNat (128 + wid m) ^^^ y) :: (fixedL m (wid m)).map (· ^^^ y)
theorem xor_zero8 (x : UInt8) : x ^^^ 0 = x := by simp
theorem intB_pos {n : Int} (h : 0 ≤ n) : intB n = intX n.toNat 0 := by
  unfold intB intX
  rw [if_pos h, xor_zero8]
  congr 1
  simp
theorem neg_byte {w : Nat} (h : w ≤ 8) : UInt8.ofNat (127 - w) = UInt8.ofNat (128 + w) ^^^ 255 := by
  have : ∀ q : Fin 9, UInt8.ofNat (127 - q.val) = UInt8.ofNat (128 + q.val) ^^^ 255 := by decide
  exact this ⟨w, by omega⟩
theorem intB_neg {n : Int} (h : n < 0) : intB n = intX (-(n + 1)).toNat 255 := by
  unfold intB intX
  rw [if_neg (by omega), neg_byte (wid_le _)]
def OwnF (H : AH) (lo : Nat) (v : AV) (l : List UInt8) : Prop := OwnB 5 H lo v l ∨ ∃ b, v = .sl b 0 l.length (some l.length) ∧ lo ≤ b ∧ b < H.next ∧ H.get b = some (bb 5 false l)
theorem take_map_succ {l : List UInt8} {f : UInt8 → UInt8} {i : Nat} {x : UInt8} (h : l[i]? = some x) : (l.take (i + 1)).map f = (l.take i).map f ++ [f x] := by
  rw [List.take_add_one, h]; simp
theorem intX_succ {m i : Nat} {y x : UInt8} (h : (fixedL m (wid m))[i]? = some x) : (UInt8.ofNat (128 + wid m) ^^^ y) :: ((fixedL m (wid m)).take (i + 1)).map (· ^^^ y) = ((UInt8.ofNat (128 + wid m) ^^^ y) :: ((fixedL m (wid m)).take i).map (· ^^^ y)) ++ [x ^^^ y] := by
  rw [take_map_succ h]; rfl
set_option maxHeartbeats 1000000 in
theorem integer_ok {H : AH} {n : Int} {v : AV} {k : List UInt8} {lo : Nat} (h1 : -9223372036854775808 ≤ n) (h2 : n < 9223372036854775808) (ho : OwnB 5 H lo v k) (hlo : lo ≤ H.next) (hk : k.length < 4294967296) :
    DC Tryz.prog .normal 129 (.cons v (.cons (.int .i64 n) .nil)) H fun v' H2 => OwnB 5 H2 lo v' (k ++ intB n) ∧ Keep (fun b => blk v = some b) H H2 ∧ ∀ b, blk v' = some b → blk v = some b ∨ H.next ≤ b := by
  refine DC.of_wd (re := reTmp 4 reNil) tyOk Tryz.func129 (by kernel_rfl) rfl (by kernel_rfl) (by kernel_rfl) ?_
  rw [tl_nil, argsT_cons, argsT_cons, argsT_nil]
  -- what both ways have
  have both : ∃ (s : Int) (m : Nat) (y : UInt8) (z : Int), shrA .i64 n 63 = some (.int .i64 s) ∧ s % 256 = (y.toNat : Int) ∧ akXor.f .i64 n s = some (.int .i64 z) ∧ mkInt .u64 z = some (.int .u64 (m : Int)) ∧ m < 18446744073709551616 ∧ intB n = intX m y := by
    by_cases hn : 0 ≤ n
    · refine ⟨0, n.toNat, 0, n, shr63_pos hn h2, by decide, xor_pos hn h2, ?_, by omega, intB_pos hn⟩
      have gc := mkInt_cv n
      rwa [u64_pos hn (by omega)] at gc
    · have hn : n < 0 := by omega
      refine ⟨-1, (-(n + 1)).toNat, 255, -(n + 1), shr63_neg h1 hn, by decide, xor_neg h1 hn, ?_, by omega, intB_neg hn⟩
      have gc := mkInt_cv (-(n + 1))
      rwa [u64_pos (by omega) (by omega)] at gc
  obtain ⟨s, m, y, z, g1, g2, g3, g4, hm, hB⟩ := both
  rw [hB]
  have hw8 := wid_le m
  have hfl := fixedL_len m (wid m)
  refine WD.seqR ?_
  refine leD 1 [⟨lkMove (.const (.slice none 0 0)), (some 4), none⟩] ?_
  refine WDO.nilS (WD.seqR ?_)
  refine lkD 4 [xM 1 10, ⟨⟨binShr (.tmp 10) (.const (.int .u64 63))⟩, (some 11), none⟩, ⟨⟨cvInt .u8 (.tmp 11)⟩, (some 12), none⟩, xM 12 5] (by simp (disch := omega) [g1, g2]; exact rfl) ?_
  refine WDO.nilS (WD.seqR ?_)
  refine lkD 6 [xM 1 13, xM 1 14, ⟨⟨binShr (.tmp 14) (.const (.int .u64 63))⟩, (some 15), none⟩, xB akXor 13 15 16, ⟨⟨cvInt .u64 (.tmp 16)⟩, (some 17), none⟩, xM 17 6] (by simp (disch := omega) [g1, g3, g4]; exact rfl) ?_
  refine WDO.nilS (WD.seqR ?_)
  refine leD 1 [xM 6 18] ?_
  refine WDO.callF (g := 168) rfl rfl rfl (by kernel_rfl) (l := .cons (.int .u64 (m : Int)) .nil) (by simp) (width_ok hm) fun u H2 ⟨hu, hH⟩ => ?_
  subst hu
  subst hH
  refine leD 1 [xM 19 7] ?_
  refine WDO.nilS (WD.seqR ?_)
  have gy : (128 + ((wid m : Nat) : Int)) % 256 = ((UInt8.ofNat (128 + wid m)).toNat : Int) := by rw [u8_of]; congr 1
  have hX0 : intX m y = (UInt8.ofNat (128 + wid m) ^^^ y) :: (fixedL m (wid m)).map (· ^^^ y) := rfl
  have hsucc : ∀ (i : Nat) (x : UInt8), (fixedL m (wid m))[i]? = some x → _ := fun i x h => intX_succ (y := y) h
  generalize UInt8.ofNat (128 + wid m) = b0 at gy hX0 hsucc
  generalize hw : wid m = w at hw8 hfl gy hX0 hsucc ⊢
  have gx0 := akXor_u8 b0 y
  generalize b0 ^^^ y = c0 at gx0 hX0 hsucc
  obtain ⟨v1, H3, a1, a2, a3, a4⟩ := ho.push hlo c0 (by omega)
  refine lkD 6 [xM 0 20, xM 7 21, ⟨⟨binInt akAdd (.const (.int .i64 128)) (.tmp 21)⟩, (some 22), none⟩, ⟨⟨cvInt .u8 (.tmp 22)⟩, (some 23), none⟩, xM 5 24, xB akXor 23 24 25] (by simp (disch := omega) [gy, gx0]; exact rfl) ?_
  refine WDO.fresh1 tyOk (k := ⟨frSlice 1 (zerosA (.cons (.int .u8 0) .nil) 1) ⟨fill1 (.tmp 25) 0 1 flEnd⟩ ⟨mkBy 5⟩⟩) (by kernel_rfl) rfl (by kernel_rfl) (v := .sl H2.next 0 1 (some 1)) (x := bb 5 false [c0]) ?_ ?_
  · simp [mkBy, leA_1, bb]
  refine WDO.heavy1 tyOk extOk (k := ⟨hvAppend ⟨grownBy 5⟩ 1 (.tmp 20) (.tmp 26)⟩) (by kernel_rfl) rfl (by kernel_rfl) (by simp; exact a1) ?_
  refine leD 1 [xM 27 0] ?_
  refine WDO.nilS (WD.seq (WD.seqR ?_))
  have n3 := a3.1
  by_cases h0 : w = 0
  · subst h0
    refine leD 2 [xM 7 28, xC akGtr 28 0 29] ?_
    refine cdF ?_
    refine WD.seqR ?_
    refine leD 2 [xM 0 45, xM 45 4] ?_
    have hX : intX m y = [c0] := by rw [hX0]; rfl
    rw [hX]
    refine WDO.nilS (WD.ret (endR _ (by simp; rfl) ?_))
    exact ⟨a2, a3, a4⟩
  · have h0' : 0 < w := by omega
    refine lkD 2 [xM 7 28, xC akGtr 28 0 29] (by simp (disch := omega) [h0']; exact rfl) ?_
    refine cdT ?_
    refine leD 2 [xM 6 30, xM 7 31] ?_
    refine WDO.callF (g := 130) rfl rfl rfl (by kernel_rfl) (l := .cons (.int .u64 (m : Int)) (.cons (.int .i64 (w : Int)) .nil)) (by simp) (fixedInk_ok hm (w := w) (by omega) (by omega)) fun u H4 ⟨hu, n4, g5, k4⟩ => ?_
    subst hu
    have hne : ∀ b, blk v1 = some b → b < H3.next := fun b e => (a2.low e).2
    refine leD 2 [xN 32 33, xK 0 34] ?_
    refine WDO.nilS ?_
    refine WD.forR (σ := Nat × AV) (fun s => [(0, s.2), (5, .int .u8 (y.toNat : Int)), (32, .sl H3.next 0 w (some w)), (33, .int .i64 (w : Int)), (34, .int .i64 (s.1 : Int))])
      (fun s H' => s.1 ≤ w ∧ OwnB 5 H' lo s.2 (k ++ (c0 :: ((fixedL m w).take s.1).map (· ^^^ y))) ∧ H'.get H3.next = some (bb 5 false (fixedL m w)) ∧ H3.next < H'.next ∧ Keep (fun b => blk v = some b) H2 H' ∧ ∀ b, blk s.2 = some b → b ≠ H3.next ∧ (blk v = some b ∨ H2.next ≤ b))
      (fun s => w - s.1) (0, v1) ⟨Nat.zero_le _, by simpa using a2.keep k4 fun _ _ => id, g5, by omega, a3.trans (k4.mono fun _ _ e => e.elim), fun b e => ⟨by have := hne b e; omega, a4 b e⟩⟩ (by simp) ?_
    rintro ⟨i, c⟩ H' ⟨hi, hc1, hg, hlt, hkp, hb⟩
    simp only at hi hc1 hb
    refine leD 1 [xB akLss 34 33 35] ?_
    refine WDO.nil ⟨decide (i < w), _, rfl, by simp, fun hc => ?_, fun hc => ?_⟩
    · have hc : i = w := by have := of_decide_eq_false hc; omega
      subst hc
      rw [List.take_of_length_le (by omega), ← hX0] at hc1
      refine WD.seqR ?_
      refine leD 2 [xM 0 45, xM 45 4] ?_
      refine WDO.nilS (WD.ret (endR _ (by simp; rfl) ?_))
      exact ⟨hc1, hkp, fun b e => (hb b e).2⟩
    · have hc : i < w := of_decide_eq_true hc
      have hx : (fixedL m w)[i]? = some ((fixedL m w)[i]'(by omega)) := List.getElem?_eq_getElem _
      have ht := hsucc i _ hx
      generalize (fixedL m w)[i]'_ = x at hx ht
      have hrd := rd_bb' (e := 5) (o := false) hx
      have gx := akXor_u8 x y
      generalize x ^^^ y = q at gx ht
      have hlen : (k ++ (c0 :: ((fixedL m w).take i).map (· ^^^ y))).length = k.length + (i + 1) := by simp; omega
      obtain ⟨v', H5, e1, e2, e3, e4⟩ := hc1.push (by have := hkp.1; omega) q (by rw [hlen]; omega)
      refine WD.seqR ?_
      refine lkD 3 [xI 1 32 34 36, xL 36 37, xM 37 9] (by simp (disch := omega) [hg, hrd, hc]; exact rfl) ?_
      refine WDO.nilS (WD.region ?_)
      refine lkD 4 [xM 0 38, xM 9 39, xM 5 40, xB akXor 39 40 41] (by simp (disch := omega) [gx]; exact rfl) ?_
      refine WDO.fresh1 tyOk (k := ⟨frSlice 1 (zerosA (.cons (.int .u8 0) .nil) 1) ⟨fill1 (.tmp 41) 0 1 flEnd⟩ ⟨mkBy 5⟩⟩) (by kernel_rfl) rfl (by kernel_rfl) (v := .sl H'.next 0 1 (some 1)) (x := bb 5 false [q]) ?_ ?_
      · simp [mkBy, leA_1, bb]
      refine WDO.heavy1 tyOk extOk (k := ⟨hvAppend ⟨grownBy 5⟩ 1 (.tmp 38) (.tmp 42)⟩) (by kernel_rfl) rfl (by kernel_rfl) (by simp; exact e1) ?_
      refine leD 1 [xM 43 0] ?_
      refine WDO.nil ?_
      refine leD 2 [xC akAdd 34 1 44, xM 44 34] ?_
      have n5 := e3.1
      refine WDO.nil ⟨rfl, (i + 1, v'), _, rfl, by simp, ⟨by simp only; omega, ?_, e3.get hlt (fun e => (hb _ e).1 rfl) hg, by omega, hkp.own e3 fun b e => (hb b e).2, fun b e => ?_⟩, by simp only; omega⟩
      · simp only
        rw [ht, ← List.append_assoc]
        exact e2
      · rcases e4 b e with h | h
        · exact hb b h
        · have := hkp.1
          exact ⟨by omega, .inr (by omega)⟩
theorem cntE {H : AH} {v : AV} {t : List UInt8} {c : UInt8} (h : RdS H v t) : E.ext 198 (.cons v (.cons (.int .u8 (c.toNat : Int)) .nil)) H = some (.int .i64 ((t.count c : Nat) : Int)) := by
  show cntA (.cons v (.cons (.int .u8 (.ofNat c.toNat)) .nil)) H = _
  show ob (bytesA H v) (fun p => bt (Nat.blt c.toNat 256) (some (AV.int .i64 (Int.ofNat (cntN p.1 p.2 c.toNat)))) none) = _
  rw [h.bytesA, ob_some', blt_true c.toNat_lt, bt_true, cntN_count]; rfl
theorem count_ok {H : AH} {v u : AV} {t : List UInt8} (h : RdS H v t) (hu : RdS H u [0]) : DC Tryz.prog .normal 169 (.cons v (.cons u .nil)) H fun v' H2 => v' = .int .i64 ((t.count 0 : Nat) : Int) ∧ H2 = H := by
  refine DC.of_wd (re := reTmp 4 reNil) tyOk Tryz.func169 (by kernel_rfl) rfl (by kernel_rfl) (by kernel_rfl) ?_
  rw [tl_nil, argsT_cons, argsT_cons, argsT_nil]
  have hlu := hu.len
  obtain ⟨b, off, cap, o, hv, hbn, hg, hby⟩ := hu.pos (by simp)
  have hrd := hby 0 0 rfl
  simp only [List.length_cons, List.length_nil, Nat.zero_add] at hlu hv
  have hrd : rdCell o off = some (.int .u8 0) := by simpa using hrd
  refine WD.seqR ?_
  refine leD 1 [xK 0 4] ?_
  refine WDO.nilS (WD.seq (WD.seqR ?_))
  refine lkD 3 [xM 1 7, xN 7 8, xC akEql 8 0 9] (by simp (disch := omega) [hlu]; exact rfl) ?_
  refine cdF ?_
  refine WD.seq (WD.seqR ?_)
  refine lkD 3 [xM 1 13, xN 13 14, xC akEql 14 1 15] (by simp (disch := omega) [hlu]; exact rfl) ?_
  refine cdT ?_
  refine lkD 4 [xM 0 16, xM 1 17, ⟨⟨ixSl 1 (.tmp 17) (.const (.int .i64 0))⟩, (some 18), none⟩, xL 18 19] (by simp (disch := omega) [hv, hg, hrd]; exact rfl) ?_
  refine WDO.heavy1 tyOk extOk (k := ⟨hvCallF E 198 (opnds [(.tmp 16), (.tmp 19)])⟩) (v := .int .i64 ((t.count 0 : Nat) : Int)) (H2 := H) (by kernel_rfl) rfl (by kernel_rfl) ?_ ?_
  · have hc := cntE (c := 0) h
    have e0 : ((0 : UInt8).toNat : Int) = 0 := rfl
    rw [e0] at hc
    simp [hvCallF, callFA, hc]
  refine leD 1 [xM 20 4] ?_
  exact WDO.nilS (WD.ret (endR _ (by simp; rfl) ⟨rfl, rfl⟩))
theorem ord1_take {t : List UInt8} {i : Nat} {x : UInt8} (h : t[i]? = some x) : ord1 (t.take (i + 1)) = ord1 (t.take i) ++ (if x = 0 then [0, 255] else [x]) := by
  rw [List.take_add_one, h]
  exact ord1_snoc _ _
theorem ord1_take_le (t : List UInt8) (i : Nat) : (ord1 (t.take i)).length ≤ (ord1 t).length := by
  have : ord1 t = ord1 (t.take i) ++ ord1 (t.drop i) := by
    unfold ord1
    rw [← List.flatMap_append, List.take_append_drop]
  rw [this]; simp
set_option maxHeartbeats 1000000 in
theorem ordered_ok {H : AH} {v : AV} {t : List UInt8} (h : RdS H v t) (hl : t.length < 4294967296) :
    DC Tryz.prog .normal 131 (.cons v .nil) H fun v' H2 => OwnC 5 H2 H.next v' (ordB t) (ordB t).length ∧ Keep noB H H2 := by
  refine DC.of_wd (re := reTmp 2 reNil) tyOk Tryz.func131 (by kernel_rfl) rfl (by kernel_rfl) (by kernel_rfl) ?_
  rw [tl_nil, argsT_cons, argsT_nil]
  have hlen := h.len
  have hcl : (ordB t).length = t.length + t.count 0 + 2 := by rw [ordB_eq, List.length_append, ord1_len]; rfl
  have hcc := List.count_le_length (a := (0 : UInt8)) (l := t)
  generalize hcn : (ordB t).length = n at hcl ⊢
  refine WD.seqR ?_
  refine leD 1 [⟨lkMove (.const (.slice none 0 0)), (some 2), none⟩] ?_
  refine WDO.nilS (WD.seqR ?_)
  refine lkD 3 [xM 0 6, xN 6 7, xM 0 8] (by simp (disch := omega) [hlen]; exact rfl) ?_
  refine WDO.fresh1 tyOk (k := ⟨frSlice 1 (zerosA (.cons (.int .u8 0) .nil) 1) ⟨fill1 (.const (.int .u8 0)) 0 1 flEnd⟩ ⟨mkBy 5⟩⟩) (by kernel_rfl) rfl (by kernel_rfl) (v := .sl H.next 0 1 (some 1)) (x := bb 5 false [0]) ?_ ?_
  · have := leA_1 0
    simp at this
    simp [mkBy, this, bb]
  have k0 : Keep noB H (H.new (bb 5 false [0])) := Keep.new _ _ _
  refine WDO.callF (g := 169) rfl rfl rfl (by kernel_rfl) (l := .cons v (.cons (.sl H.next 0 1 (some 1)) .nil)) (by simp) (count_ok (h.keep k0 fun _ _ => id) (.bb' rfl (by simp) (get_new_same _ _))) fun u H2 ⟨hu, hH⟩ => ?_
  subst hu
  subst hH
  generalize H.new (bb 5 false [0]) = H1 at k0 ⊢
  have gn : (t.length : Int) + ((t.count 0 : Nat) : Int) + 2 = (n : Int) := by omega
  refine lkD 2 [xB akAdd 7 10 11, xC akAdd 11 2 12] (by simp (disch := omega) [gn]; exact rfl) ?_
  refine WDO.fresh1 tyOk (k := ⟨frMake E 5 1 (.const (.int .i64 0)) (.tmp 12)⟩) (by kernel_rfl) rfl (by kernel_rfl) (v := .sl H1.next 0 0 (some n)) (x := bb 5 false (List.replicate n 0)) ?_ ?_
  · dsimp only
    refine frMake_u8 (E := E) (e := 5) (bytes := 1) (l := .const (.int .i64 0)) (c := .tmp 12) (n := 0) (m := n) (mkZero5 _) ?_ ?_ (Nat.zero_le _) (by omega) (by omega)
    · simp
    · simp
  have o0 := OwnC.new 5 H1 (lo := H.next) k0.1 n
  have k1 : Keep noB H (H1.new (bb 5 false (List.replicate n 0))) := k0.trans (Keep.new _ _ _)
  generalize H1.new (bb 5 false (List.replicate n 0)) = H2 at o0 k1 ⊢
  generalize AV.sl H1.next 0 0 (some n) = s0 at o0 ⊢
  refine leD 1 [xM 13 3] ?_
  refine WDO.nilS (WD.seq (WD.seqR ?_))
  refine lkD 3 [xM 0 14, xN 14 15, xK 0 16] (by simp (disch := omega) [hlen]; exact rfl) ?_
  refine WDO.nilS ?_
  refine WD.forR (σ := Nat × AV) (fun s => [(14, v), (15, .int .i64 (t.length : Int)), (3, s.2), (16, .int .i64 (s.1 : Int))]) (fun s H' => s.1 ≤ t.length ∧ OwnC 5 H' H.next s.2 (ord1 (t.take s.1)) n ∧ Keep noB H H') (fun s => t.length - s.1) (0, s0) ⟨Nat.zero_le _, by simpa [ord1] using o0, k1⟩ (by simp) ?_
  rintro ⟨i, c⟩ H' ⟨hi, ho, hk⟩
  simp only at hi ho
  have hr := h.keep hk fun _ _ => id
  have hle := ord1_take_le t i
  have hol := ord1_len t
  refine leD 1 [xB akLss 16 15 17] ?_
  refine WDO.nil ⟨decide (i < t.length), _, rfl, by simp, fun hc => ?_, fun hc => ?_⟩
  · have hc : i = t.length := by have := of_decide_eq_false hc; omega
    subst hc
    rw [List.take_of_length_le (Nat.le_refl _)] at ho
    have k3 : Keep noB H' (H'.new (bb 5 false [0, 1])) := Keep.new _ _ _
    obtain ⟨v1, H3, a1, a2, a3, a4, _⟩ := (ho.keep k3 fun _ _ => id).app (m := [0, 1]) (x := .sl H'.next 0 2 (some 2)) (.bb' rfl (by simp) (get_new_same _ _)) (by simp) (by simp; omega) (by omega)
    refine WD.seqR ?_
    refine leD 1 [xM 3 30] ?_
    refine WDO.fresh1 tyOk (k := ⟨frSlice 2 (zerosA (.cons (.int .u8 0) .nil) 2) ⟨fill1 (.const (.int .u8 0)) 0 1 ⟨fill1 (.const (.int .u8 1)) 1 1 flEnd⟩⟩ ⟨mkBy 5⟩⟩) (by kernel_rfl) rfl (by kernel_rfl) (v := .sl H'.next 0 2 (some 2)) (x := bb 5 false [0, 1]) ?_ ?_
    · have := leA_bytes [0, 1]
      simp at this
      simp [mkBy, this, bb]
    refine WDO.heavy1 tyOk extOk (k := ⟨hvAppend ⟨grownBy 5⟩ 1 (.tmp 30) (.tmp 31)⟩) (by kernel_rfl) rfl (by kernel_rfl) (by simp; exact a1) ?_
    refine leD 1 [xM 32 2] ?_
    refine WDO.nilS (WD.ret (endR _ (by simp; rfl) ?_))
    have e : ordB t = ord1 t ++ [0, 1] := ordB_eq t
    refine ⟨by rw [e]; exact a2, (hk.trans k3).trans' a3 fun b hb e => by have := (ho.low e).1; omega⟩
  · have hc : i < t.length := of_decide_eq_true hc
    have hx : t[i]? = some (t[i]'hc) := List.getElem?_eq_getElem _
    generalize t[i]'hc = x at hx
    obtain ⟨b, off, cap, o, hv, hbn, hg, hby⟩ := hr.pos (by omega)
    have hrd := hby i x hx
    have ht := ord1_take hx
    have hle2 := ord1_take_le t (i + 1)
    have htl := congrArg List.length ht
    refine WD.seqR ?_
    refine lkD 3 [xI 1 14 16 18, xL 18 19, xM 19 5] (by simp (disch := omega) [hv, hg, hrd, hc]; exact rfl) ?_
    refine WDO.nilS (WD.seqR ?_)
    refine leD 2 [xM 3 20, xM 5 21] ?_
    by_cases h0 : x = 0
    · subst h0
      rw [if_pos rfl] at ht htl
      simp only [List.length_append, List.length_cons, List.length_nil] at htl
      obtain ⟨v1, H3, a1, a2, a3, a4⟩ := ho.push 0 (by omega) (by omega)
      have k3 : Keep noB H H3 := hk.trans' a3 fun b hb e => by have := (ho.low e).1; omega
      obtain ⟨v2, H4, b1, b2, b3, b4⟩ := a2.push 255 (by simp; omega) (by omega)
      have k4 : Keep noB H H4 := k3.trans' b3 fun b hb e => by have := (a2.low e).1; omega
      refine WDO.fresh1 tyOk (k := ⟨frSlice 1 (zerosA (.cons (.int .u8 0) .nil) 1) ⟨fill1 (.tmp 21) 0 1 flEnd⟩ ⟨mkBy 5⟩⟩) (by kernel_rfl) rfl (by kernel_rfl) (v := .sl H'.next 0 1 (some 1)) (x := bb 5 false [0]) ?_ ?_
      · have := leA_1 0
        simp at this
        simp [mkBy, this, bb]
      refine WDO.heavy1 tyOk extOk (k := ⟨hvAppend ⟨grownBy 5⟩ 1 (.tmp 20) (.tmp 22)⟩) (by kernel_rfl) rfl (by kernel_rfl) (by simp; exact a1) ?_
      refine leD 1 [xM 23 3] ?_
      refine WDO.nilS (WD.seqR ?_)
      refine leD 2 [xM 5 24, ⟨⟨binInt akEql (.tmp 24) (.const (.int .u8 0))⟩, (some 25), none⟩] ?_
      refine WDO.nilS (WD.cond (t := true) (by simp) (fun _ => WD.region ?_) (by simp))
      refine leD 1 [xM 3 26] ?_
      refine WDO.fresh1 tyOk (k := ⟨frSlice 1 (zerosA (.cons (.int .u8 0) .nil) 1) ⟨fill1 (.const (.int .u8 255)) 0 1 flEnd⟩ ⟨mkBy 5⟩⟩) (by kernel_rfl) rfl (by kernel_rfl) (v := .sl H3.next 0 1 (some 1)) (x := bb 5 false [255]) ?_ ?_
      · have := leA_1 255
        simp at this
        simp [mkBy, this, bb]
      refine WDO.heavy1 tyOk extOk (k := ⟨hvAppend ⟨grownBy 5⟩ 1 (.tmp 26) (.tmp 27)⟩) (by kernel_rfl) rfl (by kernel_rfl) (by simp; exact b1) ?_
      refine leD 1 [xM 28 3] ?_
      refine WDO.nil ?_
      refine leD 2 [xC akAdd 16 1 29, xM 29 16] ?_
      refine WDO.nil ⟨rfl, (i + 1, v2), _, rfl, by simp [hv], ⟨by simp only; omega, ?_, k4⟩, by simp only; omega⟩
      simp only
      rw [ht, show ([0, 255] : List UInt8) = [0] ++ [255] from rfl, ← List.append_assoc]
      exact b2
    · rw [if_neg h0] at ht htl
      simp only [List.length_append, List.length_cons, List.length_nil] at htl
      have h0' : ¬ ((x.toNat : Nat) : Int) = 0 := fun e => h0 ((u8_zero x).1 e)
      have h0'' : ¬ x.toNat = 0 := fun e => h0' (by omega)
      obtain ⟨v1, H3, a1, a2, a3, a4⟩ := ho.push x (by omega) (by omega)
      have k3 : Keep noB H H3 := hk.trans' a3 fun b hb e => by have := (ho.low e).1; omega
      refine WDO.fresh1 tyOk (k := ⟨frSlice 1 (zerosA (.cons (.int .u8 0) .nil) 1) ⟨fill1 (.tmp 21) 0 1 flEnd⟩ ⟨mkBy 5⟩⟩) (by kernel_rfl) rfl (by kernel_rfl) (v := .sl H'.next 0 1 (some 1)) (x := bb 5 false [x]) ?_ ?_
      · simp [mkBy, leA_1, bb]
      refine WDO.heavy1 tyOk extOk (k := ⟨hvAppend ⟨grownBy 5⟩ 1 (.tmp 20) (.tmp 22)⟩) (by kernel_rfl) rfl (by kernel_rfl) (by simp; exact a1) ?_
      refine leD 1 [xM 23 3] ?_
      refine WDO.nilS (WD.seqR ?_)
      refine lkD 2 [xM 5 24, ⟨⟨binInt akEql (.tmp 24) (.const (.int .u8 0))⟩, (some 25), none⟩] (by simp (disch := omega) [h0'']; exact rfl) ?_
      refine cdF ?_
      refine leD 2 [xC akAdd 16 1 29, xM 29 16] ?_
      refine WDO.nil ⟨rfl, (i + 1, v1), _, rfl, by simp [hv], ⟨by simp only; omega, ?_, k3⟩, by simp only; omega⟩
      simp only
      rw [ht]
      exact a2
end
end Go.Proofs.YtfgipbjaapkdlaaGreatDoor
