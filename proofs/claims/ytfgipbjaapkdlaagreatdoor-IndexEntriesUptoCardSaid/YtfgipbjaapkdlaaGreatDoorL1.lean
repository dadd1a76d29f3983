/- A part of the proof of this seat's statement. Conditions: in each theorem. -/
import Derived.Test.YtfgipbjaapkdlaaGreatDoorK2
import Derived.Test.YtfgipbjaapkdlaaGreatDoorZ9
namespace Go.Proofs.YtfgipbjaapkdlaaGreatDoor
open Go.Xq
noncomputable section
abbrev qM1_1 : List Lk := [xM 4 5, yM 0 6 5 true, ⟨⟨ixStr (.tmp 6) (.const (.int .i64 0))⟩, (some 7), (some (5, true))⟩, ⟨⟨binInt akGeq (.tmp 7) (.const (.int .u8 97))⟩, (some 8), (some (5, true))⟩, xA 5 8 9 false, xM 9 10, yM 0 11 10 true, ⟨⟨ixStr (.tmp 11) (.const (.int .i64 0))⟩, (some 12), (some (10, true))⟩, ⟨⟨binInt akLeq (.tmp 12) (.const (.int .u8 122))⟩, (some 13), (some (10, true))⟩, xA 10 13 14 false, xM 14 15, yM 0 16 15 true, ⟨⟨binStr skNeq (.tmp 16) (.const (.string ⟨#[107, 101, 121]⟩))⟩, (some 17), (some (15, true))⟩, xA 15 17 18 false, xM 18 2]
abbrev qM1_2 : List Lk := [xM 0 3, ⟨⟨binInt akGeq (.tmp 3) (.const (.int .u8 97))⟩, (some 4), none⟩, xM 4 5, yM 0 6 5 true, ⟨⟨binInt akLeq (.tmp 6) (.const (.int .u8 122))⟩, (some 7), (some (5, true))⟩, xA 5 7 8 false, xM 8 9, yM 0 10 9 false, ⟨⟨binInt akGeq (.tmp 10) (.const (.int .u8 48))⟩, (some 11), (some (9, false))⟩, yM 11 12 9 false, yM 0 13 12 true, ⟨⟨binInt akLeq (.tmp 13) (.const (.int .u8 57))⟩, (some 14), (some (12, true))⟩, yA 12 14 15 false 9 false, xP 9 15 16 true, xM 16 17, yM 0 18 17 false, ⟨⟨binInt akEql (.tmp 18) (.const (.int .u8 45))⟩, (some 19), (some (17, false))⟩, xP 17 19 20 true, xM 20 21, yM 0 22 21 false, ⟨⟨binInt akEql (.tmp 22) (.const (.int .u8 95))⟩, (some 23), (some (21, false))⟩, xP 21 23 24 true, xM 24 25, yM 0 26 25 false, ⟨⟨binInt akEql (.tmp 26) (.const (.int .u8 46))⟩, (some 27), (some (25, false))⟩, xP 25 27 28 true, xM 28 2]
abbrev qM1_3 : List Lk := [xM 0 17, xS 17 18, xC akGeq 18 1 19, xM 19 20, yM 0 21 20 true, ⟨⟨lenStr (.tmp 21)⟩, (some 22), (some (20, true))⟩, yM 1 23 20 true, yB akLeq 22 23 24 20 true, xA 20 24 25 false, xM 25 4]
abbrev qM1_4 : List Lk := [xM 0 42, ⟨⟨binStr skNeq (.tmp 42) (.const (.string ⟨#[]⟩))⟩, (some 43), none⟩, xM 43 44, yM 0 45 44 true, ⟨⟨lenStr (.tmp 45)⟩, (some 46), (some (44, true))⟩, yM 1 47 44 true, yB akLeq 46 47 48 44 true, xA 44 48 49 false, xM 49 4]
abbrev qM1_5 : List Lk := [xM 6 15, ⟨⟨binInt akLss (.tmp 15) (.const (.int .u8 97))⟩, (some 16), none⟩, xM 16 17, yM 6 18 17 false, ⟨⟨binInt akGtr (.tmp 18) (.const (.int .u8 122))⟩, (some 19), (some (17, false))⟩, xP 17 19 20 true, xM 20 21, yM 6 22 21 true, ⟨⟨binInt akLss (.tmp 22) (.const (.int .u8 48))⟩, (some 23), (some (21, true))⟩, yM 23 24 21 true, yM 6 25 24 false, ⟨⟨binInt akGtr (.tmp 25) (.const (.int .u8 57))⟩, (some 26), (some (24, false))⟩, yP 24 26 27 true 21 true, xA 21 27 28 false, xM 28 29, yM 6 30 29 true, ⟨⟨binInt akNeq (.tmp 30) (.const (.int .u8 45))⟩, (some 31), (some (29, true))⟩, xA 29 31 32 false, xM 32 33, yM 6 34 33 true, ⟨⟨binInt akNeq (.tmp 34) (.const (.int .u8 95))⟩, (some 35), (some (33, true))⟩, xA 33 35 36 false, xM 36 37, yM 6 38 37 true, ⟨⟨binInt akNeq (.tmp 38) (.const (.int .u8 46))⟩, (some 39), (some (37, true))⟩, xA 37 39 40 false]
set_option maxHeartbeats 1000000 in
theorem common_ok {H : AH} {c : UInt8} : DC Tryz.prog .normal 164 (.cons (.int .u8 (c.toNat : Int)) .nil) H fun v' H2 => v' = .bool (commB c) ∧ H2 = H := by
 refine DC.of_wd (re := reTmp 2 reNil) tyOk Tryz.func164 (by kernel_rfl) rfl (by kernel_rfl) (by kernel_rfl) ?_
 rw [tl_nil, argsT_cons, argsT_nil]
 refine WD.seqR ?_
 refine leD 1 [xZ false 2] ?_
 refine WDO.nilS (WD.seqR ?_)
 have hb : commB c = (decide (97 ≤ c.toNat ∧ c.toNat ≤ 122) || decide (48 ≤ c.toNat ∧ c.toNat ≤ 57) || decide (c.toNat = 45) || decide (c.toNat = 95) || decide (c.toNat = 46)) := rfl
 generalize hm : c.toNat = m at hb ⊢
 by_cases h1 : 97 ≤ m
 ·by_cases h2 : m ≤ 122
  ·refine lkD 27 qM1_2 (by simp (disch := omega) [decF]; exact rfl) ?_
   exact WDO.nilS (WD.ret (endR _ (by simp; rfl) ⟨by rw [hb]; simp [h1, h2]; rfl, rfl⟩))
  ·refine lkD 27 qM1_2 (by simp (disch := omega) [decT, decF]; exact rfl) ?_
   refine WDO.nilS (WD.ret (endR _ (by simp; rfl) ⟨?_, rfl⟩))
   rw [hb, decF (p := 97 ≤ m ∧ m ≤ 122) (by omega), decF (p := 48 ≤ m ∧ m ≤ 57) (by omega), decF (p := m = 45) (by omega), decF (p := m = 95) (by omega), decF (p := m = 46) (by omega)]; rfl
 ·by_cases h2 : 48 ≤ m ∧ m ≤ 57
  ·refine lkD 27 qM1_2 (by simp (disch := omega) [decT, decF]; exact rfl) ?_
   exact WDO.nilS (WD.ret (endR _ (by simp; rfl) ⟨by rw [hb, decT (p := 48 ≤ m ∧ m ≤ 57) h2]; simp; rfl, rfl⟩))
  ·have hx : (decide (97 ≤ m ∧ m ≤ 122) || decide (48 ≤ m ∧ m ≤ 57)) = false := by rw [decF (p := 97 ≤ m ∧ m ≤ 122) (by omega), decF h2]; rfl
   rw [hx] at hb
   by_cases h3 : m = 45
   ·refine lkD 27 qM1_2 (by simp (disch := omega) [decT]; exact rfl) ?_
    exact WDO.nilS (WD.ret (endR _ (by simp; rfl) ⟨by rw [hb]; simp [h3]; rfl, rfl⟩))
   ·by_cases h4 : m = 95
    ·refine lkD 27 qM1_2 (by simp (disch := omega) [decT, decF]; exact rfl) ?_
     exact WDO.nilS (WD.ret (endR _ (by simp; rfl) ⟨by rw [hb]; simp [h4]; rfl, rfl⟩))
    ·by_cases h5 : m = 46
     ·refine lkD 27 qM1_2 (by simp (disch := omega) [decT, decF]; exact rfl) ?_
      exact WDO.nilS (WD.ret (endR _ (by simp; rfl) ⟨by rw [hb]; simp [h5]; rfl, rfl⟩))
     ·by_cases h6 : 48 ≤ m
      ·refine lkD 27 qM1_2 (by simp (disch := omega) [decT, decF]; exact rfl) ?_
       exact WDO.nilS (WD.ret (endR _ (by simp; rfl) ⟨by rw [hb]; simp [h3, h4, h5]; rfl, rfl⟩))
      ·refine lkD 27 qM1_2 (by simp (disch := omega) [decT, decF]; exact rfl) ?_
       exact WDO.nilS (WD.ret (endR _ (by simp; rfl) ⟨by rw [hb]; simp [h3, h4, h5]; rfl, rfl⟩))
theorem named19_ok {H : AH} {l : List UInt8} {m : Nat} (hl : l.length < 17179869184) (hm : m < 17179869184) : DC Tryz.prog .normal 122 (.cons (sb l) (.cons (.int .i64 (m : Int)) .nil)) H fun v' H2 => v' = .bool (nameB l m) ∧ H2 = H := by
 refine DC.of_wd (re := reTmp 4 reNil) tyOk Tryz.func122 (by kernel_rfl) rfl (by kernel_rfl) (by kernel_rfl) ?_
 rw [tl_nil, argsT_cons, argsT_cons, argsT_nil]
 refine WD.seqR ?_
 refine leD 1 [xZ false 4] ?_
 refine WDO.nilS (WD.seq (WD.seqR ?_))
 refine leD 1 [xK 0 5] ?_
 refine WDO.nilS (WD.forE (σ := Nat) (fun i => [(0, sb l), (1, .int .i64 (m : Int)), (5, .int .i64 (i : Int))]) (fun i H' => i ≤ l.length ∧ (∀ (j : Nat) (x : UInt8), j < i → l[j]? = some x → commB x = true) ∧ H = H') (fun i => l.length - i) 0 ⟨Nat.zero_le _, fun j x h => by omega, rfl⟩ (by simp) ?_)
 rintro i _ ⟨hi, hall, rfl⟩
 refine leD 4 [xM 5 6, xM 0 7, xS 7 8, xB akLss 6 8 9] ?_
 refine WDO.nil ⟨decide (i < l.length), _, rfl, by simp, fun hc => ?_, fun hc => ?_⟩
 ·have hc : i = l.length := by have := of_decide_eq_false hc; omega
  have hn : nameB l m = (decide (1 ≤ l.length) && decide (l.length ≤ m)) := nameB_all fun j x hx => hall j x (by have := get_lt hx; omega) hx
  refine WD.seqR ?_
  by_cases h1 : 1 ≤ l.length
  ·by_cases h2 : l.length ≤ m
   ·refine lkD 10 qM1_3 (by simp (disch := omega) [decF]; exact rfl) ?_
    exact WDO.nilS (WD.ret (endR _ (by simp; rfl) ⟨by rw [hn, decT h1, decT h2]; rfl, rfl⟩))
   ·refine lkD 10 qM1_3 (by simp (disch := omega) [decT, decF]; exact rfl) ?_
    exact WDO.nilS (WD.ret (endR _ (by simp; rfl) ⟨by rw [hn, decT h1, decF h2]; rfl, rfl⟩))
  ·refine lkD 10 qM1_3 (by simp (disch := omega) [decT, decF]; exact rfl) ?_
   exact WDO.nilS (WD.ret (endR _ (by simp; rfl) ⟨by rw [hn, decF h1]; rfl, rfl⟩))
 ·have hc : i < l.length := of_decide_eq_true hc
  have hx : l[i]? = some (l[i]'hc) := List.getElem?_eq_getElem _
  generalize l[i]'hc = x at hx
  have hb := byte_at hx
  refine WD.seqR ?_
  refine lkD 3 [xM 0 12, xM 5 13, ⟨⟨ixStr (.tmp 12) (.tmp 13)⟩, (some 14), none⟩] (by simp (disch := omega) [hb]; exact rfl) ?_
  refine WDO.callF (g := 164) rfl rfl rfl (by kernel_rfl) (l := .cons (.int .u8 (x.toNat : Int)) .nil) (by simp) common_ok fun u H2 ⟨hu, hH⟩ => ?_
  subst hu
  subst hH
  cases hcb : commB x with
  | false =>
   refine leD 1 [xU 15 16] ?_
   refine cdT ?_
   refine leD 1 [xZ false 4] ?_
   exact WDO.nilS (WD.ret (endR _ (by simp; rfl) ⟨by rw [nameB_bad hx hcb]; rfl, rfl⟩))
  | true =>
   refine leD 1 [xU 15 16] ?_
   refine cdF ?_
   refine leD 3 [xM 5 10, xC akAdd 10 1 11, xM 11 5] ?_
   refine WDO.nil ⟨rfl, i + 1, _, rfl, by simp, ⟨by omega, fun j y hj hy => ?_, rfl⟩, by omega⟩
   rcases Nat.lt_or_ge j i with h | h
   ·exact hall j y h hy
   ·obtain rfl : j = i := by omega
    rw [hx] at hy; cases hy; exact hcb
theorem isShort_ok {H : AH} {l : List UInt8} (hl : l.length < 17179869184) : DC Tryz.prog .normal 82 (.cons (sb l) .nil) H fun v' H2 => v' = .bool (nameB l 30) ∧ H2 = H := by
 refine DC.of_wd (re := reTmp 2 reNil) tyOk Tryz.func82 (by kernel_rfl) rfl (by kernel_rfl) (by kernel_rfl) ?_
 rw [tl_nil, argsT_cons, argsT_nil]
 refine WD.seqR ?_
 refine leD 1 [xZ false 2] ?_
 refine WDO.nilS (WD.seqR ?_)
 refine leD 1 [xM 0 3] ?_
 refine WDO.callF (g := 122) rfl rfl rfl (by kernel_rfl) (l := .cons (sb l) (.cons (.int .i64 30) .nil)) (by simp) (named19_ok (m := 30) hl (by omega)) fun u H2 ⟨hu, hH⟩ => ?_
 subst hu
 subst hH
 refine leD 1 [xM 4 2] ?_
 exact WDO.nilS (WD.ret (endR _ (by simp; rfl) ⟨rfl, rfl⟩))
theorem fieldB_name {l : List UInt8} (h : nameB l 64 = false) : fieldB l = false := by simp [fieldB, h]
theorem fieldB_cons {c : UInt8} {r : List UInt8} (h : nameB (c :: r) 64 = true) : fieldB (c :: r) = (decide (97 ≤ c.toNat ∧ c.toNat ≤ 122) && decide (c :: r ≠ keyL)) := by simp [fieldB, h]
theorem nameB_pos {l : List UInt8} {m : Nat} (h : nameB l m = true) : ∃ c r, l = c :: r := by
 cases l with
 | nil => simp [nameB] at h
 | cons c r => exact ⟨c, r, rfl⟩
theorem isField19_ok {H : AH} {l : List UInt8} (hl : l.length < 17179869184) : DC Tryz.prog .normal 83 (.cons (sb l) .nil) H fun v' H2 => v' = .bool (fieldB l) ∧ H2 = H := by
 refine DC.of_wd (re := reTmp 2 reNil) tyOk Tryz.func83 (by kernel_rfl) rfl (by kernel_rfl) (by kernel_rfl) ?_
 rw [tl_nil, argsT_cons, argsT_nil]
 refine WD.seqR ?_
 refine leD 1 [xZ false 2] ?_
 refine WDO.nilS (WD.seqR ?_)
 refine leD 1 [xM 0 3] ?_
 refine WDO.callF (g := 122) rfl rfl rfl (by kernel_rfl) (l := .cons (sb l) (.cons (.int .i64 64) .nil)) (by simp) (named19_ok (m := 64) hl (by omega)) fun u H2 ⟨hu, hH⟩ => ?_
 subst hu
 subst hH
 cases hn : nameB l 64 with
 | false =>
  refine leD 15 qM1_1 ?_
  exact WDO.nilS (WD.ret (endR _ (by simp; rfl) ⟨by rw [fieldB_name hn]; rfl, rfl⟩))
 | true =>
  obtain ⟨c, r, rfl⟩ := nameB_pos hn
  have hb := byte_at (l := c :: r) (i := 0) rfl
  have hk : keyL = [107, 101, 121] := rfl
  have hp : 0 < (c :: r).length := by simp
  rw [fieldB_cons hn]
  generalize hm : c.toNat = m at hb ⊢
  generalize hl2 : c :: r = l at hb hp ⊢
  by_cases h1 : 97 ≤ m
  ·by_cases h2 : m ≤ 122
   ·by_cases h3 : l = keyL
    ·have h3' : l = [107, 101, 121] := h3
     refine lkD 15 qM1_1 (by simp (disch := omega) [h3']; exact rfl) ?_
     exact WDO.nilS (WD.ret (endR _ (by simp; rfl) ⟨by simp [h1, h2, h3]; rfl, rfl⟩))
    ·have h3' : skNeq.f l.length (leNat l) 3 (leNat [107, 101, 121]) = some (.bool true) := by
      have := skNeq_f l [107, 101, 121]
      rw [decF (p := l = [107, 101, 121]) h3] at this
      exact this
     refine lkD 15 qM1_1 (by simp (disch := omega) [decF, hb, h3']; exact rfl) ?_
     exact WDO.nilS (WD.ret (endR _ (by simp; rfl) ⟨by simp [h1, h2, h3]; rfl, rfl⟩))
   ·refine lkD 15 qM1_1 (by simp (disch := omega) [decT, decF, hb]; exact rfl) ?_
    exact WDO.nilS (WD.ret (endR _ (by simp; rfl) ⟨by simp [h1, h2]; rfl, rfl⟩))
  ·refine lkD 15 qM1_1 (by simp (disch := omega) [decT, hb]; exact rfl) ?_
   exact WDO.nilS (WD.ret (endR _ (by simp; rfl) ⟨by simp [h1]; rfl, rfl⟩))
theorem named_ok {H : AH} {l : List UInt8} {m : Nat} (hl : l.length < 17179869184) (hm : m < 17179869184) : DC Tryz.prog .normal 47 (.cons (sb l) (.cons (.int .i64 (m : Int)) .nil)) H fun v' H2 => v' = .bool (nameB l m) ∧ H2 = H := by
 refine DC.of_wd (re := reTmp 4 reNil) tyOk Tryz.func47 (by kernel_rfl) rfl (by kernel_rfl) (by kernel_rfl) ?_
 rw [tl_nil, argsT_cons, argsT_cons, argsT_nil]
 refine WD.seqR ?_
 refine leD 1 [xZ false 4] ?_
 refine WDO.nilS (WD.seq (WD.seqR ?_))
 refine leD 3 [xM 0 7, xS 7 8, xK 0 9] ?_
 refine WDO.nilS (WD.forR (σ := Nat) (fun i => [(0, sb l), (1, .int .i64 (m : Int)), (8, .int .i64 (l.length : Int)), (9, .int .i64 (i : Int))]) (fun i H' => i ≤ l.length ∧ (∀ (j : Nat) (x : UInt8), j < i → l[j]? = some x → commB x = true) ∧ H = H') (fun i => l.length - i) 0 ⟨Nat.zero_le _, fun j x h => by omega, rfl⟩ (by simp) ?_)
 rintro i _ ⟨hi, hall, rfl⟩
 refine leD 1 [xB akLss 9 8 10] ?_
 refine WDO.nil ⟨decide (i < l.length), _, rfl, by simp, fun hc => ?_, fun hc => ?_⟩
 ·have hc : i = l.length := by have := of_decide_eq_false hc; omega
  have hn : nameB l m = (decide (1 ≤ l.length) && decide (l.length ≤ m)) := nameB_all fun j x hx => hall j x (by have := get_lt hx; omega) hx
  refine WD.seqR ?_
  by_cases h1 : 1 ≤ l.length
  ·have h0 : ¬ l = [] := fun e => by rw [e] at h1; simp at h1
   have h3' : skNeq.f l.length (leNat l) 0 (leNat []) = some (.bool true) := by
    have := skNeq_f l []
    rw [decF h0] at this
    exact this
   by_cases h2 : l.length ≤ m
   ·refine lkD 9 qM1_4 (by simp (disch := omega) [decF, h3']; exact rfl) ?_
    exact WDO.nilS (WD.ret (endR _ (by simp; rfl) ⟨by rw [hn, decT h1, decT h2]; rfl, rfl⟩))
   ·refine lkD 9 qM1_4 (by simp (disch := omega) [decT, decF, h3']; exact rfl) ?_
    exact WDO.nilS (WD.ret (endR _ (by simp; rfl) ⟨by rw [hn, decT h1, decF h2]; rfl, rfl⟩))
  ·have h0 : l = [] := List.length_eq_zero_iff.1 (by omega)
   subst h0
   have h3' : skNeq.f 0 (leNat []) 0 (leNat []) = some (.bool false) := rfl
   refine lkD 9 qM1_4 (by simp (disch := omega) [h3']; exact rfl) ?_
   exact WDO.nilS (WD.ret (endR _ (by simp; rfl) ⟨by rw [hn]; rfl, rfl⟩))
 ·have hc : i < l.length := of_decide_eq_true hc
  have hx : l[i]? = some (l[i]'hc) := List.getElem?_eq_getElem _
  generalize l[i]'hc = x at hx
  have hb := byte_at hx
  refine WD.seqR ?_
  refine leD 2 [xM 9 11, xM 11 5] ?_
  refine WDO.nilS (WD.seqR ?_)
  refine lkD 4 [xM 0 12, xM 5 13, ⟨⟨ixStr (.tmp 12) (.tmp 13)⟩, (some 14), none⟩, xM 14 6] (by simp (disch := omega) [hb]; exact rfl) ?_
  refine WDO.nilS (WD.seqR ?_)
  have hcb : commB x = (decide (97 ≤ x.toNat ∧ x.toNat ≤ 122) || decide (48 ≤ x.toNat ∧ x.toNat ≤ 57) || decide (x.toNat = 45) || decide (x.toNat = 95) || decide (x.toNat = 46)) := rfl
  have nx : commB x = true → i + 1 ≤ l.length ∧ (∀ (j : Nat) (x : UInt8), j < i + 1 → l[j]? = some x → commB x = true) ∧ H = H := fun hcb => by
   refine ⟨by omega, fun j y hj hy => ?_, rfl⟩
   rcases Nat.lt_or_ge j i with h | h
   ·exact hall j y h hy
   ·obtain rfl : j = i := by omega
    rw [hx] at hy; cases hy; exact hcb
  have bad : commB x = false → nameB l m = false := nameB_bad hx
  generalize hq : x.toNat = q at hcb ⊢
  by_cases h1 : 97 ≤ q ∧ q ≤ 122
  ·have ht : commB x = true := by rw [hcb, decT h1]; rfl
   obtain ⟨h1a, h1b⟩ := h1
   refine lkD 26 qM1_5 (by simp (disch := omega) [decT, decF]; exact rfl) ?_
   refine cdF ?_
   refine leD 2 [xC akAdd 9 1 41, xM 41 9] ?_
   exact WDO.nil ⟨rfl, i + 1, _, rfl, by simp, nx ht, by omega⟩
  ·rw [decF h1, Bool.false_or] at hcb
   by_cases h2 : 48 ≤ q ∧ q ≤ 57
   ·have ht : commB x = true := by rw [hcb, decT h2]; rfl
    obtain ⟨h2a, h2b⟩ := h2
    refine lkD 26 qM1_5 (by simp (disch := omega) [decT, decF]; exact rfl) ?_
    refine cdF ?_
    refine leD 2 [xC akAdd 9 1 41, xM 41 9] ?_
    exact WDO.nil ⟨rfl, i + 1, _, rfl, by simp, nx ht, by omega⟩
   ·rw [decF h2, Bool.false_or] at hcb
    by_cases h3 : q = 45 ∨ q = 95 ∨ q = 46
    ·have ht : commB x = true := by rw [hcb]; rcases h3 with h | h | h <;> simp [h]
     rcases h3 with h3 | h3 | h3
     ·refine lkD 26 qM1_5 (by simp (disch := omega) [decT]; exact rfl) ?_
      refine cdF ?_
      refine leD 2 [xC akAdd 9 1 41, xM 41 9] ?_
      exact WDO.nil ⟨rfl, i + 1, _, rfl, by simp, nx ht, by omega⟩
     ·refine lkD 26 qM1_5 (by simp (disch := omega) [decT, decF]; exact rfl) ?_
      refine cdF ?_
      refine leD 2 [xC akAdd 9 1 41, xM 41 9] ?_
      exact WDO.nil ⟨rfl, i + 1, _, rfl, by simp, nx ht, by omega⟩
     ·refine lkD 26 qM1_5 (by simp (disch := omega) [decT, decF]; exact rfl) ?_
      refine cdF ?_
      refine leD 2 [xC akAdd 9 1 41, xM 41 9] ?_
      exact WDO.nil ⟨rfl, i + 1, _, rfl, by simp, nx ht, by omega⟩
    ·have hf : commB x = false := by rw [hcb, decF (p := q = 45) (by omega), decF (p := q = 95) (by omega), decF (p := q = 46) (by omega)]; rfl
     have hnf := bad hf
     have e1 : ¬ q = 45 := by omega
     have e2 : ¬ q = 95 := by omega
     have e3 : ¬ q = 46 := by omega
     by_cases g1 : q < 48
     ·refine lkD 26 qM1_5 (by simp (disch := omega) [decT, decF]; exact rfl) ?_
      refine cdT ?_
      refine leD 1 [xZ false 4] ?_
      exact WDO.nilS (WD.ret (endR _ (by simp; rfl) ⟨by rw [hnf]; rfl, rfl⟩))
     ·by_cases g2 : q < 97
      ·have g3 : 57 < q := by omega
       refine lkD 26 qM1_5 (by simp (disch := omega) [decT, decF]; exact rfl) ?_
       refine cdT ?_
       refine leD 1 [xZ false 4] ?_
       exact WDO.nilS (WD.ret (endR _ (by simp; rfl) ⟨by rw [hnf]; rfl, rfl⟩))
      ·have g3 : 122 < q := by omega
       refine lkD 26 qM1_5 (by simp (disch := omega) [decT, decF]; exact rfl) ?_
       refine cdT ?_
       refine leD 1 [xZ false 4] ?_
       exact WDO.nilS (WD.ret (endR _ (by simp; rfl) ⟨by rw [hnf]; rfl, rfl⟩))
theorem isField_ok {H : AH} {l : List UInt8} (hl : l.length < 17179869184) : DC Tryz.prog .normal 88 (.cons (sb l) .nil) H fun v' H2 => v' = .bool (fieldB l) ∧ H2 = H := by
 refine DC.of_wd (re := reTmp 2 reNil) tyOk Tryz.func88 (by kernel_rfl) rfl (by kernel_rfl) (by kernel_rfl) ?_
 rw [tl_nil, argsT_cons, argsT_nil]
 refine WD.seqR ?_
 refine leD 1 [xZ false 2] ?_
 refine WDO.nilS (WD.seqR ?_)
 refine leD 1 [xM 0 3] ?_
 refine WDO.callF (g := 47) rfl rfl rfl (by kernel_rfl) (l := .cons (sb l) (.cons (.int .i64 64) .nil)) (by simp) (named_ok (m := 64) hl (by omega)) fun u H2 ⟨hu, hH⟩ => ?_
 subst hu
 subst hH
 cases hn : nameB l 64 with
 | false =>
  refine leD 15 qM1_1 ?_
  exact WDO.nilS (WD.ret (endR _ (by simp; rfl) ⟨by rw [fieldB_name hn]; rfl, rfl⟩))
 | true =>
  obtain ⟨c, r, rfl⟩ := nameB_pos hn
  have hb := byte_at (l := c :: r) (i := 0) rfl
  have hk : keyL = [107, 101, 121] := rfl
  have hp : 0 < (c :: r).length := by simp
  rw [fieldB_cons hn]
  generalize hm : c.toNat = m at hb ⊢
  generalize hl2 : c :: r = l at hb hp ⊢
  by_cases h1 : 97 ≤ m
  ·by_cases h2 : m ≤ 122
   ·by_cases h3 : l = keyL
    ·have h3' : l = [107, 101, 121] := h3
     refine lkD 15 qM1_1 (by simp (disch := omega) [h3']; exact rfl) ?_
     exact WDO.nilS (WD.ret (endR _ (by simp; rfl) ⟨by simp [h1, h2, h3]; rfl, rfl⟩))
    ·have h3' : skNeq.f l.length (leNat l) 3 (leNat [107, 101, 121]) = some (.bool true) := by
      have := skNeq_f l [107, 101, 121]
      rw [decF (p := l = [107, 101, 121]) h3] at this
      exact this
     refine lkD 15 qM1_1 (by simp (disch := omega) [decF, hb, h3']; exact rfl) ?_
     exact WDO.nilS (WD.ret (endR _ (by simp; rfl) ⟨by simp [h1, h2, h3]; rfl, rfl⟩))
   ·refine lkD 15 qM1_1 (by simp (disch := omega) [decT, decF, hb]; exact rfl) ?_
    exact WDO.nilS (WD.ret (endR _ (by simp; rfl) ⟨by simp [h1, h2]; rfl, rfl⟩))
  ·refine lkD 15 qM1_1 (by simp (disch := omega) [decT, hb]; exact rfl) ?_
   exact WDO.nilS (WD.ret (endR _ (by simp; rfl) ⟨by simp [h1]; rfl, rfl⟩))
abbrev qM2_1 : List Lk := [xM 3 16, xC akGeq 16 194 17, xM 17 18, yM 3 19 18 true, yC akLss 19 224 20 18 true, xA 18 20 21 false, xM 21 15]
abbrev qM2_2 : List Lk := [xM 3 25, xC akGeq 25 224 26, xM 26 27, yM 3 28 27 true, yC akLss 28 240 29 27 true, xA 27 29 30 false, xM 30 24]
abbrev qM2_3 : List Lk := [xM 3 34, xC akGeq 34 240 35, xM 35 36, yM 3 37 36 true, yC akLss 37 245 38 36 true, xA 36 38 39 false, xM 39 33]
abbrev qM2_4 : List Lk := [xM 5 66, xM 6 67, xB akLss 66 67 68, xM 68 69, yM 5 70 69 false, yC akGtr 70 1114111 71 69 false, xP 69 71 72 true, xM 72 73, yM 5 74 73 false, yC akGeq 74 55296 75 73 false, yM 75 76 73 false, yM 5 77 76 true, yC akLeq 77 57343 78 76 true, yA 76 78 79 false 73 false, xP 73 79 80 true]
abbrev qM2_5 : List Lk := [xM 8 55, xC akLss 55 128 56, xM 56 57, yM 8 58 57 false, yC akGtr 58 191 59 57 false, xP 57 59 60 true]
def dv (l : List UInt8) (j : Nat) : Int := ((l.getD j 0).toNat : Int)
theorem dv_eq {l : List UInt8} {j : Nat} {x : UInt8} (h : l[j]? = some x) : dv l j = (x.toNat : Int) := by
 unfold dv; rw [List.getD_eq_getElem?_getD, h]; rfl
def ptN (p0 : Int) (l : List UInt8) : Nat → Int
 | 0 => p0
 | 1 => p0
 | i + 2 => 64 * ptN p0 l (i + 1) + dv l (i + 1) - 128
def Led (c : Nat) (n : Nat) (pt least : Int) : Prop :=
 (n = 2 ∧ 194 ≤ c ∧ c < 224 ∧ pt = (c : Int) - 192 ∧ least = 128) ∨ (n = 3 ∧ 224 ≤ c ∧ c < 240 ∧ pt = (c : Int) - 224 ∧ least = 2048) ∨ (n = 4 ∧ 240 ≤ c ∧ c < 245 ∧ pt = (c : Int) - 240 ∧ least = 65536)
theorem Led.lead {c n : Nat} {pt least : Int} (h : Led c n pt least) : (lead c).1 = n := by
 unfold Led at h; unfold Go.Xq.lead
 (repeat' split) <;> first | omega | (exfalso; omega)
theorem lead_in {c : Nat} (h : (lead c).1 ≠ 0) : 128 ≤ (lead c).2.1 ∧ (lead c).2.2 ≤ 191 := by
 unfold lead at h ⊢
 (repeat' split) <;> simp_all
theorem letterN_short {c : UInt8} {r : List UInt8} {n : Nat} {pt least : Int} (h : Led c.toNat n pt least) (hl : r.length + 1 < n) : letterN (c :: r) = 0 := by
 have h1 := h.lead
 have hc : ¬ c.toNat < 128 := by unfold Led at h; omega
 unfold letterN
 dsimp only
 rw [if_neg hc, if_pos (.inr (by omega))]
theorem letterN_cont {c : UInt8} {r : List UInt8} {n i : Nat} {pt least : Int} {x : UInt8} (h : Led c.toNat n pt least) (hi : 1 ≤ i) (hin : i < n) (hx : (c :: r)[i]? = some x) (hb : x.toNat < 128 ∨ 191 < x.toNat) : letterN (c :: r) = 0 := by
 have h1 := h.lead
 have hn4 : n ≤ 4 := by unfold Led at h; omega
 have hc : ¬ c.toNat < 128 := by unfold Led at h; omega
 have hin2 := lead_in (c := c.toNat) (by omega)
 unfold letterN
 dsimp only
 rw [if_neg hc]
 split
 ·rfl
 ·rw [if_neg]
  rintro ⟨g1, g2, g3⟩
  rw [h1] at g2 g3
  obtain ⟨k, rfl⟩ : ∃ k, i = k + 1 := ⟨i - 1, by omega⟩
  rw [List.getElem?_cons_succ] at hx
  match k, hx with
  | 0, hx => have := g1 x hx; omega
  | 1, hx => have := g2 (by omega) x hx; omega
  | 2, hx => have := g3 (by omega) x hx; omega
  | k + 3, hx => omega
theorem letterN_end {c : UInt8} {r : List UInt8} {n : Nat} {pt least : Int} (h : Led c.toNat n pt least) (hl : n ≤ r.length + 1) (hd : ∀ j, 1 ≤ j → j < n → 128 ≤ dv (c :: r) j ∧ dv (c :: r) j ≤ 191) :
  letterN (c :: r) = if ptN pt (c :: r) n < least ∨ 1114111 < ptN pt (c :: r) n ∨ (55296 ≤ ptN pt (c :: r) n ∧ ptN pt (c :: r) n ≤ 57343) then 0 else n := by
 have h1 := h.lead
 have hc : ¬ c.toNat < 128 := by unfold Led at h; omega
 have hr : ∀ (j : Nat) (x : UInt8), r[j]? = some x → dv (c :: r) (j + 1) = (x.toNat : Int) := fun j x hx => dv_eq (by rw [List.getElem?_cons_succ]; exact hx)
 have hlt : letterN (c :: r) = if (∀ d, r[0]? = some d → (lead c.toNat).2.1 ≤ d.toNat ∧ d.toNat ≤ (lead c.toNat).2.2) ∧ (3 ≤ n → ∀ d, r[1]? = some d → 128 ≤ d.toNat ∧ d.toNat ≤ 191) ∧ (4 ≤ n → ∀ d, r[2]? = some d → 128 ≤ d.toNat ∧ d.toNat ≤ 191) then n else 0 := by
  unfold letterN
  dsimp only
  have hn0 : n ≠ 0 := by unfold Led at h; omega
  rw [if_neg hc, if_neg (by rw [h1]; omega), h1]
 have h2nd : (∀ d, r[0]? = some d → (lead c.toNat).2.1 ≤ d.toNat ∧ d.toNat ≤ (lead c.toNat).2.2) ↔ ((lead c.toNat).2.1 : Int) ≤ dv (c :: r) 1 ∧ dv (c :: r) 1 ≤ ((lead c.toNat).2.2 : Int) := by
  have hn2 : 2 ≤ n := by unfold Led at h; omega
  have hx : r[0]? = some (r[0]'(by omega)) := List.getElem?_eq_getElem _
  generalize r[0]'_ = x at hx
  have : dv (c :: r) 1 = _ := hr 0 x hx
  rw [hx]
  constructor
  ·intro g; have := g x rfl; omega
  ·intro g d e; cases e; omega
 have c3 : (3 ≤ n → ∀ d, r[1]? = some d → 128 ≤ d.toNat ∧ d.toNat ≤ 191) := fun h3 d hd1 => by
  have : dv (c :: r) 2 = _ := hr 1 d hd1
  have := hd 2 (by omega) (by omega)
  omega
 have c4 : (4 ≤ n → ∀ d, r[2]? = some d → 128 ≤ d.toNat ∧ d.toNat ≤ 191) := fun h3 d hd1 => by
  have : dv (c :: r) 3 = _ := hr 2 d hd1
  have := hd 3 (by omega) (by omega)
  omega
 rw [hlt]
 have d1 := hd 1 (by omega) (by unfold Led at h; omega)
 have key : (∀ d, r[0]? = some d → (lead c.toNat).2.1 ≤ d.toNat ∧ d.toNat ≤ (lead c.toNat).2.2) ↔ ¬ (ptN pt (c :: r) n < least ∨ 1114111 < ptN pt (c :: r) n ∨ (55296 ≤ ptN pt (c :: r) n ∧ ptN pt (c :: r) n ≤ 57343)) := by
  rw [h2nd]
  generalize c.toNat = q at *
  unfold Led at h
  rcases h with ⟨rfl, g1, g2, rfl, rfl⟩ | ⟨rfl, g1, g2, rfl, rfl⟩ | ⟨rfl, g1, g2, rfl, rfl⟩
  ·have e : ptN ((q : Int) - 192) (c :: r) 2 = 64 * ((q : Int) - 192) + dv (c :: r) 1 - 128 := rfl
   rw [e]
   have hl2 : lead q = (2, 128, 191) := by unfold lead; rw [if_neg (by omega), if_pos (by omega)]
   rw [hl2]
   show (128 : Int) ≤ _ ∧ _ ≤ (191 : Int) ↔ _
   omega
  ·have e : ptN ((q : Int) - 224) (c :: r) 3 = 64 * (64 * ((q : Int) - 224) + dv (c :: r) 1 - 128) + dv (c :: r) 2 - 128 := rfl
   rw [e]
   have d2 := hd 2 (by omega) (by omega)
   by_cases k1 : q = 224
   ·have hl2 : lead q = (3, 160, 191) := by subst k1; rfl
    rw [hl2]
    show (160 : Int) ≤ _ ∧ _ ≤ (191 : Int) ↔ _
    omega
   ·by_cases k2 : q = 237
    ·have hl2 : lead q = (3, 128, 159) := by subst k2; rfl
     rw [hl2]
     show (128 : Int) ≤ _ ∧ _ ≤ (159 : Int) ↔ _
     omega
    ·have hl2 : lead q = (3, 128, 191) := by unfold lead; rw [if_neg (by omega), if_neg (by omega), if_neg k1, if_neg k2, if_pos (by omega)]
     rw [hl2]
     show (128 : Int) ≤ _ ∧ _ ≤ (191 : Int) ↔ _
     omega
  ·have e : ptN ((q : Int) - 240) (c :: r) 4 = 64 * (64 * (64 * ((q : Int) - 240) + dv (c :: r) 1 - 128) + dv (c :: r) 2 - 128) + dv (c :: r) 3 - 128 := rfl
   rw [e]
   have d2 := hd 2 (by omega) (by omega)
   have d3 := hd 3 (by omega) (by omega)
   by_cases k1 : q = 240
   ·have hl2 : lead q = (4, 144, 191) := by subst k1; rfl
    rw [hl2]
    show (144 : Int) ≤ _ ∧ _ ≤ (191 : Int) ↔ _
    omega
   ·by_cases k2 : q = 244
    ·have hl2 : lead q = (4, 128, 143) := by subst k2; rfl
     rw [hl2]
     show (128 : Int) ≤ _ ∧ _ ≤ (143 : Int) ↔ _
     omega
    ·have hl2 : lead q = (4, 128, 191) := by unfold lead; rw [if_neg (by omega), if_neg (by omega), if_neg (by omega), if_neg (by omega), if_neg (by omega), if_neg k1, if_pos (by omega)]
     rw [hl2]
     show (128 : Int) ≤ _ ∧ _ ≤ (191 : Int) ↔ _
     omega
 by_cases hk : ptN pt (c :: r) n < least ∨ 1114111 < ptN pt (c :: r) n ∨ (55296 ≤ ptN pt (c :: r) n ∧ ptN pt (c :: r) n ≤ 57343)
 ·rw [if_pos hk, if_neg]
  rintro ⟨g1, _⟩
  exact (key.1 g1) hk
 ·rw [if_neg hk, if_pos ⟨key.2 hk, c3, c4⟩]
theorem letterN_none {c : UInt8} {r : List UInt8} (h1 : 128 ≤ c.toNat) (h2 : c.toNat < 194 ∨ 245 ≤ c.toNat) : letterN (c :: r) = 0 := by
 unfold letterN
 dsimp only
 have : (lead c.toNat).1 = 0 := by
  unfold lead
  (repeat' split) <;> first | rfl | (exfalso; omega)
 rw [if_neg (by omega), if_pos (.inl this)]
set_option maxHeartbeats 1000000 in
theorem letter_ok {H : AH} {c : UInt8} {r : List UInt8} (hl : (c :: r).length < 17179869184) : DC Tryz.prog .normal 228 (.cons (sb (c :: r)) .nil) H fun v' H2 => v' = .int .i64 (letterN (c :: r) : Int) ∧ H2 = H := by
 refine DC.of_wd (re := reTmp 2 reNil) tyOk Tryz.func228 (by kernel_rfl) rfl (by kernel_rfl) (by kernel_rfl) ?_
 rw [tl_nil, argsT_cons, argsT_nil]
 have hb := byte_at (l := c :: r) (i := 0) rfl
 have hp : 0 < (c :: r).length := by simp
 have hcl := c.toNat_lt
 have gc : mkInt .i64 (c.toNat : Int) = some (.int .i64 (c.toNat : Int)) := mkInt_i64 (by omega) (by omega)
 obtain ⟨z, hz⟩ : ∃ z, z = (letterN (c :: r) : Int) := ⟨_, rfl⟩
 have hlen : (c :: r).length = r.length + 1 := rfl
 rw [← hz]
 refine WD.seqR ?_
 refine leD 1 [xK 0 2] ?_
 refine WDO.nilS (WD.seqR ?_)
 refine lkD 4 [xM 0 9, ⟨⟨ixStr (.tmp 9) (.const (.int .i64 0))⟩, (some 10), none⟩, ⟨⟨cvInt .i64 (.tmp 10)⟩, (some 11), none⟩, xM 11 3] (by simp (disch := omega) [hb, gc]; exact rfl) ?_
 refine WDO.nilS (WD.seqR ?_)
 refine leD 1 [xK 0 4] ?_
 refine WDO.nilS (WD.seqR ?_)
 refine leD 1 [xK 0 5] ?_
 refine WDO.nilS (WD.seqR ?_)
 refine leD 1 [xK 0 6] ?_
 refine WDO.nilS (WD.seq (WD.mono (Q := fun o => match o with
  | .nor T2 D2 H2 => D2 = [] ∧ H2 = H ∧ ∃ l' n pt least, T2 = tl l' ∧ Led c.toNat n pt least ∧ lsub [(0, sb (c :: r)), (4, .int .i64 (n : Int)), (5, .int .i64 pt), (6, .int .i64 least)] l'
  | o => OutP Tryz.prog (reTmp 2 reNil) (fun v' H2 => v' = .int .i64 z ∧ H2 = H) o) (WD.block ?_) fun o ho => ?_))
 ·refine WD.seqR ?_
  by_cases h1 : c.toNat < 128
  ·refine lkD 3 [xM 3 13, xC akLss 13 128 14, xM 14 12] (by simp (disch := omega) [decT]; exact rfl) ?_
   refine cdT ?_
   refine leD 1 [xK 1 2] ?_
   refine WDO.nilS (WD.ret (endR _ (by simp; rfl) ⟨?_, rfl⟩))
   rw [hz, letterN_ascii h1]; rfl
  ·refine lkD 3 [xM 3 13, xC akLss 13 128 14, xM 14 12] (by simp (disch := omega) [decF]; exact rfl) ?_
   refine WDO.nilS (WD.cond (t := false) (by simp) (by simp) fun _ => WD.seqR ?_)
   by_cases h2 : 194 ≤ c.toNat ∧ c.toNat < 224
   ·obtain ⟨h2a, h2b⟩ := h2
    refine lkD 7 qM2_1 (by simp (disch := omega) [decT, decF]; exact rfl) ?_
    refine cdT ?_
    refine leD 1 [xK 2 4] ?_
    refine WDO.nilS (WD.seqR ?_)
    refine leD 3 [xM 3 22, xC akSub 22 192 23, xM 23 5] ?_
    refine WDO.nilS (WD.region ?_)
    refine leD 1 [xK 128 6] ?_
    exact WDO.nil ⟨rfl, rfl, _, 2, _, _, rfl, .inl ⟨rfl, h2a, h2b, rfl, rfl⟩, by simp⟩
   ·by_cases h2' : 194 ≤ c.toNat
    ·refine lkD 7 qM2_1 (by simp (disch := omega) [decF]; exact rfl) ?_
     refine WDO.nilS (WD.cond (t := false) (by simp) (by simp) fun _ => WD.seqR ?_)
     by_cases h3 : c.toNat < 240
     ·refine lkD 7 qM2_2 (by simp (disch := omega) [decT, decF]; exact rfl) ?_
      refine cdT ?_
      refine leD 1 [xK 3 4] ?_
      refine WDO.nilS (WD.seqR ?_)
      refine leD 3 [xM 3 31, xC akSub 31 224 32, xM 32 5] ?_
      refine WDO.nilS (WD.region ?_)
      refine leD 1 [xK 2048 6] ?_
      exact WDO.nil ⟨rfl, rfl, _, 3, _, _, rfl, .inr (.inl ⟨rfl, by omega, h3, rfl, rfl⟩), by simp⟩
     ·refine lkD 7 qM2_2 (by simp (disch := omega) [decF]; exact rfl) ?_
      refine WDO.nilS (WD.cond (t := false) (by simp) (by simp) fun _ => WD.seqR ?_)
      by_cases h4 : c.toNat < 245
      ·refine lkD 7 qM2_3 (by simp (disch := omega) [decT, decF]; exact rfl) ?_
       refine cdT ?_
       refine leD 1 [xK 4 4] ?_
       refine WDO.nilS (WD.seqR ?_)
       refine leD 3 [xM 3 40, xC akSub 40 240 41, xM 41 5] ?_
       refine WDO.nilS (WD.region ?_)
       refine leD 1 [xK 65536 6] ?_
       exact WDO.nil ⟨rfl, rfl, _, 4, _, _, rfl, .inr (.inr ⟨rfl, by omega, h4, rfl, rfl⟩), by simp⟩
      ·refine lkD 7 qM2_3 (by simp (disch := omega) [decF]; exact rfl) ?_
       refine WDO.nilS (WD.cond (t := false) (by simp) (by simp) fun _ => WD.seqR ?_)
       refine leD 1 [xK 0 2] ?_
       refine WDO.nilS (WD.ret (endR _ (by simp; rfl) ⟨?_, rfl⟩))
       rw [hz, letterN_none (by omega) (.inr (by omega))]; rfl
    ·refine lkD 7 qM2_1 (by simp (disch := omega) [decT]; exact rfl) ?_
     refine WDO.nilS (WD.cond (t := false) (by simp) (by simp) fun _ => WD.seqR ?_)
     refine lkD 7 qM2_2 (by simp (disch := omega) [decT]; exact rfl) ?_
     refine WDO.nilS (WD.cond (t := false) (by simp) (by simp) fun _ => WD.seqR ?_)
     refine lkD 7 qM2_3 (by simp (disch := omega) [decT]; exact rfl) ?_
     refine WDO.nilS (WD.cond (t := false) (by simp) (by simp) fun _ => WD.seqR ?_)
     refine leD 1 [xK 0 2] ?_
     refine WDO.nilS (WD.ret (endR _ (by simp; rfl) ⟨?_, rfl⟩))
     rw [hz, letterN_none (by omega) (.inl (by omega))]; rfl
 ·cases o with
  | bad => exact ho.elim
  | ext => exact ho.elim
  | ret => exact ho
  | nor T2 D2 H2 =>
   obtain ⟨rfl, rfl, l', n, pt, least, rfl, hled, hsub⟩ := ho
   refine WD.keep ?_ hsub
   refine WD.seq (WD.seqR ?_)
   have hn : 2 ≤ n ∧ n ≤ 4 ∧ 0 ≤ pt ∧ pt ≤ 31 := by unfold Led at hled; omega
   by_cases h1 : (c :: r).length < n
   ·refine lkD 4 [xM 0 42, xS 42 43, xM 4 44, xB akLss 43 44 45] (by simp (disch := omega) [decT]; exact rfl) ?_
    refine cdT ?_
    refine leD 1 [xK 0 2] ?_
    refine WDO.nilS (WD.ret (endR _ (by simp; rfl) ⟨?_, rfl⟩))
    rw [hz, letterN_short hled (by omega)]; rfl
   ·refine lkD 4 [xM 0 42, xS 42 43, xM 4 44, xB akLss 43 44 45] (by simp (disch := omega) [decF]; exact rfl) ?_
    refine cdF ?_
    refine WD.seq (WD.seqR ?_)
    refine leD 1 [xK 1 7] ?_
    refine WDO.nilS ?_
    refine WD.forE (σ := Nat × Int) (fun s => [(0, sb (c :: r)), (4, .int .i64 (n : Int)), (5, .int .i64 s.2), (6, .int .i64 least), (7, .int .i64 (s.1 : Int))])
     (fun s H' => 1 ≤ s.1 ∧ s.1 ≤ n ∧ s.2 = ptN pt (c :: r) s.1 ∧ 0 ≤ s.2 ∧ (s.1 ≤ 1 → s.2 ≤ 31) ∧ (s.1 ≤ 2 → s.2 ≤ 2047) ∧ (s.1 ≤ 3 → s.2 ≤ 131071) ∧ s.2 ≤ 8388607 ∧ (∀ j, 1 ≤ j → j < s.1 → 128 ≤ dv (c :: r) j ∧ dv (c :: r) j ≤ 191) ∧ H2 = H')
     (fun s => n - s.1) (1, pt) ⟨by simp, by simp only; omega, rfl, by simp only; omega, by simp only; omega, by simp only; omega, by simp only; omega, by simp only; omega, fun j a b => by simp only at b; omega, rfl⟩ (by simp) ?_
    rintro ⟨i, q⟩ _ ⟨hi1, hin, hq, q0, q1, q2, q3, q4, hall, rfl⟩
    simp only at hi1 hin hq q0 q1 q2 q3 q4 hall
    refine leD 3 [xM 7 46, xM 4 47, xB akLss 46 47 48] ?_
    refine WDO.nil ⟨decide (i < n), _, rfl, by simp, fun hc => ?_, fun hc => ?_⟩
    ·have hc : i = n := by have := of_decide_eq_false hc; omega
     subst hc
     have hend := letterN_end hled (by omega) hall
     rw [← hq] at hend
     refine WD.seq (WD.seqR ?_)
     by_cases k1 : q < least
     ·refine lkD 15 qM2_4 (by simp (disch := omega) [decT]; exact rfl) ?_
      refine cdT ?_
      refine leD 1 [xK 0 2] ?_
      refine WDO.nilS (WD.ret (endR _ (by simp; rfl) ⟨?_, rfl⟩))
      rw [hz, hend, if_pos (.inl k1)]; rfl
     ·by_cases k2 : 1114111 < q
      ·refine lkD 15 qM2_4 (by simp (disch := omega) [decT, decF]; exact rfl) ?_
       refine cdT ?_
       refine leD 1 [xK 0 2] ?_
       refine WDO.nilS (WD.ret (endR _ (by simp; rfl) ⟨?_, rfl⟩))
       rw [hz, hend, if_pos (.inr (.inl k2))]; rfl
      ·by_cases k3 : q < 55296
       ·refine lkD 15 qM2_4 (by simp (disch := omega) [decT, decF]; exact rfl) ?_
        refine cdF ?_
        refine WD.seqR ?_
        refine leD 2 [xM 4 81, xM 81 2] ?_
        refine WDO.nilS (WD.ret (endR _ (by simp; rfl) ⟨?_, rfl⟩))
        rw [hz, hend, if_neg (by omega)]; rfl
       ·by_cases k4 : 57343 < q
        ·refine lkD 15 qM2_4 (by simp (disch := omega) [decT, decF]; exact rfl) ?_
         refine cdF ?_
         refine WD.seqR ?_
         refine leD 2 [xM 4 81, xM 81 2] ?_
         refine WDO.nilS (WD.ret (endR _ (by simp; rfl) ⟨?_, rfl⟩))
         rw [hz, hend, if_neg (by omega)]; rfl
        ·refine lkD 15 qM2_4 (by simp (disch := omega) [decF]; exact rfl) ?_
         refine cdT ?_
         refine leD 1 [xK 0 2] ?_
         refine WDO.nilS (WD.ret (endR _ (by simp; rfl) ⟨?_, rfl⟩))
         rw [hz, hend, if_pos (.inr (.inr ⟨by omega, by omega⟩))]; rfl
    ·have hc : i < n := of_decide_eq_true hc
     have hx : (c :: r)[i]? = some ((c :: r)[i]'(by omega)) := List.getElem?_eq_getElem _
     generalize (c :: r)[i]'_ = x at hx
     have hbi := byte_at hx
     have hxl := x.toNat_lt
     have gx : mkInt .i64 (x.toNat : Int) = some (.int .i64 (x.toNat : Int)) := mkInt_i64 (by omega) (by omega)
     have hd := dv_eq hx
     have il : i < (c :: r).length := by omega
     refine WD.seqR ?_
     refine lkD 5 [xM 0 51, xM 7 52, ⟨⟨ixStr (.tmp 51) (.tmp 52)⟩, (some 53), none⟩, ⟨⟨cvInt .i64 (.tmp 53)⟩, (some 54), none⟩, xM 54 8] (by simp (disch := omega) [hbi, gx]; exact rfl) ?_
     refine WDO.nilS (WD.seq (WD.seqR ?_))
     by_cases k1 : x.toNat < 128
     ·refine lkD 6 qM2_5 (by simp (disch := omega) [decT]; exact rfl) ?_
      refine cdT ?_
      refine leD 1 [xK 0 2] ?_
      refine WDO.nilS (WD.ret (endR _ (by simp; rfl) ⟨?_, rfl⟩))
      rw [hz, letterN_cont hled hi1 hc hx (.inl k1)]; rfl
     ·by_cases k2 : 191 < x.toNat
      ·refine lkD 6 qM2_5 (by simp (disch := omega) [decT, decF]; exact rfl) ?_
       refine cdT ?_
       refine leD 1 [xK 0 2] ?_
       refine WDO.nilS (WD.ret (endR _ (by simp; rfl) ⟨?_, rfl⟩))
       rw [hz, letterN_cont hled hi1 hc hx (.inr k2)]; rfl
      ·refine lkD 6 qM2_5 (by simp (disch := omega) [decT, decF]; exact rfl) ?_
       refine cdF ?_
       refine WD.region ?_
       have gm : akMul.f .i64 64 q = some (.int .i64 (64 * q)) := akMul_i64 (by omega) (by omega)
       have q3' : q ≤ 131071 := q3 (by omega)
       refine lkD 6 [xM 5 61, ⟨⟨binInt akMul (.const (.int .i64 64)) (.tmp 61)⟩, (some 62), none⟩, xM 8 63, xB akAdd 62 63 64, xC akSub 64 128 65, xM 65 5] (by simp (disch := omega) [gm]; exact rfl) ?_
       refine WDO.nil ?_
       refine leD 3 [xM 7 49, xC akAdd 49 1 50, xM 50 7] ?_
       have hp2 : ptN pt (c :: r) (i + 1) = 64 * q + (x.toNat : Int) - 128 := by
        obtain ⟨k, rfl⟩ : ∃ k, i = k + 1 := ⟨i - 1, by omega⟩
        rw [hq, ← hd]; rfl
       refine WDO.nil ⟨rfl, (i + 1, 64 * q + (x.toNat : Int) - 128), _, rfl, by simp, ⟨by simp, by simp only; omega, by simp only; rw [hp2], by simp only; omega, by simp only; omega, by simp only; omega, by simp only; omega, by simp only; omega, ?_, rfl⟩, by simp only; omega⟩
       intro j a b
       simp only at b
       rcases Nat.lt_or_ge j i with h | h
       ·exact hall j a h
       ·obtain rfl : j = i := by omega
        rw [hd]; omega
theorem utf8Doc_ok {H : AH} {l : List UInt8} (hl : l.length < 17179869184) : DC Tryz.prog .normal 194 (.cons (sb l) .nil) H fun v' H2 => v' = .bool (utf8L l) ∧ H2 = H := by
 refine DC.of_wd (re := reTmp 2 reNil) tyOk Tryz.func194 (by kernel_rfl) rfl (by kernel_rfl) (by kernel_rfl) ?_
 rw [tl_nil, argsT_cons, argsT_nil]
 refine WD.seqR ?_
 refine leD 1 [xZ false 2] ?_
 refine WDO.nilS (WD.seq (WD.seqR ?_))
 refine leD 1 [xK 0 3] ?_
 refine WDO.nilS (WD.forW (σ := Nat) (fun i => [(0, sb l), (3, .int .i64 (i : Int))]) (fun i H' => i ≤ l.length ∧ utf8L l = utf8L (l.drop i) ∧ H = H') (fun i => l.length - i) 0 ⟨Nat.zero_le _, rfl, rfl⟩ (by simp) ?_)
 rintro i _ ⟨hi, hu, rfl⟩
 refine leD 4 [xM 3 5, xM 0 6, xS 6 7, xB akLss 5 7 8] ?_
 refine WDO.nil ⟨decide (i < l.length), _, rfl, by simp, fun hc => ?_, fun hc => ?_⟩
 ·have hc : i = l.length := by have := of_decide_eq_false hc; omega
  subst hc
  rw [List.drop_length, utf8L_nil] at hu
  refine WD.seqR ?_
  refine leD 1 [xZ true 2] ?_
  exact WDO.nilS (WD.ret (endR _ (by simp; rfl) ⟨by rw [hu]; rfl, rfl⟩))
 ·have hc : i < l.length := of_decide_eq_true hc
  have hd : l.drop i = l[i] :: l.drop (i + 1) := List.drop_eq_getElem_cons hc
  have hdl : (l.drop i).length = l.length - i := List.length_drop
  have hle : letterN (l.drop i) ≤ (l.drop i).length := by
   rw [hd]
   unfold letterN
   dsimp only
   split
   ·simp only [List.length_cons]; omega
   ·split
    ·omega
    ·split
     ·rename_i h _; simp only [not_or, Nat.not_lt] at h; simp only [List.length_cons]; omega
     ·omega
  refine WD.seqR ?_
  refine lkD 3 [xM 0 9, xM 3 10, ⟨⟨slStr (.tmp 9) (some (.tmp 10)) none⟩, (some 11), none⟩] (by simp (disch := omega) [hc]; exact rfl) ?_
  have hlet := letter_ok (H := H) (c := l[i]) (r := l.drop (i + 1)) (by rw [← hd]; omega)
  rw [← hd] at hlet
  have hne : l.drop i ≠ [] := fun e => by rw [e] at hd; cases hd
  have hstep : ∀ n, letterN (l.drop i) = n → n ≠ 0 → utf8L (l.drop i) = utf8L (l.drop (i + n)) := fun n h1 h2 => by rw [utf8L_step h1 h2, List.drop_drop]
  have hbad := utf8L_bad hne
  generalize hn : letterN (l.drop i) = n at hlet hle hstep hbad
  refine WDO.callF (g := 228) rfl rfl rfl (by kernel_rfl) (l := .cons (sb (l.drop i)) .nil) (by simp) hlet fun u H2 ⟨hu', hH⟩ => ?_
  subst hu'
  subst hH
  refine leD 1 [xM 12 4] ?_
  refine WDO.nilS (WD.seq (WD.seqR ?_))
  by_cases h0 : n = 0
  ·subst h0
   refine leD 2 [xM 4 13, xC akEql 13 0 14] ?_
   refine cdT ?_
   refine leD 1 [xZ false 2] ?_
   exact WDO.nilS (WD.ret (endR _ (by simp; rfl) ⟨by rw [hu, hbad rfl]; rfl, rfl⟩))
  ·refine lkD 2 [xM 4 13, xC akEql 13 0 14] (by simp (disch := omega) [h0]; exact rfl) ?_
   refine cdF ?_
   refine WD.region ?_
   refine leD 4 [xM 3 15, xM 4 16, xB akAdd 15 16 17, xM 17 3] ?_
   exact WDO.nil ⟨rfl, i + n, _, rfl, by simp, ⟨by omega, by rw [hu]; exact hstep n rfl h0, rfl⟩, by omega⟩
end
end Go.Proofs.YtfgipbjaapkdlaaGreatDoor
