/- A part of the proof of this seat's statement. Conditions: in each theorem. -/
import Derived.Test.YtfgipbjaapkdlaaGreatDoorK2
import Derived.Test.YtfgipbjaapkdlaaGreatDoorZ9
namespace Go.Proofs.YtfgipbjaapkdlaaGreatDoor
open Go.Xq
noncomputable section
abbrev qM1_1 : List Lk := [xM 4 5, yM 0 6 5 true, ⟨⟨ixStr (.tmp 6) (.const (.int .i64 0))⟩, (some 7), (some (5, true))⟩, ⟨⟨binInt akGeq (.tmp 7) (.const (.int .u8 97))⟩, (some 8), (some (5, true))⟩, xA 5 8 9 false, xM 9 10, yM 0 11 10 true, ⟨⟨ixStr (.tmp 11) (.const (.int .i64 0))⟩, (some 12), (some (10, true))⟩, ⟨⟨binInt akLeq (.tmp 12) (.const (.int .u8 122))⟩, (some 13), (some (10, true))⟩, xA 10 13 14 false, xM 14 15, yM 0 16 15 true, ⟨⟨binStr skNeq (.tmp 16) (.const (.string ⟨#[107, 101, 121]⟩))⟩, (some 17), (some (15, true))⟩, xA 15 17 18 false, xM 18 2]
abbrev qM1_2 : List Lk := [xM 0 42, ⟨⟨binStr skNeq (.tmp 42) (.const (.string ⟨#[]⟩))⟩, (some 43), none⟩, xM 43 44, yM 0 45 44 true, ⟨⟨lenStr (.tmp 45)⟩, (some 46), (some (44, true))⟩, yM 1 47 44 true, yB akLeq 46 47 48 44 true, xA 44 48 49 false, xM 49 4]
abbrev qM1_3 : List Lk := [xM 6 15, ⟨⟨binInt akLss (.tmp 15) (.const (.int .u8 97))⟩, (some 16), none⟩, xM 16 17, yM 6 18 17 false, ⟨⟨binInt akGtr (.tmp 18) (.const (.int .u8 122))⟩, (some 19), (some (17, false))⟩, xP 17 19 20 true, xM 20 21, yM 6 22 21 true, ⟨⟨binInt akLss (.tmp 22) (.const (.int .u8 48))⟩, (some 23), (some (21, true))⟩, yM 23 24 21 true, yM 6 25 24 false, ⟨⟨binInt akGtr (.tmp 25) (.const (.int .u8 57))⟩, (some 26), (some (24, false))⟩, yP 24 26 27 true 21 true, xA 21 27 28 false, xM 28 29, yM 6 30 29 true, ⟨⟨binInt akNeq (.tmp 30) (.const (.int .u8 45))⟩, (some 31), (some (29, true))⟩, xA 29 31 32 false, xM 32 33, yM 6 34 33 true, ⟨⟨binInt akNeq (.tmp 34) (.const (.int .u8 95))⟩, (some 35), (some (33, true))⟩, xA 33 35 36 false, xM 36 37, yM 6 38 37 true, ⟨⟨binInt akNeq (.tmp 38) (.const (.int .u8 46))⟩, (some 39), (some (37, true))⟩, xA 37 39 40 false]
theorem fieldB_name {l : List UInt8} (h : nameB l 64 = false) : fieldB l = false := by simp [fieldB, h]
theorem fieldB_cons {c : UInt8} {r : List UInt8} (h : nameB (c :: r) 64 = true) : fieldB (c :: r) = (decide (97 ≤ c.toNat ∧ c.toNat ≤ 122) && decide (c :: r ≠ keyL)) := by simp [fieldB, h]
theorem nameB_pos {l : List UInt8} {m : Nat} (h : nameB l m = true) : ∃ c r, l = c :: r := by
  cases l with
  | nil => simp [nameB] at h
  | cons c r => exact ⟨c, r, rfl⟩
theorem named_ok {H : AH} {l : List UInt8} {m : Nat} (hl : l.length < 17179869184) (hm : m < 17179869184) : DC Tryz.prog .normal 47 (.cons (sb l) (.cons (.int .i64 (m : Int)) .nil)) H fun v' H2 => v' = .bool (nameB l m) ∧ H2 = H := by
  refine DC.of_wd (re := reTmp 4 reNil) tyOk Tryz.func47 (by kernel_rfl) rfl (by kernel_rfl) (by kernel_rfl) ?_
  rw [tl_nil, argsT_cons, argsT_cons, argsT_nil]
  refine WD.seqR ?_
  refine leD 1 [xZ false 4] ?_
  refine WDO.nilS (WD.seq (WD.seqR ?_))
  refine leD 3 [xM 0 7, xS 7 8, xK 0 9] ?_
  refine WDO.nilS (WD.forR (σ := Nat) (fun i => [(0, sb l), (1, .int .i64 (m : Int)), (8, .int .i64 (l.length : Int)), (9, .int .i64 (i : Int))]) (fun i H' => i ≤ l.length ∧ (∀ (j : Nat) (x : UInt8), j < i → l[j]? = some x → commB x = true) ∧ H = H') (fun i => l.length - i) 0 ⟨Nat.zero_le _, fun j x h => by omega, rfl⟩ (by simp) ?_)
  rintro i _ ⟨hi, hall, rfl⟩
  refine leD 1 [xB akLss 9 8 10] ?_
  refine WDO.nil ⟨decide (i < l.length), _, rfl, by simp, fun hc => ?_, fun hc => ?_⟩
  · have hc : i = l.length := by have := of_decide_eq_false hc; omega
    have hn : nameB l m = (decide (1 ≤ l.length) && decide (l.length ≤ m)) := nameB_all fun j x hx => hall j x (by have := get_lt hx; omega) hx
    refine WD.seqR ?_
    by_cases h1 : 1 ≤ l.length
    · have h0 : ¬ l = [] := fun e => by rw [e] at h1; simp at h1
      have h3' : skNeq.f l.length (leNat l) 0 (leNat []) = some (.bool true) := by
        have := skNeq_f l []
        rw [decF h0] at this
        exact this
      by_cases h2 : l.length ≤ m
      · refine lkD 9 qM1_2 (by simp (disch := omega) [decF, h3']; exact rfl) ?_
        exact WDO.nilS (WD.ret (endR _ (by simp; rfl) ⟨by rw [hn, decT h1, decT h2]; rfl, rfl⟩))
      · refine lkD 9 qM1_2 (by simp (disch := omega) [decT, decF, h3']; exact rfl) ?_
        exact WDO.nilS (WD.ret (endR _ (by simp; rfl) ⟨by rw [hn, decT h1, decF h2]; rfl, rfl⟩))
    · have h0 : l = [] := List.length_eq_zero_iff.1 (by omega)
      subst h0
      have h3' : skNeq.f 0 (leNat []) 0 (leNat []) = some (.bool false) := rfl
      refine lkD 9 qM1_2 (by simp (disch := omega) [h3']; exact rfl) ?_
      exact WDO.nilS (WD.ret (endR _ (by simp; rfl) ⟨by rw [hn]; rfl, rfl⟩))
  · have hc : i < l.length := of_decide_eq_true hc
    have hx : l[i]? = some (l[i]'hc) := List.getElem?_eq_getElem _
    generalize l[i]'hc = x at hx
    have hb := byte_at hx
    refine WD.seqR ?_
    refine leD 2 [xM 9 11, xM 11 5] ?_
    refine WDO.nilS (WD.seqR ?_)
    refine lkD 4 [xM 0 12, xM 5 13, ⟨⟨ixStr (.tmp 12) (.tmp 13)⟩, (some 14), none⟩, xM 14 6] (by simp (disch := omega) [hb]; exact rfl) ?_
    refine WDO.nilS (WD.seqR ?_)
    have hcb : commB x = (decide (97 ≤ x.toNat ∧ x.toNat ≤ 122) || decide (48 ≤ x.toNat ∧ x.toNat ≤ 57) || decide (x.toNat = 45) || decide (x.toNat = 95) || decide (x.toNat = 46)) := rfl
    have nx : commB x = true → i + 1 ≤ l.length ∧ (∀ (j : Nat) (x : UInt8), j < i + 1 → l[j]? = some x → commB x = true) ∧ H = H := fun hcb => by
      refine ⟨by omega, fun j y hj hy => ?_, rfl⟩
      rcases Nat.lt_or_ge j i with h | h
      · exact hall j y h hy
      · obtain rfl : j = i := by omega
        rw [hx] at hy; cases hy; exact hcb
    have bad : commB x = false → nameB l m = false := nameB_bad hx
    generalize hq : x.toNat = q at hcb ⊢
    by_cases h1 : 97 ≤ q ∧ q ≤ 122
    · have ht : commB x = true := by rw [hcb, decT h1]; rfl
      obtain ⟨h1a, h1b⟩ := h1
      refine lkD 26 qM1_3 (by simp (disch := omega) [decT, decF]; exact rfl) ?_
      refine cdF ?_
      refine leD 2 [xC akAdd 9 1 41, xM 41 9] ?_
      exact WDO.nil ⟨rfl, i + 1, _, rfl, by simp, nx ht, by omega⟩
    · rw [decF h1, Bool.false_or] at hcb
      by_cases h2 : 48 ≤ q ∧ q ≤ 57
      · have ht : commB x = true := by rw [hcb, decT h2]; rfl
        obtain ⟨h2a, h2b⟩ := h2
        refine lkD 26 qM1_3 (by simp (disch := omega) [decT, decF]; exact rfl) ?_
        refine cdF ?_
        refine leD 2 [xC akAdd 9 1 41, xM 41 9] ?_
        exact WDO.nil ⟨rfl, i + 1, _, rfl, by simp, nx ht, by omega⟩
      · rw [decF h2, Bool.false_or] at hcb
        by_cases h3 : q = 45 ∨ q = 95 ∨ q = 46
        · have ht : commB x = true := by rw [hcb]; rcases h3 with h | h | h <;> simp [h]
          rcases h3 with h3 | h3 | h3
          · refine lkD 26 qM1_3 (by simp (disch := omega) [decT]; exact rfl) ?_
            refine cdF ?_
            refine leD 2 [xC akAdd 9 1 41, xM 41 9] ?_
            exact WDO.nil ⟨rfl, i + 1, _, rfl, by simp, nx ht, by omega⟩
          · refine lkD 26 qM1_3 (by simp (disch := omega) [decT, decF]; exact rfl) ?_
            refine cdF ?_
            refine leD 2 [xC akAdd 9 1 41, xM 41 9] ?_
            exact WDO.nil ⟨rfl, i + 1, _, rfl, by simp, nx ht, by omega⟩
          · refine lkD 26 qM1_3 (by simp (disch := omega) [decT, decF]; exact rfl) ?_
            refine cdF ?_
            refine leD 2 [xC akAdd 9 1 41, xM 41 9] ?_
            exact WDO.nil ⟨rfl, i + 1, _, rfl, by simp, nx ht, by omega⟩
        · have hf : commB x = false := by rw [hcb, decF (p := q = 45) (by omega), decF (p := q = 95) (by omega), decF (p := q = 46) (by omega)]; rfl
          have hnf := bad hf
          have e1 : ¬ q = 45 := by omega
          have e2 : ¬ q = 95 := by omega
          have e3 : ¬ q = 46 := by omega
          by_cases g1 : q < 48
          · refine lkD 26 qM1_3 (by simp (disch := omega) [decT, decF]; exact rfl) ?_
            refine cdT ?_
            refine leD 1 [xZ false 4] ?_
            exact WDO.nilS (WD.ret (endR _ (by simp; rfl) ⟨by rw [hnf]; rfl, rfl⟩))
          · by_cases g2 : q < 97
            · have g3 : 57 < q := by omega
              refine lkD 26 qM1_3 (by simp (disch := omega) [decT, decF]; exact rfl) ?_
              refine cdT ?_
              refine leD 1 [xZ false 4] ?_
              exact WDO.nilS (WD.ret (endR _ (by simp; rfl) ⟨by rw [hnf]; rfl, rfl⟩))
            · have g3 : 122 < q := by omega
              refine lkD 26 qM1_3 (by simp (disch := omega) [decT, decF]; exact rfl) ?_
              refine cdT ?_
              refine leD 1 [xZ false 4] ?_
              exact WDO.nilS (WD.ret (endR _ (by simp; rfl) ⟨by rw [hnf]; rfl, rfl⟩))
theorem isField_ok {H : AH} {l : List UInt8} (hl : l.length < 17179869184) : DC Tryz.prog .normal 88 (.cons (sb l) .nil) H fun v' H2 => v' = .bool (fieldB l) ∧ H2 = H := by
  refine DC.of_wd (re := reTmp 2 reNil) tyOk Tryz.func88 (by kernel_rfl) rfl (by kernel_rfl) (by kernel_rfl) ?_
  rw [tl_nil, argsT_cons, argsT_nil]
  refine WD.seqR ?_
  refine leD 1 [xZ false 2] ?_
  refine WDO.nilS (WD.seqR ?_)
  refine leD 1 [xM 0 3] ?_
  refine WDO.callF (g := 47) rfl rfl rfl (by kernel_rfl) (l := .cons (sb l) (.cons (.int .i64 64) .nil)) (by simp) (named_ok (m := 64) hl (by omega)) fun u H2 ⟨hu, hH⟩ => ?_
  subst hu
  subst hH
  cases hn : nameB l 64 with
  | false =>
    refine leD 15 qM1_1 ?_
    exact WDO.nilS (WD.ret (endR _ (by simp; rfl) ⟨by rw [fieldB_name hn]; rfl, rfl⟩))
  | true =>
    obtain ⟨c, r, rfl⟩ := nameB_pos hn
    have hb := byte_at (l := c :: r) (i := 0) rfl
    have hk : keyL = [107, 101, 121] := rfl
    have hp : 0 < (c :: r).length := by simp
    rw [fieldB_cons hn]
    generalize hm : c.toNat = m at hb ⊢
    generalize hl2 : c :: r = l at hb hp ⊢
    by_cases h1 : 97 ≤ m
    · by_cases h2 : m ≤ 122
      · by_cases h3 : l = keyL
        · have h3' : l = [107, 101, 121] := h3
          refine lkD 15 qM1_1 (by simp (disch := omega) [h3']; exact rfl) ?_
          exact WDO.nilS (WD.ret (endR _ (by simp; rfl) ⟨by simp [h1, h2, h3]; rfl, rfl⟩))
        · have h3' : skNeq.f l.length (leNat l) 3 (leNat [107, 101, 121]) = some (.bool true) := by
            have := skNeq_f l [107, 101, 121]
            rw [decF (p := l = [107, 101, 121]) h3] at this
            exact this
          refine lkD 15 qM1_1 (by simp (disch := omega) [decF, hb, h3']; exact rfl) ?_
          exact WDO.nilS (WD.ret (endR _ (by simp; rfl) ⟨by simp [h1, h2, h3]; rfl, rfl⟩))
      · refine lkD 15 qM1_1 (by simp (disch := omega) [decT, decF, hb]; exact rfl) ?_
        exact WDO.nilS (WD.ret (endR _ (by simp; rfl) ⟨by simp [h1, h2]; rfl, rfl⟩))
    · refine lkD 15 qM1_1 (by simp (disch := omega) [decT, hb]; exact rfl) ?_
      exact WDO.nilS (WD.ret (endR _ (by simp; rfl) ⟨by simp [h1]; rfl, rfl⟩))
def dv (l : List UInt8) (j : Nat) : Int := ((l.getD j 0).toNat : Int)
def ptN (p0 : Int) (l : List UInt8) : Nat → Int
  | 0 => p0
  | 1 => p0
  | i + 2 => 64 * ptN p0 l (i + 1) + dv l (i + 1) - 128
def Led (c : Nat) (n : Nat) (pt least : Int) : Prop :=
  (n = 2 ∧ 194 ≤ c ∧ c < 224 ∧ pt = (c : Int) - 192 ∧ least = 128) ∨ (n = 3 ∧ 224 ≤ c ∧ c < 240 ∧ pt = (c : Int) - 224 ∧ least = 2048) ∨ (n = 4 ∧ 240 ≤ c ∧ c < 245 ∧ pt = (c : Int) - 240 ∧ least = 65536)
end
end Go.Proofs.YtfgipbjaapkdlaaGreatDoor
