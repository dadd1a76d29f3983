/- A part of the proof of this seat's statement. Conditions: in each theorem. -/
import Derived.Test.YtfgipbjaapkdlaaGreatDoorL3
namespace Go.Proofs.YtfgipbjaapkdlaaGreatDoor
open Go.Xq
noncomputable section
def itA (k n : Int) (t : List UInt8) (v : AV) : AV := .agg (.cons (.int .i64 k) (.cons (.int .i64 n) (.cons (sb t) (.cons v .nil))))
theorem itA_iv (k n : Int) (t : List UInt8) (v : AV) (h : isCell v = true) : itA k n t v = .agg (avl (encI ⟨k, n, t, v, h⟩)) := rfl
theorem neqE (t : List UInt8) : skNeq.f t.length (leNat t) 0 (leNat []) = some (.bool (!decide (t = []))) := by
  have := skNeq_f t []
  exact this
abbrev qM9_1 : List Lk := [xM 3 22, xU 22 23, xM 23 24, yM 4 25 24 true, ⟨lkUn ukNot (.tmp 25), (some 26), (some (24, true))⟩, xA 24 26 27 false, xM 27 28, yM 5 29 28 true, ⟨lkUn ukNot (.tmp 29), (some 30), (some (28, true))⟩, xA 28 30 31 false, xM 31 2]
abbrev qM9_2 : List Lk := [xM 4 35, xU 35 36, xM 36 37, yM 5 38 37 true, ⟨lkUn ukNot (.tmp 38), (some 39), (some (37, true))⟩, xA 37 39 40 false, xM 40 2]
abbrev qM9_3 : List Lk := [xM 3 43, xU 43 44, xM 44 45, yM 5 46 45 true, ⟨lkUn ukNot (.tmp 46), (some 47), (some (45, true))⟩, xA 45 47 48 false, xM 48 2]
abbrev qM9_4 : List Lk := [xM 3 51, xU 51 52, xM 52 53, yM 5 54 53 true, ⟨lkUn ukNot (.tmp 54), (some 55), (some (53, true))⟩, xA 53 55 56 false, xM 56 57, yF 1 2 58 57 true, yL 58 59 57 true]
abbrev qM9_5 : List Lk := [xM 3 64, xU 64 65, xM 65 66, yM 4 67 66 true, ⟨lkUn ukNot (.tmp 67), (some 68), (some (66, true))⟩, xA 66 68 69 false, xM 69 2]
set_option maxHeartbeats 2000000 in
theorem isItem_ok {H : AH} {k n : Int} {t : List UInt8} {v : AV} {m : Nat} (hG : GlobU H) (hc : isCell v = true) (hlen : onSl v (some (AV.int .i64 0)) (fun _ _ n _ => some (.int .i64 (n : Int))) = some (.int .i64 (m : Int))) (htl : t.length < 17179869184) :
    DC Tryz.prog .normal 167 (.cons (itA k n t v) .nil) H fun v' H2 => v' = .bool (itemB k n t m) ∧ Keep noB H H2 := by
  refine DC.of_wd (re := reTmp 2 reNil) tyOk Tryz.func167 (by kernel_rfl) rfl (by kernel_rfl) (by kernel_rfl) ?_
  rw [tl_nil, argsT_cons, argsT_nil, itA_iv k n t v hc]
  refine WD.seqR ?_
  refine WDO.box1 (enc := encI) (a := ⟨k, n, t, v, hc⟩) tyOk encI_len (by kernel_rfl : freshK E _ = some ⟨frBox ⟨mkCs 27 4 (.cons (.int .i64 0) (.cons (.int .i64 0) (.cons (.str 0 0) (.cons .snil .nil))))⟩ (.tmp 0)⟩) rfl (by kernel_rfl) (by simp; try rfl) fun o1 b1 => ?_
  have kn : Keep noB H (H.new o1) := Keep.new _ _ _
  have g1 : (H.new o1).get H.next = some o1 := get_new_same _ _
  have r0 : rdCell o1 0 = some (.int .i64 k) := by have := b1.cell (k := 0) (j := 0) rfl rfl; simpa using this
  have r1 : rdCell o1 1 = some (.int .i64 n) := by have := b1.cell (k := 0) (j := 1) rfl rfl; simpa using this
  have r2 : rdCell o1 2 = some (sb t) := by have := b1.cell (k := 0) (j := 2) rfl rfl; simpa using this
  have r3 : rdCell o1 3 = some v := by have := b1.cell (k := 0) (j := 3) rfl rfl; simpa using this
  clear b1
  have hG1 := hG.keep kn fun _ _ => id
  generalize H.new o1 = H1 at kn g1 hG1 ⊢
  generalize H.next = N at g1 ⊢
  have hne := neqE t
  have hI : itemB k n t m = (decide (0 ≤ k) && decide (k ≤ 7) && (decide (k = 3) || decide (k = 4) || decide (n = 0)) && (decide (k = 5) || decide (k = 6) || decide (t = [])) && (decide (k = 7) || decide (m = 0)) && (!decide (k = 6) || utf8L t)) := rfl
  obtain ⟨q1, h1⟩ : ∃ b : Bool, decide (n = 0) = !b := ⟨!decide (n = 0), by simp⟩
  obtain ⟨q2, h2⟩ : ∃ b : Bool, decide (t = []) = !b := ⟨!decide (t = []), by simp⟩
  obtain ⟨q3, h3⟩ : ∃ b : Bool, decide (m = 0) = !b := ⟨!decide (m = 0), by simp⟩
  have h3' : decide (0 < m) = q3 := by
    cases q3 with
    | true => exact decide_eq_true (by have := of_decide_eq_false h3; omega)
    | false => exact decide_eq_false (by have := of_decide_eq_true h3; omega)
  rw [h2, Bool.not_not] at hne
  rw [h1, h2, h3] at hI
  refine leD 1 [xZ false 2] ?_
  refine WDO.nilS (WD.seq ?_)
  refine WD.drawLooks tyOk extOk (by kernel_rfl) (ls := [⟨[1], ⟨fAddr (.tmp 1) 1⟩, (some 6), none⟩, ⟨[6], ⟨ldA ⟨ld1⟩ (.tmp 6)⟩, (some 7), none⟩, ⟨[7], ⟨binInt akNeq (.tmp 7) (.const (.int .i64 0))⟩, (some 8), none⟩, ⟨[1], ⟨fAddr (.tmp 1) 2⟩, (some 9), none⟩, ⟨[9], ⟨ldA ⟨ld1⟩ (.tmp 9)⟩, (some 10), none⟩, ⟨[10], ⟨binStr skNeq (.tmp 10) (.const (.string ⟨#[]⟩))⟩, (some 11), none⟩, ⟨[1], ⟨fAddr (.tmp 1) 3⟩, (some 12), none⟩, ⟨[12], ⟨ldA ⟨ld1⟩ (.tmp 12)⟩, (some 13), none⟩, ⟨[13], ⟨lenSl (.tmp 13)⟩, (some 14), none⟩, ⟨[14], ⟨binInt akGtr (.tmp 14) (.const (.int .i64 0))⟩, (some 15), none⟩, ⟨[8], lkMove (.tmp 8), (some 3), none⟩, ⟨[11], lkMove (.tmp 11), (some 4), none⟩, ⟨[15], lkMove (.tmp 15), (some 5), none⟩]) (by kernel_rfl) (by simp (disch := omega) [g1, r1, r2, r3, hlen, hne, h1, h3']; exact rfl) ?_
  refine WD.keep (l := [(1, .ptr N 0), (3, .bool q1), (4, .bool q2), (5, .bool q3)]) ?_ (by simp [])
  refine WD.seq (WD.seqR ?_)
  refine lkD 2 [xF 1 0 16, xL 16 17] (by simp (disch := omega) [g1, r0]; exact rfl) ?_
  refine WDO.nilS (WD.block ?_)
  by_cases k0 : k = 0
  · subst k0
    refine WD.seq (WD.seqR ?_)
    refine leD 2 [xC akEql 17 0 19, xM 19 18] ?_
    refine WDO.nilS (WD.cond (t := true) (by simp) (fun _ => WD.skip (.inl rfl) ?_) (by simp))
    refine WD.cond (t := true) (by simp) (fun _ => WD.seqR ?_) (by simp)
    cases q1 with
    | true =>
      refine leD 11 qM9_1 ?_
      refine WDO.nilS (WD.ret (endR _ (by simp; rfl) ?_))
      have e : itemB 0 n t m = false := by rw [hI]; simp
      rw [e]
      exact ⟨rfl, kn⟩
    | false =>
      cases q2 with
      | true =>
        refine leD 11 qM9_1 ?_
        refine WDO.nilS (WD.ret (endR _ (by simp; rfl) ?_))
        have e : itemB 0 n t m = false := by rw [hI]; simp
        rw [e]
        exact ⟨rfl, kn⟩
      | false =>
        cases q3 with
        | true =>
          refine leD 11 qM9_1 ?_
          refine WDO.nilS (WD.ret (endR _ (by simp; rfl) ?_))
          have e : itemB 0 n t m = false := by rw [hI]; simp
          rw [e]
          exact ⟨rfl, kn⟩
        | false =>
          refine leD 11 qM9_1 ?_
          refine WDO.nilS (WD.ret (endR _ (by simp; rfl) ?_))
          have e : itemB 0 n t m = true := by rw [hI]; simp
          rw [e]
          exact ⟨rfl, kn⟩
  refine WD.seq (WD.seqR ?_)
  refine lkD 2 [xC akEql 17 0 19, xM 19 18] (by simp (disch := omega) [k0]; exact rfl) ?_
  refine WDO.nilS (WD.cond (t := false) (by simp) (by simp) fun _ => WD.seqR ?_)
  by_cases k1 : k = 1
  · subst k1
    refine leD 2 [xC akEql 17 1 20, xM 20 18] ?_
    refine WDO.nilS (WD.cond (t := true) (by simp) (fun _ => WD.skip (.inl rfl) ?_) (by simp))
    refine WD.cond (t := true) (by simp) (fun _ => WD.seqR ?_) (by simp)
    cases q1 with
    | true =>
      refine leD 11 qM9_1 ?_
      refine WDO.nilS (WD.ret (endR _ (by simp; rfl) ?_))
      have e : itemB 1 n t m = false := by rw [hI]; simp
      rw [e]
      exact ⟨rfl, kn⟩
    | false =>
      cases q2 with
      | true =>
        refine leD 11 qM9_1 ?_
        refine WDO.nilS (WD.ret (endR _ (by simp; rfl) ?_))
        have e : itemB 1 n t m = false := by rw [hI]; simp
        rw [e]
        exact ⟨rfl, kn⟩
      | false =>
        cases q3 with
        | true =>
          refine leD 11 qM9_1 ?_
          refine WDO.nilS (WD.ret (endR _ (by simp; rfl) ?_))
          have e : itemB 1 n t m = false := by rw [hI]; simp
          rw [e]
          exact ⟨rfl, kn⟩
        | false =>
          refine leD 11 qM9_1 ?_
          refine WDO.nilS (WD.ret (endR _ (by simp; rfl) ?_))
          have e : itemB 1 n t m = true := by rw [hI]; simp
          rw [e]
          exact ⟨rfl, kn⟩
  refine lkD 2 [xC akEql 17 1 20, xM 20 18] (by simp (disch := omega) [k1]; exact rfl) ?_
  refine WDO.nilS (WD.cond (t := false) (by simp) (by simp) fun _ => WD.region ?_)
  by_cases k2 : k = 2
  · subst k2
    refine leD 2 [xC akEql 17 2 21, xM 21 18] ?_
    refine WDO.nil ?_
    refine WD.cond (t := true) (by simp) (fun _ => WD.seqR ?_) (by simp)
    cases q1 with
    | true =>
      refine leD 11 qM9_1 ?_
      refine WDO.nilS (WD.ret (endR _ (by simp; rfl) ?_))
      have e : itemB 2 n t m = false := by rw [hI]; simp
      rw [e]
      exact ⟨rfl, kn⟩
    | false =>
      cases q2 with
      | true =>
        refine leD 11 qM9_1 ?_
        refine WDO.nilS (WD.ret (endR _ (by simp; rfl) ?_))
        have e : itemB 2 n t m = false := by rw [hI]; simp
        rw [e]
        exact ⟨rfl, kn⟩
      | false =>
        cases q3 with
        | true =>
          refine leD 11 qM9_1 ?_
          refine WDO.nilS (WD.ret (endR _ (by simp; rfl) ?_))
          have e : itemB 2 n t m = false := by rw [hI]; simp
          rw [e]
          exact ⟨rfl, kn⟩
        | false =>
          refine leD 11 qM9_1 ?_
          refine WDO.nilS (WD.ret (endR _ (by simp; rfl) ?_))
          have e : itemB 2 n t m = true := by rw [hI]; simp
          rw [e]
          exact ⟨rfl, kn⟩
  refine lkD 2 [xC akEql 17 2 21, xM 21 18] (by simp (disch := omega) [k2]; exact rfl) ?_
  refine WDO.nil ?_
  refine WD.cond (t := false) (by simp) (by simp) fun _ => ?_
  refine WD.seq (WD.seqR ?_)
  by_cases k3 : k = 3
  · subst k3
    refine leD 2 [xC akEql 17 3 33, xM 33 32] ?_
    refine WDO.nilS (WD.cond (t := true) (by simp) (fun _ => WD.skip (.inl rfl) ?_) (by simp))
    refine WD.cond (t := true) (by simp) (fun _ => WD.seqR ?_) (by simp)
    cases q2 with
    | true =>
      refine leD 7 qM9_2 ?_
      refine WDO.nilS (WD.ret (endR _ (by simp; rfl) ?_))
      have e : itemB 3 n t m = false := by rw [hI]; simp
      rw [e]
      exact ⟨rfl, kn⟩
    | false =>
      cases q3 with
      | true =>
        refine leD 7 qM9_2 ?_
        refine WDO.nilS (WD.ret (endR _ (by simp; rfl) ?_))
        have e : itemB 3 n t m = false := by rw [hI]; simp
        rw [e]
        exact ⟨rfl, kn⟩
      | false =>
        refine leD 7 qM9_2 ?_
        refine WDO.nilS (WD.ret (endR _ (by simp; rfl) ?_))
        have e : itemB 3 n t m = true := by rw [hI]; simp
        rw [e]
        exact ⟨rfl, kn⟩
  refine lkD 2 [xC akEql 17 3 33, xM 33 32] (by simp (disch := omega) [k3]; exact rfl) ?_
  refine WDO.nilS (WD.cond (t := false) (by simp) (by simp) fun _ => WD.region ?_)
  by_cases k4 : k = 4
  · subst k4
    refine leD 2 [xC akEql 17 4 34, xM 34 32] ?_
    refine WDO.nil ?_
    refine WD.cond (t := true) (by simp) (fun _ => WD.seqR ?_) (by simp)
    cases q2 with
    | true =>
      refine leD 7 qM9_2 ?_
      refine WDO.nilS (WD.ret (endR _ (by simp; rfl) ?_))
      have e : itemB 4 n t m = false := by rw [hI]; simp
      rw [e]
      exact ⟨rfl, kn⟩
    | false =>
      cases q3 with
      | true =>
        refine leD 7 qM9_2 ?_
        refine WDO.nilS (WD.ret (endR _ (by simp; rfl) ?_))
        have e : itemB 4 n t m = false := by rw [hI]; simp
        rw [e]
        exact ⟨rfl, kn⟩
      | false =>
        refine leD 7 qM9_2 ?_
        refine WDO.nilS (WD.ret (endR _ (by simp; rfl) ?_))
        have e : itemB 4 n t m = true := by rw [hI]; simp
        rw [e]
        exact ⟨rfl, kn⟩
  refine lkD 2 [xC akEql 17 4 34, xM 34 32] (by simp (disch := omega) [k4]; exact rfl) ?_
  refine WDO.nil ?_
  refine WD.cond (t := false) (by simp) (by simp) fun _ => ?_
  refine WD.seqR ?_
  by_cases k5 : k = 5
  · subst k5
    refine leD 2 [xC akEql 17 5 42, xM 42 41] ?_
    refine cdT ?_
    cases q1 with
    | true =>
      refine leD 7 qM9_3 ?_
      refine WDO.nilS (WD.ret (endR _ (by simp; rfl) ?_))
      have e : itemB 5 n t m = false := by rw [hI]; simp
      rw [e]
      exact ⟨rfl, kn⟩
    | false =>
      cases q3 with
      | true =>
        refine leD 7 qM9_3 ?_
        refine WDO.nilS (WD.ret (endR _ (by simp; rfl) ?_))
        have e : itemB 5 n t m = false := by rw [hI]; simp
        rw [e]
        exact ⟨rfl, kn⟩
      | false =>
        refine leD 7 qM9_3 ?_
        refine WDO.nilS (WD.ret (endR _ (by simp; rfl) ?_))
        have e : itemB 5 n t m = true := by rw [hI]; simp
        rw [e]
        exact ⟨rfl, kn⟩
  refine lkD 2 [xC akEql 17 5 42, xM 42 41] (by simp (disch := omega) [k5]; exact rfl) ?_
  refine WDO.nilS (WD.cond (t := false) (by simp) (by simp) fun _ => WD.seqR ?_)
  by_cases k6 : k = 6
  · subst k6
    refine leD 2 [xC akEql 17 6 50, xM 50 49] ?_
    refine cdT ?_
    cases q1 with
    | true =>
      refine leD 9 qM9_4 ?_
      refine WDO.skipG (g := some (57, true)) (by kernel_rfl) (by simp) (by kernel_rfl) ?_
      refine leD 2 [xA 57 60 61 false, xM 61 2] ?_
      refine WDO.nilS (WD.ret (endR _ (by simp; rfl) ?_))
      have e : itemB 6 n t m = false := by rw [hI]; simp
      rw [e]
      exact ⟨rfl, kn⟩
    | false =>
      cases q3 with
      | true =>
        refine leD 9 qM9_4 ?_
        refine WDO.skipG (g := some (57, true)) (by kernel_rfl) (by simp) (by kernel_rfl) ?_
        refine leD 2 [xA 57 60 61 false, xM 61 2] ?_
        refine WDO.nilS (WD.ret (endR _ (by simp; rfl) ?_))
        have e : itemB 6 n t m = false := by rw [hI]; simp
        rw [e]
        exact ⟨rfl, kn⟩
      | false =>
        refine lkD 9 qM9_4 (by simp (disch := omega) [g1, r2]; exact rfl) ?_
        refine WDO.callG (g := 195) (gd := some (57, true)) rfl rfl (by kernel_rfl) (by simp) (by kernel_rfl) (l := .cons (sb t) .nil) (by simp) (utf8Prog_ok htl hG1) fun u H2 ⟨hu, kH⟩ => ?_
        subst hu
        refine leD 2 [xA 57 60 61 false, xM 61 2] ?_
        refine WDO.nilS (WD.ret (endR _ (by simp; rfl) ?_))
        have e : itemB 6 n t m = utf8L t := by rw [hI]; simp
        rw [e]
        exact ⟨rfl, kn.trans kH⟩
  refine lkD 2 [xC akEql 17 6 50, xM 50 49] (by simp (disch := omega) [k6]; exact rfl) ?_
  refine WDO.nilS (WD.cond (t := false) (by simp) (by simp) fun _ => WD.seqR ?_)
  by_cases k7 : k = 7
  · subst k7
    refine leD 2 [xC akEql 17 7 63, xM 63 62] ?_
    refine cdT ?_
    cases q1 with
    | true =>
      refine leD 7 qM9_5 ?_
      refine WDO.nilS (WD.ret (endR _ (by simp; rfl) ?_))
      have e : itemB 7 n t m = false := by rw [hI]; simp
      rw [e]
      exact ⟨rfl, kn⟩
    | false =>
      cases q2 with
      | true =>
        refine leD 7 qM9_5 ?_
        refine WDO.nilS (WD.ret (endR _ (by simp; rfl) ?_))
        have e : itemB 7 n t m = false := by rw [hI]; simp
        rw [e]
        exact ⟨rfl, kn⟩
      | false =>
        refine leD 7 qM9_5 ?_
        refine WDO.nilS (WD.ret (endR _ (by simp; rfl) ?_))
        have e : itemB 7 n t m = true := by rw [hI]; simp
        rw [e]
        exact ⟨rfl, kn⟩
  refine lkD 2 [xC akEql 17 7 63, xM 63 62] (by simp (disch := omega) [k7]; exact rfl) ?_
  refine cdF ?_
  refine WD.seqR ?_
  refine leD 1 [xZ false 2] ?_
  refine WDO.nilS (WD.ret (endR _ (by simp; rfl) ?_))
  have e : itemB k n t m = false := by
    rw [hI]
    by_cases a1 : 0 ≤ k
    · rw [decF (p := k ≤ 7) (by omega)]; simp
    · rw [decF a1]; simp
  rw [e]
  exact ⟨rfl, kn⟩
abbrev qM10_1 : List Lk := [xM 0 8, xN 8 9, xC akGtr 9 64 10, xM 10 11, yM 1 12 11 false, yC akGtr 12 16 13 11 false, xP 11 13 14 true]
theorem drop_chk {l : Its} {i d : Nat} {x : It} (h : l.get i = some x) : (l.drop i).chk d = if itemB x.k x.n x.t x.s.len = false then 20 else if x.k = 7 then (if x.s.check (d + 1) = 0 then (l.drop (i + 1)).chk d else x.s.check (d + 1)) else (l.drop (i + 1)).chk d := by
  rw [Its.drop_get h, Its.chk_cons]
theorem drop0 (l : Its) : l.drop 0 = l := by cases l <;> rfl
set_option maxHeartbeats 1000000 in
theorem check_ok : ∀ (z : Nat) {l : Its} {H : AH} {N d : Nat} {v : AV}, l.size ≤ z → SaysI H N v l → N ≤ H.next → GlobU H → l.size < 17179869184 → d ≤ 100 →
    DC Tryz.prog .normal 128 (.cons v (.cons (.int .i64 (d : Int)) .nil)) H fun v' H2 => v' = .int .i64 ((l.check d : Nat) : Int) ∧ Keep noB H H2
  | z, l, H, N, d, v, hz, hv, hN, hG, hsz, hd => by
    refine DC.of_wd (re := reTmp 4 reNil) tyOk Tryz.func128 (by kernel_rfl) rfl (by kernel_rfl) (by kernel_rfl) ?_
    rw [tl_nil, argsT_cons, argsT_cons, argsT_nil]
    have hlen := hv.len
    have hls := l.len_le
    have bad : 64 < l.len ∨ 16 < d → l.check d = 22 := fun h => by unfold Its.check; rw [if_pos h]
    refine WD.seqR ?_
    refine leD 1 [xK 0 4] ?_
    refine WDO.nilS (WD.seq (WD.seqR ?_))
    by_cases h1 : 64 < l.len
    · refine lkD 7 qM10_1 (by simp (disch := omega) [hlen, decT]; exact rfl) ?_
      refine cdT ?_
      refine leD 1 [xK 22 4] ?_
      exact WDO.nilS (WD.ret (endR _ (by simp; rfl) ⟨by rw [bad (.inl h1)]; rfl, Keep.refl _ _⟩))
    · by_cases h2 : 16 < d
      · refine lkD 7 qM10_1 (by simp (disch := omega) [hlen, decT, decF]; exact rfl) ?_
        refine cdT ?_
        refine leD 1 [xK 22 4] ?_
        exact WDO.nilS (WD.ret (endR _ (by simp; rfl) ⟨by rw [bad (.inr h2)]; rfl, Keep.refl _ _⟩))
      · have hck : l.check d = (l.drop 0).chk d := by unfold Its.check; rw [if_neg (by omega), drop0]
        clear bad
        refine lkD 7 qM10_1 (by simp (disch := omega) [hlen, decF]; exact rfl) ?_
        refine cdF ?_
        refine WD.seq (WD.seqR ?_)
        refine lkD 3 [xM 0 15, xN 15 16, xK 0 17] (by simp (disch := omega) [hlen]; exact rfl) ?_
        refine WDO.nilS ?_
        refine WD.forRC (σ := Nat) (fun i => [(1, .int .i64 (d : Int)), (15, v), (16, .int .i64 (l.len : Int)), (17, .int .i64 (i : Int))]) (fun i H' => i ≤ l.len ∧ l.check d = (l.drop i).chk d ∧ Keep noB H H') (fun i => l.len - i) 0 ⟨Nat.zero_le _, hck, Keep.refl _ _⟩ (by simp) ?_
        rintro i H' ⟨hi, hcur, hk⟩
        have hv' := hv.keep0 hk hN
        refine leD 1 [xB akLss 17 16 18] ?_
        refine WDO.nil ⟨decide (i < l.len), _, rfl, by simp, fun hc => ?_, fun hc => ?_⟩
        · have hc : i = l.len := by have := of_decide_eq_false hc; omega
          subst hc
          rw [Its.drop_len] at hcur
          refine WD.seqR ?_
          refine leD 1 [xK 0 4] ?_
          exact WDO.nilS (WD.ret (endR _ (by simp; rfl) ⟨by rw [hcur]; rfl, hk⟩))
        · have hc : i < l.len := of_decide_eq_true hc
          obtain ⟨x, hx⟩ := l.get_some i hc
          rw [drop_chk hx] at hcur
          have hsx := Its.size_get hx
          obtain ⟨b, off, cap, o, u, e1, _, e3, e4, e5, e6, e7, e8, e9, e10⟩ := hv'.at hx
          have hN' : N ≤ H'.next := Nat.le_trans hN hk.1
          refine WD.seqR ?_
          refine lkD 2 [xI 4 15 17 19, xD 4 19 20] (by simp (disch := omega) [e1, e4, e10, hc]; exact rfl) ?_
          refine WDO.fresh1 tyOk (k := ⟨frAlloc (.cs 27 4 4 false (.cons (.int .i64 0) (.cons (.int .i64 0) (.cons (.str 0 0) (.cons .snil .nil)))) .e)⟩) (by kernel_rfl) rfl (by kernel_rfl) (v := .ptr H'.next 0) (x := .cs 27 4 4 false zIv .e) ?_ ?_
          · simp [zIv]
          have b1 := Bx.new (enc := encI) (e := 27) (es := 4) (z := zIv) (a := zeroIv) encI_len rfl H' (n := 4) rfl
          obtain ⟨H2, s1, s2, s3, s4⟩ := b1.store encI_len ⟨x.k, x.n, x.t, u, e9.cell⟩ (cells_iv _)
          have k2 : Keep noB H' H2 := (Keep.new _ _ _).trans' s4 fun b hb e => by omega
          refine WDO.heavy1 tyOk extOk (k := ⟨hvStore ⟨stN 4⟩ (.tmp 6) (.tmp 20)⟩) (by kernel_rfl) rfl (by kernel_rfl) (by simp only [encI, avl_cons, avl_nil] at s1; simp [s1]; exact ⟨rfl, rfl⟩) ?_
          obtain ⟨o1, g1, g2, g3⟩ := s3.get encI_len
          have gk : rdCell o1 0 = some (.int .i64 x.k) := g2 0 _ rfl
          have gu : rdCell o1 3 = some u := g2 3 _ rfl
          simp only [encI, avl_cons, avl_nil] at g3
          have hk2 := hk.trans k2
          have hG2 := hG.keep hk2 fun _ _ => id
          have hn2 : H'.next < H2.next := by rw [s2]; simp
          clear b1 s1 s3 s4 g2
          generalize H'.next = n1 at g1 hn2 ⊢
          refine WDO.nilS (WD.seq (WD.seqR ?_))
          refine lkD 1 [xD 4 6 21] (by simp (disch := omega) [g1, g3]; exact rfl) ?_
          refine WDO.callF (g := 167) rfl rfl rfl (by kernel_rfl) (l := .cons (itA x.k x.n x.t u) .nil) (by simp [itA]) (isItem_ok hG2 (m := x.s.len) e9.cell e9.len (by omega)) fun r H3 ⟨hr, k3⟩ => ?_
          subst hr
          have hk3 := hk2.trans k3
          have g1' := k3.get hn2 id g1
          refine leD 1 [xU 22 23] ?_
          cases hib : itemB x.k x.n x.t x.s.len with
          | false =>
            rw [if_pos hib] at hcur
            refine cdT ?_
            refine leD 1 [xK 20 4] ?_
            exact WDO.nilS (WD.ret (endR _ (by simp; rfl) ⟨by rw [hcur]; rfl, hk3⟩))
          | true =>
            rw [if_neg (by simp [hib])] at hcur
            refine cdF ?_
            refine WD.seq (WD.seqR ?_)
            by_cases h7 : x.k = 7
            · rw [if_pos h7] at hcur
              rw [h7] at gk
              refine lkD 3 [xF 6 0 24, xL 24 25, xC akNeq 25 7 26] (by simp (disch := omega) [g1', gk]; exact rfl) ?_
              refine cdF ?_
              refine WD.seqR ?_
              refine lkD 4 [xF 6 3 27, xL 27 28, xM 1 29, xC akAdd 29 1 30] (by simp (disch := omega) [g1', gu]; exact rfl) ?_
              have hrec := check_ok (z - 1) (l := x.s) (H := H3) (N := N) (d := d + 1) (v := u) (by omega) (e9.keep0 (k2.trans k3) hN') (by have := hk3.1; omega) (hG2.keep k3 fun _ _ => id) (by omega) (by omega)
              rw [Int.natCast_succ] at hrec
              refine WDO.callF (g := 128) rfl rfl rfl (by kernel_rfl) (l := .cons u (.cons (.int .i64 ((d : Int) + 1)) .nil)) (by simp) hrec fun r H4 ⟨hr, k4⟩ => ?_
              subst hr
              have hk4 := hk3.trans k4
              refine leD 1 [xM 31 7] ?_
              refine WDO.nilS (WD.seqR ?_)
              by_cases hz0 : x.s.check (d + 1) = 0
              · rw [if_pos hz0] at hcur
                refine lkD 2 [xM 7 32, xC akNeq 32 0 33] (by simp (disch := omega) [hz0]; exact rfl) ?_
                refine cdF ?_
                refine leD 2 [xC akAdd 17 1 35, xM 35 17] ?_
                exact WDO.nil ⟨rfl, i + 1, _, rfl, by simp [e1], ⟨by omega, hcur, hk4⟩, by omega⟩
              · rw [if_neg hz0] at hcur
                refine lkD 2 [xM 7 32, xC akNeq 32 0 33] (by simp (disch := omega) [hz0]; exact rfl) ?_
                refine cdT ?_
                refine leD 2 [xM 7 34, xM 34 4] ?_
                exact WDO.nilS (WD.ret (endR _ (by simp; rfl) ⟨by rw [hcur]; rfl, hk4⟩))
            · rw [if_neg h7] at hcur
              refine lkD 3 [xF 6 0 24, xL 24 25, xC akNeq 25 7 26] (by simp (disch := omega) [g1', gk, h7]; exact rfl) ?_
              refine WDO.nilS (WD.cond (t := true) (by simp) (fun _ => WD.exit ?_) (by simp))
              refine ⟨rfl, ?_⟩
              refine leD 2 [xC akAdd 17 1 35, xM 35 17] ?_
              exact WDO.nil ⟨rfl, i + 1, _, rfl, by simp [e1], ⟨by omega, hcur, hk3⟩, by omega⟩
termination_by z => z
decreasing_by omega
theorem Check_ok {l : Its} {H : AH} {N : Nat} {v : AV} (hv : SaysI H N v l) (hN : N ≤ H.next) (hG : GlobU H) (hsz : l.size < 17179869184) :
    DC Tryz.prog .normal 90 (.cons v .nil) H fun v' H2 => v' = .int .i64 ((l.check 0 : Nat) : Int) ∧ Keep noB H H2 := by
  refine DC.of_wd (re := reTmp 2 reNil) tyOk Tryz.func90 (by kernel_rfl) rfl (by kernel_rfl) (by kernel_rfl) ?_
  rw [tl_nil, argsT_cons, argsT_nil]
  refine WD.seqR ?_
  refine leD 1 [xK 0 2] ?_
  refine WDO.nilS (WD.seqR ?_)
  refine leD 1 [xM 0 3] ?_
  refine WDO.callF (g := 128) rfl rfl rfl (by kernel_rfl) (l := .cons v (.cons (.int .i64 0) .nil)) (by simp) (check_ok l.size (d := 0) (Nat.le_refl _) hv hN hG hsz (by omega)) fun r H2 ⟨hr, k2⟩ => ?_
  subst hr
  refine leD 1 [xM 4 2] ?_
  exact WDO.nilS (WD.ret (endR _ (by simp; rfl) ⟨rfl, k2⟩))
end
end Go.Proofs.YtfgipbjaapkdlaaGreatDoor
