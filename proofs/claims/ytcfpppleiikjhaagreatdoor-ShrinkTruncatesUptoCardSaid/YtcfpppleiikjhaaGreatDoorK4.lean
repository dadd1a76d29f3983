/- A part of the proof of this seat's statement: what is particular to its program. Its conditions stand in each theorem. -/
import Derived.Test.YtcfpppleiikjhaaGreatDoorK3
import Derived.Test.YtcfpppleiikjhaaGreatDoorZ6
namespace Go.Proofs.YtcfpppleiikjhaaGreatDoor
open Go.Xq
noncomputable section
set_option maxRecDepth 20000 in
theorem inside_ok {H : AH} {N : Nat} {m : Mt} {n : Int} (hr : RdM H N m) :
    DC Tryz.prog .normal 182 (.cons (.int .i64 n) (.cons (.ptr N 0) .nil)) H fun v' H2 => v' = .bool (decide (n = 0 ∨ 2 ≤ n ∧ n < m.high)) ∧ H2 = H := by
  refine DC.of_wd (re := reTmp 3 reNil) tyOk Tryz.func182 (by kernel_rfl) rfl (by kernel_rfl) (by kernel_rfl) ?_
  rw [tl_nil, argsT_cons, argsT_cons, argsT_nil]
  obtain ⟨o, g1, _, _, _, _, _, _, _, r7, _⟩ := hr.all
  refine WD.seqR ?_
  refine lkD 1 [⟨lkMove (.const (.bool false)), (some 3), none⟩] (by simp (disch := omega) []; exact rfl) ?_
  refine WDO.nilS (WD.seqR ?_)
  by_cases c1 : n = 0
  · refine lkD 13 [xM 0 4, xC akEql 4 0 5, xM 5 6, yM 0 7 6 false, yC akGeq 7 2 8 6 false, yM 8 9 6 false, yM 0 10 9 true, yF 1 7 11 9 true, yL 11 12 9 true, yB akLss 10 12 13 9 true, ⟨⟨pickA (.tmp 9) (.tmp 13) (.const (.bool false))⟩, (some 14), (some (6, false))⟩, xP 6 14 15 true, xM 15 3] (by simp (disch := omega) [c1]; exact rfl) ?_
    exact WDO.nilS (WD.ret (endR _ (by simp; rfl) ⟨by simp [c1, resultA_one], rfl⟩))
  · by_cases c2 : n < 2
    · refine lkD 13 [xM 0 4, xC akEql 4 0 5, xM 5 6, yM 0 7 6 false, yC akGeq 7 2 8 6 false, yM 8 9 6 false, yM 0 10 9 true, yF 1 7 11 9 true, yL 11 12 9 true, yB akLss 10 12 13 9 true, ⟨⟨pickA (.tmp 9) (.tmp 13) (.const (.bool false))⟩, (some 14), (some (6, false))⟩, xP 6 14 15 true, xM 15 3] (by simp (disch := omega) [c1, c2]; exact rfl) ?_
      refine WDO.nilS (WD.ret (endR _ (by simp; rfl) ⟨?_, rfl⟩))
      rw [resultA_one]
      congr 1
      symm
      apply decide_eq_false
      omega
    · by_cases c3 : n < m.high
      · refine lkD 13 [xM 0 4, xC akEql 4 0 5, xM 5 6, yM 0 7 6 false, yC akGeq 7 2 8 6 false, yM 8 9 6 false, yM 0 10 9 true, yF 1 7 11 9 true, yL 11 12 9 true, yB akLss 10 12 13 9 true, ⟨⟨pickA (.tmp 9) (.tmp 13) (.const (.bool false))⟩, (some 14), (some (6, false))⟩, xP 6 14 15 true, xM 15 3] (by simp (disch := omega) [c1, c2, c3, g1, r7]; exact rfl) ?_
        refine WDO.nilS (WD.ret (endR _ (by simp; rfl) ⟨?_, rfl⟩))
        rw [resultA_one]
        congr 1
        symm
        apply decide_eq_true
        omega
      · refine lkD 13 [xM 0 4, xC akEql 4 0 5, xM 5 6, yM 0 7 6 false, yC akGeq 7 2 8 6 false, yM 8 9 6 false, yM 0 10 9 true, yF 1 7 11 9 true, yL 11 12 9 true, yB akLss 10 12 13 9 true, ⟨⟨pickA (.tmp 9) (.tmp 13) (.const (.bool false))⟩, (some 14), (some (6, false))⟩, xP 6 14 15 true, xM 15 3] (by simp (disch := omega) [c1, c2, c3, g1, r7]; exact rfl) ?_
        refine WDO.nilS (WD.ret (endR _ (by simp; rfl) ⟨?_, rfl⟩))
        rw [resultA_one]
        congr 1
        symm
        apply decide_eq_false
        omega
set_option maxRecDepth 20000 in
set_option maxHeartbeats 4000000 in
theorem check_ok {H : AH} {m : Mt} (hh : -9223372036854775806 ≤ m.high) (hh2 : m.high < 9223372036854775808) :
    DC Tryz.prog .normal 122 (.cons (mA m) .nil) H fun v' H2 => (okM m → v' = .int .i64 0) ∧ (¬ okM m → v' = .int .i64 1) ∧ Keep noB H H2 := by
  refine DC.of_wd (re := reTmp 2 reNil) tyOk Tryz.func122 (by kernel_rfl) rfl (by kernel_rfl) (by kernel_rfl) ?_
  rw [tl_nil, argsT_cons, argsT_nil]
  refine WD.seqR ?_
  obtain ⟨o1, e1, hrd, hk1⟩ := boxM (H := H) (m := m) (T := tl [(0, mA m)]) (by simp)
  refine WDO.fresh1 tyOk (k := ⟨frBox ⟨mkCs 75 8 (.cons (.int .i64 0) (.cons (.int .i64 0) (.cons (.int .i64 0) (.cons (.int .i64 0) (.cons (.int .i64 0) (.cons (.int .i64 0) (.cons (.int .i64 0) (.cons (.int .i64 0) .nil))))))))⟩ (.tmp 0)⟩) (by kernel_rfl) rfl (by kernel_rfl) e1 ?_
  obtain ⟨o, g1, r0, r1, r2, r3, r4, r5, r6, r7, _⟩ := hrd.all
  generalize H.new o1 = H1 at hrd g1 hk1 ⊢
  generalize H.next = N at hrd g1 ⊢
  refine lkD 1 [⟨lkMove (.const (.int .i64 0)), (some 2), none⟩] (by simp (disch := omega) []; exact rfl) ?_
  refine WDO.nilS (WD.seqR ?_)
  refine lkD 2 [⟨⟨makeFn (.func 182) (opnds []) (opnds [(.tmp 1)])⟩, (some 4), none⟩, xM 4 3] (by simp (disch := omega) []; exact rfl) ?_
  obtain ⟨fnv, hfn⟩ : ∃ fnv, fnv = AV.fn (.func 182) .nil (.cons (.ptr N 0) .nil) := ⟨_, rfl⟩
  refine WDO.nilS (WD.keep (l := [(1, .ptr N 0), (3, fnv)]) (WD.seq (WD.block (WD.seq (WD.seqR ?_)))) (by simp [hfn]))
  obtain ⟨b3, l', hb3, hrun, hsub⟩ : ∃ (b3 : Bool) (l' : List (Nat × AV)), (b3 = true ↔ ¬ (m.engine = 1 ∨ m.engine = 2)) ∧ runLk [xF 1 0 6, xL 6 7, xC akNeq 7 1 8, xM 8 9, yF 1 0 10 9 true, yL 10 11 9 true, yC akNeq 11 2 12 9 true, ⟨⟨pickA (.tmp 9) (.tmp 12) (.const (.bool false))⟩, (some 13), none⟩, xM 13 5] (tl [(1, .ptr N 0), (3, fnv)]) H1 = some (tl l') ∧ lsub [(1, .ptr N 0), (3, fnv), (5, .bool b3)] l' := by
    by_cases c1 : m.engine = 1
    · exact ⟨false, _, by simp [c1], by simp (disch := omega) [g1, r0, c1]; exact rfl, by simp⟩
    · by_cases c2 : m.engine = 2
      · exact ⟨false, _, by simp [c2], by simp (disch := omega) [g1, r0, c2]; exact rfl, by simp⟩
      · exact ⟨true, _, by simp [c1, c2], by simp (disch := omega) [g1, r0, c1, c2]; exact rfl, by simp⟩
  refine lkD 9 [xF 1 0 6, xL 6 7, xC akNeq 7 1 8, xM 8 9, yF 1 0 10 9 true, yL 10 11 9 true, yC akNeq 11 2 12 9 true, ⟨⟨pickA (.tmp 9) (.tmp 12) (.const (.bool false))⟩, (some 13), none⟩, xM 13 5] hrun ?_
  cases b3 with
  | true =>
    have hno : ¬ okM m := fun h => hb3.1 rfl h.1
    refine WDO.nilS (WD.keep (WD.cond (t := true) (by simp) (fun _ => WD.skip (.inl rfl) ?_) (by simp)) hsub)
    refine WD.cond (t := true) (by simp) (fun _ => WD.seqR ?_) (by simp)
    refine lkD 1 [⟨lkMove (.const (.int .i64 1)), (some 2), none⟩] (by simp (disch := omega) []; exact rfl) ?_
    exact WDO.nilS (WD.ret (endR _ (by simp; rfl) ⟨fun h => absurd h hno, fun _ => rfl, hk1⟩))
  | false =>
  replace hb3 : ¬ (¬ (m.engine = 1 ∨ m.engine = 2)) := fun h => by have := hb3.2 h; cases this
  refine WDO.nilS (WD.keep (WD.cond (t := false) (by simp) (by simp) fun _ => WD.keep (l := [(1, .ptr N 0), (3, fnv)]) (WD.seqR ?_) (by simp)) hsub)
  clear hrun hsub l'
  obtain ⟨b4, l', hb4, hrun, hsub⟩ : ∃ (b4 : Bool) (l' : List (Nat × AV)), (b4 = true ↔ ¬ (isPgI m.page = true)) ∧ runLk [xF 1 1 14, xL 14 15, xC akLss 15 512 16, xM 16 17, yF 1 1 18 17 false, yL 18 19 17 false, yC akGtr 19 65536 20 17 false, xP 17 20 21 true, xM 21 22, yF 1 1 23 22 false, yL 23 24 22 false, yF 1 1 25 22 false, yL 25 26 22 false, yC akSub 26 1 27 22 false, yB akAnd 24 27 28 22 false, yC akNeq 28 0 29 22 false, xP 22 29 30 true, xM 30 5] (tl [(1, .ptr N 0), (3, fnv)]) H1 = some (tl l') ∧ lsub [(1, .ptr N 0), (3, fnv), (5, .bool b4)] l' := by
    have hpg := @pgI_cases m.page
    by_cases c1 : m.page < 512
    · have e2 : isPgI m.page = false := by
        cases e : isPgI m.page with
        | false => rfl
        | true => have := hpg e; omega
      exact ⟨true, _, by simp [e2], by simp (disch := omega) [g1, r1, c1]; exact rfl, by simp⟩
    · by_cases c2 : 65536 < m.page
      · have e2 : isPgI m.page = false := by
          cases e : isPgI m.page with
          | false => rfl
          | true => have := hpg e; omega
        exact ⟨true, _, by simp [e2], by simp (disch := omega) [g1, r1, c1, c2]; exact rfl, by simp⟩
      · obtain ⟨pn, hpn⟩ : ∃ pn : Nat, m.page = (pn : Int) := ⟨m.page.toNat, by omega⟩
        rw [hpn] at r1 c1 c2 hpg ⊢
        obtain ⟨q, hq⟩ : ∃ q, q = Nat.land pn (pn - 1) := ⟨_, rfl⟩
        have e1 : (pn : Int) - 1 = ((pn - 1 : Nat) : Int) := by omega
        have ga : akAnd.f .i64 (pn : Int) ((pn : Int) - 1) = some (.int .i64 (q : Int)) := by rw [e1]; exact akAnd_i64 (by omega) (by omega) hq
        have hl := pg_land (n := pn) (by omega) (by omega)
        rw [← hq] at hl
        have e2 : isPgI (pn : Int) = isPg pn := by simp [isPgI]
        rw [e2]
        by_cases h0 : q = 0
        · have h1 := hl.1 h0
          exact ⟨false, _, by simp [h1], by simp (disch := omega) [g1, r1, c1, c2, ga, h0]; exact rfl, by simp⟩
        · have h1 : isPg pn = false := by
            cases e : isPg pn with
            | false => rfl
            | true => exact absurd (hl.2 e) h0
          exact ⟨true, _, by simp [h1], by simp (disch := omega) [g1, r1, c1, c2, ga, h0]; exact rfl, by simp⟩
  refine lkD 18 [xF 1 1 14, xL 14 15, xC akLss 15 512 16, xM 16 17, yF 1 1 18 17 false, yL 18 19 17 false, yC akGtr 19 65536 20 17 false, xP 17 20 21 true, xM 21 22, yF 1 1 23 22 false, yL 23 24 22 false, yF 1 1 25 22 false, yL 25 26 22 false, yC akSub 26 1 27 22 false, yB akAnd 24 27 28 22 false, yC akNeq 28 0 29 22 false, xP 22 29 30 true, xM 30 5] hrun ?_
  cases b4 with
  | true =>
    have hno : ¬ okM m := fun h => hb4.1 rfl h.2.1
    refine WDO.nilS (WD.keep (WD.cond (t := true) (by simp) (fun _ => WD.skip (.inl rfl) ?_) (by simp)) hsub)
    refine WD.cond (t := true) (by simp) (fun _ => WD.seqR ?_) (by simp)
    refine lkD 1 [⟨lkMove (.const (.int .i64 1)), (some 2), none⟩] (by simp (disch := omega) []; exact rfl) ?_
    exact WDO.nilS (WD.ret (endR _ (by simp; rfl) ⟨fun h => absurd h hno, fun _ => rfl, hk1⟩))
  | false =>
  replace hb4 : ¬ (¬ (isPgI m.page = true)) := fun h => by have := hb4.2 h; cases this
  refine WDO.nilS (WD.keep (WD.cond (t := false) (by simp) (by simp) fun _ => WD.keep (l := [(1, .ptr N 0), (3, fnv)]) (WD.seqR ?_) (by simp)) hsub)
  clear hrun hsub l'
  obtain ⟨b5, l', hb5, hrun, hsub⟩ : ∃ (b5 : Bool) (l' : List (Nat × AV)), (b5 = true ↔ ¬ (0 ≤ m.txn ∧ m.txn ≤ 1099511627776)) ∧ runLk [xF 1 2 31, xL 31 32, xC akLss 32 0 33, xM 33 34, yF 1 2 35 34 false, yL 35 36 34 false, yC akGtr 36 1099511627776 37 34 false, xP 34 37 38 true, xM 38 5] (tl [(1, .ptr N 0), (3, fnv)]) H1 = some (tl l') ∧ lsub [(1, .ptr N 0), (3, fnv), (5, .bool b5)] l' := by
    by_cases c1 : m.txn < 0
    · exact ⟨true, _, by simp; omega, by simp (disch := omega) [g1, r2, c1]; exact rfl, by simp⟩
    · by_cases c2 : 1099511627776 < m.txn
      · exact ⟨true, _, by simp; omega, by simp (disch := omega) [g1, r2, c1, c2]; exact rfl, by simp⟩
      · exact ⟨false, _, by simp; omega, by simp (disch := omega) [g1, r2, c1, c2]; exact rfl, by simp⟩
  refine lkD 9 [xF 1 2 31, xL 31 32, xC akLss 32 0 33, xM 33 34, yF 1 2 35 34 false, yL 35 36 34 false, yC akGtr 36 1099511627776 37 34 false, xP 34 37 38 true, xM 38 5] hrun ?_
  cases b5 with
  | true =>
    have hno : ¬ okM m := fun h => hb5.1 rfl h.2.2.1
    refine WDO.nilS (WD.keep (WD.cond (t := true) (by simp) (fun _ => WD.skip (.inl rfl) ?_) (by simp)) hsub)
    refine WD.cond (t := true) (by simp) (fun _ => WD.seqR ?_) (by simp)
    refine lkD 1 [⟨lkMove (.const (.int .i64 1)), (some 2), none⟩] (by simp (disch := omega) []; exact rfl) ?_
    exact WDO.nilS (WD.ret (endR _ (by simp; rfl) ⟨fun h => absurd h hno, fun _ => rfl, hk1⟩))
  | false =>
  replace hb5 : ¬ (¬ (0 ≤ m.txn ∧ m.txn ≤ 1099511627776)) := fun h => by have := hb5.2 h; cases this
  refine WDO.nilS (WD.keep (WD.cond (t := false) (by simp) (by simp) fun _ => WD.keep (l := [(1, .ptr N 0), (3, fnv)]) (WD.seqR ?_) (by simp)) hsub)
  clear hrun hsub l'
  obtain ⟨b6, l', hb6, hrun, hsub⟩ : ∃ (b6 : Bool) (l' : List (Nat × AV)), (b6 = true ↔ ¬ (2 ≤ m.high ∧ m.high ≤ 65536)) ∧ runLk [xF 1 7 39, xL 39 40, xC akLss 40 2 41, xM 41 42, yF 1 7 43 42 false, yL 43 44 42 false, yC akGtr 44 65536 45 42 false, xP 42 45 46 true, xM 46 5] (tl [(1, .ptr N 0), (3, fnv)]) H1 = some (tl l') ∧ lsub [(1, .ptr N 0), (3, fnv), (5, .bool b6)] l' := by
    by_cases c1 : m.high < 2
    · exact ⟨true, _, by simp; omega, by simp (disch := omega) [g1, r7, c1]; exact rfl, by simp⟩
    · by_cases c2 : 65536 < m.high
      · exact ⟨true, _, by simp; omega, by simp (disch := omega) [g1, r7, c1, c2]; exact rfl, by simp⟩
      · exact ⟨false, _, by simp; omega, by simp (disch := omega) [g1, r7, c1, c2]; exact rfl, by simp⟩
  refine lkD 9 [xF 1 7 39, xL 39 40, xC akLss 40 2 41, xM 41 42, yF 1 7 43 42 false, yL 43 44 42 false, yC akGtr 44 65536 45 42 false, xP 42 45 46 true, xM 46 5] hrun ?_
  cases b6 with
  | true =>
    have hno : ¬ okM m := fun h => hb6.1 rfl h.2.2.2.1
    refine WDO.nilS (WD.keep (WD.cond (t := true) (by simp) (fun _ => WD.skip (.inl rfl) ?_) (by simp)) hsub)
    refine WD.cond (t := true) (by simp) (fun _ => WD.seqR ?_) (by simp)
    refine lkD 1 [⟨lkMove (.const (.int .i64 1)), (some 2), none⟩] (by simp (disch := omega) []; exact rfl) ?_
    exact WDO.nilS (WD.ret (endR _ (by simp; rfl) ⟨fun h => absurd h hno, fun _ => rfl, hk1⟩))
  | false =>
  replace hb6 : ¬ (¬ (2 ≤ m.high ∧ m.high ≤ 65536)) := fun h => by have := hb6.2 h; cases this
  refine WDO.nilS (WD.keep (WD.cond (t := false) (by simp) (by simp) fun _ => WD.keep (l := [(1, .ptr N 0), (3, fnv)]) (WD.seqR ?_) (by simp)) hsub)
  clear hrun hsub l'
  subst hfn
  refine lkD 3 [xM 3 47, xF 1 3 48, xL 48 49] (by simp (disch := omega) [g1, r3]; exact rfl) ?_
  refine WDO.callV (f := .tmp 47) (g := 182) (first := .nil) (cap := .cons (.ptr N 0) .nil) rfl rfl (by simp) rfl (by kernel_rfl) (l := .cons (.int .i64 m.root) .nil) (by simp) (inside_ok hrd) fun u Hx ⟨hu, hH⟩ => ?_
  subst hu
  subst hH
  by_cases d1 : m.root = 0 ∨ 2 ≤ m.root ∧ m.root < m.high
  · rw [decide_eq_true d1]
    refine lkD 5 [xU 50 51, xM 51 52, yM 3 53 52 false, yF 1 5 54 52 false, yL 54 55 52 false] (by simp (disch := omega) [g1, r5]; exact rfl) ?_
    refine WDO.callGV (f := .tmp 53) (g := 182) (first := .nil) (cap := .cons (.ptr N 0) .nil) (gd := some (52, false)) rfl rfl (by simp) (by kernel_rfl) (by simp [wantA, wantG, get_tl]) (by kernel_rfl) (l := .cons (.int .i64 m.free) .nil) (by simp) (inside_ok hrd) fun u Hx ⟨hu, hH⟩ => ?_
    subst hu
    subst hH
    by_cases d2 : m.free = 0 ∨ 2 ≤ m.free ∧ m.free < m.high
    · rw [decide_eq_true d2]
      by_cases c3 : m.root = m.free
      · by_cases c4 : m.free = 0
        · refine lkD 15 [⟨lkUn ukNot (.tmp 56), (some 57), (some (52, false))⟩, xP 52 57 58 true, xM 58 59, yF 1 3 60 59 false, yL 60 61 59 false, yF 1 5 62 59 false, yL 62 63 59 false, yB akEql 61 63 64 59 false, yM 64 65 59 false, yF 1 3 66 65 true, yL 66 67 65 true, yC akNeq 67 0 68 65 true, ⟨⟨pickA (.tmp 65) (.tmp 68) (.const (.bool false))⟩, (some 69), (some (59, false))⟩, xP 59 69 70 true, xM 70 5] (by simp (disch := omega) [g1, r3, r5, c3, c4]; exact rfl) ?_
          refine WDO.nilS (WD.cond (t := false) (by simp) (by simp) fun _ => WD.keep (l := [(1, .ptr N 0)]) (WD.seqR ?_) (by simp))
          have hrf : ¬ (m.root = m.free ∧ m.root ≠ 0) := by omega
          obtain ⟨b12, l', hb12, hrun, hsub⟩ : ∃ (b12 : Bool) (l' : List (Nat × AV)), (b12 = true ↔ ¬ ((0 ≤ m.count ∧ m.count ≤ 256) ∧ (m.count = 0 ↔ m.root = 0))) ∧ runLk [xF 1 4 71, xL 71 72, xC akLss 72 0 73, xM 73 74, yF 1 4 75 74 false, yL 75 76 74 false, yC akGtr 76 256 77 74 false, xP 74 77 78 true, xM 78 79, yF 1 4 80 79 false, yL 80 81 79 false, yC akEql 81 0 82 79 false, yF 1 3 83 79 false, yL 83 84 79 false, yC akEql 84 0 85 79 false, ⟨⟨binEq ⟨eqBool⟩ true (.tmp 82) (.tmp 85)⟩, (some 86), (some (79, false))⟩, xP 79 86 87 true, xM 87 5] (tl [(1, .ptr N 0)]) Hx = some (tl l') ∧ lsub [(1, .ptr N 0), (5, .bool b12)] l' := by
            by_cases c1 : m.count < 0
            · exact ⟨true, _, by simp; omega, by simp (disch := omega) [g1, r4, c1]; exact rfl, by simp⟩
            · by_cases c2 : 256 < m.count
              · exact ⟨true, _, by simp; omega, by simp (disch := omega) [g1, r4, c1, c2]; exact rfl, by simp⟩
              · by_cases c3 : m.count = 0
                · by_cases c4 : m.root = 0
                  · exact ⟨false, _, by simp [c3, c4], by simp (disch := omega) [g1, r4, r3, c3, c4]; exact rfl, by simp⟩
                  · exact ⟨true, _, by simp [c3, c4], by simp (disch := omega) [g1, r4, r3, c3, c4]; exact rfl, by simp⟩
                · by_cases c4 : m.root = 0
                  · exact ⟨true, _, by simp [c3, c4], by simp (disch := omega) [g1, r4, r3, c1, c2, c3, c4]; exact rfl, by simp⟩
                  · exact ⟨false, _, by simp [c3, c4]; omega, by simp (disch := omega) [g1, r4, r3, c1, c2, c3, c4]; exact rfl, by simp⟩
          refine lkD 18 [xF 1 4 71, xL 71 72, xC akLss 72 0 73, xM 73 74, yF 1 4 75 74 false, yL 75 76 74 false, yC akGtr 76 256 77 74 false, xP 74 77 78 true, xM 78 79, yF 1 4 80 79 false, yL 80 81 79 false, yC akEql 81 0 82 79 false, yF 1 3 83 79 false, yL 83 84 79 false, yC akEql 84 0 85 79 false, ⟨⟨binEq ⟨eqBool⟩ true (.tmp 82) (.tmp 85)⟩, (some 86), (some (79, false))⟩, xP 79 86 87 true, xM 87 5] hrun ?_
          cases b12 with
          | true =>
            have hno : ¬ okM m := fun h => hb12.1 rfl ⟨h.2.2.2.2.2.2.2.1, h.2.2.2.2.2.2.2.2.1⟩
            refine WDO.nilS (WD.keep (WD.cond (t := true) (by simp) (fun _ => WD.skip (.inl rfl) ?_) (by simp)) hsub)
            refine WD.cond (t := true) (by simp) (fun _ => WD.seqR ?_) (by simp)
            refine lkD 1 [⟨lkMove (.const (.int .i64 1)), (some 2), none⟩] (by simp (disch := omega) []; exact rfl) ?_
            exact WDO.nilS (WD.ret (endR _ (by simp; rfl) ⟨fun h => absurd h hno, fun _ => rfl, hk1⟩))
          | false =>
          replace hb12 : ¬ (¬ ((0 ≤ m.count ∧ m.count ≤ 256) ∧ (m.count = 0 ↔ m.root = 0))) := fun h => by have := hb12.2 h; cases this
          refine WDO.nilS (WD.keep (WD.cond (t := false) (by simp) (by simp) fun _ => WD.keep (l := [(1, .ptr N 0)]) (WD.region ?_) (by simp)) hsub)
          clear hrun hsub l'
          obtain ⟨b13, l', hb13, hrun, hsub⟩ : ∃ (b13 : Bool) (l' : List (Nat × AV)), (b13 = true ↔ ¬ ((0 ≤ m.listed ∧ m.listed ≤ m.high - 2) ∧ (m.listed = 0 ∨ m.free ≠ 0))) ∧ runLk [xF 1 6 88, xL 88 89, xC akLss 89 0 90, xM 90 91, yF 1 6 92 91 false, yL 92 93 91 false, yF 1 7 94 91 false, yL 94 95 91 false, yC akSub 95 2 96 91 false, yB akGtr 93 96 97 91 false, xP 91 97 98 true, xM 98 99, yF 1 6 100 99 false, yL 100 101 99 false, yC akGtr 101 0 102 99 false, yM 102 103 99 false, yF 1 5 104 103 true, yL 104 105 103 true, yC akEql 105 0 106 103 true, ⟨⟨pickA (.tmp 103) (.tmp 106) (.const (.bool false))⟩, (some 107), (some (99, false))⟩, xP 99 107 108 true, xM 108 5] (tl [(1, .ptr N 0)]) Hx = some (tl l') ∧ lsub [(1, .ptr N 0), (5, .bool b13)] l' := by
            by_cases c1 : m.listed < 0
            · exact ⟨true, _, by simp; omega, by simp (disch := omega) [g1, r6, c1]; exact rfl, by simp⟩
            · by_cases c2 : m.high - 2 < m.listed
              · exact ⟨true, _, by simp; omega, by simp (disch := omega) [g1, r6, r7, c1, c2]; exact rfl, by simp⟩
              · by_cases c3 : 0 < m.listed
                · by_cases c4 : m.free = 0
                  · exact ⟨true, _, by simp [c4]; omega, by simp (disch := omega) [g1, r5, r6, r7, c1, c2, c3, c4]; exact rfl, by simp⟩
                  · exact ⟨false, _, by simp [c4]; omega, by simp (disch := omega) [g1, r5, r6, r7, c1, c2, c3, c4]; exact rfl, by simp⟩
                · exact ⟨false, _, by simp; omega, by simp (disch := omega) [g1, r6, r7, c1, c2, c3]; exact rfl, by simp⟩
          refine lkD 22 [xF 1 6 88, xL 88 89, xC akLss 89 0 90, xM 90 91, yF 1 6 92 91 false, yL 92 93 91 false, yF 1 7 94 91 false, yL 94 95 91 false, yC akSub 95 2 96 91 false, yB akGtr 93 96 97 91 false, xP 91 97 98 true, xM 98 99, yF 1 6 100 99 false, yL 100 101 99 false, yC akGtr 101 0 102 99 false, yM 102 103 99 false, yF 1 5 104 103 true, yL 104 105 103 true, yC akEql 105 0 106 103 true, ⟨⟨pickA (.tmp 103) (.tmp 106) (.const (.bool false))⟩, (some 107), (some (99, false))⟩, xP 99 107 108 true, xM 108 5] hrun ?_
          cases b13 with
          | true =>
            have hno : ¬ okM m := fun h => hb13.1 rfl ⟨h.2.2.2.2.2.2.2.2.2.1, h.2.2.2.2.2.2.2.2.2.2⟩
            refine WDO.nil (WD.keep (l := [(1, .ptr N 0), (5, .bool true)]) ?_ hsub)
            refine WD.cond (t := true) (by simp) (fun _ => WD.seqR ?_) (by simp)
            refine lkD 1 [⟨lkMove (.const (.int .i64 1)), (some 2), none⟩] (by simp (disch := omega) []; exact rfl) ?_
            exact WDO.nilS (WD.ret (endR _ (by simp; rfl) ⟨fun h => absurd h hno, fun _ => rfl, hk1⟩))
          | false =>
          replace hb13 : ¬ (¬ ((0 ≤ m.listed ∧ m.listed ≤ m.high - 2) ∧ (m.listed = 0 ∨ m.free ≠ 0))) := fun h => by have := hb13.2 h; cases this
          have hyes : okM m := ⟨Classical.not_not.1 hb3, Classical.not_not.1 hb4, Classical.not_not.1 hb5, Classical.not_not.1 hb6, d1, d2, hrf, (Classical.not_not.1 hb12).1, (Classical.not_not.1 hb12).2, (Classical.not_not.1 hb13).1, (Classical.not_not.1 hb13).2⟩
          refine WDO.nil (WD.keep (l := [(1, .ptr N 0), (5, .bool false)]) (WD.cond (t := false) (by simp) (by simp) fun _ => WD.skip (.inl rfl) (WD.seqR ?_)) hsub)
          refine lkD 1 [⟨lkMove (.const (.int .i64 0)), (some 2), none⟩] (by simp (disch := omega) []; exact rfl) ?_
          exact WDO.nilS (WD.ret (endR _ (by simp; rfl) ⟨fun _ => rfl, fun h => absurd hyes h, hk1⟩))
        · have hno : ¬ okM m := fun h => h.2.2.2.2.2.2.1 ⟨c3, by omega⟩
          refine lkD 15 [⟨lkUn ukNot (.tmp 56), (some 57), (some (52, false))⟩, xP 52 57 58 true, xM 58 59, yF 1 3 60 59 false, yL 60 61 59 false, yF 1 5 62 59 false, yL 62 63 59 false, yB akEql 61 63 64 59 false, yM 64 65 59 false, yF 1 3 66 65 true, yL 66 67 65 true, yC akNeq 67 0 68 65 true, ⟨⟨pickA (.tmp 65) (.tmp 68) (.const (.bool false))⟩, (some 69), (some (59, false))⟩, xP 59 69 70 true, xM 70 5] (by simp (disch := omega) [g1, r3, r5, c3, c4]; exact rfl) ?_
          refine WDO.nilS (WD.cond (t := true) (by simp) (fun _ => WD.skip (.inl rfl) ?_) (by simp))
          refine WD.cond (t := true) (by simp) (fun _ => WD.seqR ?_) (by simp)
          refine lkD 1 [⟨lkMove (.const (.int .i64 1)), (some 2), none⟩] (by simp (disch := omega) []; exact rfl) ?_
          exact WDO.nilS (WD.ret (endR _ (by simp; rfl) ⟨fun h => absurd h hno, fun _ => rfl, hk1⟩))
      · refine lkD 15 [⟨lkUn ukNot (.tmp 56), (some 57), (some (52, false))⟩, xP 52 57 58 true, xM 58 59, yF 1 3 60 59 false, yL 60 61 59 false, yF 1 5 62 59 false, yL 62 63 59 false, yB akEql 61 63 64 59 false, yM 64 65 59 false, yF 1 3 66 65 true, yL 66 67 65 true, yC akNeq 67 0 68 65 true, ⟨⟨pickA (.tmp 65) (.tmp 68) (.const (.bool false))⟩, (some 69), (some (59, false))⟩, xP 59 69 70 true, xM 70 5] (by simp (disch := omega) [g1, r3, r5, c3]; exact rfl) ?_
        refine WDO.nilS (WD.cond (t := false) (by simp) (by simp) fun _ => WD.keep (l := [(1, .ptr N 0)]) (WD.seqR ?_) (by simp))
        have hrf : ¬ (m.root = m.free ∧ m.root ≠ 0) := by omega
        obtain ⟨b12, l', hb12, hrun, hsub⟩ : ∃ (b12 : Bool) (l' : List (Nat × AV)), (b12 = true ↔ ¬ ((0 ≤ m.count ∧ m.count ≤ 256) ∧ (m.count = 0 ↔ m.root = 0))) ∧ runLk [xF 1 4 71, xL 71 72, xC akLss 72 0 73, xM 73 74, yF 1 4 75 74 false, yL 75 76 74 false, yC akGtr 76 256 77 74 false, xP 74 77 78 true, xM 78 79, yF 1 4 80 79 false, yL 80 81 79 false, yC akEql 81 0 82 79 false, yF 1 3 83 79 false, yL 83 84 79 false, yC akEql 84 0 85 79 false, ⟨⟨binEq ⟨eqBool⟩ true (.tmp 82) (.tmp 85)⟩, (some 86), (some (79, false))⟩, xP 79 86 87 true, xM 87 5] (tl [(1, .ptr N 0)]) Hx = some (tl l') ∧ lsub [(1, .ptr N 0), (5, .bool b12)] l' := by
          by_cases c1 : m.count < 0
          · exact ⟨true, _, by simp; omega, by simp (disch := omega) [g1, r4, c1]; exact rfl, by simp⟩
          · by_cases c2 : 256 < m.count
            · exact ⟨true, _, by simp; omega, by simp (disch := omega) [g1, r4, c1, c2]; exact rfl, by simp⟩
            · by_cases c3 : m.count = 0
              · by_cases c4 : m.root = 0
                · exact ⟨false, _, by simp [c3, c4], by simp (disch := omega) [g1, r4, r3, c3, c4]; exact rfl, by simp⟩
                · exact ⟨true, _, by simp [c3, c4], by simp (disch := omega) [g1, r4, r3, c3, c4]; exact rfl, by simp⟩
              · by_cases c4 : m.root = 0
                · exact ⟨true, _, by simp [c3, c4], by simp (disch := omega) [g1, r4, r3, c1, c2, c3, c4]; exact rfl, by simp⟩
                · exact ⟨false, _, by simp [c3, c4]; omega, by simp (disch := omega) [g1, r4, r3, c1, c2, c3, c4]; exact rfl, by simp⟩
        refine lkD 18 [xF 1 4 71, xL 71 72, xC akLss 72 0 73, xM 73 74, yF 1 4 75 74 false, yL 75 76 74 false, yC akGtr 76 256 77 74 false, xP 74 77 78 true, xM 78 79, yF 1 4 80 79 false, yL 80 81 79 false, yC akEql 81 0 82 79 false, yF 1 3 83 79 false, yL 83 84 79 false, yC akEql 84 0 85 79 false, ⟨⟨binEq ⟨eqBool⟩ true (.tmp 82) (.tmp 85)⟩, (some 86), (some (79, false))⟩, xP 79 86 87 true, xM 87 5] hrun ?_
        cases b12 with
        | true =>
          have hno : ¬ okM m := fun h => hb12.1 rfl ⟨h.2.2.2.2.2.2.2.1, h.2.2.2.2.2.2.2.2.1⟩
          refine WDO.nilS (WD.keep (WD.cond (t := true) (by simp) (fun _ => WD.skip (.inl rfl) ?_) (by simp)) hsub)
          refine WD.cond (t := true) (by simp) (fun _ => WD.seqR ?_) (by simp)
          refine lkD 1 [⟨lkMove (.const (.int .i64 1)), (some 2), none⟩] (by simp (disch := omega) []; exact rfl) ?_
          exact WDO.nilS (WD.ret (endR _ (by simp; rfl) ⟨fun h => absurd h hno, fun _ => rfl, hk1⟩))
        | false =>
        replace hb12 : ¬ (¬ ((0 ≤ m.count ∧ m.count ≤ 256) ∧ (m.count = 0 ↔ m.root = 0))) := fun h => by have := hb12.2 h; cases this
        refine WDO.nilS (WD.keep (WD.cond (t := false) (by simp) (by simp) fun _ => WD.keep (l := [(1, .ptr N 0)]) (WD.region ?_) (by simp)) hsub)
        clear hrun hsub l'
        obtain ⟨b13, l', hb13, hrun, hsub⟩ : ∃ (b13 : Bool) (l' : List (Nat × AV)), (b13 = true ↔ ¬ ((0 ≤ m.listed ∧ m.listed ≤ m.high - 2) ∧ (m.listed = 0 ∨ m.free ≠ 0))) ∧ runLk [xF 1 6 88, xL 88 89, xC akLss 89 0 90, xM 90 91, yF 1 6 92 91 false, yL 92 93 91 false, yF 1 7 94 91 false, yL 94 95 91 false, yC akSub 95 2 96 91 false, yB akGtr 93 96 97 91 false, xP 91 97 98 true, xM 98 99, yF 1 6 100 99 false, yL 100 101 99 false, yC akGtr 101 0 102 99 false, yM 102 103 99 false, yF 1 5 104 103 true, yL 104 105 103 true, yC akEql 105 0 106 103 true, ⟨⟨pickA (.tmp 103) (.tmp 106) (.const (.bool false))⟩, (some 107), (some (99, false))⟩, xP 99 107 108 true, xM 108 5] (tl [(1, .ptr N 0)]) Hx = some (tl l') ∧ lsub [(1, .ptr N 0), (5, .bool b13)] l' := by
          by_cases c1 : m.listed < 0
          · exact ⟨true, _, by simp; omega, by simp (disch := omega) [g1, r6, c1]; exact rfl, by simp⟩
          · by_cases c2 : m.high - 2 < m.listed
            · exact ⟨true, _, by simp; omega, by simp (disch := omega) [g1, r6, r7, c1, c2]; exact rfl, by simp⟩
            · by_cases c3 : 0 < m.listed
              · by_cases c4 : m.free = 0
                · exact ⟨true, _, by simp [c4]; omega, by simp (disch := omega) [g1, r5, r6, r7, c1, c2, c3, c4]; exact rfl, by simp⟩
                · exact ⟨false, _, by simp [c4]; omega, by simp (disch := omega) [g1, r5, r6, r7, c1, c2, c3, c4]; exact rfl, by simp⟩
              · exact ⟨false, _, by simp; omega, by simp (disch := omega) [g1, r6, r7, c1, c2, c3]; exact rfl, by simp⟩
        refine lkD 22 [xF 1 6 88, xL 88 89, xC akLss 89 0 90, xM 90 91, yF 1 6 92 91 false, yL 92 93 91 false, yF 1 7 94 91 false, yL 94 95 91 false, yC akSub 95 2 96 91 false, yB akGtr 93 96 97 91 false, xP 91 97 98 true, xM 98 99, yF 1 6 100 99 false, yL 100 101 99 false, yC akGtr 101 0 102 99 false, yM 102 103 99 false, yF 1 5 104 103 true, yL 104 105 103 true, yC akEql 105 0 106 103 true, ⟨⟨pickA (.tmp 103) (.tmp 106) (.const (.bool false))⟩, (some 107), (some (99, false))⟩, xP 99 107 108 true, xM 108 5] hrun ?_
        cases b13 with
        | true =>
          have hno : ¬ okM m := fun h => hb13.1 rfl ⟨h.2.2.2.2.2.2.2.2.2.1, h.2.2.2.2.2.2.2.2.2.2⟩
          refine WDO.nil (WD.keep (l := [(1, .ptr N 0), (5, .bool true)]) ?_ hsub)
          refine WD.cond (t := true) (by simp) (fun _ => WD.seqR ?_) (by simp)
          refine lkD 1 [⟨lkMove (.const (.int .i64 1)), (some 2), none⟩] (by simp (disch := omega) []; exact rfl) ?_
          exact WDO.nilS (WD.ret (endR _ (by simp; rfl) ⟨fun h => absurd h hno, fun _ => rfl, hk1⟩))
        | false =>
        replace hb13 : ¬ (¬ ((0 ≤ m.listed ∧ m.listed ≤ m.high - 2) ∧ (m.listed = 0 ∨ m.free ≠ 0))) := fun h => by have := hb13.2 h; cases this
        have hyes : okM m := ⟨Classical.not_not.1 hb3, Classical.not_not.1 hb4, Classical.not_not.1 hb5, Classical.not_not.1 hb6, d1, d2, hrf, (Classical.not_not.1 hb12).1, (Classical.not_not.1 hb12).2, (Classical.not_not.1 hb13).1, (Classical.not_not.1 hb13).2⟩
        refine WDO.nil (WD.keep (l := [(1, .ptr N 0), (5, .bool false)]) (WD.cond (t := false) (by simp) (by simp) fun _ => WD.skip (.inl rfl) (WD.seqR ?_)) hsub)
        refine lkD 1 [⟨lkMove (.const (.int .i64 0)), (some 2), none⟩] (by simp (disch := omega) []; exact rfl) ?_
        exact WDO.nilS (WD.ret (endR _ (by simp; rfl) ⟨fun _ => rfl, fun h => absurd hyes h, hk1⟩))
    · rw [decide_eq_false d2]
      have hno : ¬ okM m := fun h => d2 h.2.2.2.2.2.1
      refine lkD 15 [⟨lkUn ukNot (.tmp 56), (some 57), (some (52, false))⟩, xP 52 57 58 true, xM 58 59, yF 1 3 60 59 false, yL 60 61 59 false, yF 1 5 62 59 false, yL 62 63 59 false, yB akEql 61 63 64 59 false, yM 64 65 59 false, yF 1 3 66 65 true, yL 66 67 65 true, yC akNeq 67 0 68 65 true, ⟨⟨pickA (.tmp 65) (.tmp 68) (.const (.bool false))⟩, (some 69), (some (59, false))⟩, xP 59 69 70 true, xM 70 5] (by simp (disch := omega) []; exact rfl) ?_
      refine WDO.nilS (WD.cond (t := true) (by simp) (fun _ => WD.skip (.inl rfl) ?_) (by simp))
      refine WD.cond (t := true) (by simp) (fun _ => WD.seqR ?_) (by simp)
      refine lkD 1 [⟨lkMove (.const (.int .i64 1)), (some 2), none⟩] (by simp (disch := omega) []; exact rfl) ?_
      exact WDO.nilS (WD.ret (endR _ (by simp; rfl) ⟨fun h => absurd h hno, fun _ => rfl, hk1⟩))
  · rw [decide_eq_false d1]
    have hno : ¬ okM m := fun h => d1 h.2.2.2.2.1
    refine lkD 5 [xU 50 51, xM 51 52, yM 3 53 52 false, yF 1 5 54 52 false, yL 54 55 52 false] (by simp (disch := omega) []; exact rfl) ?_
    refine WDO.skipG (g := some (52, false)) (by kernel_rfl) (by simp [wantA, wantG, get_tl]) (by kernel_rfl) ?_
    refine lkD 15 [⟨lkUn ukNot (.tmp 56), (some 57), (some (52, false))⟩, xP 52 57 58 true, xM 58 59, yF 1 3 60 59 false, yL 60 61 59 false, yF 1 5 62 59 false, yL 62 63 59 false, yB akEql 61 63 64 59 false, yM 64 65 59 false, yF 1 3 66 65 true, yL 66 67 65 true, yC akNeq 67 0 68 65 true, ⟨⟨pickA (.tmp 65) (.tmp 68) (.const (.bool false))⟩, (some 69), (some (59, false))⟩, xP 59 69 70 true, xM 70 5] (by simp (disch := omega) []; exact rfl) ?_
    refine WDO.nilS (WD.cond (t := true) (by simp) (fun _ => WD.skip (.inl rfl) ?_) (by simp))
    refine WD.cond (t := true) (by simp) (fun _ => WD.seqR ?_) (by simp)
    refine lkD 1 [⟨lkMove (.const (.int .i64 1)), (some 2), none⟩] (by simp (disch := omega) []; exact rfl) ?_
    exact WDO.nilS (WD.ret (endR _ (by simp; rfl) ⟨fun h => absurd h hno, fun _ => rfl, hk1⟩))
end
end Go.Proofs.YtcfpppleiikjhaaGreatDoor
namespace Go.Proofs.YtcfpppleiikjhaaGreatDoor
open Go.Xq
noncomputable section
def placesL : IL 14 := ⟨[8, 4, 12, 8, 20, 4, 24, 4, 28, 4, 32, 4, 36, 4], rfl⟩
def numsIL (m : Mt) : IL 7 := ⟨numsM m, rfl⟩
theorem st_ob {n : Nat} {H H2 : AH} {v a : AV} (h : stN n H v a = some H2) : ob (stN n H v a) (fun H' => some (undefA, H')) = some (undefA, H2) := by rw [h]; rfl
set_option maxRecDepth 20000 in
theorem places_ok {H : AH} : DC Tryz.prog .normal 80 .nil H fun v' H2 => v' = .agg (avl (encIL placesL)) ∧ Keep noB H H2 := by
  refine DC.of_wd (re := reCell ⟨ldN 14⟩ 0 reNil) tyOk Tryz.func80 (by kernel_rfl) rfl (by kernel_rfl) (by kernel_rfl) ?_
  rw [tl_nil, argsT_nil]
  refine WD.seqR ?_
  refine WDO.fresh1 tyOk (k := ⟨frAlloc (.cs 146 14 14 false (.cons (.int .i64 0) (.cons (.int .i64 0) (.cons (.int .i64 0) (.cons (.int .i64 0) (.cons (.int .i64 0) (.cons (.int .i64 0) (.cons (.int .i64 0) (.cons (.int .i64 0) (.cons (.int .i64 0) (.cons (.int .i64 0) (.cons (.int .i64 0) (.cons (.int .i64 0) (.cons (.int .i64 0) (.cons (.int .i64 0) .nil)))))))))))))) .e)⟩) (by kernel_rfl) rfl (by kernel_rfl) (v := .ptr H.next 0) (x := .cs 146 14 14 false (zIL 14) .e) ?_ ?_
  · exact rfl
  have h0 : RdIL 146 14 (H.new (.cs 146 14 14 false (zIL 14) .e)) H.next (zeroIL 14) := newIL 146 14 H
  have hk : Keep noB H (H.new (.cs 146 14 14 false (zIL 14) .e)) := Keep.new _ _ _
  refine WDO.nilS (WD.seqR ?_)
  refine lkD 8 [⟨⟨buildA (.cons (.int .i64 0) (.cons (.int .i64 0) .nil)) ⟨fill1 (.const (.int .i64 8)) 0 1 ⟨fill1 (.const (.int .i64 4)) 1 1 flEnd⟩⟩⟩, (some 1), none⟩, ⟨⟨buildA (.cons (.int .i64 0) (.cons (.int .i64 0) .nil)) ⟨fill1 (.const (.int .i64 12)) 0 1 ⟨fill1 (.const (.int .i64 8)) 1 1 flEnd⟩⟩⟩, (some 2), none⟩, ⟨⟨buildA (.cons (.int .i64 0) (.cons (.int .i64 0) .nil)) ⟨fill1 (.const (.int .i64 20)) 0 1 ⟨fill1 (.const (.int .i64 4)) 1 1 flEnd⟩⟩⟩, (some 3), none⟩, ⟨⟨buildA (.cons (.int .i64 0) (.cons (.int .i64 0) .nil)) ⟨fill1 (.const (.int .i64 24)) 0 1 ⟨fill1 (.const (.int .i64 4)) 1 1 flEnd⟩⟩⟩, (some 4), none⟩, ⟨⟨buildA (.cons (.int .i64 0) (.cons (.int .i64 0) .nil)) ⟨fill1 (.const (.int .i64 28)) 0 1 ⟨fill1 (.const (.int .i64 4)) 1 1 flEnd⟩⟩⟩, (some 5), none⟩, ⟨⟨buildA (.cons (.int .i64 0) (.cons (.int .i64 0) .nil)) ⟨fill1 (.const (.int .i64 32)) 0 1 ⟨fill1 (.const (.int .i64 4)) 1 1 flEnd⟩⟩⟩, (some 6), none⟩, ⟨⟨buildA (.cons (.int .i64 0) (.cons (.int .i64 0) .nil)) ⟨fill1 (.const (.int .i64 36)) 0 1 ⟨fill1 (.const (.int .i64 4)) 1 1 flEnd⟩⟩⟩, (some 7), none⟩, ⟨⟨buildA (.cons (.int .i64 0) (.cons (.int .i64 0) (.cons (.int .i64 0) (.cons (.int .i64 0) (.cons (.int .i64 0) (.cons (.int .i64 0) (.cons (.int .i64 0) (.cons (.int .i64 0) (.cons (.int .i64 0) (.cons (.int .i64 0) (.cons (.int .i64 0) (.cons (.int .i64 0) (.cons (.int .i64 0) (.cons (.int .i64 0) .nil)))))))))))))) ⟨fill1 (.tmp 1) 0 2 ⟨fill1 (.tmp 2) 2 2 ⟨fill1 (.tmp 3) 4 2 ⟨fill1 (.tmp 4) 6 2 ⟨fill1 (.tmp 5) 8 2 ⟨fill1 (.tmp 6) 10 2 ⟨fill1 (.tmp 7) 12 2 flEnd⟩⟩⟩⟩⟩⟩⟩⟩, (some 8), none⟩] (by simp (disch := omega) []; exact rfl) ?_
  obtain ⟨H2, s1, s2, s3, s4⟩ := storeIL placesL h0
  obtain ⟨o2, g2, _, g3⟩ := s3.get
  refine WDO.heavy1 tyOk extOk (k := ⟨hvStore ⟨stN 14⟩ (.tmp 0) (.tmp 8)⟩) (by kernel_rfl) rfl (by kernel_rfl) (by simp; exact st_ob s1) ?_
  refine WDO.nilS (WD.ret (endR _ (by simp [g2, g3]; rfl) ⟨rfl, hk.trans' s4 fun b hb e => absurd e (by omega)⟩))
set_option maxRecDepth 20000 in
theorem numbers_ok {H : AH} {m : Mt} : DC Tryz.prog .normal 123 (.cons (mA m) .nil) H fun v' H2 => v' = .agg (avl (encIL (numsIL m))) ∧ Keep noB H H2 := by
  refine DC.of_wd (re := reCell ⟨ldN 7⟩ 2 reNil) tyOk Tryz.func123 (by kernel_rfl) rfl (by kernel_rfl) (by kernel_rfl) ?_
  rw [tl_nil, argsT_cons, argsT_nil]
  refine WD.seqR ?_
  obtain ⟨o1, e1, hrd, hk1⟩ := boxM (H := H) (m := m) (T := tl [(0, mA m)]) (by simp)
  refine WDO.fresh1 tyOk (k := ⟨frBox ⟨mkCs 75 8 (.cons (.int .i64 0) (.cons (.int .i64 0) (.cons (.int .i64 0) (.cons (.int .i64 0) (.cons (.int .i64 0) (.cons (.int .i64 0) (.cons (.int .i64 0) (.cons (.int .i64 0) .nil))))))))⟩ (.tmp 0)⟩) (by kernel_rfl) rfl (by kernel_rfl) e1 ?_
  have hlt : H.next < (H.new o1).next := by simp
  generalize H.new o1 = H1 at hrd hk1 hlt ⊢
  have hle : H.next ≤ H.next := Nat.le_refl _
  generalize hN : H.next = N at hrd hlt hle ⊢
  refine WDO.fresh1 tyOk (k := ⟨frAlloc (.cs 143 7 7 false (.cons (.int .i64 0) (.cons (.int .i64 0) (.cons (.int .i64 0) (.cons (.int .i64 0) (.cons (.int .i64 0) (.cons (.int .i64 0) (.cons (.int .i64 0) .nil))))))) .e)⟩) (by kernel_rfl) rfl (by kernel_rfl) (v := .ptr H1.next 0) (x := .cs 143 7 7 false (zIL 7) .e) ?_ ?_
  · exact rfl
  have h0 : RdIL 143 7 (H1.new (.cs 143 7 7 false (zIL 7) .e)) H1.next (zeroIL 7) := newIL 143 7 H1
  have hk : Keep noB H1 (H1.new (.cs 143 7 7 false (zIL 7) .e)) := Keep.new _ _ _
  have hN0 : H.next ≤ H1.next := by omega
  obtain ⟨o, g1, r0, r1, r2, r3, r4, r5, r6, r7, _⟩ := (hrd.keep hk hlt id).all
  refine WDO.nilS (WD.seqR ?_)
  refine lkD 15 [xF 1 1 3, xL 3 4, xF 1 2 5, xL 5 6, xF 1 3 7, xL 7 8, xF 1 4 9, xL 9 10, xF 1 5 11, xL 11 12, xF 1 6 13, xL 13 14, xF 1 7 15, xL 15 16, ⟨⟨buildA (.cons (.int .i64 0) (.cons (.int .i64 0) (.cons (.int .i64 0) (.cons (.int .i64 0) (.cons (.int .i64 0) (.cons (.int .i64 0) (.cons (.int .i64 0) .nil))))))) ⟨fill1 (.tmp 4) 0 1 ⟨fill1 (.tmp 6) 1 1 ⟨fill1 (.tmp 8) 2 1 ⟨fill1 (.tmp 10) 3 1 ⟨fill1 (.tmp 12) 4 1 ⟨fill1 (.tmp 14) 5 1 ⟨fill1 (.tmp 16) 6 1 flEnd⟩⟩⟩⟩⟩⟩⟩⟩, (some 17), none⟩] (by simp (disch := omega) [g1, r1, r2, r3, r4, r5, r6, r7]; exact rfl) ?_
  obtain ⟨H2, s1, s2, s3, s4⟩ := storeIL (numsIL m) h0
  obtain ⟨o2, g2, _, g3⟩ := s3.get
  refine WDO.heavy1 tyOk extOk (k := ⟨hvStore ⟨stN 7⟩ (.tmp 2) (.tmp 17)⟩) (by kernel_rfl) rfl (by kernel_rfl) (by simp; exact st_ob s1) ?_
  refine WDO.nilS (WD.ret (endR _ (by simp [g2, g3]; rfl) ⟨rfl, (hk1.trans hk).trans' s4 fun b hb e => absurd e (by omega)⟩))
end
end Go.Proofs.YtcfpppleiikjhaaGreatDoor
namespace Go.Proofs.YtcfpppleiikjhaaGreatDoor
open Go.Xq
noncomputable section
def head8 (m : Mt) : List UInt8 := [1, byteI m.engine, 0, 0, 69, 83, 80, 76]
def fieldsW (m : Mt) : List (Int × Nat) := [(m.page, 4), (m.txn, 8), (m.root, 4), (m.count, 4), (m.free, 4), (m.listed, 4), (m.high, 4)]
def preW (m : Mt) (i : Nat) : List UInt8 := head8 m ++ ((fieldsW m).take i).flatMap fun f => fixedL (u64 f.1) f.2
theorem preW_all (m : Mt) : preW m 7 = headM m := by simp [preW, headM, head8, fieldsW, List.append_assoc]
theorem preW_zero (m : Mt) : preW m 0 = [1, byteI m.engine, 0, 0, 69, 83, 80, 76] := by simp [preW, head8]
theorem field_at (m : Mt) {i : Nat} (hi : i < 7) : ∃ (a w : Nat) (n : Int), (preW m i).length = a ∧ a + w ≤ 40 ∧ 1 ≤ w ∧ w ≤ 8 ∧ preW m (i + 1) = preW m i ++ fixedL (u64 n) w ∧ (numsIL m).1[i]? = some n ∧
    partN 2 (i * 2) (avl (encIL placesL)) = some (.agg (.cons (.int .i64 (a : Int)) (.cons (.int .i64 (w : Int)) .nil))) := by
  have : i = 0 ∨ i = 1 ∨ i = 2 ∨ i = 3 ∨ i = 4 ∨ i = 5 ∨ i = 6 := by omega
  rcases this with rfl | rfl | rfl | rfl | rfl | rfl | rfl
  · exact ⟨8, 4, m.page, by simp [preW, head8], by omega, by omega, by omega, by simp [preW, fieldsW], rfl, rfl⟩
  · exact ⟨12, 8, m.txn, by simp [preW, head8, fieldsW, fixedL_len], by omega, by omega, by omega, by simp [preW, fieldsW], rfl, rfl⟩
  · exact ⟨20, 4, m.root, by simp [preW, head8, fieldsW, fixedL_len], by omega, by omega, by omega, by simp [preW, fieldsW], rfl, rfl⟩
  · exact ⟨24, 4, m.count, by simp [preW, head8, fieldsW, fixedL_len], by omega, by omega, by omega, by simp [preW, fieldsW], rfl, rfl⟩
  · exact ⟨28, 4, m.free, by simp [preW, head8, fieldsW, fixedL_len], by omega, by omega, by omega, by simp [preW, fieldsW], rfl, rfl⟩
  · exact ⟨32, 4, m.listed, by simp [preW, head8, fieldsW, fixedL_len], by omega, by omega, by omega, by simp [preW, fieldsW], rfl, rfl⟩
  · exact ⟨36, 4, m.high, by simp [preW, head8, fieldsW, fixedL_len], by omega, by omega, by omega, by simp [preW, fieldsW], rfl, rfl⟩
theorem head_start (q : Nat) (y : UInt8) : putL (((List.replicate (q + 8) (0 : UInt8)).set 0 1).set 1 y) 4 [69, 83, 80, 76] = [1, y, 0, 0, 69, 83, 80, 76] ++ List.replicate q 0 := by simp [putL, List.replicate_succ]
def fixV : AV → Nat × Nat
  | .cons (.int _ a) (.cons (.int _ w) .nil) => (a.toNat, w.toNat)
  | _ => (0, 0)
def fixS : Nat → AV → AH → AV → AH → Prop := fun _ a H v H2 => v = .sl H.next 0 (fixV a).2 (some (fixV a).2) ∧ H2.next = H.next + 1 ∧ H2.get H.next = some (bb 5 false (fixedL (fixV a).1 (fixV a).2)) ∧ Keep noB H H2
theorem fix_call {n w : Nat} (hn : n < 18446744073709551616) (hw : 1 ≤ w) (hw8 : w ≤ 8) (H : AH) :
    DC Tryz.prog .normal 124 (.cons (.int .u64 (n : Int)) (.cons (.int .i64 (w : Int)) .nil)) H (fixS 37 (.cons (.int .u64 (n : Int)) (.cons (.int .i64 (w : Int)) .nil)) H) :=
  (fixedInk_ok (H := H) hn hw hw8).mono fun v H2 h => by simpa [fixS, fixV] using h
set_option maxRecDepth 20000 in
set_option maxHeartbeats 4000000 in
theorem encode_ok {H : AH} {m : Mt} (hh : -9223372036854775806 ≤ m.high) (hh2 : m.high < 9223372036854775808) :
    DC Tryz.prog .normal 82 (.cons (mA m) .nil) H fun v' H2 => (okM m → ∃ b, v' = .tup (.cons (.sl b 0 (encM m).length (some (encM m).length)) (.cons (.int .i64 0) .nil)) ∧ H.next ≤ b ∧ b < H2.next ∧ H2.get b = some (bb 5 false (encM m))) ∧
      (¬ okM m → v' = .tup (.cons .snil (.cons (.int .i64 1) .nil))) ∧ Keep noB H H2 := by
  refine DC.of_wd (re := reTmp 2 (reTmp 3 reNil)) tyOk Tryz.func82 (by kernel_rfl) rfl (by kernel_rfl) (by kernel_rfl) ?_
  rw [tl_nil, argsT_cons, argsT_nil]
  refine WD.seqR ?_
  obtain ⟨o1, e1, hrd, hk1⟩ := boxM (H := H) (m := m) (T := tl [(0, mA m)]) (by simp)
  refine WDO.fresh1 tyOk (k := ⟨frBox ⟨mkCs 75 8 (.cons (.int .i64 0) (.cons (.int .i64 0) (.cons (.int .i64 0) (.cons (.int .i64 0) (.cons (.int .i64 0) (.cons (.int .i64 0) (.cons (.int .i64 0) (.cons (.int .i64 0) .nil))))))))⟩ (.tmp 0)⟩) (by kernel_rfl) rfl (by kernel_rfl) e1 ?_
  have hN : H.next < (H.new o1).next := by simp
  have hNk : H.next ≤ H.next := Nat.le_refl _
  generalize H.new o1 = H1 at hrd hk1 hN ⊢
  generalize hNN : H.next = N at hrd hN hNk ⊢
  obtain ⟨o, g1, r0, r1, r2, r3, r4, r5, r6, r7, rc⟩ := hrd.all
  refine lkD 2 [⟨lkMove (.const (.slice none 0 0)), (some 2), none⟩, ⟨lkMove (.const (.int .i64 0)), (some 3), none⟩] (by simp (disch := omega) []; exact rfl) ?_
  refine WDO.nilS (WD.seq (WD.seqR ?_))
  refine lkD 1 [⟨⟨ldA ⟨ldN 8⟩ (.tmp 1)⟩, (some 10), none⟩] (by simp (disch := omega) [g1, rc]; exact rfl) ?_
  refine WDO.callF (g := 122) rfl rfl rfl (by kernel_rfl) (l := .cons (mA m) .nil) (by simp [mA]) (check_ok hh hh2) fun u H2 ⟨hu1, hu2, k2⟩ => ?_
  have kk2 := hk1.trans k2
  have g2 := k2.get hN id g1
  have hn2 := k2.1
  by_cases hok : okM m
  · have hu := hu1 hok
    subst hu
    have hpg := pgI_cases hok.2.1
    refine lkD 1 [xM 11 4] (by simp (disch := omega) []; exact rfl) ?_
    refine WDO.nilS (WD.seqR ?_)
    refine lkD 2 [xM 4 12, xC akNeq 12 0 13] (by simp (disch := omega) []; exact rfl) ?_
    refine WDO.nilS (WD.cond (t := false) (by simp) (by simp) fun _ => WD.skip (.inl rfl) (WD.seqR ?_))
    obtain ⟨p, hp⟩ : ∃ p : Nat, m.page = (p : Int) := ⟨m.page.toNat, by omega⟩
    rw [hp] at r1
    have hpp : 512 ≤ p ∧ p ≤ 65536 := by omega
    refine lkD 2 [xF 1 1 15, xL 15 16] (by simp (disch := omega) [g2, r1]; exact rfl) ?_
    refine WDO.fresh1 tyOk (k := ⟨frMake E 5 1 (.tmp 16) (.tmp 16)⟩) (by kernel_rfl) rfl (by kernel_rfl) (v := .sl H2.next 0 p (some p)) (x := bb 5 false (List.replicate p 0)) ?_ ?_
    · dsimp only
      refine frMake_u8 (E := E) (e := 5) (bytes := 1) (l := .tmp 16) (c := .tmp 16) (n := p) (m := p) (mkZero5 _) ?_ ?_ (Nat.le_refl _) (by omega) (by omega)
      · simp
      · simp
    have k3 : Keep noB H2 (H2.new (bb 5 false (List.replicate p 0))) := Keep.new _ _ _
    have hg3 : (H2.new (bb 5 false (List.replicate p 0))).get H2.next = some (bb 5 false (List.replicate p 0)) := get_new_same _ _
    have g3 := k3.get (by omega) id g2
    have hB : H2.next < (H2.new (bb 5 false (List.replicate p 0))).next := by simp
    have kk3 := kk2.trans k3
    generalize H2.new (bb 5 false (List.replicate p 0)) = H3 at k3 hg3 g3 hB kk3 ⊢
    have hBN : H.next ≤ H2.next := kk2.1
    have hNB : N ≠ H2.next := by omega
    generalize H2.next = B at hg3 hB hBN hNB ⊢
    refine lkD 1 [xM 17 5] (by simp (disch := omega) []; exact rfl) ?_
    refine WDO.nilS (WD.seq ?_)
    have hby := byteI_int m.engine
    have hpre : preW m 0 = [1, byteI m.engine, 0, 0, 69, 83, 80, 76] := preW_zero m
    generalize byteI m.engine = y at hby hpre
    have f0 : 0 < p := by omega
    have f1 : 1 < p := by omega
    obtain ⟨R, hR, hRc⟩ := specR_ex Tryz.prog (fun _ _ _ _ _ => False)
    refine WD.drawnK tyOk extOk (by kernel_rfl) (ls := [zM 5 18 0 1, zM 5 19 0 2, zF 1 0 20 0 2, zL 20 21 0 2, ⟨[21], .look (⟨cvInt .u8 (.tmp 21)⟩), (some 22), none, 0, 2, false, false⟩, ⟨[18], .look (⟨ixSl 1 (.tmp 18) (.const (.int .i64 0))⟩), (some 23), none, 0, 1, true, false⟩, ⟨[23], .heavy ⟨hvStore ⟨st1'⟩ (.tmp 23) (.const (.int .u8 1))⟩, none, none, 0, 2, false, true⟩, ⟨[19], .look (⟨ixSl 1 (.tmp 19) (.const (.int .i64 1))⟩), (some 24), none, 1, 1, true, false⟩, ⟨[24, 22], .heavy ⟨hvStore ⟨st1'⟩ (.tmp 24) (.tmp 22)⟩, none, none, 1, 2, false, true⟩]) (by kernel_rfl) hR fun K hK => ?_
    simp (disch := omega) [g3, r0, hby.symm]
    have hs1 : st1' H3 (.int .u8 1) (.ptr B 0) = some (H3.set B (bb 5 false ((List.replicate p 0).set 0 1))) := st1'_bb (1 : UInt8) hg3 (i := 0) (by simp; omega)
    have k4 : Keep (fun b => b = B) H3 (H3.set B (bb 5 false ((List.replicate p 0).set 0 1))) := Keep.set _ fun _ => rfl
    have hg4 : (H3.set B (bb 5 false ((List.replicate p 0).set 0 1))).get B = some (bb 5 false ((List.replicate p 0).set 0 1)) := get_set_same _ _ _
    have hx4 : (H3.set B (bb 5 false ((List.replicate p 0).set 0 1))).next = H3.next := by simp
    generalize H3.set B (bb 5 false ((List.replicate p 0).set 0 1)) = H4 at hs1 k4 hg4 hx4
    have g4 := k4.get (by omega) hNB g3
    refine diHv_in (v := undefA) (H2 := H4) (by simp [hs1]) (by omega) ?_
    simp (disch := omega) []
    have hs2 : st1' H4 (.int .u8 (y.toNat : Int)) (.ptr B 1) = some (H4.set B (bb 5 false (((List.replicate p 0).set 0 1).set 1 y))) := st1'_bb y hg4 (i := 1) (by simp; omega)
    have k5 : Keep (fun b => b = B) H4 (H4.set B (bb 5 false (((List.replicate p 0).set 0 1).set 1 y))) := Keep.set _ fun _ => rfl
    have hg5 : (H4.set B (bb 5 false (((List.replicate p 0).set 0 1).set 1 y))).get B = some (bb 5 false (((List.replicate p 0).set 0 1).set 1 y)) := get_set_same _ _ _
    have hx5 : (H4.set B (bb 5 false (((List.replicate p 0).set 0 1).set 1 y))).next = H4.next := by simp
    generalize H4.set B (bb 5 false (((List.replicate p 0).set 0 1).set 1 y)) = H5 at hs2 k5 hg5 hx5
    have g5 := k5.get (by omega) hNB g4
    refine diHv_in (v := undefA) (H2 := H5) (by simp [hs2]) (by omega) ?_
    simp (disch := omega) [g3, g4, r0, hby.symm]
    refine hK _ _ (WD.keep (l := [(1, .ptr N 0), (5, .sl B 0 p (some p)), (2, .snil), (3, .int .i64 0)]) (WD.seqR ?_) (by simp))
    clear hK hRc hR
    have hst := head_start (p - 8) y
    rw [show p - 8 + 8 = p by omega, ← hpre] at hst
    have hlen5 : (((List.replicate p (0 : UInt8)).set 0 1).set 1 y).length = p := by simp
    generalize ((List.replicate p (0 : UInt8)).set 0 1).set 1 y = q5 at hg5 hlen5 hst
    have kk5 : Keep noB H H5 := (kk3.trans' k4 fun b hb e => absurd e (by omega)).trans' k5 fun b hb e => absurd e (by omega)
    have hB5 : B < H5.next := by omega
    clear k3 k4 k5 hs1 hs2 hg3 hg4 g4 g3
    have f4 : 4 < p := by omega
    refine lkD 2 [xM 5 25, ⟨⟨slSl 1 (.tmp 25) (some (.const (.int .i64 4))) none none⟩, (some 26), none⟩] (by simp (disch := omega) []; exact rfl) ?_
    have hcp := copyA_at (H := H5) (off := 4) (n := p - 4) (cap := some (p - 4)) hg5 (by omega) (v := sb [69, 83, 80, 76]) (l := [69, 83, 80, 76]) rfl rfl (by simp; omega)
    rw [hst] at hcp
    simp only [List.length_cons, List.length_nil, reduceCtorEq, if_false] at hcp
    refine WDO.heavy1 tyOk extOk (k := ⟨hvCopy 1 (.tmp 26) (.const (.string ⟨#[69, 83, 80, 76]⟩))⟩) (by kernel_rfl) rfl (by kernel_rfl) (by simp; exact hcp) ?_
    have k6 : Keep (fun b => b = B) H5 (H5.set B (bb 5 false (preW m 0 ++ List.replicate (p - 8) 0))) := Keep.set _ fun _ => rfl
    have hg6 : (H5.set B (bb 5 false (preW m 0 ++ List.replicate (p - 8) 0))).get B = some (bb 5 false (preW m 0 ++ List.replicate (p - 8) 0)) := get_set_same _ _ _
    have hx6 : (H5.set B (bb 5 false (preW m 0 ++ List.replicate (p - 8) 0))).next = H5.next := by simp
    clear hcp
    generalize H5.set B (bb 5 false (preW m 0 ++ List.replicate (p - 8) 0)) = H6 at k6 hg6 hx6 ⊢
    have g6 := k6.get (by omega) hNB g5
    have kk6 : Keep noB H H6 := kk5.trans' k6 fun b hb e => absurd e (by omega)
    refine WDO.nilS (WD.seqR ?_)
    refine lkD 1 [⟨⟨ldA ⟨ldN 8⟩ (.tmp 1)⟩, (some 28), none⟩] (by simp (disch := omega) [g6, rc]; exact rfl) ?_
    refine WDO.callF (g := 123) rfl rfl rfl (by kernel_rfl) (l := .cons (mA m) .nil) (by simp [mA]) (numbers_ok (m := m)) fun u H7 ⟨hu, k7⟩ => ?_
    subst hu
    have hg7 := k7.get (by omega) id hg6
    have kk7 := kk6.trans k7
    have hn7 := k7.1
    clear k6 k7 hg6 g5 g6 hg5
    refine WDO.fresh1 tyOk (k := ⟨frAlloc (.cs 143 7 7 false (.cons (.int .i64 0) (.cons (.int .i64 0) (.cons (.int .i64 0) (.cons (.int .i64 0) (.cons (.int .i64 0) (.cons (.int .i64 0) (.cons (.int .i64 0) .nil))))))) .e)⟩) (by kernel_rfl) rfl (by kernel_rfl) (v := .ptr H7.next 0) (x := .cs 143 7 7 false (zIL 7) .e) ?_ ?_
    · exact rfl
    have h0 : RdIL 143 7 (H7.new (.cs 143 7 7 false (zIL 7) .e)) H7.next (zeroIL 7) := newIL 143 7 H7
    have k8 : Keep noB H7 (H7.new (.cs 143 7 7 false (zIL 7) .e)) := Keep.new _ _ _
    obtain ⟨H9, s1, s2, s3, s4⟩ := storeIL (numsIL m) h0
    refine WDO.heavy1 tyOk extOk (k := ⟨hvStore ⟨stN 7⟩ (.tmp 6) (.tmp 29)⟩) (by kernel_rfl) rfl (by kernel_rfl) (by simp; exact st_ob s1) ?_
    have hg9 := s4.get (b := B) (by simp; omega) (by omega) (k8.get (by omega) id hg7)
    have kk9 : Keep noB H H9 := (kk7.trans k8).trans' s4 fun b hb e => absurd e (by omega)
    have hM9 : H7.next < H9.next := by rw [s2]; simp
    have hB9 : B < H9.next := by omega
    have hBM : B ≠ H7.next := by omega
    clear h0 k8 s1 s4 s2
    generalize H7.next = M at s3 hM9 hBM ⊢
    refine WDO.nilS (WD.seq (WD.seqR ?_))
    refine WDO.callF (g := 80) rfl rfl rfl (by kernel_rfl) (l := .nil) (by simp) places_ok fun u Ha ⟨hu, ka⟩ => ?_
    subst hu
    have hga := ka.get (by omega) id hg9
    have kka := kk9.trans ka
    have hMa := s3.keep ka hM9 id
    have hna := ka.1
    have hBa : B < Ha.next := by omega
    have hMa' : M < Ha.next := by omega
    clear ka s3 hg9 kk9
    refine lkD 1 [⟨lkMove (.const (.int .i64 0)), (some 31), none⟩] (by simp (disch := omega) []; exact rfl) ?_
    have hlen := encM_len hok
    rw [hp] at hlen
    simp only [Int.toNat_natCast] at hlen
    refine WDO.nilS (WD.forR (σ := Nat) (fun i => [(2, .snil), (3, .int .i64 0), (5, .sl B 0 p (some p)), (6, .ptr M 0), (30, .agg (avl (encIL placesL))), (31, .int .i64 (i : Int))])
      (fun i H' => i ≤ 7 ∧ H'.get B = some (bb 5 false (preW m i ++ List.replicate (p - (preW m i).length) 0)) ∧ RdIL 143 7 H' M (numsIL m) ∧ Ha.next ≤ H'.next ∧ Keep noB H H') (fun i => 7 - i) 0
      ⟨by omega, by rw [hga, hpre]; rfl, hMa, Nat.le_refl _, kka⟩ (by simp) ?_)
    rintro i H' ⟨hi, hgB, hM, hnx, kk'⟩
    refine lkD 1 [xC akLss 31 7 32] (by simp (disch := omega) []; exact rfl) ?_
    refine WDO.nil ⟨decide ((i : Int) < 7), _, rfl, by simp, fun hc => ?_, fun hc => ?_⟩
    · have hc : i = 7 := by have := of_decide_eq_false hc; omega
      subst hc
      have hpl : (preW m 7).length = 40 := by rw [preW_all, headM_len]
      rw [hpl] at hgB
      have hrepl : preW m 7 ++ List.replicate (p - 40) 0 = bodyM m ++ List.replicate 4 0 := by
        rw [preW_all, bodyM, hp, Int.toNat_natCast, List.append_assoc, List.replicate_append_replicate]
        congr 2
        omega
      rw [hrepl] at hgB
      have hbl : (bodyM m).length = p - 4 := by rw [bodyM_len hok, hp, Int.toNat_natCast]
      refine WD.seqR ?_
      have e4 : (p : Int) - 4 = ((p - 4 : Nat) : Int) := by omega
      refine lkD 4 [xM 5 48, xN 48 49, xC akSub 49 4 50, xM 50 9] (by simp (disch := omega) [e4]; exact rfl) ?_
      refine WDO.nilS (WD.seq ?_)
      have f5 : p - 4 ≤ p := by omega
      have f6 : p - 4 < p := by omega
      have hsl : sumL (bodyM m) < 4294967296 := sumL_lt _
      obtain ⟨R, hR, hRc⟩ := specR_ex Tryz.prog (fun g a H v H2 => (g = 125 ∧ v = .int .u32 ((sumL (bodyM m) : Nat) : Int) ∧ H2 = H) ∨ (g = 124 ∧ fixS g a H v H2))
      refine WD.drawnK tyOk extOk (by kernel_rfl) (ls := [zM 5 51 0 3, zM 9 52 0 3, ⟨[51, 52], .look (⟨slSl 1 (.tmp 51) (some (.tmp 52)) none none⟩), (some 53), none, 0, 3, false, false⟩, zM 5 54 0 1, zM 9 55 0 1, ⟨[54, 55], .look (⟨slSl 1 (.tmp 54) none (some (.tmp 55)) none⟩), (some 56), none, 0, 1, false, false⟩, ⟨[56], .fresh ⟨frSlice 1 (zerosA (.cons .snil .nil) 1) ⟨fill1 (.tmp 56) 0 1 flEnd⟩ ⟨mkCs 22 1 (.cons .snil .nil)⟩⟩, (some 57), none, 0, 1, false, false⟩, ⟨[57], .heavy ⟨hvCallF E 125 (opnds [(.tmp 57)])⟩, (some 58), none, 0, 2, false, true⟩, ⟨[58], .look (⟨cvInt .u64 (.tmp 58)⟩), (some 59), none, 1, 1, false, false⟩, ⟨[59], .heavy ⟨hvCallF E 124 (opnds [(.tmp 59), (.const (.int .i64 4))])⟩, (some 60), none, 1, 2, false, true⟩, ⟨[53, 60], .heavy ⟨hvCopy 1 (.tmp 53) (.tmp 60)⟩, (some 61), none, 2, 2, false, true⟩]) (by kernel_rfl) hR fun K hK => ?_
      simp (disch := omega) []
      obtain ⟨o5, e5, el5⟩ := frSlice_el (enc := enc1) (e := 22) (es := 1) (z := .cons .snil .nil) (z0 := .cons .snil .nil) enc1_len (x := .tmp 56) (T := tl [(56, .sl B 0 (p - 4) (some p))]) (b0 := H'.next) (a := AV.sl B 0 (p - 4) (some p)) (v := AV.sl B 0 (p - 4) (some p)) (by simp) rfl (by rfl) rfl
      refine diFr_in (v := .sl H'.next 0 1 (some 1)) (o := o5) (by simpa using e5) ?_
      have k1 : Keep noB H' (H'.new o5) := Keep.new _ _ _
      have g5 : (H'.new o5).get H'.next = some o5 := get_new_same _ _
      have gB1 := k1.get (by omega) id hgB
      have hx1 : (H'.new o5).next = H'.next + 1 := by simp
      generalize H'.new o5 = H1' at k1 g5 gB1 hx1 ⊢
      have r5 := el5.cell (k := 0) (j := 0) (v := .sl B 0 (p - 4) (some p)) rfl rfl
      have hrd5 : RdS H1' (.sl B 0 (p - 4) (some p)) (bodyM m) := .bb hbl.symm (by omega) gB1
      obtain ⟨u1, Hx, c1, hu1⟩ := hRc 125 _ _ ((inkSum_ok (cap := some 1) g5 r5 hrd5 (by omega)).mono fun v H2 h => Or.inl ⟨rfl, h.1, h.2⟩)
      replace hu1 : u1 = .int .u32 ((sumL (bodyM m) : Nat) : Int) ∧ Hx = H1' := hu1.elim (fun h => h.2) fun h => absurd h.1 (by decide)
      obtain ⟨hu1, rfl⟩ := hu1
      subst hu1
      simp
      refine diCall (by simp) (extFree _ _ _ rfl rfl rfl) c1 (Nat.le_refl _) ?_
      have cv : mkInt .u64 ((sumL (bodyM m) : Nat) : Int) = some (.int .u64 ((sumL (bodyM m) : Nat) : Int)) := mkInt_u64n (by omega)
      simp [cv]
      obtain ⟨u2, Hy, c2, hu2⟩ := hRc 124 _ _ ((fix_call (w := 4) (n := sumL (bodyM m)) (by omega) (by omega) (by omega) Hx).mono fun v H2 h => Or.inr ⟨rfl, h⟩)
      replace hu2 := hu2.elim (fun h => absurd h.1 (by decide)) fun h => h.2
      obtain ⟨hu2, hx2, hx3, kx⟩ := hu2
      simp only [fixV, Int.toNat_natCast] at hu2 hx3
      subst hu2
      refine diCall (by simp) (extFree _ _ _ rfl rfl rfl) c2 (by omega) ?_
      have gBy := kx.get (by omega) id gB1
      have hcp := copyA_at (H := Hy) (off := p - 4) (n := p - (p - 4)) (cap := some (p - (p - 4))) gBy (by simp; omega) (v := .sl Hx.next 0 4 (some 4)) (l := fixedL (sumL (bodyM m)) 4) (by simp [lengthA, fixedL_len]) (RdS.bytesA (.bb' (by rw [fixedL_len]) (by omega) hx3)) (by rw [fixedL_len]; omega)
      rw [if_neg (by intro e; have := congrArg List.length e; rw [fixedL_len] at this; simp at this), putL_zeros _ _ _ hbl.symm (by rw [fixedL_len]; omega), fixedL_len] at hcp
      refine diHv_in (v := .int .i64 (4 : Nat)) (by simp; exact hcp) (by simp) ?_
      simp [f5, f6, cv]
      have hpb : plainB o5 := by obtain ⟨t, e⟩ := el5.opn; rw [e]; trivial
      refine ⟨⟨hpb, g5⟩, hK _ _ (WD.keep (l := [(5, .sl B 0 p (some p))]) (WD.seqR ?_) (by simp))⟩
      have kkz : Keep noB H Hy := (kk'.trans k1).trans kx
      have kks : Keep (fun b => b = B) Hy (Hy.set B (bb 5 false (bodyM m ++ fixedL (sumL (bodyM m)) 4))) := Keep.set _ fun _ => rfl
      refine lkD 3 [xM 5 62, xM 62 2, ⟨lkMove (.const (.int .i64 0)), (some 3), none⟩] (by simp (disch := omega) []; exact rfl) ?_
      refine WDO.nilS (WD.ret (endR _ (by simp; rfl) ⟨fun _ => ⟨B, ?_, by omega, ?_, ?_⟩, fun h => absurd hok h, kkz.trans' kks fun b hb e => absurd e (by omega)⟩))
      · rw [hlen]; rfl
      · simp; have := kx.1; omega
      · rw [get_set_same]; rfl
    · have hc : i < 7 := by have := of_decide_eq_true hc; omega
      obtain ⟨a, w, n, q1, q2, q3, q4, q5, q6, q7⟩ := field_at m hc
      refine WD.seqR ?_
      have hcI : (i : Int) < 7 := by omega
      refine lkD 2 [xM 31 33, ⟨⟨ixAgg 7 2 ⟨partN 2⟩ (.tmp 30) (.tmp 31)⟩, (some 34), none⟩] (by simp (disch := omega) [q7]; exact rfl) ?_
      refine WDO.fresh1 tyOk (k := ⟨frAlloc (.cs 145 2 2 false (.cons (.int .i64 0) (.cons (.int .i64 0) .nil)) .e)⟩) (by kernel_rfl) rfl (by kernel_rfl) (v := .ptr H'.next 0) (x := .cs 145 2 2 false (zIL 2) .e) ?_ ?_
      · exact rfl
      have h0 : RdIL 145 2 (H'.new (.cs 145 2 2 false (zIL 2) .e)) H'.next (zeroIL 2) := newIL 145 2 H'
      have k1 : Keep noB H' (H'.new (.cs 145 2 2 false (zIL 2) .e)) := Keep.new _ _ _
      obtain ⟨Hb, s1, s2, s3, s4⟩ := storeIL ⟨[(a : Int), (w : Int)], rfl⟩ h0
      refine lkD 1 [xM 33 7] (by simp (disch := omega) []; exact rfl) ?_
      refine WDO.heavy1 tyOk extOk (k := ⟨hvStore ⟨stN 2⟩ (.tmp 8) (.tmp 34)⟩) (by kernel_rfl) rfl (by kernel_rfl) (by simp; exact st_ob s1) ?_
      refine WDO.nilS ?_
      have hgb := s4.get (b := B) (by simp; omega) (by omega) (k1.get (by omega) id hgB)
      have hMb := (hM.keep k1 (by omega) id).keep s4 (by simp; omega) (by omega)
      obtain ⟨oM, gM, rM, _⟩ := hMb.get
      obtain ⟨o8, g8, r8, _⟩ := s3.get
      have ra := r8 0 _ rfl
      have rw' := r8 1 _ rfl
      have rn := rM i n q6
      have cv := mkInt_cv n
      have cvl := u64_lt n
      have f1 : a ≤ p := by omega
      have f2 : a < p := by omega
      have kkb : Keep noB H Hb := (kk'.trans k1).trans' s4 fun b hb e => absurd e (by have := kk'.1; omega)
      obtain ⟨R, hR, hRc⟩ := specR_ex Tryz.prog (fixS)
      refine WD.drawnK tyOk extOk (by kernel_rfl) (ls := [zM 5 35 0 2, zF 8 0 36 0 2, zL 36 37 0 2, ⟨[35, 37], .look (⟨slSl 1 (.tmp 35) (some (.tmp 37)) none none⟩), (some 38), none, 0, 2, false, false⟩, zM 7 39 0 1, ⟨[6, 39], .look (⟨ixArr 7 1 (.tmp 6) (.tmp 39)⟩), (some 40), none, 0, 1, true, false⟩, zL 40 41 0 1, ⟨[41], .look (⟨cvInt .u64 (.tmp 41)⟩), (some 42), none, 0, 1, false, false⟩, zF 8 1 43 0 1, zL 43 44 0 1, ⟨[42, 44], .heavy ⟨hvCallF E 124 (opnds [(.tmp 42), (.tmp 44)])⟩, (some 45), none, 0, 2, false, true⟩, ⟨[38, 45], .heavy ⟨hvCopy 1 (.tmp 38) (.tmp 45)⟩, (some 46), none, 1, 2, false, true⟩]) (by kernel_rfl) hR fun K hK => ?_
      simp (disch := omega) [g8, ra, rw', gM, rn, cv]
      obtain ⟨u1, Hx, c1, hu1, hx1, hx2, kx⟩ := hRc 124 _ _ (fix_call cvl q3 q4 Hb)
      simp only [fixV, Int.toNat_natCast] at hu1 hx2
      subst hu1
      refine diCall (by simp) (extFree _ _ _ rfl rfl rfl) c1 (by omega) ?_
      simp
      have gBx := kx.get (by have := k1.1; omega) id hgb
      have hcp := copyA_at (H := Hx) (off := a) (n := p - a) (cap := some (p - a)) gBx (by simp; omega) (v := .sl Hb.next 0 w (some w)) (l := fixedL (u64 n) w) (by simp [lengthA, fixedL_len]) (RdS.bytesA (.bb' (by rw [fixedL_len]) (by omega) hx2)) (by rw [fixedL_len]; omega)
      rw [if_neg (by intro e; have := congrArg List.length e; rw [fixedL_len] at this; simp at this; omega)] at hcp
      refine diHv_in (v := .int .i64 ((fixedL (u64 n) w).length : Int)) (by simp; exact hcp) (by simp) ?_
      have hb1 : Hb.next = H'.next + 1 := by rw [s2]; simp
      have g8x := kx.get (by omega) id g8
      simp [g8x, g8, ra, rw', gM, rn, cv, f1, f2]
      refine hK _ _ ?_
      have hMx := hMb.keep kx (by omega) id
      have kkx := kkb.trans kx
      have kks : Keep (fun b => b = B) Hx (Hx.set B (bb 5 false (putL (preW m i ++ List.replicate (p - (preW m i).length) 0) a (fixedL (u64 n) w)))) := Keep.set _ fun _ => rfl
      have hn8 := kx.1
      have hpn := congrArg List.length q5
      rw [List.length_append, fixedL_len] at hpn
      have hput : putL (preW m i ++ List.replicate (p - (preW m i).length) 0) a (fixedL (u64 n) w) = preW m (i + 1) ++ List.replicate (p - (preW m (i + 1)).length) 0 := by
        rw [putL_zeros _ _ _ q1.symm (by rw [fixedL_len]; omega), q5, fixedL_len, List.length_append, fixedL_len, Nat.sub_sub]
      rw [hput] at kks ⊢
      refine lkD 2 [xC akAdd 31 1 47, xM 47 31] (by simp (disch := omega) []; exact rfl) ?_
      exact WDO.nil ⟨rfl, i + 1, _, rfl, by simp, ⟨by omega, get_set_same _ _ _, hMx.keep kks (by omega) (by omega), by simp; omega, kkx.trans' kks fun b hb e => absurd e (by omega)⟩, by omega⟩
  · have hu := hu2 hok
    subst hu
    refine lkD 1 [xM 11 4] (by simp (disch := omega) []; exact rfl) ?_
    refine WDO.nilS (WD.seqR ?_)
    refine lkD 2 [xM 4 12, xC akNeq 12 0 13] (by simp (disch := omega) []; exact rfl) ?_
    refine WDO.nilS (WD.cond (t := true) (by simp) (fun _ => WD.seqR ?_) (by simp))
    refine lkD 3 [xM 4 14, ⟨lkMove (.const (.slice none 0 0)), (some 2), none⟩, xM 14 3] (by simp (disch := omega) []; exact rfl) ?_
    exact WDO.nilS (WD.ret (endR _ (by simp; rfl) ⟨fun h => absurd h hok, fun _ => rfl, kk2⟩))
end
end Go.Proofs.YtcfpppleiikjhaaGreatDoor
