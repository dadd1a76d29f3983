/- A part of the proof of this seat's statement: what is particular to its program. Its conditions stand in each theorem. -/
import Derived.Test.YtoigokkeaddceaaGreatDoorK9
import Derived.Test.YtoigokkeaddceaaGreatDoorZ7
namespace Go.Proofs.YtoigokkeaddceaaGreatDoor
open Go.Xq
noncomputable section
set_option maxRecDepth 20000 in
set_option maxHeartbeats 4000000 in
theorem same_ok {H : AH} {d : Dl} {pv mv pw mw : AV} {cs ct : List (Int × AV)} (h : DlAt H d pv mv cs) (h' : DlAt H d pw mw ct) (hp : d.pages.length < 4611686018427387904) :
    DC Tryz.prog .normal 18 (.cons (dlA d pv mv) (.cons (dlA d pw mw) .nil)) H fun v' H2 => v' = .bool true ∧ Keep noB H H2 := by
  refine DC.of_wd (re := reTmp 4 reNil) tyOk Tryz.func18 (by kernel_rfl) rfl (by kernel_rfl) (by kernel_rfl) ?_
  rw [tl_nil, argsT_cons, argsT_cons, argsT_nil]
  refine WD.seqR ?_
  obtain ⟨o1, e1, hL, hk1⟩ := Bx.box (enc := encDv) (e := 25) (z := zDv) encDv_len (H := H) (a := d.dv pv mv h.c1 h.c2) (x := .tmp 0) (T := tl [(1, dlA d pw mw), (0, dlA d pv mv)]) (by simp; rfl)
  refine WDO.fresh1 tyOk (k := ⟨frBox ⟨mkCs 25 6 (.cons (.int .i64 0) (.cons (.int .i64 0) (.cons (.int .i64 0) (.cons (.int .i64 0) (.cons .snil (.cons .snil .nil))))))⟩ (.tmp 0)⟩) (by kernel_rfl) rfl (by kernel_rfl) e1 ?_
  have n1 : (H.new o1).next = H.next + 1 := by simp
  generalize H.new o1 = H1 at hL hk1 n1 ⊢
  obtain ⟨N, hN⟩ : ∃ N, N = H.next := ⟨_, rfl⟩
  rw [← hN] at hL n1 ⊢
  obtain ⟨o2, e2, hD, hk2⟩ := Bx.box (enc := encDv) (e := 25) (z := zDv) encDv_len (H := H1) (a := d.dv pw mw h'.c1 h'.c2) (x := .tmp 1) (T := tl [(2, .ptr N 0), (1, dlA d pw mw), (0, dlA d pv mv)]) (by simp; rfl)
  refine WDO.fresh1 tyOk (k := ⟨frBox ⟨mkCs 25 6 (.cons (.int .i64 0) (.cons (.int .i64 0) (.cons (.int .i64 0) (.cons (.int .i64 0) (.cons .snil (.cons .snil .nil))))))⟩ (.tmp 1)⟩) (by kernel_rfl) rfl (by kernel_rfl) e2 ?_
  have n2 : (H1.new o2).next = N + 2 := by simp [n1]
  rw [n1] at hD ⊢
  have kk2 := hk1.trans hk2
  have hL2 := hL.keep hk2 (by omega) id
  generalize H1.new o2 = H2 at hD hk2 n2 kk2 hL2 ⊢
  obtain ⟨oL, gL, l0, l1, l2, l3, l4, l5, _⟩ := hL2.dv
  obtain ⟨oD, gD, d0, d1, d2, d3, d4, d5, _⟩ := hD.dv
  simp only [Dl.dv] at d0 d1 d2 d3 d4 d5 l0 l1 l2 l3 l4 l5
  have ha := h.keep kk2
  have hb := h'.keep kk2
  have sm := ha.meta_.str
  have sn := hb.meta_.str
  have la := SaysP.ln ha.pages
  have lb := SaysP.ln hb.pages
  refine WDO.looks1 tyOk extOk 1 (ls := [⟨lkMove (.const (.bool false)), (some 4), none⟩]) (by kernel_rfl) (by simp (disch := omega) []; exact rfl) ?_
  refine WDO.nilS (WD.seq (WD.seqR ?_))
  refine WDO.looks1 tyOk extOk 44 (ls := [⟨⟨fAddr (.tmp 2) 0⟩, (some 6), none⟩, ⟨⟨ldA ⟨ld1⟩ (.tmp 6)⟩, (some 7), none⟩, ⟨⟨fAddr (.tmp 3) 0⟩, (some 8), none⟩, ⟨⟨ldA ⟨ld1⟩ (.tmp 8)⟩, (some 9), none⟩, ⟨⟨binInt akNeq (.tmp 7) (.tmp 9)⟩, (some 10), none⟩, ⟨lkMove (.tmp 10), (some 11), none⟩, ⟨⟨fAddr (.tmp 2) 1⟩, (some 12), (some (11, false))⟩, ⟨⟨ldA ⟨ld1⟩ (.tmp 12)⟩, (some 13), (some (11, false))⟩, ⟨⟨fAddr (.tmp 3) 1⟩, (some 14), (some (11, false))⟩, ⟨⟨ldA ⟨ld1⟩ (.tmp 14)⟩, (some 15), (some (11, false))⟩, ⟨⟨binInt akNeq (.tmp 13) (.tmp 15)⟩, (some 16), (some (11, false))⟩, ⟨⟨pickA (.tmp 11) (.const (.bool true)) (.tmp 16)⟩, (some 17), none⟩, ⟨lkMove (.tmp 17), (some 18), none⟩, ⟨⟨fAddr (.tmp 2) 2⟩, (some 19), (some (18, false))⟩, ⟨⟨ldA ⟨ld1⟩ (.tmp 19)⟩, (some 20), (some (18, false))⟩, ⟨⟨fAddr (.tmp 3) 2⟩, (some 21), (some (18, false))⟩, ⟨⟨ldA ⟨ld1⟩ (.tmp 21)⟩, (some 22), (some (18, false))⟩, ⟨⟨binInt akNeq (.tmp 20) (.tmp 22)⟩, (some 23), (some (18, false))⟩, ⟨⟨pickA (.tmp 18) (.const (.bool true)) (.tmp 23)⟩, (some 24), none⟩, ⟨lkMove (.tmp 24), (some 25), none⟩, ⟨⟨fAddr (.tmp 2) 3⟩, (some 26), (some (25, false))⟩, ⟨⟨ldA ⟨ld1⟩ (.tmp 26)⟩, (some 27), (some (25, false))⟩, ⟨⟨fAddr (.tmp 3) 3⟩, (some 28), (some (25, false))⟩, ⟨⟨ldA ⟨ld1⟩ (.tmp 28)⟩, (some 29), (some (25, false))⟩, ⟨⟨binInt akNeq (.tmp 27) (.tmp 29)⟩, (some 30), (some (25, false))⟩, ⟨⟨pickA (.tmp 25) (.const (.bool true)) (.tmp 30)⟩, (some 31), none⟩, ⟨lkMove (.tmp 31), (some 32), none⟩, ⟨⟨fAddr (.tmp 2) 5⟩, (some 33), (some (32, false))⟩, ⟨⟨ldA ⟨ld1⟩ (.tmp 33)⟩, (some 34), (some (32, false))⟩, ⟨⟨cvStr (.tmp 34)⟩, (some 35), (some (32, false))⟩, ⟨⟨fAddr (.tmp 3) 5⟩, (some 36), (some (32, false))⟩, ⟨⟨ldA ⟨ld1⟩ (.tmp 36)⟩, (some 37), (some (32, false))⟩, ⟨⟨cvStr (.tmp 37)⟩, (some 38), (some (32, false))⟩, ⟨⟨binStr skNeq (.tmp 35) (.tmp 38)⟩, (some 39), (some (32, false))⟩, ⟨⟨pickA (.tmp 32) (.const (.bool true)) (.tmp 39)⟩, (some 40), none⟩, ⟨lkMove (.tmp 40), (some 41), none⟩, ⟨⟨fAddr (.tmp 2) 4⟩, (some 42), (some (41, false))⟩, ⟨⟨ldA ⟨ld1⟩ (.tmp 42)⟩, (some 43), (some (41, false))⟩, ⟨⟨lenSl (.tmp 43)⟩, (some 44), (some (41, false))⟩, ⟨⟨fAddr (.tmp 3) 4⟩, (some 45), (some (41, false))⟩, ⟨⟨ldA ⟨ld1⟩ (.tmp 45)⟩, (some 46), (some (41, false))⟩, ⟨⟨lenSl (.tmp 46)⟩, (some 47), (some (41, false))⟩, ⟨⟨binInt akNeq (.tmp 44) (.tmp 47)⟩, (some 48), (some (41, false))⟩, ⟨⟨pickA (.tmp 41) (.const (.bool true)) (.tmp 48)⟩, (some 49), none⟩]) (by kernel_rfl) (by simp (disch := omega) [gL, l0, l1, l2, l3, l4, l5, gD, d0, d1, d2, d3, d4, d5, sm, sn, la, lb]; exact rfl) ?_
  refine WDO.nilS (WD.cond (t := false) (by simp) (by simp) fun _ => WD.skip (.inl rfl) (WD.keep (l := [(2, .ptr N 0), (3, .ptr (N + 1) 0)]) (WD.seq (WD.seqR ?_)) (by simp)))
  refine WDO.looks1 tyOk extOk 1 (ls := [⟨lkMove (.const (.int .i64 0)), (some 5), none⟩]) (by kernel_rfl) (by simp (disch := omega) []; exact rfl) ?_
  refine WDO.nilS (WD.forE (σ := Nat) (fun i => [(2, .ptr N 0), (3, .ptr (N + 1) 0), (5, .int .i64 (i : Int))]) (fun i H' => i ≤ d.pages.length ∧ H' = H2) (fun i => d.pages.length - i) 0 ⟨by omega, rfl⟩ (by simp) ?_)
  rintro i H' ⟨hi, hH'⟩
  subst hH'
  refine WDO.looks1 tyOk extOk 5 (ls := [⟨lkMove (.tmp 5), (some 50), none⟩, ⟨⟨fAddr (.tmp 2) 4⟩, (some 51), none⟩, ⟨⟨ldA ⟨ld1⟩ (.tmp 51)⟩, (some 52), none⟩, ⟨⟨lenSl (.tmp 52)⟩, (some 53), none⟩, ⟨⟨binInt akLss (.tmp 50) (.tmp 53)⟩, (some 54), none⟩]) (by kernel_rfl) (by simp (disch := omega) [gL, l4, la]; exact rfl) ?_
  refine WDO.nil ⟨decide ((i : Int) < (d.pages.length : Int)), _, rfl, by simp, fun hc => ?_, fun hc => ?_⟩
  · refine WD.seqR ?_
    refine WDO.looks1 tyOk extOk 1 (ls := [⟨lkMove (.const (.bool true)), (some 4), none⟩]) (by kernel_rfl) (by simp (disch := omega) []; exact rfl) ?_
    exact WDO.nilS (WD.ret (endR _ (by simp; rfl) ⟨rfl, kk2⟩))
  · have hc : i < d.pages.length := by have := of_decide_eq_true hc; omega
    have hp1 : d.pages[i]? = some (d.pages[i]) := List.getElem?_eq_getElem hc
    generalize d.pages[i] = pg at hp1
    obtain ⟨b, off, cap, o, u, q1, q2, q3, q4, q5, q6, q7, q8, q9⟩ := ha.pages.get hp1
    obtain ⟨b', off', cap', o', u', w1, w2, w3, w4, w5, w6, w7, w8, w9⟩ := hb.pages.get hp1
    have s1 := q6.str
    have s2 := w6.str
    rw [q1] at l4
    rw [w1] at d4
    refine WD.keep (l := [(2, .ptr N 0), (3, .ptr (N + 1) 0), (5, .int .i64 (i : Int))]) (WD.seq ?_) (by simp)
    obtain ⟨l', hrun, hsub⟩ : ∃ (l' : List (Nat × AV)), runDk [⟨[2], ⟨fAddr (.tmp 2) 4⟩, (some 57), none⟩, ⟨[57], ⟨ldA ⟨ld1⟩ (.tmp 57)⟩, (some 58), none⟩, ⟨[5], lkMove (.tmp 5), (some 59), none⟩, ⟨[58, 59], ⟨ixSl 2 (.tmp 58) (.tmp 59)⟩, (some 60), none⟩, ⟨[60], ⟨fAddr (.tmp 60) 0⟩, (some 61), none⟩, ⟨[61], ⟨ldA ⟨ld1⟩ (.tmp 61)⟩, (some 62), none⟩, ⟨[3], ⟨fAddr (.tmp 3) 4⟩, (some 63), none⟩, ⟨[63], ⟨ldA ⟨ld1⟩ (.tmp 63)⟩, (some 64), none⟩, ⟨[5], lkMove (.tmp 5), (some 65), none⟩, ⟨[64, 65], ⟨ixSl 2 (.tmp 64) (.tmp 65)⟩, (some 66), none⟩, ⟨[66], ⟨fAddr (.tmp 66) 0⟩, (some 67), none⟩, ⟨[67], ⟨ldA ⟨ld1⟩ (.tmp 67)⟩, (some 68), none⟩, ⟨[62, 68], ⟨binInt akNeq (.tmp 62) (.tmp 68)⟩, (some 69), none⟩, ⟨[69], lkMove (.tmp 69), (some 70), none⟩, ⟨[2, 70], ⟨fAddr (.tmp 2) 4⟩, (some 71), (some (70, false))⟩, ⟨[71, 70], ⟨ldA ⟨ld1⟩ (.tmp 71)⟩, (some 72), (some (70, false))⟩, ⟨[5, 70], lkMove (.tmp 5), (some 73), (some (70, false))⟩, ⟨[72, 73, 70], ⟨ixSl 2 (.tmp 72) (.tmp 73)⟩, (some 74), (some (70, false))⟩, ⟨[74, 70], ⟨fAddr (.tmp 74) 1⟩, (some 75), (some (70, false))⟩, ⟨[75, 70], ⟨ldA ⟨ld1⟩ (.tmp 75)⟩, (some 76), (some (70, false))⟩, ⟨[76, 70], ⟨cvStr (.tmp 76)⟩, (some 77), (some (70, false))⟩, ⟨[3, 70], ⟨fAddr (.tmp 3) 4⟩, (some 78), (some (70, false))⟩, ⟨[78, 70], ⟨ldA ⟨ld1⟩ (.tmp 78)⟩, (some 79), (some (70, false))⟩, ⟨[5, 70], lkMove (.tmp 5), (some 80), (some (70, false))⟩, ⟨[79, 80, 70], ⟨ixSl 2 (.tmp 79) (.tmp 80)⟩, (some 81), (some (70, false))⟩, ⟨[81, 70], ⟨fAddr (.tmp 81) 1⟩, (some 82), (some (70, false))⟩, ⟨[82, 70], ⟨ldA ⟨ld1⟩ (.tmp 82)⟩, (some 83), (some (70, false))⟩, ⟨[83, 70], ⟨cvStr (.tmp 83)⟩, (some 84), (some (70, false))⟩, ⟨[77, 84, 70], ⟨binStr skNeq (.tmp 77) (.tmp 84)⟩, (some 85), (some (70, false))⟩, ⟨[70, 85], ⟨pickA (.tmp 70) (.const (.bool true)) (.tmp 85)⟩, (some 86), none⟩] (tl [(2, .ptr N 0), (3, .ptr (N + 1) 0), (5, .int .i64 (i : Int))]) H' = some (tl l') ∧ lsub [(2, .ptr N 0), (3, .ptr (N + 1) 0), (5, .int .i64 (i : Int)), (86, .bool false)] l' := by
      exact ⟨_, by
        iterate 30 (first | (refine dkSkip ?_ ?_; focus (simp; done)) | refine dkStep (by first | rfl | (simp [-resL_cons, resL_cc]; exact rfl)) (by simp) (by simp (disch := omega) [gL, gD, l4, d4, q2, q3, q4, w2, w3, w4, s1, s2, hc]; exact rfl) ?_)
        exact rfl, by simp⟩
    refine WD.drawLooks tyOk extOk (by kernel_rfl) (ls := [⟨[2], ⟨fAddr (.tmp 2) 4⟩, (some 57), none⟩, ⟨[57], ⟨ldA ⟨ld1⟩ (.tmp 57)⟩, (some 58), none⟩, ⟨[5], lkMove (.tmp 5), (some 59), none⟩, ⟨[58, 59], ⟨ixSl 2 (.tmp 58) (.tmp 59)⟩, (some 60), none⟩, ⟨[60], ⟨fAddr (.tmp 60) 0⟩, (some 61), none⟩, ⟨[61], ⟨ldA ⟨ld1⟩ (.tmp 61)⟩, (some 62), none⟩, ⟨[3], ⟨fAddr (.tmp 3) 4⟩, (some 63), none⟩, ⟨[63], ⟨ldA ⟨ld1⟩ (.tmp 63)⟩, (some 64), none⟩, ⟨[5], lkMove (.tmp 5), (some 65), none⟩, ⟨[64, 65], ⟨ixSl 2 (.tmp 64) (.tmp 65)⟩, (some 66), none⟩, ⟨[66], ⟨fAddr (.tmp 66) 0⟩, (some 67), none⟩, ⟨[67], ⟨ldA ⟨ld1⟩ (.tmp 67)⟩, (some 68), none⟩, ⟨[62, 68], ⟨binInt akNeq (.tmp 62) (.tmp 68)⟩, (some 69), none⟩, ⟨[69], lkMove (.tmp 69), (some 70), none⟩, ⟨[2, 70], ⟨fAddr (.tmp 2) 4⟩, (some 71), (some (70, false))⟩, ⟨[71, 70], ⟨ldA ⟨ld1⟩ (.tmp 71)⟩, (some 72), (some (70, false))⟩, ⟨[5, 70], lkMove (.tmp 5), (some 73), (some (70, false))⟩, ⟨[72, 73, 70], ⟨ixSl 2 (.tmp 72) (.tmp 73)⟩, (some 74), (some (70, false))⟩, ⟨[74, 70], ⟨fAddr (.tmp 74) 1⟩, (some 75), (some (70, false))⟩, ⟨[75, 70], ⟨ldA ⟨ld1⟩ (.tmp 75)⟩, (some 76), (some (70, false))⟩, ⟨[76, 70], ⟨cvStr (.tmp 76)⟩, (some 77), (some (70, false))⟩, ⟨[3, 70], ⟨fAddr (.tmp 3) 4⟩, (some 78), (some (70, false))⟩, ⟨[78, 70], ⟨ldA ⟨ld1⟩ (.tmp 78)⟩, (some 79), (some (70, false))⟩, ⟨[5, 70], lkMove (.tmp 5), (some 80), (some (70, false))⟩, ⟨[79, 80, 70], ⟨ixSl 2 (.tmp 79) (.tmp 80)⟩, (some 81), (some (70, false))⟩, ⟨[81, 70], ⟨fAddr (.tmp 81) 1⟩, (some 82), (some (70, false))⟩, ⟨[82, 70], ⟨ldA ⟨ld1⟩ (.tmp 82)⟩, (some 83), (some (70, false))⟩, ⟨[83, 70], ⟨cvStr (.tmp 83)⟩, (some 84), (some (70, false))⟩, ⟨[77, 84, 70], ⟨binStr skNeq (.tmp 77) (.tmp 84)⟩, (some 85), (some (70, false))⟩, ⟨[70, 85], ⟨pickA (.tmp 70) (.const (.bool true)) (.tmp 85)⟩, (some 86), none⟩]) (by kernel_rfl) hrun ?_
    refine WD.keep (WD.cond (t := false) (by simp) (by simp) fun _ => WD.skip (.inl rfl) ?_) hsub
    refine WDO.looks1 tyOk extOk 3 (ls := [⟨lkMove (.tmp 5), (some 55), none⟩, ⟨⟨binInt akAdd (.tmp 55) (.const (.int .i64 1))⟩, (some 56), none⟩, ⟨lkMove (.tmp 56), (some 5), none⟩]) (by kernel_rfl) (by simp (disch := omega) []; exact rfl) ?_
    exact WDO.nil ⟨rfl, i + 1, _, rfl, by simp, ⟨by omega, rfl⟩, by omega⟩
end
end Go.Proofs.YtoigokkeaddceaaGreatDoor
namespace Go.Proofs.YtoigokkeaddceaaGreatDoor
open Go.Xq
noncomputable section
set_option maxRecDepth 20000 in
theorem chunk_ok {H : AH} {v : AV} {w : Nat} (hv : isCell v = true) (hw : 1 ≤ w) :
    DC Tryz.prog .normal 45 (.cons v (.cons (.int .i64 (w : Int)) .nil)) H fun u H2 => u = .fn (.func 96) .nil (.cons (.ptr H.next 0) (.cons (.ptr (H.next + 1) 0) .nil)) ∧ SlBox H2 H.next v ∧ NBox H2 (H.next + 1) (w : Int) ∧ H2.next = H.next + 2 ∧ Keep noB H H2 := by
  refine DC.of_wd (re := reTmp 4 reNil) tyOk Tryz.func45 (by kernel_rfl) rfl (by kernel_rfl) (by kernel_rfl) ?_
  rw [tl_nil, argsT_cons, argsT_cons, argsT_nil]
  refine WD.seqR ?_
  obtain ⟨o1, e1, hA, hk1⟩ := Bx.boxV (enc := enc1) (e := 23) (z := z1) (H := H) (a := v) enc1_len rfl hv (x := .tmp 0) (T := tl [(1, .int .i64 (w : Int)), (0, v)]) (by simp)
  refine WDO.fresh1 tyOk (k := ⟨frBox ⟨mkCs 23 1 (.cons .snil .nil)⟩ (.tmp 0)⟩) (by kernel_rfl) rfl (by kernel_rfl) e1 ?_
  have n1 : (H.new o1).next = H.next + 1 := by simp
  generalize H.new o1 = H1 at hA hk1 n1 ⊢
  obtain ⟨o2, e2, hB, hk2⟩ := Bx.boxV (enc := encN) (e := 3) (z := zN) (H := H1) (a := (w : Int)) encN_len rfl rfl (x := .tmp 1) (T := tl [(2, .ptr H.next 0), (1, .int .i64 (w : Int)), (0, v)]) (by simp)
  refine WDO.fresh1 tyOk (k := ⟨frBox ⟨mkCs 3 1 (.cons (.int .i64 0) .nil)⟩ (.tmp 1)⟩) (by kernel_rfl) rfl (by kernel_rfl) e2 ?_
  have n2 : (H1.new o2).next = H.next + 2 := by simp [n1]
  rw [n1] at hB ⊢
  have hA2 := hA.keep hk2 (by omega) id
  have kk2 := hk1.trans hk2
  generalize H1.new o2 = H2 at hB n2 hA2 kk2 ⊢
  obtain ⟨o, g, r⟩ := NBox.rd hB
  have f1 : ¬ (w : Int) < 1 := by omega
  refine WDO.looks1 tyOk extOk 1 (ls := [⟨lkMove (.const .nilFunc), (some 4), none⟩]) (by kernel_rfl) (by simp (disch := omega) []; exact rfl) ?_
  refine WDO.nilS (WD.seq (WD.seqR ?_))
  refine WDO.looks1 tyOk extOk 2 (ls := [⟨⟨ldA ⟨ld1⟩ (.tmp 3)⟩, (some 5), none⟩, ⟨⟨binInt akLss (.tmp 5) (.const (.int .i64 1))⟩, (some 6), none⟩]) (by kernel_rfl) (by simp (disch := omega) [g, r, f1]; exact rfl) ?_
  refine WDO.nilS (WD.cond (t := false) (by simp) (by simp) fun _ => WD.skip (.inl rfl) (WD.seqR ?_))
  refine WDO.looks1 tyOk extOk 2 (ls := [⟨⟨makeFn (.func 96) (opnds []) (opnds [(.tmp 2), (.tmp 3)])⟩, (some 8), none⟩, ⟨lkMove (.tmp 8), (some 4), none⟩]) (by kernel_rfl) (by simp (disch := omega) []; exact rfl) ?_
  exact WDO.nilS (WD.ret (endR _ (by simp; rfl) ⟨rfl, hA2, hB, n2, kk2⟩))
set_option maxRecDepth 20000 in
theorem chunkFn_ok {H0 H : AH} {lp B C w k : Nat} {v : AV} {l : List UInt8} (h : OldS H0 v l) (hw : 1 ≤ w) (hl : l.length = k * w) (hmx : l.length ≤ 17179869184) (J : Nat → AH → Prop) (h0 : J 0 H)
    (hJ : ∀ i Hx, J i Hx → SlBox Hx B v ∧ NBox Hx C (w : Int) ∧ Keep noB H0 Hx)
    (hstep : ∀ i Hx u, i < k → J i Hx → OldS H0 u (sub l (i * w) w) → AR Tryz.prog lp (.cons u .nil) Hx fun u' H2 => u' = .bool true ∧ J (i + 1) H2) :
    AC Tryz.prog .normal 96 (.cons (.fn (.yield lp) .nil .nil) (.cons (.ptr B 0) (.cons (.ptr C 0) .nil))) H fun _ H2 => J k H2 := by
  refine AC.of_wp (re := reNil) tyOk Tryz.func96 (by kernel_rfl) rfl (by kernel_rfl) (by kernel_rfl) ?_
  rw [tl_nil, argsT_cons, argsT_cons, argsT_cons, argsT_nil]
  refine WP.seqR ?_
  refine WPO.looks1 tyOk extOk 1 (ls := [⟨lkMove (.const (.int .i64 0)), (some 4), none⟩]) (by kernel_rfl) (by simp (disch := omega) []; exact rfl) ?_
  refine WPO.nilS (WP.forE (σ := Nat) (fun i => [(0, .fn (.yield lp) .nil .nil), (1, .ptr B 0), (2, .ptr C 0), (4, .int .i64 ((i * w : Nat) : Int))]) (fun i H' => i ≤ k ∧ J i H') (fun i => k - i) 0 ⟨Nat.zero_le _, h0⟩ (by simp) ?_)
  rintro i H' ⟨hi, hj⟩
  obtain ⟨hA, hB, hk⟩ := hJ _ _ hj
  obtain ⟨oA, gA, rA⟩ := SlBox.rd hA
  obtain ⟨oB, gB, rB⟩ := NBox.rd hB
  have hlen := (h.at hk).len
  have hst := hstep i H'
  obtain ⟨a, ha⟩ : ∃ a, a = i * w := ⟨_, rfl⟩
  rw [← ha] at hst ⊢
  refine WPO.looks1 tyOk extOk 4 (ls := [⟨lkMove (.tmp 4), (some 6), none⟩, ⟨⟨ldA ⟨ld1⟩ (.tmp 1)⟩, (some 7), none⟩, ⟨⟨lenSl (.tmp 7)⟩, (some 8), none⟩, ⟨⟨binInt akLss (.tmp 6) (.tmp 8)⟩, (some 9), none⟩]) (by kernel_rfl) (by simp (disch := omega) [gA, rA, hlen]; exact rfl) ?_
  refine WPO.nil ⟨decide ((a : Int) < (l.length : Int)), _, rfl, by simp, fun hc => ?_, fun hc => ?_⟩
  · have hc : i = k := by
      have hc := of_decide_eq_false hc
      rcases Nat.lt_or_ge i k with h1 | h1
      · have h2 : (i + 1) * w ≤ k * w := Nat.mul_le_mul_right _ h1
        rw [Nat.succ_mul] at h2
        omega
      · omega
    subst hc
    exact endN _ rfl hj
  · have hc : i < k := by
      have hc := of_decide_eq_true hc
      rcases Nat.lt_or_ge i k with h1 | h1
      · exact h1
      · have h2 : k * w ≤ i * w := Nat.mul_le_mul_right _ h1
        omega
    have hle : i * w + w ≤ l.length := by
      have h2 : (i + 1) * w ≤ k * w := Nat.mul_le_mul_right _ hc
      rw [Nat.succ_mul] at h2
      omega
    have hsucc : (i + 1) * w = i * w + w := Nat.succ_mul _ _
    rw [← ha] at hle hsucc
    obtain ⟨z, hz⟩ : ∃ z, z = a + w := ⟨_, rfl⟩
    have hz' : (a : Int) + (w : Int) = (z : Int) := by omega
    have hne : l ≠ [] := by intro e; rw [e] at hle; simp at hle; omega
    obtain ⟨v1, c1, c2, _⟩ := h.sl (lo := a) none (n := l.length) rfl hk hne (by omega) (Nat.le_refl _)
    have l1 := (c2.at hk).len
    rw [sub_len (by omega)] at l1
    have l1' : ((l.length - a : Nat) : Int) = (l.length : Int) - (a : Int) := by omega
    have hmm : mmA false (.cons (.int .i64 ((l.length - a : Nat) : Int)) .nil) (.int .i64 (w : Int)) = some (.int .i64 (w : Int)) := mmMin (by omega)
    obtain ⟨v2, d1, d2, _⟩ := h.chunk (lo := a) (hi := z) hk hne (by omega) (by omega)
    rw [show z - a = w by omega] at d2
    refine WP.keep (l := [(0, .fn (.yield lp) .nil .nil), (1, .ptr B 0), (2, .ptr C 0), (4, .int .i64 (a : Int))]) (WP.seq ?_) (by simp)
    refine WP.drawLooks tyOk extOk (by kernel_rfl) (ls := [⟨[2], ⟨ldA ⟨ld1⟩ (.tmp 2)⟩, (some 13), none⟩, ⟨[1], ⟨ldA ⟨ld1⟩ (.tmp 1)⟩, (some 14), none⟩, ⟨[4], lkMove (.tmp 4), (some 15), none⟩, ⟨[14, 15], ⟨slSl 1 (.tmp 14) (some (.tmp 15)) none none⟩, (some 16), none⟩, ⟨[16], ⟨lenSl (.tmp 16)⟩, (some 17), none⟩, ⟨[13, 17], ⟨mmK false (.tmp 13) [(.tmp 17)]⟩, (some 18), none⟩, ⟨[18], lkMove (.tmp 18), (some 5), none⟩]) (by kernel_rfl) (by simp (disch := omega) [gA, rA, gB, rB, c1, l1, hmm]; exact rfl) ?_
    refine WP.keep (l := [(0, .fn (.yield lp) .nil .nil), (1, .ptr B 0), (2, .ptr C 0), (4, .int .i64 (a : Int)), (5, .int .i64 (w : Int))]) (WP.seqR ?_) (by simp)
    refine WPO.looks1 tyOk extOk 10 (ls := [⟨lkMove (.tmp 0), (some 19), none⟩, ⟨⟨ldA ⟨ld1⟩ (.tmp 1)⟩, (some 20), none⟩, ⟨lkMove (.tmp 4), (some 21), none⟩, ⟨lkMove (.tmp 4), (some 22), none⟩, ⟨lkMove (.tmp 5), (some 23), none⟩, ⟨⟨binInt akAdd (.tmp 22) (.tmp 23)⟩, (some 24), none⟩, ⟨lkMove (.tmp 4), (some 25), none⟩, ⟨lkMove (.tmp 5), (some 26), none⟩, ⟨⟨binInt akAdd (.tmp 25) (.tmp 26)⟩, (some 27), none⟩, ⟨⟨slSl 1 (.tmp 20) (some (.tmp 21)) (some (.tmp 24)) (some (.tmp 27))⟩, (some 28), none⟩]) (by kernel_rfl) (by simp (disch := omega) [gA, rA, hz', d1]; exact rfl) ?_
    refine WPO.yield (l := lp) (first := .nil) (cap := .nil) (la := .cons v2 .nil) rfl rfl (by simp) rfl (by kernel_rfl) (by simp) (hst v2 hc hj d2) fun u H2 ⟨hu, hj2⟩ => ?_
    subst hu
    obtain ⟨_, hB2, _⟩ := hJ _ _ hj2
    obtain ⟨oB2, gB2, rB2⟩ := NBox.rd hB2
    refine WPO.looks1 tyOk extOk 1 (ls := [⟨lkUn ukNot (.tmp 29), (some 30), none⟩]) (by kernel_rfl) (by simp (disch := omega) []; exact rfl) ?_
    refine WPO.nilS (WP.cond (t := false) (by simp) (by simp) fun _ => WP.skip (.inl rfl) ?_)
    refine WPO.looks1 tyOk extOk 4 (ls := [⟨lkMove (.tmp 4), (some 10), none⟩, ⟨⟨ldA ⟨ld1⟩ (.tmp 2)⟩, (some 11), none⟩, ⟨⟨binInt akAdd (.tmp 10) (.tmp 11)⟩, (some 12), none⟩, ⟨lkMove (.tmp 12), (some 4), none⟩]) (by kernel_rfl) (by simp (disch := omega) [gB2, rB2, hz']; exact rfl) ?_
    exact WPO.nil ⟨rfl, i + 1, _, rfl, by simp [hsucc, hz], ⟨by omega, hj2⟩, by omega⟩
end
end Go.Proofs.YtoigokkeaddceaaGreatDoor
namespace Go.Proofs.YtoigokkeaddceaaGreatDoor
open Go.Xq
noncomputable section
def espd : List UInt8 := [69, 83, 80, 68]
def nought3 : List UInt8 := [0, 0, 0]
theorem sub_sub0 {l : List UInt8} {a n w : Nat} (h : w ≤ n) : sub (sub l a n) 0 w = sub l a w := by
  unfold sub
  rw [List.drop_zero, List.take_take, Nat.min_eq_left h]
theorem sub_dropS (l : List UInt8) (a n w : Nat) : (sub l a n).drop w = sub l (a + w) (n - w) := by
  unfold sub
  rw [List.drop_take, List.drop_drop]
theorem sub_takeS {l : List UInt8} {a n w : Nat} (h : w ≤ n) : (sub l a n).take w = sub l a w := by
  unfold sub
  rw [List.take_take, Nat.min_eq_left h]
theorem sub_subS {l : List UInt8} {a n b w : Nat} (h : b + w ≤ n) : sub (sub l a n) b w = sub l (a + b) w := by
  rw [sub, sub_dropS, sub_takeS (by omega)]
theorem ownZ_own {H : AH} {lo : Nat} {v : AV} {l : List UInt8} (h : OwnZ H lo v l) (hl : l ≠ []) : OwnB 5 H lo v l := by
  rcases h with h | ⟨_, _, _, _, e⟩
  · exact h
  · exact absurd e hl
theorem setParams1 {n i : Nat} {x : AV} {l : List (Nat × AV)} (hi : i < n) : setParams n [i] (.cons x .nil) (tl l) = some (tl ((i, x) :: l)) := by
  show bt (Nat.blt i n) (some _) none = _
  rw [blt_true hi, bt_true]; rfl
theorem slA_same {H H2 : AH} {es n : Nat} {v : AV} (h : ∀ b, blk v = some b → H2.get b = H.get b) : slA es n v H2 = slA es n v H := by
  cases v with
  | sl b off len cap =>
    have := h b rfl
    unfold slA
    rw [onSl_sl, onSl_sl]
    unfold roomOf
    rw [this]
  | _ => rfl
theorem old_upSame {H0 H H2 : AH} {v va : AV} {l : List UInt8} {n : Nat} (h : OldS H0 v l) (hk : Keep noB H0 H) (hk2 : Keep noB H0 H2) (e : slA 1 n v H = some va) : slA 1 n v H2 = some va := by
  rw [← e]
  exact slA_same fun b hb => (hk2.2 b (h.low b hb) id).trans (hk.2 b (h.low b hb) id).symm
abbrev DB (H : AH) (b : Nat) (d : Dv) : Prop := Bx encDv 25 6 zDv H b d
theorem slC_same {H H2 : AH} {es : Nat} {lo hi : Option Nat} {v : AV} (h : ∀ b, blk v = some b → H2.get b = H.get b) : slC es lo hi v H2 = slC es lo hi v H := by
  cases v with
  | sl b off len cap =>
    have := h b rfl
    unfold slC
    rw [onSl_sl, onSl_sl]
    unfold roomOf
    rw [this]
  | _ => rfl
theorem old_slSame {H0 H H2 : AH} {v va : AV} {l : List UInt8} {lo hi : Option Nat} (h : OldS H0 v l) (hk : Keep noB H0 H) (hk2 : Keep noB H0 H2) (e : slC 1 lo hi v H = some va) : slC 1 lo hi v H2 = some va := by
  rw [← e]
  exact slC_same fun b hb => (hk2.2 b (h.low b hb) id).trans (hk.2 b (h.low b hb) id).symm
structure DJ (H0 : AH) (l : List UInt8) (d : Dl) (q : ALoop) (L N D7 B C W : Nat) (mv v8 : AV) (i : Nat) (H : AH) where
  pv : AV
  els : List Pv
  hpc : isCell pv = true
  hmc : isCell mv = true
  lp : H.get (L + 1) = some (.loop q)
  mkb : H.get L = some (.dfr true)
  cb : SlBox H B v8
  cn : NBox H C (W : Int)
  db : DB H D7 ⟨d.engine, (pageN l : Int), d.frm, d.to, pv, mv, hpc, hmc⟩
  pg : PagesAt H (L + 2) pv (pagesOf l i) els
  me : OwnB 5 H (D7 + 2) mv (sub l 32 (pageN l))
  rb : DB H N zeroDv
  zb : DB H (N + 1) zeroDv
  nx : L + 2 ≤ H.next
  keep : Keep noB H0 H
  ap : Apart (mv :: els.map fun a => a.v)
structure OwnD (H : AH) (lo : Nat) (d : Dl) (pv mv : AV) (els : List Pv) : Prop where
  made : MadeD H lo d pv mv els
  ap : Apart (mv :: els.map fun a => a.v)
set_option maxRecDepth 20000 in
set_option maxHeartbeats 4000000 in
theorem decodeP_ok {H : AH} {v : AV} {l : List UInt8} (h : OldS H v l) (hl : l.length ≤ 8589934592) :
    AC Tryz.prog .normal 16 (.cons v .nil) H fun v' H2 => (saysD l → ∃ pv mv els, v' = .tup (.cons (dlA (fldsD l) pv mv) (.cons (.int .i64 0) .nil)) ∧ OwnD H2 H.next (fldsD l) pv mv els) ∧ (¬ saysD l → v' = .tup (.cons (dlA zeroDl .snil .snil) (.cons (.int .i64 230) .nil))) ∧ Keep noB H H2 := by
  refine AC.of_wp (re := reCell ⟨ldN 6⟩ 2 (reTmp 3 reNil)) tyOk Tryz.func16 (by kernel_rfl) rfl (by kernel_rfl) (by kernel_rfl) ?_
  rw [tl_nil, argsT_cons, argsT_nil]
  have hlen := h.rd.len
  have n4 : natOf (.int .i64 4) = some 4 := rfl
  have n8 : natOf (.int .i64 8) = some 8 := rfl
  refine WP.seqR ?_
  refine WPO.fresh1 tyOk (k := ⟨frAlloc (.cs 25 6 6 false (.cons (.int .i64 0) (.cons (.int .i64 0) (.cons (.int .i64 0) (.cons (.int .i64 0) (.cons .snil (.cons .snil .nil)))))) .e)⟩) (by kernel_rfl) rfl (by kernel_rfl) (v := .ptr H.next 0) (x := .cs 25 6 6 false zDv .e) ?_ ?_
  · exact rfl
  have hQ := newDv H
  have k1 : Keep noB H (H.new (.cs 25 6 6 false zDv .e)) := Keep.new _ _ _
  have n1 : (H.new (.cs 25 6 6 false zDv .e)).next = H.next + 1 := by simp
  generalize H.new (.cs 25 6 6 false zDv .e) = H1 at hQ k1 n1 ⊢
  obtain ⟨N, hN⟩ : ∃ N, N = H.next := ⟨_, rfl⟩
  rw [← hN] at hQ n1 ⊢
  refine WPO.looks1 tyOk extOk 1 (ls := [⟨lkMove (.const (.int .i64 0)), (some 3), none⟩]) (by kernel_rfl) (by simp (disch := omega) []; exact rfl) ?_
  refine WPO.nilS (WP.seqR ?_)
  refine WPO.looks1 tyOk extOk 1 (ls := [⟨⟨buildA (.cons (.int .i64 0) (.cons (.int .i64 0) (.cons (.int .i64 0) (.cons (.int .i64 0) (.cons .snil (.cons .snil .nil)))))) flEnd⟩, (some 14), none⟩]) (by kernel_rfl) (by simp (disch := omega) []; exact rfl) ?_
  refine WPO.fresh1 tyOk (k := ⟨frAlloc (.cs 25 6 6 false (.cons (.int .i64 0) (.cons (.int .i64 0) (.cons (.int .i64 0) (.cons (.int .i64 0) (.cons .snil (.cons .snil .nil)))))) .e)⟩) (by kernel_rfl) rfl (by kernel_rfl) (v := .ptr H1.next 0) (x := .cs 25 6 6 false zDv .e) ?_ ?_
  · exact rfl
  have hZ := newDv H1
  have k2 : Keep noB H1 (H1.new (.cs 25 6 6 false zDv .e)) := Keep.new _ _ _
  have n2 : (H1.new (.cs 25 6 6 false zDv .e)).next = N + 2 := by simp [n1]
  have hQ2 := hQ.keep k2 (by omega) id
  have kk2 := k1.trans k2
  rw [n1] at hZ ⊢
  generalize H1.new (.cs 25 6 6 false zDv .e) = H2 at hZ k2 n2 hQ2 kk2 ⊢
  obtain ⟨H3, s1, s2, hZ3, s4⟩ := hZ.store encDv_len zeroDv (cells_dv _)
  refine WPO.heavy1 tyOk extOk (k := ⟨hvStore ⟨stN 6⟩ (.tmp 4) (.tmp 14)⟩) (by kernel_rfl) rfl (by kernel_rfl) (by simp; exact stN_ob s1) ?_
  have kk3 : Keep noB H H3 := kk2.trans' s4 fun b hb e => absurd e (by omega)
  have hQ3 := hQ2.keep s4 (by omega) (by omega)
  have n3 : H3.next = N + 2 := by omega
  clear s1 s2 s4 hZ hQ hQ2 k1 k2
  have bad : ∀ (H' : AH), DB H' N zeroDv → ∃ H2 oz, stN 6 H' (.agg (avl (encDv zeroDv))) (.ptr N 0) = some H2 ∧ H2.get N = some oz ∧ rdCells oz 6 0 = some (avl (encDv zeroDv)) ∧ Keep (fun b => b = N) H' H2 := fun H' hb => by
    obtain ⟨H2, s1, s2, s3, s4⟩ := hb.store encDv_len zeroDv (cells_dv _)
    obtain ⟨oz, gz, _, _, _, _, _, _, zc⟩ := s3.dv
    exact ⟨H2, oz, s1, gz, zc, s4⟩
  refine WPO.nilS (WP.seqR ?_)
  by_cases hA : l.length < 36
  · have hno : ¬ saysD l := fun hs => by have := hs.1.1; omega
    have f1 : (l.length : Int) - 4 < 32 := by omega
    refine WPO.looks1 tyOk extOk 4 (ls := [⟨lkMove (.tmp 0), (some 15), none⟩, ⟨⟨lenSl (.tmp 15)⟩, (some 16), none⟩, ⟨⟨binInt akSub (.tmp 16) (.const (.int .i64 4))⟩, (some 17), none⟩, ⟨lkMove (.tmp 17), (some 5), none⟩]) (by kernel_rfl) (by simp (disch := omega) [hlen]; exact rfl) ?_
    refine WPO.nilS (WP.seq (WP.seqR ?_))
    refine WPO.looks1 tyOk extOk 14 (ls := [⟨lkMove (.tmp 5), (some 18), none⟩, ⟨⟨binInt akLss (.tmp 18) (.const (.int .i64 32))⟩, (some 19), none⟩, ⟨lkMove (.tmp 19), (some 20), none⟩, ⟨lkMove (.tmp 0), (some 21), (some (20, false))⟩, ⟨⟨slSl 1 (.tmp 21) none (some (.const (.int .i64 4))) none⟩, (some 22), (some (20, false))⟩, ⟨⟨cvStr (.tmp 22)⟩, (some 23), (some (20, false))⟩, ⟨⟨binStr skNeq (.tmp 23) (.const (.string ⟨#[69, 83, 80, 68]⟩))⟩, (some 24), (some (20, false))⟩, ⟨⟨pickA (.tmp 20) (.const (.bool true)) (.tmp 24)⟩, (some 25), none⟩, ⟨lkMove (.tmp 25), (some 26), none⟩, ⟨lkMove (.tmp 0), (some 27), (some (26, false))⟩, ⟨⟨slSl 1 (.tmp 27) (some (.const (.int .i64 5))) (some (.const (.int .i64 8))) none⟩, (some 28), (some (26, false))⟩, ⟨⟨cvStr (.tmp 28)⟩, (some 29), (some (26, false))⟩, ⟨⟨binStr skNeq (.tmp 29) (.const (.string ⟨#[0, 0, 0]⟩))⟩, (some 30), (some (26, false))⟩, ⟨⟨pickA (.tmp 26) (.const (.bool true)) (.tmp 30)⟩, (some 31), none⟩]) (by kernel_rfl) (by simp (disch := omega) [f1]; exact rfl) ?_
    refine WPO.nilS (WP.cond (t := true) (by simp) (fun _ => WP.seqR ?_) (by simp))
    obtain ⟨oZ, gZ, _, _, _, _, _, _, zc⟩ := hZ3.dv
    refine WPO.looks1 tyOk extOk 1 (ls := [⟨⟨ldA ⟨ldN 6⟩ (.tmp 4)⟩, (some 32), none⟩]) (by kernel_rfl) (by simp (disch := omega) [gZ, zc]; exact rfl) ?_
    obtain ⟨H4, oz, z1, gz, zc2, z4⟩ := bad H3 hQ3
    refine WPO.heavy1 tyOk extOk (k := ⟨hvStore ⟨stN 6⟩ (.tmp 2) (.tmp 32)⟩) (by kernel_rfl) rfl (by kernel_rfl) (by simp; exact stN_ob z1) ?_
    refine WPO.looks1 tyOk extOk 1 (ls := [⟨lkMove (.const (.int .i64 230)), (some 3), none⟩]) (by kernel_rfl) (by simp (disch := omega) []; exact rfl) ?_
    exact WPO.nilS (WP.ret (endR _ (by simp [gz, zc2]; rfl) ⟨fun hs => absurd hs hno, fun _ => rfl, kk3.trans' z4 fun b hb e => absurd e (by omega)⟩))
  · have hne : l ≠ [] := by intro e; subst e; simp at hA
    obtain ⟨m, hm⟩ : ∃ m, m = l.length - 4 := ⟨_, rfl⟩
    have hm' : (l.length : Int) - 4 = (m : Int) := by omega
    refine WPO.looks1 tyOk extOk 4 (ls := [⟨lkMove (.tmp 0), (some 15), none⟩, ⟨⟨lenSl (.tmp 15)⟩, (some 16), none⟩, ⟨⟨binInt akSub (.tmp 16) (.const (.int .i64 4))⟩, (some 17), none⟩, ⟨lkMove (.tmp 17), (some 5), none⟩]) (by kernel_rfl) (by simp (disch := omega) [hlen, hm']; exact rfl) ?_
    refine WPO.nilS (WP.keep (l := [(0, v), (2, .ptr N 0), (3, .int .i64 0), (4, .ptr (N + 1) 0), (5, .int .i64 (m : Int))]) (WP.seq (WP.seqR ?_)) (by simp))
    obtain ⟨v4, a1, a2, _⟩ := h.upto (n := 4) kk3 hne (by omega)
    obtain ⟨v5, b1, b2, _⟩ := h.sl (lo := 5) (some 8) (n := 8) rfl kk3 hne (by omega) (by omega)
    have s4 := (a2.at kk3).str
    have s5 := (b2.at kk3).str
    obtain ⟨A4, hA4⟩ : ∃ A, A = l.take 4 := ⟨_, rfl⟩
    obtain ⟨A5, hA5⟩ : ∃ A, A = sub l 5 (8 - 5) := ⟨_, rfl⟩
    rw [← hA4] at s4
    rw [← hA5] at s5
    have f1 : ¬ (m : Int) < 32 := by omega
    obtain ⟨x, l', hx, hrun, hsub⟩ : ∃ (x : Bool) (l' : List (Nat × AV)), (x = true ↔ ¬ (A4 = espd ∧ A5 = nought3)) ∧ runLk [⟨lkMove (.tmp 5), (some 18), none⟩, ⟨⟨binInt akLss (.tmp 18) (.const (.int .i64 32))⟩, (some 19), none⟩, ⟨lkMove (.tmp 19), (some 20), none⟩, ⟨lkMove (.tmp 0), (some 21), (some (20, false))⟩, ⟨⟨slSl 1 (.tmp 21) none (some (.const (.int .i64 4))) none⟩, (some 22), (some (20, false))⟩, ⟨⟨cvStr (.tmp 22)⟩, (some 23), (some (20, false))⟩, ⟨⟨binStr skNeq (.tmp 23) (.const (.string ⟨#[69, 83, 80, 68]⟩))⟩, (some 24), (some (20, false))⟩, ⟨⟨pickA (.tmp 20) (.const (.bool true)) (.tmp 24)⟩, (some 25), none⟩, ⟨lkMove (.tmp 25), (some 26), none⟩, ⟨lkMove (.tmp 0), (some 27), (some (26, false))⟩, ⟨⟨slSl 1 (.tmp 27) (some (.const (.int .i64 5))) (some (.const (.int .i64 8))) none⟩, (some 28), (some (26, false))⟩, ⟨⟨cvStr (.tmp 28)⟩, (some 29), (some (26, false))⟩, ⟨⟨binStr skNeq (.tmp 29) (.const (.string ⟨#[0, 0, 0]⟩))⟩, (some 30), (some (26, false))⟩, ⟨⟨pickA (.tmp 26) (.const (.bool true)) (.tmp 30)⟩, (some 31), none⟩] (tl [(0, v), (2, .ptr N 0), (3, .int .i64 0), (4, .ptr (N + 1) 0), (5, .int .i64 (m : Int))]) H3 = some (tl l') ∧ lsub [(0, v), (2, .ptr N 0), (3, .int .i64 0), (4, .ptr (N + 1) 0), (5, .int .i64 (m : Int)), (31, .bool x)] l' := by
      by_cases c1 : A4 = espd
      · have e4 : skNeq.f A4.length (leNat A4) 4 (leNat [69, 83, 80, 68]) = some (.bool false) := (skNeq_f A4 espd).trans (by simp [c1])
        by_cases c2 : A5 = nought3
        · have e5 : skNeq.f A5.length (leNat A5) 3 (leNat [0, 0, 0]) = some (.bool false) := (skNeq_f A5 nought3).trans (by simp [c2])
          exact ⟨false, _, ⟨fun h => (by cases h), fun h => absurd ⟨c1, c2⟩ h⟩, by simp (disch := omega) [f1, n4, n8, a1, b1, s4, s5, e4, e5]; exact rfl, by simp⟩
        · have e5 : skNeq.f A5.length (leNat A5) 3 (leNat [0, 0, 0]) = some (.bool true) := (skNeq_f A5 nought3).trans (by simp [c2])
          exact ⟨true, _, ⟨fun _ h => c2 h.2, fun _ => rfl⟩, by simp (disch := omega) [f1, n4, n8, a1, b1, s4, s5, e4, e5]; exact rfl, by simp⟩
      · have e4 : skNeq.f A4.length (leNat A4) 4 (leNat [69, 83, 80, 68]) = some (.bool true) := (skNeq_f A4 espd).trans (by simp [c1])
        exact ⟨true, _, ⟨fun _ h => c1 h.1, fun _ => rfl⟩, by simp (disch := omega) [f1, n4, n8, a1, s4, e4]; exact rfl, by simp⟩
    refine WPO.looks1 tyOk extOk 14 (ls := [⟨lkMove (.tmp 5), (some 18), none⟩, ⟨⟨binInt akLss (.tmp 18) (.const (.int .i64 32))⟩, (some 19), none⟩, ⟨lkMove (.tmp 19), (some 20), none⟩, ⟨lkMove (.tmp 0), (some 21), (some (20, false))⟩, ⟨⟨slSl 1 (.tmp 21) none (some (.const (.int .i64 4))) none⟩, (some 22), (some (20, false))⟩, ⟨⟨cvStr (.tmp 22)⟩, (some 23), (some (20, false))⟩, ⟨⟨binStr skNeq (.tmp 23) (.const (.string ⟨#[69, 83, 80, 68]⟩))⟩, (some 24), (some (20, false))⟩, ⟨⟨pickA (.tmp 20) (.const (.bool true)) (.tmp 24)⟩, (some 25), none⟩, ⟨lkMove (.tmp 25), (some 26), none⟩, ⟨lkMove (.tmp 0), (some 27), (some (26, false))⟩, ⟨⟨slSl 1 (.tmp 27) (some (.const (.int .i64 5))) (some (.const (.int .i64 8))) none⟩, (some 28), (some (26, false))⟩, ⟨⟨cvStr (.tmp 28)⟩, (some 29), (some (26, false))⟩, ⟨⟨binStr skNeq (.tmp 29) (.const (.string ⟨#[0, 0, 0]⟩))⟩, (some 30), (some (26, false))⟩, ⟨⟨pickA (.tmp 26) (.const (.bool true)) (.tmp 30)⟩, (some 31), none⟩]) (by kernel_rfl) hrun ?_
    clear hrun
    cases x with
    | true =>
      have hno : ¬ saysD l := fun hs => hx.1 rfl (by
        have := (encD_iff hs.1).1 hs.2.2
        exact ⟨hA4.trans this.1, hA5.trans this.2.1⟩)
      refine WPO.nilS (WP.keep (WP.cond (t := true) (by simp) (fun _ => WP.seqR ?_) (by simp)) hsub)
      obtain ⟨oZ, gZ, _, _, _, _, _, _, zc⟩ := hZ3.dv
      refine WPO.looks1 tyOk extOk 1 (ls := [⟨⟨ldA ⟨ldN 6⟩ (.tmp 4)⟩, (some 32), none⟩]) (by kernel_rfl) (by simp (disch := omega) [gZ, zc]; exact rfl) ?_
      obtain ⟨H4, oz, z1, gz, zc2, z4⟩ := bad H3 hQ3
      refine WPO.heavy1 tyOk extOk (k := ⟨hvStore ⟨stN 6⟩ (.tmp 2) (.tmp 32)⟩) (by kernel_rfl) rfl (by kernel_rfl) (by simp; exact stN_ob z1) ?_
      refine WPO.looks1 tyOk extOk 1 (ls := [⟨lkMove (.const (.int .i64 230)), (some 3), none⟩]) (by kernel_rfl) (by simp (disch := omega) []; exact rfl) ?_
      exact WPO.nilS (WP.ret (endR _ (by simp [gz, zc2]; rfl) ⟨fun hs => absurd hs hno, fun _ => rfl, kk3.trans' z4 fun b hb e => absurd e (by omega)⟩))
    | false =>
    have hx' : A4 = espd ∧ A5 = nought3 := Classical.not_not.1 fun h => by have := hx.2 h; cases this
    refine WPO.nilS (WP.keep (WP.cond (t := false) (by simp) (by simp) fun _ => WP.skip (.inl rfl) (WP.keep (l := [(0, v), (2, .ptr N 0), (3, .int .i64 0), (4, .ptr (N + 1) 0), (5, .int .i64 (m : Int))]) (WP.seqR ?_) (by simp))) hsub)
    clear hsub l' hx s4 s5 a1 a2 b1 b2 f1
    obtain ⟨vr, c1, c2, c3⟩ := h.sl (lo := m) none (n := l.length) rfl kk3 hne (by omega) (Nat.le_refl _)
    rw [show l.length - m = 4 by omega] at c2
    refine WPO.looks1 tyOk extOk 3 (ls := [⟨lkMove (.tmp 0), (some 33), none⟩, ⟨lkMove (.tmp 5), (some 34), none⟩, ⟨⟨slSl 1 (.tmp 33) (some (.tmp 34)) none none⟩, (some 35), none⟩]) (by kernel_rfl) (by simp (disch := omega) [c1]; exact rfl) ?_
    refine WPO.fresh1 tyOk (k := ⟨frAlloc (.cs 23 1 1 false (.cons .snil .nil) .e)⟩) (by kernel_rfl) rfl (by kernel_rfl) (v := .ptr H3.next 0) (x := .cs 23 1 1 false z1 .e) ?_ ?_
    · exact rfl
    have hB0 := newSlBox H3
    have k4 : Keep noB H3 (H3.new (.cs 23 1 1 false z1 .e)) := Keep.new _ _ _
    have n4' : (H3.new (.cs 23 1 1 false z1 .e)).next = N + 3 := by simp [n3]
    rw [n3] at hB0 ⊢
    have hQ4 := hQ3.keep k4 (by omega) id
    have hZ4 := hZ3.keep k4 (by omega) id
    have kk4 := kk3.trans k4
    generalize H3.new (.cs 23 1 1 false z1 .e) = H4 at hB0 k4 n4' hQ4 hZ4 kk4 ⊢
    obtain ⟨H5, s1, s2, hB5, s4⟩ := hB0.store1 enc1_len vr (f := 0) (v := vr) (by omega) rfl c2.rd.cell
    refine WPO.heavy1 tyOk extOk (k := ⟨hvStore ⟨st1'⟩ (.tmp 6) (.tmp 35)⟩) (by kernel_rfl) rfl (by kernel_rfl) (by simp; exact st1_ob s1) ?_
    simp only [putA_none, putA_some]
    have kk5 : Keep noB H H5 := kk4.trans' s4 fun b hb e => absurd e (by omega)
    have hQ5 := hQ4.keep s4 (by omega) (by omega)
    have hZ5 := hZ4.keep s4 (by omega) (by omega)
    have n5 : H5.next = N + 3 := by omega
    clear s1 s2 s4 hB0 hQ4 hZ4 k4 n4'
    refine WPO.nilS (WP.keep (l := [(0, v), (2, .ptr N 0), (3, .int .i64 0), (4, .ptr (N + 1) 0), (5, .int .i64 (m : Int)), (6, .ptr (N + 2) 0)]) (WP.seq (WP.seq ?_)) (by simp))
    obtain ⟨va, d1, d2, _⟩ := h.upto (n := m) kk5 hne (by omega)
    have hva := d2.rd.cell
    obtain ⟨S, hS⟩ : ∃ S, S = sumL (l.take m) := ⟨_, rfl⟩
    obtain ⟨R4, hR4⟩ : ∃ R4, R4 = readL (sub l m 4) := ⟨_, rfl⟩
    have hR4l : R4 < 4294967296 := by rw [hR4]; exact readL_lt4 (by omega)
    have hSl : S < 4294967296 := by rw [hS]; exact sumL_lt32 _
    have hi64 : i64 R4 = (R4 : Int) := i64_small (by omega)
    have cvu := mkInt_u32n hR4l
    obtain ⟨R, hR, hRc⟩ := specR_ex Tryz.prog (fun g _ Hx u H2 => (g = 42 → u = .int .i64 (R4 : Int) ∧ H2.next = Hx.next ∧ Keep (fun b => b = N + 2) Hx H2) ∧ (g = 38 → u = .int .u32 (S : Int) ∧ H2 = Hx))
    refine WP.drawnK tyOk extOk (by kernel_rfl) (ls := [⟨[0], .look (lkMove (.tmp 0)), (some 38), none, 0, 2, true, false⟩, ⟨[5], .look (lkMove (.tmp 5)), (some 39), none, 0, 2, true, false⟩, ⟨[38, 39], .look (⟨slSl 1 (.tmp 38) none (some (.tmp 39)) none⟩), (some 40), none, 0, 2, false, false⟩, ⟨[40], .fresh ⟨frSlice 1 (zerosA (.cons .snil .nil) 1) ⟨fill1 (.tmp 40) 0 1 flEnd⟩ ⟨mkCs 23 1 (.cons .snil .nil)⟩⟩, (some 41), none, 0, 2, false, false⟩, ⟨[6], .heavy ⟨hvCallF E 42 (opnds [(.tmp 6), (.const (.int .i64 4))])⟩, (some 36), none, 0, 2, false, true⟩, ⟨[36], .look (⟨cvInt .u32 (.tmp 36)⟩), (some 37), none, 1, 2, false, false⟩, ⟨[41], .heavy ⟨hvCallF E 38 (opnds [(.tmp 41)])⟩, (some 42), none, 1, 2, false, true⟩, ⟨[37, 42], .look (⟨binInt akNeq (.tmp 37) (.tmp 42)⟩), (some 43), none, 2, 1, false, false⟩]) (by kernel_rfl) hR fun K hK => ?_
    iterate 2 (refine diLookP (by simp [-resL_cons, resL_cc]; exact rfl) (by simp (disch := omega) []; exact rfl) ?_)
    refine diLookC (by simp [-resL_cons, resL_cc]; exact rfl) (by simp (disch := omega) [d1]; exact rfl) ?_
    obtain ⟨oS, fS, bS⟩ := frSlice_el (enc := enc1) (e := 23) (z := z1) enc1_len (x := .tmp 40) (T := tl [(40, va)]) (b0 := H5.next) (a := va) (z0 := z1) (by simp) (cellsA_cell hva) rfl rfl
    refine diFresh (by first | (simp [-resL_cons, resL_cc]; done) | (simp [-resL_cons, resL_cc]; exact rfl)) (o := oS) (v := .sl H5.next 0 1 (some 1)) fS ?_
    have k6 : Keep noB H5 (H5.new oS) := Keep.new _ _ _
    have kk6 := kk5.trans k6
    have gS : (H5.new oS).get H5.next = some oS := get_new_same _ _
    have rS := bS.cell (k := 0) (j := 0) (v := va) rfl rfl
    have hB6 := hB5.keep k6 (by omega) id
    have n6 : (H5.new oS).next = N + 4 := by simp [n5]
    obtain ⟨u1, Hx, q1, ⟨hu1, _⟩⟩ := hRc 42 _ _ ((get_ok (w := 4) (H := H5.new oS) hB6 (by omega) (by omega) c2 kk6 (by omega) (by omega) (by rw [sub_len (by omega)]; omega) (by rw [sub_len (by omega)]; omega)).mono fun u H2 hh => ⟨fun _ => ⟨by rw [hh.1, sub_sub0 (Nat.le_refl _), ← hR4, hi64], hh.2.2.1, hh.2.2.2⟩, fun e => absurd e (by decide)⟩)
    obtain ⟨hu1, nx1, kx1⟩ := hu1 rfl
    subst hu1
    refine diCallF (by simp [-resL_cons, resL_cc]; exact rfl) (by simp) (extFree _ _ _ rfl rfl rfl) q1 (by omega) ?_
    refine diLookC (by simp [-resL_cons, resL_cc]; exact rfl) (by simp (disch := omega) [cvu]; exact rfl) ?_
    have kkx : Keep noB H Hx := kk6.trans' kx1 fun b hb e => absurd e (by omega)
    have gSx := kx1.get (by omega) (by omega) gS
    obtain ⟨u2, Hy, q2, ⟨_, hu2⟩⟩ := hRc 38 _ _ ((inkSum_ok (cap := some 1) gSx rS (d2.at kkx) (by simp; omega)).mono fun u H2 hh => ⟨fun e => absurd e (by decide), fun _ => ⟨by rw [hh.1, ← hS], hh.2⟩⟩)
    obtain ⟨hu2, hHy⟩ := hu2 rfl
    subst hu2 hHy
    refine diCallF (by simp [-resL_cons, resL_cc]; exact rfl) (by simp) (extFree _ _ _ rfl rfl rfl) q2 (Nat.le_refl _) ?_
    refine diLookC (by simp [-resL_cons, resL_cc]; exact rfl) (by simp (disch := omega) []; exact rfl) ?_
    simp only [diRun_nil, List.reverse_cons, List.reverse_nil, List.nil_append, List.cons_append, chkAdd_f, chkBlk_f, atAll_s, atAll_z, and_true, true_and]
    have e1 := old_upSame h kk5 kkx d1
    have e2 := old_upSame h kk5 kk6 d1
    refine ⟨by simp (disch := omega) [e1, e2, gS, gSx, cvu]; obtain ⟨t, rfl⟩ := bS.opn; trivial, hK _ _ (WP.keep (l := [(0, v), (2, .ptr N 0), (3, .int .i64 0), (4, .ptr (N + 1) 0), (5, .int .i64 (m : Int)), (43, .bool (!decide (R4 = S)))]) ?_ (by simp; omega))⟩
    clear hK hRc hR q1 q2
    have hQy := (hQ5.keep k6 (by omega) id).keep kx1 (by omega) (by omega)
    have hZy := (hZ5.keep k6 (by omega) id).keep kx1 (by omega) (by omega)
    have ny : N + 4 ≤ Hy.next := by omega
    clear e1 e2 gS gSx rS bS fS k6 kk6 hB6 n6 hB5 hQ5 hZ5 kk5 n5 nx1 kx1 d1 d2 c1 c2 c3 hQ3 hZ3 n3
    by_cases hsum : R4 = S
    rotate_left
    · have hno : ¬ saysD l := fun hs => hsum (by
        have := ((encD_iff hs.1).1 hs.2.2).2.2
        rw [← hm] at this
        rw [hR4, hS, this])
      refine WP.cond (t := true) (by simp [hsum]) (fun _ => WP.seqR ?_) (by simp)
      obtain ⟨oZ, gZ, _, _, _, _, _, _, zc⟩ := hZy.dv
      refine WPO.looks1 tyOk extOk 1 (ls := [⟨⟨ldA ⟨ldN 6⟩ (.tmp 4)⟩, (some 44), none⟩]) (by kernel_rfl) (by simp (disch := omega) [gZ, zc]; exact rfl) ?_
      obtain ⟨H4, oz, z1, gz, zc2, z4⟩ := bad Hy hQy
      refine WPO.heavy1 tyOk extOk (k := ⟨hvStore ⟨stN 6⟩ (.tmp 2) (.tmp 44)⟩) (by kernel_rfl) rfl (by kernel_rfl) (by simp; exact stN_ob z1) ?_
      refine WPO.looks1 tyOk extOk 1 (ls := [⟨lkMove (.const (.int .i64 230)), (some 3), none⟩]) (by kernel_rfl) (by simp (disch := omega) []; exact rfl) ?_
      exact WPO.nilS (WP.ret (endR _ (by simp [gz, zc2]; rfl) ⟨fun hs => absurd hs hno, fun _ => rfl, kkx.trans' z4 fun b hb e => absurd e (by omega)⟩))
    · have hsay : saysD l ↔ shapeD l ∧ okD (fldsD l) := by
        constructor
        · exact fun hs => ⟨hs.1, hs.2.1⟩
        · rintro ⟨g1, g2⟩
          refine ⟨g1, g2, (encD_iff g1).2 ⟨hA4.symm.trans hx'.1, hA5.symm.trans hx'.2, ?_⟩⟩
          rw [← hm, ← hR4, ← hS, hsum]
      refine WP.cond (t := false) (by simp [hsum]) (by simp) fun _ => WP.skip (.inl rfl) (WP.keep (l := [(0, v), (2, .ptr N 0), (3, .int .i64 0), (4, .ptr (N + 1) 0), (5, .int .i64 (m : Int))]) (WP.seqR ?_) (by simp))
      have hfe : (fldsD l).engine = ((l[4]?.getD 0).toNat : Int) := rfl
      have hff : i64 (readL (sub l 12 8)) = (fldsD l).frm := rfl
      have hft : i64 (readL (sub l 20 8)) = (fldsD l).to := rfl
      have hdp : (fldsD l).page = (pageN l : Int) := rfl
      have hdm : (fldsD l).meta_ = sub l 32 (pageN l) := rfl
      have hdg : (fldsD l).pages = pagesOf l (manyN l) := rfl
      generalize fldsD l = d at hfe hff hft hdp hdm hdg hsay ⊢
      have hx4 : l[4]? = some (l[4]'(by omega)) := List.getElem?_eq_getElem _
      generalize l[4]'_ = x4 at hx4
      rw [hx4, Option.getD_some] at hfe
      have hx4l := x4.toNat_lt
      have gc : mkInt .i64 (x4.toNat : Int) = some (.int .i64 d.engine) := by rw [hfe]; exact mkInt_i64 (by omega) (by omega)
      obtain ⟨b, off, cap, o, hv, hb', ho, hby⟩ := (h.at kkx).pos (by omega)
      have hrd4 := hby _ _ hx4
      have f4 : 4 < l.length := by omega
      have hvv := hv
      rw [hv]
      refine WPO.looks1 tyOk extOk 5 (ls := [⟨lkMove (.tmp 0), (some 45), none⟩, ⟨⟨ixSl 1 (.tmp 45) (.const (.int .i64 4))⟩, (some 46), none⟩, ⟨⟨ldA ⟨ld1⟩ (.tmp 46)⟩, (some 47), none⟩, ⟨⟨cvInt .i64 (.tmp 47)⟩, (some 48), none⟩, ⟨⟨buildA (.cons (.int .i64 0) (.cons (.int .i64 0) (.cons (.int .i64 0) (.cons (.int .i64 0) (.cons .snil (.cons .snil .nil)))))) ⟨fill1 (.tmp 48) 0 1 flEnd⟩⟩, (some 49), none⟩]) (by kernel_rfl) (by simp (disch := omega) [ho, hrd4, gc]; exact rfl) ?_
      rw [← hvv]
      refine WPO.fresh1 tyOk (k := ⟨frAlloc (.cs 25 6 6 false (.cons (.int .i64 0) (.cons (.int .i64 0) (.cons (.int .i64 0) (.cons (.int .i64 0) (.cons .snil (.cons .snil .nil)))))) .e)⟩) (by kernel_rfl) rfl (by kernel_rfl) (v := .ptr Hy.next 0) (x := .cs 25 6 6 false zDv .e) ?_ ?_
      · exact rfl
      have hD0 := newDv Hy
      have k7 : Keep noB Hy (Hy.new (.cs 25 6 6 false zDv .e)) := Keep.new _ _ _
      have n7 : (Hy.new (.cs 25 6 6 false zDv .e)).next = Hy.next + 1 := by simp
      have hQ7 := hQy.keep k7 (by omega) id
      have hZ7 := hZy.keep k7 (by omega) id
      have kk7 := kkx.trans k7
      generalize Hy.new (.cs 25 6 6 false zDv .e) = H7 at hD0 k7 n7 hQ7 hZ7 kk7 ⊢
      obtain ⟨P7, hP7⟩ : ∃ P7, P7 = Hy.next := ⟨_, rfl⟩
      rw [← hP7] at hD0 n7 ny ⊢
      obtain ⟨H8, s1, s2, hD8, s4⟩ := hD0.store encDv_len ⟨d.engine, 0, 0, 0, .snil, .snil, rfl, rfl⟩ (cells_dv _)
      refine WPO.heavy1 tyOk extOk (k := ⟨hvStore ⟨stN 6⟩ (.tmp 7) (.tmp 49)⟩) (by kernel_rfl) rfl (by kernel_rfl) (by simp; exact stN_ob s1) ?_
      have kk8 : Keep noB H H8 := kk7.trans' s4 fun b hb e => absurd e (by omega)
      have hQ8 := hQ7.keep s4 (by omega) (by omega)
      have hZ8 := hZ7.keep s4 (by omega) (by omega)
      have n8' : H8.next = P7 + 1 := by omega
      clear s1 s2 s4 hD0 hQ7 hZ7 k7 n7
      refine WPO.nilS (WP.seqR ?_)
      obtain ⟨vl, c1, c2, c3⟩ := h.sl (lo := 8) (some m) (n := m) rfl kk8 hne (by omega) (by omega)
      refine WPO.looks1 tyOk extOk 3 (ls := [⟨lkMove (.tmp 0), (some 50), none⟩, ⟨lkMove (.tmp 5), (some 51), none⟩, ⟨⟨slSl 1 (.tmp 50) (some (.const (.int .i64 8))) (some (.tmp 51)) none⟩, (some 52), none⟩]) (by kernel_rfl) (by simp (disch := omega) [n8, c1]; exact rfl) ?_
      refine WPO.fresh1 tyOk (k := ⟨frAlloc (.cs 23 1 1 false (.cons .snil .nil) .e)⟩) (by kernel_rfl) rfl (by kernel_rfl) (v := .ptr H8.next 0) (x := .cs 23 1 1 false z1 .e) ?_ ?_
      · exact rfl
      have hB0 := newSlBox H8
      have k9 : Keep noB H8 (H8.new (.cs 23 1 1 false z1 .e)) := Keep.new _ _ _
      have n9 : (H8.new (.cs 23 1 1 false z1 .e)).next = P7 + 2 := by simp [n8']
      rw [n8'] at hB0 ⊢
      have hQ9 := hQ8.keep k9 (by omega) id
      have hZ9 := hZ8.keep k9 (by omega) id
      have hD9 := hD8.keep k9 (by omega) id
      have kk9 := kk8.trans k9
      generalize H8.new (.cs 23 1 1 false z1 .e) = H9 at hB0 k9 n9 hQ9 hZ9 hD9 kk9 ⊢
      obtain ⟨Ha, s1, s2, hBa, s4⟩ := hB0.store1 enc1_len vl (f := 0) (v := vl) (by omega) rfl c2.rd.cell
      refine WPO.heavy1 tyOk extOk (k := ⟨hvStore ⟨st1'⟩ (.tmp 8) (.tmp 52)⟩) (by kernel_rfl) rfl (by kernel_rfl) (by simp; exact st1_ob s1) ?_
      have kka : Keep noB H Ha := kk9.trans' s4 fun b hb e => absurd e (by omega)
      have hQa := hQ9.keep s4 (by omega) (by omega)
      have hZa := hZ9.keep s4 (by omega) (by omega)
      have hDa := hD9.keep s4 (by omega) (by omega)
      have na : Ha.next = P7 + 2 := by omega
      clear s1 s2 s4 hB0 hQ8 hZ8 hD8 hQ9 hZ9 hD9 k9 n9 c1
      have hP4 : pageN l < 4294967296 := readL_lt4 (l := l) (a := 8) (by omega)
      have hM4 : manyN l < 4294967296 := readL_lt4 (l := l) (a := 28) (by omega)
      have hPi : i64 (readL (sub l 8 4)) = (pageN l : Int) := i64_small (by unfold pageN at hP4; omega)
      have hMi : i64 (readL (sub l 28 4)) = (manyN l : Int) := i64_small (by unfold manyN at hM4; omega)
      refine WPO.nilS (WP.seqR ?_)
      refine WPO.callF (g := 42) rfl rfl rfl (by kernel_rfl) (l := .cons (.ptr (P7 + 1) 0) (.cons (.int .i64 4) .nil)) (by simp) (get_ok (w := 4) hBa (by omega) (by omega) c2 kka (by omega) (by omega) (by rw [sub_len (by omega)]; omega) (by rw [sub_len (by omega)]; omega)).ac fun u Hb ⟨hu, ⟨w1, hBb, ow1, _⟩, nb, kb⟩ => ?_
      rw [sub_sub0 (by omega), hPi] at hu
      rw [sub_dropS] at ow1
      subst hu
      have kkb : Keep noB H Hb := kka.trans' kb fun b hb e => absurd e (by omega)
      have hQb := hQa.keep kb (by omega) (by omega)
      have hZb := hZa.keep kb (by omega) (by omega)
      have hDb := hDa.keep kb (by omega) (by omega)
      refine WPO.callF (g := 42) rfl rfl rfl (by kernel_rfl) (l := .cons (.ptr (P7 + 1) 0) (.cons (.int .i64 8) .nil)) (by simp) (get_ok (w := 8) hBb (by omega) (by omega) ow1 kkb (by omega) (by omega) (by rw [sub_len (by omega)]; omega) (by rw [sub_len (by omega)]; omega)).ac fun u Hc ⟨hu, ⟨w2, hBc, ow2, _⟩, nc, kc⟩ => ?_
      rw [sub_sub0 (by omega), show 8 + 4 = 12 by omega, hff] at hu
      rw [sub_dropS] at ow2
      subst hu
      have kkc : Keep noB H Hc := kkb.trans' kc fun b hb e => absurd e (by omega)
      have hQc := hQb.keep kc (by omega) (by omega)
      have hZc := hZb.keep kc (by omega) (by omega)
      have hDc := hDb.keep kc (by omega) (by omega)
      refine WPO.callF (g := 42) rfl rfl rfl (by kernel_rfl) (l := .cons (.ptr (P7 + 1) 0) (.cons (.int .i64 8) .nil)) (by simp) (get_ok (w := 8) hBc (by omega) (by omega) ow2 kkc (by omega) (by omega) (by rw [sub_len (by omega)]; omega) (by rw [sub_len (by omega)]; omega)).ac fun u Hd ⟨hu, ⟨w3, hBd, ow3, _⟩, nd, kd⟩ => ?_
      rw [sub_sub0 (by omega), show 8 + 4 + 8 = 20 by omega, hft] at hu
      rw [sub_dropS] at ow3
      subst hu
      have kkd : Keep noB H Hd := kkc.trans' kd fun b hb e => absurd e (by omega)
      have hQd := hQc.keep kd (by omega) (by omega)
      have hZd := hZc.keep kd (by omega) (by omega)
      have hDd := hDc.keep kd (by omega) (by omega)
      clear hQa hQb hQc hZa hZb hZc hDa hDb hDc hBa hBb hBc ow1 ow2 c2 kb kc kd kka kkb kkc
      refine WPO.looks1 tyOk extOk 1 (ls := [⟨⟨fAddr (.tmp 7) 1⟩, (some 56), none⟩]) (by kernel_rfl) (by simp (disch := omega) []; exact rfl) ?_
      obtain ⟨He, s1, s2, hDe, s4⟩ := hDd.store1 encDv_len ⟨d.engine, (pageN l : Int), 0, 0, .snil, .snil, rfl, rfl⟩ (f := 1) (v := .int .i64 (pageN l : Int)) (by omega) rfl rfl
      refine WPO.heavy1 tyOk extOk (k := ⟨hvStore ⟨st1'⟩ (.tmp 56) (.tmp 53)⟩) (by kernel_rfl) rfl (by kernel_rfl) (by simp; exact st1_ob s1) ?_
      refine WPO.looks1 tyOk extOk 1 (ls := [⟨⟨fAddr (.tmp 7) 2⟩, (some 57), none⟩]) (by kernel_rfl) (by simp (disch := omega) []; exact rfl) ?_
      obtain ⟨Hf, t1, t2, hDf, t4⟩ := hDe.store1 encDv_len ⟨d.engine, (pageN l : Int), d.frm, 0, .snil, .snil, rfl, rfl⟩ (f := 2) (v := .int .i64 d.frm) (by omega) rfl rfl
      refine WPO.heavy1 tyOk extOk (k := ⟨hvStore ⟨st1'⟩ (.tmp 57) (.tmp 54)⟩) (by kernel_rfl) rfl (by kernel_rfl) (by simp; exact st1_ob t1) ?_
      refine WPO.looks1 tyOk extOk 1 (ls := [⟨⟨fAddr (.tmp 7) 3⟩, (some 58), none⟩]) (by kernel_rfl) (by simp (disch := omega) []; exact rfl) ?_
      obtain ⟨Hg, p1, p2, hDg, p4⟩ := hDf.store1 encDv_len ⟨d.engine, (pageN l : Int), d.frm, d.to, .snil, .snil, rfl, rfl⟩ (f := 3) (v := .int .i64 d.to) (by omega) rfl rfl
      refine WPO.heavy1 tyOk extOk (k := ⟨hvStore ⟨st1'⟩ (.tmp 58) (.tmp 55)⟩) (by kernel_rfl) rfl (by kernel_rfl) (by simp; exact st1_ob p1) ?_
      have kdg : Keep (fun b => b = P7) Hd Hg := (s4.trans t4).trans p4
      have ng : Hg.next = P7 + 2 := by omega
      have kkg : Keep noB H Hg := kkd.trans' kdg fun b hb e => absurd e (by omega)
      have hQg := hQd.keep kdg (by omega) (by omega)
      have hZg := hZd.keep kdg (by omega) (by omega)
      have hBg := hBd.keep kdg (by omega) (by omega)
      clear s1 s2 s4 t1 t2 t4 p1 p2 p4 hDe hDf hDd hQd hZd hBd kdg
      refine WPO.nilS (WP.seqR ?_)
      refine WPO.callF (g := 42) rfl rfl rfl (by kernel_rfl) (l := .cons (.ptr (P7 + 1) 0) (.cons (.int .i64 4) .nil)) (by simp) (get_ok (w := 4) hBg (by omega) (by omega) ow3 kkg (by omega) (by omega) (by rw [sub_len (by omega)]; omega) (by rw [sub_len (by omega)]; omega)).ac fun u Hh ⟨hu, ⟨w4, hBh, ow4, _⟩, nh, kh⟩ => ?_
      rw [sub_sub0 (by omega), show 8 + 4 + 8 + 8 = 28 by omega, hMi] at hu
      rw [sub_dropS, show 8 + 4 + 8 + 8 + 4 = 32 by omega, show m - 8 - 4 - 8 - 8 - 4 = m - 32 by omega] at ow4
      subst hu
      have kkh : Keep noB H Hh := kkg.trans' kh fun b hb e => absurd e (by omega)
      have hQh := hQg.keep kh (by omega) (by omega)
      have hZh := hZg.keep kh (by omega) (by omega)
      have hDh := hDg.keep kh (by omega) (by omega)
      have nh' : Hh.next = P7 + 2 := by omega
      clear hQg hZg hDg hBg kh kkg ow3
      refine WPO.looks1 tyOk extOk 1 (ls := [⟨lkMove (.tmp 59), (some 9), none⟩]) (by kernel_rfl) (by simp (disch := omega) []; exact rfl) ?_
      obtain ⟨oD, gD, e0, e1, e2, e3, e4, e5, ec⟩ := hDh.dv
      dsimp only at e0 e1 e2 e3 e4 e5
      refine WPO.nilS (WP.seq (WP.seqR ?_))
      refine WPO.looks1 tyOk extOk 2 (ls := [⟨⟨fAddr (.tmp 7) 1⟩, (some 60), none⟩, ⟨⟨ldA ⟨ld1⟩ (.tmp 60)⟩, (some 61), none⟩]) (by kernel_rfl) (by simp (disch := omega) [gD, e1]; exact rfl) ?_
      refine WPO.callF (g := 43) rfl rfl rfl (by kernel_rfl) (l := .cons (.int .i64 (pageN l : Int)) .nil) (by simp) isPageShip_ok.ac fun u Hz ⟨hu, hHz⟩ => ?_
      subst hu
      subst hHz
      simp only [putA_some]
      refine WPO.keep (l := [(0, v), (2, .ptr N 0), (3, .int .i64 0), (4, .ptr (N + 1) 0), (7, .ptr P7 0), (8, .ptr (P7 + 1) 0), (9, .int .i64 (manyN l : Int)), (62, .bool (isPgI (pageN l : Int)))]) ?_ (by simp)
      obtain ⟨tot, htot⟩ : ∃ tot, tot = manyN l * (4 + pageN l) := ⟨_, rfl⟩
      obtain ⟨oB, gB, rB⟩ := SlBox.rd hBh
      have lw4 := (ow4.at kkh).len
      rw [sub_len (by omega)] at lw4
      obtain ⟨x, l', hx, hrun, hsub⟩ : ∃ (x : Bool) (l' : List (Nat × AV)), (x = true ↔ ¬ shapeD l) ∧ runLk [⟨lkUn ukNot (.tmp 62), (some 63), none⟩, ⟨lkMove (.tmp 63), (some 64), none⟩, ⟨⟨ldA ⟨ld1⟩ (.tmp 8)⟩, (some 65), (some (64, false))⟩, ⟨⟨lenSl (.tmp 65)⟩, (some 66), (some (64, false))⟩, ⟨⟨fAddr (.tmp 7) 1⟩, (some 67), (some (64, false))⟩, ⟨⟨ldA ⟨ld1⟩ (.tmp 67)⟩, (some 68), (some (64, false))⟩, ⟨lkMove (.tmp 9), (some 69), (some (64, false))⟩, ⟨⟨fAddr (.tmp 7) 1⟩, (some 70), (some (64, false))⟩, ⟨⟨ldA ⟨ld1⟩ (.tmp 70)⟩, (some 71), (some (64, false))⟩, ⟨⟨binInt akAdd (.const (.int .i64 4)) (.tmp 71)⟩, (some 72), (some (64, false))⟩, ⟨⟨binInt akMul (.tmp 69) (.tmp 72)⟩, (some 73), (some (64, false))⟩, ⟨⟨binInt akAdd (.tmp 68) (.tmp 73)⟩, (some 74), (some (64, false))⟩, ⟨⟨binInt akNeq (.tmp 66) (.tmp 74)⟩, (some 75), (some (64, false))⟩, ⟨⟨pickA (.tmp 64) (.const (.bool true)) (.tmp 75)⟩, (some 76), none⟩] (tl [(0, v), (2, .ptr N 0), (3, .int .i64 0), (4, .ptr (N + 1) 0), (7, .ptr P7 0), (8, .ptr (P7 + 1) 0), (9, .int .i64 (manyN l : Int)), (62, .bool (isPgI (pageN l : Int)))]) Hz = some (tl l') ∧ lsub [(0, v), (2, .ptr N 0), (3, .int .i64 0), (4, .ptr (N + 1) 0), (7, .ptr P7 0), (8, .ptr (P7 + 1) 0), (76, .bool x)] l' := by
        by_cases c1 : isPgI (pageN l : Int) = true
        · have hpc := pgI_cases c1
          have hqb : tot ≤ 4294967296 * 65540 := by rw [htot]; exact Nat.mul_le_mul (by omega) (by omega)
          obtain ⟨r, hr⟩ : ∃ r : Nat, r = 4 + pageN l := ⟨_, rfl⟩
          have hr' : 4 + (pageN l : Int) = (r : Int) := by omega
          have gm : akMul.f .i64 (manyN l : Int) (r : Int) = some (.int .i64 (tot : Int)) := by
            have e : (manyN l : Int) * (r : Int) = (tot : Int) := by rw [htot, hr, Int.natCast_mul]
            rw [akMul_i64 (by rw [e]; omega) (by rw [e]; omega), e]
          by_cases c2 : ((m - 32 : Nat) : Int) = (pageN l : Int) + (tot : Int)
          · exact ⟨false, _, ⟨fun h => (by cases h), fun h => absurd ⟨by omega, c1, by omega⟩ h⟩, by simp (disch := omega) [gD, e1, gB, rB, lw4, c1, hr', gm, c2]; exact rfl, by simp⟩
          · exact ⟨true, _, ⟨fun _ h => c2 (by have := h.2.2; omega), fun _ => rfl⟩, by simp (disch := omega) [gD, e1, gB, rB, lw4, c1, hr', gm, c2]; exact rfl, by simp⟩
        · have c1' : isPgI (pageN l : Int) = false := by simpa using c1
          exact ⟨true, _, ⟨fun _ h => c1 h.2.1, fun _ => rfl⟩, by simp (disch := omega) [gB, rB, c1']; exact rfl, by simp⟩
      refine WPO.looks1 tyOk extOk 14 (ls := [⟨lkUn ukNot (.tmp 62), (some 63), none⟩, ⟨lkMove (.tmp 63), (some 64), none⟩, ⟨⟨ldA ⟨ld1⟩ (.tmp 8)⟩, (some 65), (some (64, false))⟩, ⟨⟨lenSl (.tmp 65)⟩, (some 66), (some (64, false))⟩, ⟨⟨fAddr (.tmp 7) 1⟩, (some 67), (some (64, false))⟩, ⟨⟨ldA ⟨ld1⟩ (.tmp 67)⟩, (some 68), (some (64, false))⟩, ⟨lkMove (.tmp 9), (some 69), (some (64, false))⟩, ⟨⟨fAddr (.tmp 7) 1⟩, (some 70), (some (64, false))⟩, ⟨⟨ldA ⟨ld1⟩ (.tmp 70)⟩, (some 71), (some (64, false))⟩, ⟨⟨binInt akAdd (.const (.int .i64 4)) (.tmp 71)⟩, (some 72), (some (64, false))⟩, ⟨⟨binInt akMul (.tmp 69) (.tmp 72)⟩, (some 73), (some (64, false))⟩, ⟨⟨binInt akAdd (.tmp 68) (.tmp 73)⟩, (some 74), (some (64, false))⟩, ⟨⟨binInt akNeq (.tmp 66) (.tmp 74)⟩, (some 75), (some (64, false))⟩, ⟨⟨pickA (.tmp 64) (.const (.bool true)) (.tmp 75)⟩, (some 76), none⟩]) (by kernel_rfl) hrun ?_
      clear hrun
      cases x with
      | true =>
        have hno : ¬ saysD l := fun hs => hx.1 rfl (hsay.1 hs).1
        refine WPO.nilS (WP.keep (WP.cond (t := true) (by simp) (fun _ => WP.seqR ?_) (by simp)) hsub)
        obtain ⟨oZ, gZ, _, _, _, _, _, _, zc⟩ := hZh.dv
        refine WPO.looks1 tyOk extOk 1 (ls := [⟨⟨ldA ⟨ldN 6⟩ (.tmp 4)⟩, (some 77), none⟩]) (by kernel_rfl) (by simp (disch := omega) [gZ, zc]; exact rfl) ?_
        obtain ⟨H4, oz, z1, gz, zc2, z4⟩ := bad Hz hQh
        refine WPO.heavy1 tyOk extOk (k := ⟨hvStore ⟨stN 6⟩ (.tmp 2) (.tmp 77)⟩) (by kernel_rfl) rfl (by kernel_rfl) (by simp; exact stN_ob z1) ?_
        refine WPO.looks1 tyOk extOk 1 (ls := [⟨lkMove (.const (.int .i64 230)), (some 3), none⟩]) (by kernel_rfl) (by simp (disch := omega) []; exact rfl) ?_
        exact WPO.nilS (WP.ret (endR _ (by simp [gz, zc2]; rfl) ⟨fun hs => absurd hs hno, fun _ => rfl, kkh.trans' z4 fun b hb e => absurd e (by omega)⟩))
      | false =>
      have hsh : shapeD l := Classical.not_not.1 fun h => by have := hx.2 h; cases this
      have hpc := pgI_cases hsh.2.1
      have hsl := hsh.2.2
      rw [← htot] at hsl
      refine WPO.nilS (WP.keep (WP.cond (t := false) (by simp) (by simp) fun _ => WP.skip (.inl rfl) (WP.keep (l := [(0, v), (2, .ptr N 0), (3, .int .i64 0), (4, .ptr (N + 1) 0), (7, .ptr P7 0), (8, .ptr (P7 + 1) 0)]) (WP.seq ?_) (by simp))) hsub)
      clear hsub hx
      obtain ⟨Pn, hPn⟩ : ∃ Pn, Pn = pageN l := ⟨_, rfl⟩
      have hr4 : sub l 32 (m - 32) ≠ [] := by
        intro e
        have := congrArg List.length e
        rw [sub_len (by omega)] at this
        simp at this
        omega
      obtain ⟨vm, f1, f2, _⟩ := ow4.upto (n := Pn) kkh hr4 (by rw [sub_len (by omega)]; omega)
      rw [sub_takeS (by omega)] at f2
      obtain ⟨vz, g1, g2, _⟩ := ow4.sl (lo := Pn) none (n := m - 32) (by rw [oc_none, sub_len (by omega)]) kkh hr4 (by omega) (by rw [sub_len (by omega)]; omega)
      rw [sub_subS (by omega)] at g2
      rw [← hPn] at e1
      obtain ⟨R, hR, hRc⟩ := specR_ex Tryz.prog (fun _ _ Hx u H2 => OwnZ H2 Hx.next u (sub l 32 Pn) ∧ Keep noB Hx H2)
      refine WP.drawnK tyOk extOk (by kernel_rfl) (ls := [⟨[8], .look (⟨ldA ⟨ld1⟩ (.tmp 8)⟩), (some 78), none, 0, 1, false, false⟩, ⟨[7], .look (⟨fAddr (.tmp 7) 1⟩), (some 79), none, 0, 1, true, false⟩, ⟨[79], .look (⟨ldA ⟨ld1⟩ (.tmp 79)⟩), (some 80), none, 0, 1, false, false⟩, ⟨[78, 80], .look (⟨slSl 1 (.tmp 78) none (some (.tmp 80)) none⟩), (some 81), none, 0, 1, false, false⟩, ⟨[8], .look (⟨ldA ⟨ld1⟩ (.tmp 8)⟩), (some 83), none, 0, 3, false, false⟩, ⟨[7], .look (⟨fAddr (.tmp 7) 1⟩), (some 84), none, 0, 2, true, false⟩, ⟨[84], .look (⟨ldA ⟨ld1⟩ (.tmp 84)⟩), (some 85), none, 0, 2, false, false⟩, ⟨[83, 85], .look (⟨slSl 1 (.tmp 83) (some (.tmp 85)) none none⟩), (some 86), none, 0, 3, false, false⟩, ⟨[81], .heavy ⟨hvCallF E 44 (opnds [(.tmp 81)])⟩, (some 82), none, 0, 2, false, true⟩, ⟨[7], .look (⟨fAddr (.tmp 7) 5⟩), (some 87), none, 1, 1, true, false⟩, ⟨[87, 82], .heavy ⟨hvStore ⟨st1'⟩ (.tmp 87) (.tmp 82)⟩, none, none, 1, 2, false, true⟩, ⟨[8, 86], .heavy ⟨hvStore ⟨st1'⟩ (.tmp 8) (.tmp 86)⟩, none, none, 2, 2, false, true⟩]) (by kernel_rfl) hR fun K hK => ?_
      refine diLookC (by simp [-resL_cons, resL_cc]; exact rfl) (by simp (disch := omega) [gB, rB]; exact rfl) ?_
      refine diLookP (by simp [-resL_cons, resL_cc]; exact rfl) (by simp (disch := omega) []; exact rfl) ?_
      iterate 3 (refine diLookC (by simp [-resL_cons, resL_cc]; exact rfl) (by simp (disch := omega) [gB, rB, gD, e1, f1]; exact rfl) ?_)
      refine diLookP (by simp [-resL_cons, resL_cc]; exact rfl) (by simp (disch := omega) []; exact rfl) ?_
      iterate 2 (refine diLookC (by simp [-resL_cons, resL_cc]; exact rfl) (by simp (disch := omega) [gD, e1, g1]; exact rfl) ?_)
      obtain ⟨mv, Hi, q1, om, ki⟩ := hRc 44 _ _ (clone_ok (f2.at kkh) (by rw [sub_len (by omega)]; omega))
      refine diCallF (by simp [-resL_cons, resL_cc]; exact rfl) (by simp) (extFree _ _ _ rfl rfl rfl) q1 ki.1 ?_
      refine diLookP (by simp [-resL_cons, resL_cc]; exact rfl) (by simp (disch := omega) []; exact rfl) ?_
      rw [← hPn] at hsl hpc
      have hs32 : sub l 32 Pn ≠ [] := by
        intro e
        have := congrArg List.length e
        rw [sub_len (by omega)] at this
        simp at this
        omega
      have omB : OwnB 5 Hi (P7 + 2) mv (sub l 32 Pn) := ownB_wide (ownZ_own om hs32) (by omega)
      have ni := ki.1
      have hmc := omB.cell
      have hDi := hDh.keep ki (by omega) id
      have hBi := hBh.keep ki (by omega) id
      have gDi := ki.get (by omega) id gD
      have gBi := ki.get (by omega) id gB
      have kki := kkh.trans ki
      obtain ⟨Hj, s1, s2, hDj, s4⟩ := hDi.store1 encDv_len ⟨d.engine, (pageN l : Int), d.frm, d.to, .snil, mv, rfl, hmc⟩ (f := 5) (v := mv) (by omega) rfl hmc
      refine diHeavy (by simp [-resL_cons, resL_cc]; exact rfl) (v := undefA) (H2 := Hj) (by simp; exact st1_ob s1) (by omega) ?_
      have hBj := hBi.keep s4 (by omega) (by omega)
      have gBj := s4.get (by omega) (by omega) gBi
      have kkj : Keep noB H Hj := kki.trans' s4 fun b hb e => absurd e (by omega)
      obtain ⟨Hk, t1, t2, hBk, t4⟩ := hBj.store1 enc1_len vz (f := 0) (v := vz) (by omega) rfl g2.rd.cell
      refine diHeavy (by simp [-resL_cons, resL_cc]; exact rfl) (v := undefA) (H2 := Hk) (by simp; exact st1_ob t1) (by omega) ?_
      simp only [diRun_nil, putA_none, List.reverse_cons, List.reverse_nil, List.nil_append, List.cons_append, chkAdd_f, atAll_s, atAll_z, and_true, true_and]
      have f1i := old_upSame ow4 kkh kki f1
      have g1i := old_slSame ow4 kkh kki g1
      have g1j := old_slSame ow4 kkh kkj g1
      refine ⟨by simp (disch := omega) [gB, gBi, gBj, rB, gD, gDi, e1, f1, g1, g1i, g1j], hK _ _ (WP.keep (l := [(0, v), (2, .ptr N 0), (3, .int .i64 0), (4, .ptr (N + 1) 0), (7, .ptr P7 0), (8, .ptr (P7 + 1) 0)]) (WP.seq (WP.seqR ?_)) (by simp))⟩
      clear hK hRc hR q1
      have nj : Hk.next = Hi.next := by omega
      have kik : Keep (fun b => b = P7 ∨ b = P7 + 1) Hi Hk := (s4.mono fun b _ e => .inl e).trans (t4.mono fun b _ e => .inr e)
      have kkk : Keep noB H Hk := kki.trans' kik fun b hb e => absurd e (by omega)
      have hDk := hDj.keep t4 (by omega) (by omega)
      have hQk := (hQh.keep ki (by omega) id).keep kik (by omega) (by omega)
      have hZk := (hZh.keep ki (by omega) id).keep kik (by omega) (by omega)
      have omk := omB.keep kik fun b e e2 => by have := (omB.low e).1; omega
      clear s1 s2 s4 t1 t2 t4 hDj hBj gBj gDi gBi f1i g1i g1j f1 g1 hDi hBi kik hDh hBh gD gB rB hQh hZh e0 e1 e2 e3 e4 e5 ec oD oB
      obtain ⟨oB, gB, rB⟩ := SlBox.rd hBk
      obtain ⟨oD, gD, e0, e1, e2, e3, e4, e5, ec⟩ := hDk.dv
      dsimp only at e1
      obtain ⟨W, hW⟩ : ∃ W, W = 4 + Pn := ⟨_, rfl⟩
      have hW' : 4 + (pageN l : Int) = (W : Int) := by omega
      refine WPO.looks1 tyOk extOk 4 (ls := [⟨⟨ldA ⟨ld1⟩ (.tmp 8)⟩, (some 88), none⟩, ⟨⟨fAddr (.tmp 7) 1⟩, (some 89), none⟩, ⟨⟨ldA ⟨ld1⟩ (.tmp 89)⟩, (some 90), none⟩, ⟨⟨binInt akAdd (.const (.int .i64 4)) (.tmp 90)⟩, (some 91), none⟩]) (by kernel_rfl) (by simp (disch := omega) [gB, rB, gD, e1, hW']; exact rfl) ?_
      refine WPO.callF (g := 45) rfl rfl rfl (by kernel_rfl) (l := .cons vz (.cons (.int .i64 (W : Int)) .nil)) (by simp) (chunk_ok (H := Hk) g2.rd.cell (w := W) (by omega)).ac fun u Hl ⟨hu, hC, hCn, nl, kl⟩ => ?_
      subst hu
      simp only [putA_some]
      have kkl := kkk.trans kl
      have hDl := hDk.keep kl (by omega) id
      have hQl := hQk.keep kl (by omega) id
      have hZl := hZk.keep kl (by omega) id
      have oml := omk.keep kl fun _ _ => id
      obtain ⟨B, hB⟩ : ∃ B, B = Hk.next := ⟨_, rfl⟩
      rw [← hB] at hC hCn nl ⊢
      obtain ⟨L, hL⟩ : ∃ L, L = Hl.next := ⟨_, rfl⟩
      refine WPO.nilS (WP.block (WP.keep (l := [(0, v), (2, .ptr N 0), (3, .int .i64 0), (4, .ptr (N + 1) 0), (7, .ptr P7 0), (8, .ptr (P7 + 1) 0), (92, .fn (.func 96) .nil (.cons (.ptr B 0) (.cons (.ptr (B + 1) 0) .nil)))]) ?_ (by simp)))
      refine WP.rangeQ (g := 96) (first := .nil) (cap := .cons (.ptr B 0) (.cons (.ptr (B + 1) 0) .nil)) (Q1 := fun q _ H2 => Nonempty (DJ H l d q L N P7 B (B + 1) W mv vz (manyN l) H2) ∧ q.state = .ready ∧ q.pending = none) rfl (by simp) (fun q hq => ?_) ?_
      · rw [← hL]
        have kd : Keep noB Hl ((Hl.new (.dfr true)).new (.loop q)) := (Keep.new _ _ _).trans (Keep.new _ _ _)
        have hrl : (sub l (32 + Pn) (m - 32 - Pn)).length = manyN l * W := by rw [sub_len (by omega), hW, hPn, ← htot]; omega
        refine (chunkFn_ok (H0 := H) (lp := L + 1) (B := B) (C := B + 1) (w := W) (k := manyN l) (v := vz) (l := sub l (32 + Pn) (m - 32 - Pn)) g2 (by omega) hrl (by rw [sub_len (by omega)]; omega) (fun i Hx => Nonempty (DJ H l d q L N P7 B (B + 1) W mv vz i Hx))
          ⟨⟨.snil, [], rfl, hmc, ?_, ?_, hC.keep kd (by omega) id, hCn.keep kd (by omega) id, hDl.keep kd (by omega) id, ⟨.inl ⟨rfl, rfl⟩, rfl, fun j a p ha => by simp at ha⟩, ?_, hQl.keep kd (by omega) id, hZl.keep kd (by omega) id, by simp; omega, kkl.trans kd, List.Pairwise.cons (by simp) .nil⟩⟩
          (fun i Hx ⟨hj⟩ => ⟨hj.cb, hj.cn, hj.keep⟩) ?_).mono fun _ H2 hj => ⟨hj, by rw [hq], by rw [hq]⟩
        · rw [AH.get_new, if_pos (by simp; omega)]
        · rw [AH.get_new, if_neg (by rw [AH.next_new]; omega), AH.get_new, if_pos hL]
        · rw [← hPn]; exact oml.keep kd fun _ _ => id
        · rintro i Hx u hi ⟨hj⟩ hu
          have hle := atN_le hsh hi
          have hsucc := atN_succ l i
          have hpa : pageAt l i = (((readL (sub l (atN l i) 4) : Nat) : Int), sub l (atN l i + 4) (pageN l)) := rfl
          have hA0 : atN l i = 32 + Pn + i * W := by unfold atN; rw [hW, hPn]
          rw [sub_subS (by omega), ← hA0] at hu
          rw [← hPn] at hpa hle hsucc
          obtain ⟨A, hA⟩ : ∃ A, A = atN l i := ⟨_, rfl⟩
          rw [← hA] at hle hsucc hpa hu
          have hrd : readL (sub l A 4) < 4294967296 := readL_lt4 (by omega)
          have hl0 := hj.lp
          rw [hq] at hl0
          refine AR.of_wp hl0 (setParams1 (by show 93 < 113; decide)) fun k' => ?_
          refine WP.region ?_
          refine WPO.fresh1 tyOk (k := ⟨frAlloc (.cs 23 1 1 false (.cons .snil .nil) .e)⟩) (by kernel_rfl) rfl (by kernel_rfl) (v := .ptr Hx.next 0) (x := .cs 23 1 1 false z1 .e) ?_ ?_
          · exact rfl
          have hX0 := newSlBox Hx
          have k0 : Keep noB Hx (Hx.new (.cs 23 1 1 false z1 .e)) := Keep.new _ _ _
          obtain ⟨Hy, s1, s2, hXy, s4⟩ := hX0.store1 enc1_len u (f := 0) (v := u) (by omega) rfl hu.rd.cell
          refine WPO.heavy1 tyOk extOk (k := ⟨hvStore ⟨st1'⟩ (.tmp 10) (.tmp 93)⟩) (by kernel_rfl) rfl (by kernel_rfl) (by simp; exact st1_ob s1) ?_
          have kxy : Keep noB Hx Hy := k0.trans' s4 fun b hb e => absurd e (by omega)
          have nxy : Hy.next = Hx.next + 1 := by rw [s2]; simp
          have hLx := hj.nx
          refine WPO.nil ⟨_, kxy.get (by omega) id hl0, rfl, ?_⟩
          refine WP.gen fun H1 hH1 => ?_
          have kset : Keep (fun b => b = L + 1) Hy H1 := by rw [hH1]; exact Keep.set _ fun _ => rfl
          obtain ⟨q2, hlp, hq2⟩ : ∃ q2 : ALoop, H1.get (L + 1) = some (.loop q2) ∧ ({ q2 with state := .ready, pending := none } : ALoop) = q := ⟨_, by rw [hH1]; exact get_set_same _ _ _, hq.symm⟩
          have n1 : H1.next = Hx.next + 1 := by rw [hH1]; simpa using nxy
          clear hH1 s1 s2 s4 hX0 k0
          have hHL := kkl.1
          have hmb : ∀ b, blk mv = some b → P7 + 2 ≤ b ∧ b < L := fun b e => by rw [hL]; exact oml.low e
          have hpb : ∀ b, blk hj.pv = some b → L + 2 ≤ b ∧ b < Hx.next := fun b e => hj.pg.lst.low e
          have kx : Keep (fun b => b = L + 1) Hx H1 := (kxy.mono fun _ _ e => e.elim).trans kset
          have k01 : Keep noB H H1 := hj.keep.trans' kx fun b hb e => absurd e (by omega)
          have hX1 := hXy.keep kset (by omega) (by omega)
          have hLu : (sub l A W).length = W := sub_len (by omega)
          refine WP.block (WP.seqR ?_)
          refine WPO.callF (g := 42) rfl rfl rfl (by kernel_rfl) (l := .cons (.ptr Hx.next 0) (.cons (.int .i64 4) .nil)) (by simp) (get_ok (w := 4) hX1 hj.keep.1 (by omega) hu k01 (by omega) (by omega) (by omega) (by omega)).ac fun u2 H2 ⟨hu2, ⟨w5, hX2, ow5, _⟩, n2, k2⟩ => ?_
          rw [sub_sub0 (by omega), i64_small (by omega)] at hu2
          rw [sub_dropS, show W - 4 = Pn by omega] at ow5
          subst hu2
          refine WPO.looks1 tyOk extOk 1 (ls := [⟨lkMove (.tmp 94), (some 11), none⟩]) (by kernel_rfl) (by simp (disch := omega) []; exact rfl) ?_
          refine WPO.nilS (WP.keep (l := [(7, .ptr P7 0), (10, .ptr Hx.next 0), (11, .int .i64 ((readL (sub l A 4) : Nat) : Int))]) ?_ (by simp))
          have kx2 : Keep (fun b => b = L + 1 ∨ b = Hx.next) Hx H2 := (kx.mono fun b _ e => .inl e).trans (k2.mono fun b _ e => .inr e)
          have k02 : Keep noB H H2 := hj.keep.trans' kx2 fun b hb e => by have := hj.keep.1; omega
          have hD2 := hj.db.keep kx2 (by omega) (by omega)
          obtain ⟨oD', gD', _, _, _, _, e4', _, _⟩ := hD2.dv
          dsimp only at e4'
          obtain ⟨oX, gX, rX⟩ := SlBox.rd hX2
          have hs5 : sub l (A + 4) Pn ≠ [] := by
            intro e
            have := congrArg List.length e
            rw [sub_len (by omega)] at this
            simp at this
            omega
          obtain ⟨R, hR, hRc⟩ := specR_ex Tryz.prog (fun _ _ Hx u H2 => OwnZ H2 Hx.next u (sub l (A + 4) Pn) ∧ Keep noB Hx H2)
          refine WP.drawnK tyOk extOk (by kernel_rfl) (ls := [⟨[7], .look (⟨fAddr (.tmp 7) 4⟩), (some 95), none, 0, 2, true, false⟩, ⟨[95], .look (⟨ldA ⟨ld1⟩ (.tmp 95)⟩), (some 96), none, 0, 2, false, false⟩, ⟨[11], .look (lkMove (.tmp 11)), (some 97), none, 0, 2, true, false⟩, ⟨[10], .look (⟨ldA ⟨ld1⟩ (.tmp 10)⟩), (some 98), none, 0, 1, false, false⟩, ⟨[98], .heavy ⟨hvCallF E 44 (opnds [(.tmp 98)])⟩, (some 99), none, 0, 2, false, true⟩, ⟨[97, 99], .look (⟨buildA (.cons (.int .i64 0) (.cons .snil .nil)) ⟨fill1 (.tmp 97) 0 1 ⟨fill1 (.tmp 99) 1 1 flEnd⟩⟩⟩), (some 100), none, 1, 1, true, false⟩, ⟨[100], .fresh ⟨frSlice 1 (zerosA (.cons (.int .i64 0) (.cons .snil .nil)) 1) ⟨fill1 (.tmp 100) 0 2 flEnd⟩ ⟨mkCs 67 2 (.cons (.int .i64 0) (.cons .snil .nil))⟩⟩, (some 101), none, 1, 1, false, false⟩, ⟨[96, 101], .heavy ⟨hvAppend ⟨grownCs 2 ⟨mkCs 67 2 (.cons (.int .i64 0) (.cons .snil .nil))⟩⟩ 2 (.tmp 96) (.tmp 101)⟩, (some 102), none, 1, 2, false, true⟩, ⟨[7], .look (⟨fAddr (.tmp 7) 4⟩), (some 103), none, 2, 1, true, false⟩, ⟨[103, 102], .heavy ⟨hvStore ⟨st1'⟩ (.tmp 103) (.tmp 102)⟩, none, none, 2, 2, false, true⟩]) (by kernel_rfl) hR fun K hK => ?_
          refine diLookP (by simp [-resL_cons, resL_cc]; exact rfl) (by simp (disch := omega) []; exact rfl) ?_
          refine diLookC (by simp [-resL_cons, resL_cc]; exact rfl) (by simp (disch := omega) [gD', e4']; exact rfl) ?_
          refine diLookP (by simp [-resL_cons, resL_cc]; exact rfl) (by simp (disch := omega) []; exact rfl) ?_
          refine diLookC (by simp [-resL_cons, resL_cc]; exact rfl) (by simp (disch := omega) [gX, rX]; exact rfl) ?_
          obtain ⟨dv, Hc, q1, od, kc⟩ := hRc 44 _ _ (clone_ok (ow5.at k02) (by rw [sub_len (by omega)]; omega))
          have odB := ownZ_own od hs5
          have hdc := odB.cell
          have ccd := cellsA_cell hdc
          refine diCallF (by simp [-resL_cons, resL_cc]; exact rfl) (by simp) (extFree _ _ _ rfl rfl rfl) q1 kc.1 ?_
          refine diLookP (by simp [-resL_cons, resL_cc]; exact rfl) (by simp (disch := omega) [ccd]; exact rfl) ?_
          obtain ⟨ox, fx, bx⟩ := frSlice_el (enc := encPv) (e := 67) (z := zPv) encPv_len (x := .tmp 100) (T := tl [(100, .agg (avl (encPv (⟨((readL (sub l A 4) : Nat) : Int), dv, hdc⟩ : Pv))))]) (b0 := Hc.next) (a := (⟨((readL (sub l A 4) : Nat) : Int), dv, hdc⟩ : Pv)) (z0 := zPv) (by simp; rfl) rfl rfl rfl
          refine diFresh (by first | (simp [-resL_cons, resL_cc]; done) | (simp [-resL_cons, resL_cc]; exact rfl)) (l2 := [(100, .agg (avl (encPv (⟨((readL (sub l A 4) : Nat) : Int), dv, hdc⟩ : Pv))))]) (o := ox) (v := .sl Hc.next 0 1 (some 1)) (by exact fx) ?_
          have kn : Keep noB Hc (Hc.new ox) := Keep.new _ _ _
          have gn : (Hc.new ox).get Hc.next = some ox := get_new_same _ _
          have nn : (Hc.new ox).next = Hc.next + 1 := by simp
          have kcn := kc.trans kn
          have kxn : Keep (fun b => b = L + 1 ∨ b = Hx.next) Hx (Hc.new ox) := kx2.trans (kcn.mono fun _ _ e => e.elim)
          have hpgn := hj.pg.keep kxn fun b _ _ => by omega
          have nc := kc.1
          obtain ⟨pv2, Ha, a1, a2, a3, a4⟩ := hpgn.app (p := pageAt l i) (by omega) (One.of (cap := some 1) gn bx) (by rw [hpa]) (by rw [hpa]; exact ownB_wide (odB.keep kn fun _ _ => id) (by omega)) (by rw [pagesOf_len]; omega)
          refine diHeavy (by simp [-resL_cons, resL_cc]; exact rfl) (v := pv2) (H2 := Ha) (by simp; exact a1) (by omega) ?_
          simp only [putA_some]
          refine diLookP (by simp [-resL_cons, resL_cc]; exact rfl) (by simp (disch := omega) []; exact rfl) ?_
          have hpc3 := a2.lst.cell
          have hDa := (hD2.keep kcn (by omega) id).keep a4 (by omega) fun e => by have := hpb _ e; omega
          obtain ⟨Hb, y1, y2, y3, y4⟩ := hDa.store1 encDv_len ⟨d.engine, (pageN l : Int), d.frm, d.to, pv2, mv, hpc3, hj.hmc⟩ (f := 4) (v := pv2) (by omega) rfl hpc3
          refine diHeavy (by simp [-resL_cons, resL_cc]; exact rfl) (v := undefA) (H2 := Hb) (by simp; exact st1_ob y1) (by omega) ?_
          have gDc := kc.get (by omega) id gD'
          have gXc := kc.get (by omega) id gX
          have gDn := kn.get (by omega) id gDc
          simp only [diRun_nil, putA_none, List.reverse_cons, List.reverse_nil, List.nil_append, List.cons_append, chkAdd_f, chkBlk_f, atAll_s, atAll_z, and_true, true_and]
          refine ⟨by simp (disch := omega) [gD', e4', gX, rX, gDn]; obtain ⟨t, rfl⟩ := bx.opn; trivial, hK _ _ ?_⟩
          clear hK hRc hR q1
          have kHb : Keep (fun b => b = L + 1 ∨ b = Hx.next ∨ blk hj.pv = some b ∨ b = P7) Hx Hb := ((kxn.mono fun b _ e => by omega).trans (a4.mono fun b _ e => .inr (.inr (.inl e)))).trans (y4.mono fun b _ e => .inr (.inr (.inr e)))
          have nHb := kHb.1
          have hHx := hj.keep.1
          have kab : Keep (fun b => blk hj.pv = some b ∨ b = P7) H2 Hb := ((kcn.mono fun _ _ e => e.elim).trans (a4.mono fun b _ e => .inl e)).trans (y4.mono fun b _ e => .inr e)
          have hlb := kab.get (by omega) (fun e => e.elim (fun e => by have := hpb _ e; omega) (fun e => by omega)) (k2.get (by omega) (by omega) hlp)
          refine ⟨rfl, q2, hlb, rfl, ?_⟩
          show Nonempty (DJ H l d q L N P7 B (B + 1) W mv vz (i + 1) (Hb.set (L + 1) (.loop { q2 with state := .ready, pending := none })))
          rw [hq2]
          obtain ⟨Hf, hHf⟩ : ∃ Hf, Hf = Hb.set (L + 1) (.loop q) := ⟨_, rfl⟩
          have kbf : Keep (fun b => b = L + 1) Hb Hf := by rw [hHf]; exact Keep.set _ fun _ => rfl
          have glf : Hf.get (L + 1) = some (.loop q) := by rw [hHf]; exact get_set_same _ _ _
          rw [← hHf]
          clear hHf
          have kf : Keep (fun b => b = L + 1 ∨ b = Hx.next ∨ blk hj.pv = some b ∨ b = P7) Hx Hf := kHb.trans (kbf.mono fun b _ e => .inl e)
          have no : ∀ b, b < L + 1 → b ≠ P7 → ¬ (b = L + 1 ∨ b = Hx.next ∨ blk hj.pv = some b ∨ b = P7) := fun b h1 h2 e => by
            rcases e with e | e | e | e
            · omega
            · omega
            · have := hpb b e; omega
            · exact h2 e
          have nlB : L = B + 2 := by omega
          refine ⟨⟨pv2, hj.els ++ [⟨((readL (sub l A 4) : Nat) : Int), dv, hdc⟩], hpc3, hj.hmc, glf, kf.get (by omega) (no _ (by omega) (by omega)) hj.mkb, hj.cb.keep kf (by omega) (no _ (by omega) (by omega)), hj.cn.keep kf (by omega) (no _ (by omega) (by omega)), y3.keep kbf (by omega) (by omega), ?_, hj.me.keep kf (fun b e => no b (by have := hmb b e; omega) (by have := hmb b e; omega)), hj.rb.keep kf (by omega) (no _ (by omega) (by omega)), hj.zb.keep kf (by omega) (no _ (by omega) (by omega)), by have := kf.1; omega, hj.keep.trans' kf fun b hb => no b (by omega) (by omega), ?_⟩⟩
          rotate_left
          · rw [List.map_append, ← List.cons_append]
            refine List.pairwise_append.2 ⟨hj.ap, List.Pairwise.cons (by simp) .nil, fun u hu w hw b e1 e2 => ?_⟩
            simp only [List.map_cons, List.map_nil, List.mem_cons, List.not_mem_nil, or_false] at hw
            subst hw
            have h2 := (odB.low (sblk_blk e2)).1
            rcases List.mem_cons.1 hu with rfl | hu
            · have := hmb b (sblk_blk e1); omega
            · obtain ⟨a, ha, rfl⟩ := List.mem_map.1 hu
              obtain ⟨j, hja⟩ := List.mem_iff_getElem?.1 ha
              have hjl := get_lt hja
              rw [hj.pg.len, pagesOf_len] at hjl
              have := ((hj.pg.at_ j a _ hja (pagesOf_get l hjl)).2.low (sblk_blk e1)).2
              omega
          rw [pagesOf_succ]
          exact (a2.keep y4 fun b h1 _ e => by omega).keep kbf fun b h1 _ e => by omega
      · rintro q u H2 ⟨⟨hj⟩, h1, h2⟩
        rw [← hL]
        refine ⟨q, hj.lp, by rw [h1]; simp, ?_⟩
        rw [h2]
        dsimp only
        generalize hH3 : H2.set (L + 1) _ = H3
        have kr : Keep (fun b => b = L + 1) H2 H3 := by rw [← hH3]; exact Keep.set _ fun _ => rfl
        clear hH3
        have hHL := kkl.1
        have hLx := hj.nx
        have n3 := kr.1
        have hmb : ∀ b, blk mv = some b → P7 + 2 ≤ b ∧ b < L := fun b e => by rw [hL]; exact oml.low e
        have hpg3 := hj.pg.keep kr fun b _ _ => by omega
        have hme3 := hj.me.keep kr fun b e e2 => by have := hmb b e; omega
        rw [← hdg] at hpg3
        rw [← hdm] at hme3
        have hD3 := hj.db.keep kr (by omega) (by omega)
        have hQ3' := hj.rb.keep kr (by omega) (by omega)
        have hZ3' := hj.zb.keep kr (by omega) (by omega)
        have hk3 := kr.get (by omega) (by omega) hj.mkb
        have kk3' : Keep noB H H3 := hj.keep.trans' kr fun b hb e => absurd e (by omega)
        have hmade : MadeD H3 (P7 + 2) d hj.pv mv hj.els := ⟨hpg3.wide (by omega), hme3⟩
        have hdv : AV.agg (avl (encDv ⟨d.engine, (pageN l : Int), d.frm, d.to, hj.pv, mv, hj.hpc, hj.hmc⟩)) = dlA d hj.pv mv := by rw [← hdp]; rfl
        obtain ⟨oE, gE, _, _, _, _, _, _, ec⟩ := hD3.dv
        refine WP.seq (WP.seqR ?_)
        refine WPO.looks1 tyOk extOk 1 (ls := [⟨⟨ldA ⟨ldN 6⟩ (.tmp 7)⟩, (some 105), none⟩]) (by kernel_rfl) (by simp (disch := omega) [gE, ec]; exact rfl) ?_
        have hml : d.meta_.length < 4611686018427387904 := by rw [hdm, sub_len (by omega)]; omega
        have hpl : d.pages.length < 4611686018427387904 := by rw [hdg, pagesOf_len]; omega
        refine WPO.callF (g := 36) rfl rfl rfl (by kernel_rfl) (l := .cons (dlA d hj.pv mv) .nil) (by rw [← hdv]; simp) (mayBe_ok hmade.dl hml hpl).ac fun u H4 ⟨g1, g2, k4⟩ => ?_
        have n4' := k4.1
        have hD4 := hD3.keep k4 (by omega) id
        have hQ4 := hQ3'.keep k4 (by omega) id
        have hZ4 := hZ3'.keep k4 (by omega) id
        have hk4 := k4.get (by omega) id hk3
        have kk4 := kk3'.trans k4
        have hm4 : MadeD H4 (P7 + 2) d hj.pv mv hj.els := ⟨hmade.pages.keep k4 fun _ _ _ => id, hmade.meta_.keep k4 fun _ _ => id⟩
        have fin : ∀ (H' : AH) (dz : Dv) (oz : AObj), H'.get N = some oz → rdCells oz 6 0 = some (avl (encDv dz)) → ∀ X, (H'.set L X).get N = some oz := fun H' dz oz g _ X => by rw [AH.get_set, if_neg (by omega)]; exact g
        by_cases hok : okD d
        · have hu := g1 hok
          subst hu
          refine WPO.looks1 tyOk extOk 3 (ls := [⟨lkMove (.tmp 106), (some 104), none⟩, ⟨⟨exA (.tmp 104) 0⟩, (some 107), none⟩, ⟨⟨exA (.tmp 104) 1⟩, (some 108), none⟩]) (by kernel_rfl) (by simp (disch := omega) []; exact rfl) ?_
          refine WPO.fresh1 tyOk (k := ⟨frAlloc (.cs 69 8 8 false (.cons (.int .i64 0) (.cons (.int .i64 0) (.cons (.int .i64 0) (.cons (.int .i64 0) (.cons (.int .i64 0) (.cons (.int .i64 0) (.cons (.int .i64 0) (.cons (.int .i64 0) .nil)))))))) .e)⟩) (by kernel_rfl) rfl (by kernel_rfl) (v := .ptr H4.next 0) (x := .cs 69 8 8 false zMt .e) ?_ ?_
          · exact rfl
          obtain ⟨H5, s1, s2, s3, s4⟩ := storeM (fldsM d.meta_) (newM H4)
          refine WPO.heavy1 tyOk extOk (k := ⟨hvStore ⟨stN 8⟩ (.tmp 12) (.tmp 107)⟩) (by kernel_rfl) rfl (by kernel_rfl) (by simp; exact st_ob s1) ?_
          have k5 : Keep noB H4 H5 := (Keep.new noB H4 _).trans' s4 fun b hb e => absurd e (by omega)
          have n5 := k5.1
          have hD5 := hD4.keep k5 (by omega) id
          have hQ5 := hQ4.keep k5 (by omega) id
          have hk5 := k5.get (by omega) id hk4
          have kk5 := kk4.trans k5
          refine WPO.looks1 tyOk extOk 1 (ls := [⟨lkMove (.tmp 108), (some 13), none⟩]) (by kernel_rfl) (by simp (disch := omega) []; exact rfl) ?_
          refine WPO.nilS (WP.seqR ?_)
          refine WPO.looks1 tyOk extOk 2 (ls := [⟨lkMove (.tmp 13), (some 109), none⟩, ⟨lkUn ukNot (.tmp 109), (some 110), none⟩]) (by kernel_rfl) (by simp (disch := omega) []; exact rfl) ?_
          refine WPO.nilS (WP.cond (t := false) (by simp) (by simp) fun _ => WP.skip (.inl rfl) (WP.seqR ?_))
          obtain ⟨oF, gF, _, _, _, _, _, _, fc⟩ := hD5.dv
          refine WPO.looks1 tyOk extOk 1 (ls := [⟨⟨ldA ⟨ldN 6⟩ (.tmp 7)⟩, (some 112), none⟩]) (by kernel_rfl) (by simp (disch := omega) [gF, fc]; exact rfl) ?_
          obtain ⟨H7, z1, z2, z3, z4⟩ := hQ5.store encDv_len ⟨d.engine, (pageN l : Int), d.frm, d.to, hj.pv, mv, hj.hpc, hj.hmc⟩ (cells_dv _)
          obtain ⟨oz, gz, _, _, _, _, _, _, zc⟩ := z3.dv
          refine WPO.heavy1 tyOk extOk (k := ⟨hvStore ⟨stN 6⟩ (.tmp 2) (.tmp 112)⟩) (by kernel_rfl) rfl (by kernel_rfl) (by simp; exact stN_ob z1) ?_
          refine WPO.looks1 tyOk extOk 1 (ls := [⟨lkMove (.const (.int .i64 0)), (some 3), none⟩]) (by kernel_rfl) (by simp (disch := omega) []; exact rfl) ?_
          have gz' := fin H7 _ oz gz zc
          refine WPO.nilS (WP.ret (endPR (endP_mark (d := L) (l := .cons (dlA d hj.pv mv) (.cons (.int .i64 0) .nil)) (z4.get (by omega) (by omega) hk5) (by rw [← hdv]; simp [gz', zc]) ⟨fun _ => ⟨hj.pv, mv, hj.els, rfl, ?_, hj.ap⟩, fun hs => absurd (hsay.2 ⟨hsh, hok⟩) hs, ?_⟩)))
          · have k47 : Keep (fun b => b = N ∨ b = L) H4 (H7.set L (.dfr false)) := ((k5.mono fun _ _ e => e.elim).trans (z4.mono fun b _ e => .inl e)).trans (Keep.set _ fun _ => .inr rfl)
            exact MadeD.wide ⟨(hpg3.keep k4 fun _ _ _ => id).wide (Nat.le_refl _) |>.keep k47 (fun b h1 _ e => by omega) |>.wide (by omega), hm4.meta_.keep k47 fun b e e2 => by have := hmb b e; omega⟩ (by omega)
          · exact (kk5.trans' z4 fun b hb e => absurd e (by omega)).trans' (Keep.set (S := fun b => b = L) _ fun _ => rfl) fun b hb e => absurd e (by omega)
        · obtain ⟨mm, hu⟩ := g2 hok
          have hno : ¬ saysD l := fun hs => hok (hsay.1 hs).2
          subst hu
          refine WPO.looks1 tyOk extOk 3 (ls := [⟨lkMove (.tmp 106), (some 104), none⟩, ⟨⟨exA (.tmp 104) 0⟩, (some 107), none⟩, ⟨⟨exA (.tmp 104) 1⟩, (some 108), none⟩]) (by kernel_rfl) (by simp (disch := omega) []; exact rfl) ?_
          refine WPO.fresh1 tyOk (k := ⟨frAlloc (.cs 69 8 8 false (.cons (.int .i64 0) (.cons (.int .i64 0) (.cons (.int .i64 0) (.cons (.int .i64 0) (.cons (.int .i64 0) (.cons (.int .i64 0) (.cons (.int .i64 0) (.cons (.int .i64 0) .nil)))))))) .e)⟩) (by kernel_rfl) rfl (by kernel_rfl) (v := .ptr H4.next 0) (x := .cs 69 8 8 false zMt .e) ?_ ?_
          · exact rfl
          obtain ⟨H5, s1, s2, s3, s4⟩ := storeM mm (newM H4)
          refine WPO.heavy1 tyOk extOk (k := ⟨hvStore ⟨stN 8⟩ (.tmp 12) (.tmp 107)⟩) (by kernel_rfl) rfl (by kernel_rfl) (by simp; exact st_ob s1) ?_
          have k5 : Keep noB H4 H5 := (Keep.new noB H4 _).trans' s4 fun b hb e => absurd e (by omega)
          have n5 := k5.1
          have hQ5 := hQ4.keep k5 (by omega) id
          have hZ5 := hZ4.keep k5 (by omega) id
          have hk5 := k5.get (by omega) id hk4
          have kk5 := kk4.trans k5
          refine WPO.looks1 tyOk extOk 1 (ls := [⟨lkMove (.tmp 108), (some 13), none⟩]) (by kernel_rfl) (by simp (disch := omega) []; exact rfl) ?_
          refine WPO.nilS (WP.seqR ?_)
          refine WPO.looks1 tyOk extOk 2 (ls := [⟨lkMove (.tmp 13), (some 109), none⟩, ⟨lkUn ukNot (.tmp 109), (some 110), none⟩]) (by kernel_rfl) (by simp (disch := omega) []; exact rfl) ?_
          refine WPO.nilS (WP.cond (t := true) (by simp) (fun _ => WP.seqR ?_) (by simp))
          obtain ⟨oZ, gZ, _, _, _, _, _, _, zc⟩ := hZ5.dv
          refine WPO.looks1 tyOk extOk 1 (ls := [⟨⟨ldA ⟨ldN 6⟩ (.tmp 4)⟩, (some 111), none⟩]) (by kernel_rfl) (by simp (disch := omega) [gZ, zc]; exact rfl) ?_
          obtain ⟨H7, oz, z1, gz, zc2, z4⟩ := bad H5 hQ5
          refine WPO.heavy1 tyOk extOk (k := ⟨hvStore ⟨stN 6⟩ (.tmp 2) (.tmp 111)⟩) (by kernel_rfl) rfl (by kernel_rfl) (by simp; exact stN_ob z1) ?_
          refine WPO.looks1 tyOk extOk 1 (ls := [⟨lkMove (.const (.int .i64 230)), (some 3), none⟩]) (by kernel_rfl) (by simp (disch := omega) []; exact rfl) ?_
          have gz' := fin H7 _ oz gz zc2
          exact WPO.nilS (WP.ret (endPR (endP_mark (d := L) (l := .cons (dlA zeroDl .snil .snil) (.cons (.int .i64 230) .nil)) (z4.get (by omega) (by omega) hk5) (by simp [gz', zc2]; rfl) ⟨fun hs => absurd hs hno, fun _ => rfl, (kk5.trans' z4 fun b hb e => absurd e (by omega)).trans' (Keep.set (S := fun b => b = L) _ fun _ => rfl) fun b hb e => absurd e (by omega)⟩)))
end
end Go.Proofs.YtoigokkeaddceaaGreatDoor
