/- A part of the proof of this seat's statement: what is particular to its program. Its conditions stand in each theorem. -/
import Derived.Test.YtoigokkeaddceaaGreatDoorK4
import Derived.Test.YtoigokkeaddceaaGreatDoorZ6
namespace Go.Proofs.YtoigokkeaddceaaGreatDoor
open Go.Xq
noncomputable section
@[simp] theorem natOf_two : natOf (.int .i64 2) = some 2 := rfl
@[simp] theorem natOf_three : natOf (.int .i64 3) = some 3 := rfl
@[simp] theorem natOf_five : natOf (.int .i64 5) = some 5 := rfl
@[simp] theorem natOf_six : natOf (.int .i64 6) = some 6 := rfl
theorem mkInt_i64u {n : Nat} (h : n < 18446744073709551616) : mkInt .i64 (n : Int) = some (.int .i64 (i64 n)) := by
  unfold i64
  split
  · exact mkInt_i64 (by omega) (by omega)
  · rw [mkInt_eq]
    congr 2
    show IntKind.wrap .i64 (n : Int) = _
    simp [IntKind.wrap, IntKind.bits, IntKind.signed]
    omega
def partI (l : List UInt8) (i : Nat) : IL 7 := ⟨((numsM (fldsM l)).take i ++ List.replicate (7 - min i 7) 0), by
  have : (numsM (fldsM l)).length = 7 := rfl
  simp [this]; omega⟩
theorem partI_zero (l : List UInt8) : partI l 0 = zeroIL 7 := rfl
theorem partI_all (l : List UInt8) : partI l 7 = numsIL (fldsM l) := rfl
theorem read_at (l : List UInt8) {i : Nat} (hi : i < 7) : ∃ (a w : Nat), a + w ≤ 40 ∧ 1 ≤ w ∧ w ≤ 8 ∧ setIL (partI l i) i (i64 (readL (sub l a w))) = partI l (i + 1) ∧
    partN 2 (i * 2) (avl (encIL placesL)) = some (.agg (.cons (.int .i64 (a : Int)) (.cons (.int .i64 (w : Int)) .nil))) := by
  have : i = 0 ∨ i = 1 ∨ i = 2 ∨ i = 3 ∨ i = 4 ∨ i = 5 ∨ i = 6 := by omega
  rcases this with rfl | rfl | rfl | rfl | rfl | rfl | rfl
  · exact ⟨8, 4, by omega, by omega, by omega, rfl, rfl⟩
  · exact ⟨12, 8, by omega, by omega, by omega, rfl, rfl⟩
  · exact ⟨20, 4, by omega, by omega, by omega, rfl, rfl⟩
  · exact ⟨24, 4, by omega, by omega, by omega, rfl, rfl⟩
  · exact ⟨28, 4, by omega, by omega, by omega, rfl, rfl⟩
  · exact ⟨32, 4, by omega, by omega, by omega, rfl, rfl⟩
  · exact ⟨36, 4, by omega, by omega, by omega, rfl, rfl⟩
theorem high_lt (l : List UInt8) (h : 40 ≤ l.length) : 0 ≤ (fldsM l).high ∧ (fldsM l).high < 4294967296 := by
  have := read4_lt (b := l) (at_ := 36) (by omega)
  have e : (fldsM l).high = i64 (readL (sub l 36 4)) := rfl
  rw [e, i64_small (by omega)]
  omega
theorem q51 (H : AH) (m : Mt) : ((⟨buildA (.cons (.int .i64 0) (.cons (.int .i64 0) (.cons (.int .i64 0) (.cons (.int .i64 0) (.cons (.int .i64 0) (.cons (.int .i64 0) (.cons (.int .i64 0) (.cons (.int .i64 0) .nil)))))))) ⟨fill1 (.tmp 43) 0 1 ⟨fill1 (.tmp 45) 1 1 ⟨fill1 (.tmp 47) 2 1 ⟨fill1 (.tmp 49) 3 1 ⟨fill1 (.tmp 51) 4 1 ⟨fill1 (.tmp 53) 5 1 ⟨fill1 (.tmp 55) 6 1 ⟨fill1 (.tmp 57) 7 1 flEnd⟩⟩⟩⟩⟩⟩⟩⟩⟩) : LK).f (tl [(43, .int .i64 m.engine), (45, .int .i64 m.page), (47, .int .i64 m.txn), (49, .int .i64 m.root), (51, .int .i64 m.count), (53, .int .i64 m.free), (55, .int .i64 m.listed), (57, .int .i64 m.high)]) H = some (mA m) := by
  simp
  rfl
set_option maxRecDepth 20000 in
set_option maxHeartbeats 4000000 in
theorem decode_ok {H : AH} {v : AV} {l : List UInt8} (h : RdS H v l) (hs : SlOk H v) (hl : l.length < 4611686018427387904) :
    DC Tryz.prog .normal 51 (.cons v .nil) H fun v' H2 => (saysM l → v' = .tup (.cons (mA (fldsM l)) (.cons (.int .i64 0) .nil))) ∧ (¬ saysM l → v' = .tup (.cons (mA zeroM) (.cons (.int .i64 50) .nil))) ∧ Keep noB H H2 := by
  refine DC.of_wd (re := reCell ⟨ldN 8⟩ 2 (reTmp 3 reNil)) tyOk Tryz.func51 (by kernel_rfl) rfl (by kernel_rfl) (by kernel_rfl) ?_
  rw [tl_nil, argsT_cons, argsT_nil]
  have hlen := h.len
  refine WD.seqR ?_
  refine WDO.fresh1 tyOk (k := ⟨frAlloc (.cs 69 8 8 false (.cons (.int .i64 0) (.cons (.int .i64 0) (.cons (.int .i64 0) (.cons (.int .i64 0) (.cons (.int .i64 0) (.cons (.int .i64 0) (.cons (.int .i64 0) (.cons (.int .i64 0) .nil)))))))) .e)⟩) (by kernel_rfl) rfl (by kernel_rfl) (v := .ptr H.next 0) (x := .cs 69 8 8 false zMt .e) ?_ ?_
  · exact rfl
  have hN := newM H
  have hk1 : Keep noB H (H.new (.cs 69 8 8 false zMt .e)) := Keep.new _ _ _
  have hlt : H.next < (H.new (.cs 69 8 8 false zMt .e)).next := by simp
  have hNe : H.next ≤ H.next := Nat.le_refl _
  generalize H.new (.cs 69 8 8 false zMt .e) = H1 at hN hk1 hlt ⊢
  generalize hHN : H.next = N at hN hlt hNe ⊢
  have h1 := h.keep hk1 fun _ _ => id
  refine WDO.looks1 tyOk extOk 1 (ls := [⟨lkMove (.const (.int .i64 0)), (some 3), none⟩]) (by kernel_rfl) (by simp (disch := omega) []; exact rfl) ?_
  refine WDO.nilS (WD.seq (WD.seqR ?_))
  by_cases hA : l.length < 512 ∨ 65536 < l.length
  · have hno : ¬ saysM l := fun hs => by have := hs.1; have := hs.le; omega
    have hrun : ∃ l' : List (Nat × AV), runLk [⟨lkMove (.tmp 0), (some 12), none⟩, ⟨⟨lenSl (.tmp 12)⟩, (some 13), none⟩, ⟨⟨binInt akLss (.tmp 13) (.const (.int .i64 512))⟩, (some 14), none⟩, ⟨lkMove (.tmp 14), (some 15), none⟩, ⟨lkMove (.tmp 0), (some 16), (some (15, false))⟩, ⟨⟨lenSl (.tmp 16)⟩, (some 17), (some (15, false))⟩, ⟨⟨binInt akGtr (.tmp 17) (.const (.int .i64 65536))⟩, (some 18), (some (15, false))⟩, ⟨⟨pickA (.tmp 15) (.const (.bool true)) (.tmp 18)⟩, (some 19), none⟩] (tl [(3, .int .i64 0), (2, .ptr N 0), (0, v)]) H1 = some (tl l') ∧ lsub [(2, .ptr N 0), (19, .bool true)] l' := by
      rcases hA with c1 | c1
      · have f1 : (l.length : Int) < 512 := by omega
        exact ⟨_, by simp (disch := omega) [hlen, f1]; exact rfl, by simp⟩
      · have f1 : ¬ (l.length : Int) < 512 := by omega
        have f2 : (65536 : Int) < (l.length : Int) := by omega
        exact ⟨_, by simp (disch := omega) [hlen, f1, f2]; exact rfl, by simp⟩
    obtain ⟨l', hrun, hsub⟩ := hrun
    refine WDO.looks1 tyOk extOk 8 (ls := [⟨lkMove (.tmp 0), (some 12), none⟩, ⟨⟨lenSl (.tmp 12)⟩, (some 13), none⟩, ⟨⟨binInt akLss (.tmp 13) (.const (.int .i64 512))⟩, (some 14), none⟩, ⟨lkMove (.tmp 14), (some 15), none⟩, ⟨lkMove (.tmp 0), (some 16), (some (15, false))⟩, ⟨⟨lenSl (.tmp 16)⟩, (some 17), (some (15, false))⟩, ⟨⟨binInt akGtr (.tmp 17) (.const (.int .i64 65536))⟩, (some 18), (some (15, false))⟩, ⟨⟨pickA (.tmp 15) (.const (.bool true)) (.tmp 18)⟩, (some 19), none⟩]) (by kernel_rfl) hrun ?_
    refine WDO.nilS (WD.keep (WD.cond (t := true) (by simp) (fun _ => WD.seqR ?_) (by simp)) hsub)
    refine WDO.looks1 tyOk extOk 1 (ls := [⟨⟨buildA (.cons (.int .i64 0) (.cons (.int .i64 0) (.cons (.int .i64 0) (.cons (.int .i64 0) (.cons (.int .i64 0) (.cons (.int .i64 0) (.cons (.int .i64 0) (.cons (.int .i64 0) .nil)))))))) flEnd⟩, (some 20), none⟩]) (by kernel_rfl) (by simp (disch := omega) []; exact rfl) ?_
    obtain ⟨H2, s1, s2, s3, s4⟩ := storeM zeroM hN
    obtain ⟨o2, g2, _, _, _, _, _, _, _, _, rc2⟩ := s3.all
    refine WDO.heavy1 tyOk extOk (k := ⟨hvStore ⟨stN 8⟩ (.tmp 2) (.tmp 20)⟩) (by kernel_rfl) rfl (by kernel_rfl) (by simp; exact st_ob s1) ?_
    refine WDO.looks1 tyOk extOk 1 (ls := [⟨lkMove (.const (.int .i64 50)), (some 3), none⟩]) (by kernel_rfl) (by simp (disch := omega) []; exact rfl) ?_
    refine WDO.nilS (WD.ret (endR _ (by simp [g2, rc2]; rfl) ⟨fun hs => absurd hs hno, fun _ => rfl, hk1.trans' s4 fun b hb e => absurd e (by omega)⟩))
  · have f1 : ¬ (l.length : Int) < 512 := by omega
    have f2 : ¬ (65536 : Int) < (l.length : Int) := by omega
    refine WDO.looks1 tyOk extOk 8 (ls := [⟨lkMove (.tmp 0), (some 12), none⟩, ⟨⟨lenSl (.tmp 12)⟩, (some 13), none⟩, ⟨⟨binInt akLss (.tmp 13) (.const (.int .i64 512))⟩, (some 14), none⟩, ⟨lkMove (.tmp 14), (some 15), none⟩, ⟨lkMove (.tmp 0), (some 16), (some (15, false))⟩, ⟨⟨lenSl (.tmp 16)⟩, (some 17), (some (15, false))⟩, ⟨⟨binInt akGtr (.tmp 17) (.const (.int .i64 65536))⟩, (some 18), (some (15, false))⟩, ⟨⟨pickA (.tmp 15) (.const (.bool true)) (.tmp 18)⟩, (some 19), none⟩]) (by kernel_rfl) (by simp (disch := omega) [hlen, f1, f2]; exact rfl) ?_
    refine WDO.nilS (WD.cond (t := false) (by simp) (by simp) fun _ => WD.skip (.inl rfl) (WD.seqR ?_))
    refine WDO.fresh1 tyOk (k := ⟨frAlloc (.cs 169 7 7 false (.cons (.int .i64 0) (.cons (.int .i64 0) (.cons (.int .i64 0) (.cons (.int .i64 0) (.cons (.int .i64 0) (.cons (.int .i64 0) (.cons (.int .i64 0) .nil))))))) .e)⟩) (by kernel_rfl) rfl (by kernel_rfl) (v := .ptr H1.next 0) (x := .cs 169 7 7 false (zIL 7) .e) ?_ ?_
    · exact rfl
    have h0 : RdIL 169 7 (H1.new (.cs 169 7 7 false (zIL 7) .e)) H1.next (zeroIL 7) := newIL 169 7 H1
    have k2 : Keep noB H1 (H1.new (.cs 169 7 7 false (zIL 7) .e)) := Keep.new _ _ _
    have hN2 := hN.keep k2 hlt id
    have hM2 : H1.next < (H1.new (.cs 169 7 7 false (zIL 7) .e)).next := by simp
    have kk2 := hk1.trans k2
    have hNM : N < H1.next := hlt
    generalize H1.new (.cs 169 7 7 false (zIL 7) .e) = H2 at h0 k2 hN2 hM2 kk2 ⊢
    generalize H1.next = M at h0 hM2 hNM ⊢
    refine WDO.nilS (WD.seq (WD.seqR ?_))
    refine WDO.callF (g := 102) rfl rfl rfl (by kernel_rfl) (l := .nil) (by simp) places_ok fun u H3 ⟨hu, k3⟩ => ?_
    subst hu
    have hN3 := hN2.keep k3 (by omega) id
    have hM3 := h0.keep k3 hM2 id
    have kk3 := kk2.trans k3
    have hn3 := k3.1
    refine WDO.looks1 tyOk extOk 1 (ls := [⟨lkMove (.const (.int .i64 0)), (some 22), none⟩]) (by kernel_rfl) (by simp (disch := omega) []; exact rfl) ?_
    refine WDO.nilS (WD.forR (σ := Nat) (fun i => [(0, v), (2, .ptr N 0), (3, .int .i64 0), (4, .ptr M 0), (21, .agg (avl (encIL placesL))), (22, .int .i64 (i : Int))])
      (fun i H' => i ≤ 7 ∧ RdIL 169 7 H' M (partI l i) ∧ RdM H' N zeroM ∧ H3.next ≤ H'.next ∧ Keep noB H H') (fun i => 7 - i) 0
      ⟨by omega, by rw [partI_zero]; exact hM3, hN3, Nat.le_refl _, kk3⟩ (by simp) ?_)
    rintro i H' ⟨hi, hM, hN', hnx, kk'⟩
    have hv' := h.keep kk' fun _ _ => id
    have hs' := hs.keep h (by intro e; subst e; simp at hA) kk' fun _ _ => id
    refine WDO.looks1 tyOk extOk 1 (ls := [⟨⟨binInt akLss (.tmp 22) (.const (.int .i64 7))⟩, (some 23), none⟩]) (by kernel_rfl) (by simp (disch := omega) []; exact rfl) ?_
    refine WDO.nil ⟨decide ((i : Int) < 7), _, rfl, by simp, fun hc => ?_, fun hc => ?_⟩
    · have hc : i = 7 := by have := of_decide_eq_false hc; omega
      subst hc
      rw [partI_all] at hM
      refine WD.seq ?_
      have hhi := high_lt l (by omega)
      have hsay : saysM l ↔ okM (fldsM l) ∧ encM (fldsM l) = l := ⟨fun h => h.2, fun h => ⟨by omega, h⟩⟩
      have hfe : (fldsM l).engine = ((l[1]?.getD 0).toNat : Int) := rfl
      generalize fldsM l = m at hM hhi hsay hfe ⊢
      obtain ⟨oM, gM, rM, _⟩ := hM.get
      have m0 := rM 0 _ rfl
      have m1 := rM 1 _ rfl
      have m2 := rM 2 _ rfl
      have m3 := rM 3 _ rfl
      have m4 := rM 4 _ rfl
      have m5 := rM 5 _ rfl
      have m6 := rM 6 _ rfl
      have hx1 : l[1]? = some (l[1]'(by omega)) := List.getElem?_eq_getElem _
      generalize l[1]'_ = x1 at hx1
      rw [hx1, Option.getD_some] at hfe
      obtain ⟨b, off, cap, o', hv, hb', ho, hby⟩ := hv'.pos (by omega)
      have hrd1 := hby _ _ hx1
      have f3 : 1 < l.length := by omega
      have hx1l := x1.toNat_lt
      have gc : mkInt .i64 (x1.toNat : Int) = some (.int .i64 m.engine) := by rw [hfe]; exact mkInt_i64 (by omega) (by omega)
      rw [hv]
      obtain ⟨R, hR, hRc⟩ := specR_ex Tryz.prog (fun _ _ _ _ _ => False)
      refine WD.drawnK tyOk extOk (by kernel_rfl) (ls := [⟨[0], .look (lkMove (.tmp 0)), (some 40), none, 0, 1, true, false⟩, ⟨[40], .look (⟨ixSl 1 (.tmp 40) (.const (.int .i64 1))⟩), (some 41), none, 0, 1, true, false⟩, ⟨[41], .look (⟨ldA ⟨ld1⟩ (.tmp 41)⟩), (some 42), none, 0, 1, false, false⟩, ⟨[42], .look (⟨cvInt .i64 (.tmp 42)⟩), (some 43), none, 0, 1, false, false⟩, ⟨[4], .look (⟨ixArr 7 1 (.tmp 4) (.const (.int .i64 0))⟩), (some 44), none, 0, 1, true, false⟩, ⟨[44], .look (⟨ldA ⟨ld1⟩ (.tmp 44)⟩), (some 45), none, 0, 1, false, false⟩, ⟨[4], .look (⟨ixArr 7 1 (.tmp 4) (.const (.int .i64 1))⟩), (some 46), none, 0, 1, true, false⟩, ⟨[46], .look (⟨ldA ⟨ld1⟩ (.tmp 46)⟩), (some 47), none, 0, 1, false, false⟩, ⟨[4], .look (⟨ixArr 7 1 (.tmp 4) (.const (.int .i64 2))⟩), (some 48), none, 0, 1, true, false⟩, ⟨[48], .look (⟨ldA ⟨ld1⟩ (.tmp 48)⟩), (some 49), none, 0, 1, false, false⟩, ⟨[4], .look (⟨ixArr 7 1 (.tmp 4) (.const (.int .i64 3))⟩), (some 50), none, 0, 1, true, false⟩, ⟨[50], .look (⟨ldA ⟨ld1⟩ (.tmp 50)⟩), (some 51), none, 0, 1, false, false⟩, ⟨[4], .look (⟨ixArr 7 1 (.tmp 4) (.const (.int .i64 4))⟩), (some 52), none, 0, 1, true, false⟩, ⟨[52], .look (⟨ldA ⟨ld1⟩ (.tmp 52)⟩), (some 53), none, 0, 1, false, false⟩, ⟨[4], .look (⟨ixArr 7 1 (.tmp 4) (.const (.int .i64 5))⟩), (some 54), none, 0, 1, true, false⟩, ⟨[54], .look (⟨ldA ⟨ld1⟩ (.tmp 54)⟩), (some 55), none, 0, 1, false, false⟩, ⟨[4], .look (⟨ixArr 7 1 (.tmp 4) (.const (.int .i64 6))⟩), (some 56), none, 0, 1, true, false⟩, ⟨[56], .look (⟨ldA ⟨ld1⟩ (.tmp 56)⟩), (some 57), none, 0, 1, false, false⟩, ⟨[43, 45, 47, 49, 51, 53, 55, 57], .look (⟨buildA (.cons (.int .i64 0) (.cons (.int .i64 0) (.cons (.int .i64 0) (.cons (.int .i64 0) (.cons (.int .i64 0) (.cons (.int .i64 0) (.cons (.int .i64 0) (.cons (.int .i64 0) .nil)))))))) ⟨fill1 (.tmp 43) 0 1 ⟨fill1 (.tmp 45) 1 1 ⟨fill1 (.tmp 47) 2 1 ⟨fill1 (.tmp 49) 3 1 ⟨fill1 (.tmp 51) 4 1 ⟨fill1 (.tmp 53) 5 1 ⟨fill1 (.tmp 55) 6 1 ⟨fill1 (.tmp 57) 7 1 flEnd⟩⟩⟩⟩⟩⟩⟩⟩⟩), (some 58), none, 0, 1, true, false⟩, ⟨[], .fresh ⟨frAlloc (.cs 69 8 8 false (.cons (.int .i64 0) (.cons (.int .i64 0) (.cons (.int .i64 0) (.cons (.int .i64 0) (.cons (.int .i64 0) (.cons (.int .i64 0) (.cons (.int .i64 0) (.cons (.int .i64 0) .nil)))))))) .e)⟩, (some 9), none, 0, 1, false, false⟩, ⟨[9, 58], .heavy ⟨hvStore ⟨stN 8⟩ (.tmp 9) (.tmp 58)⟩, none, none, 0, 2, false, true⟩]) (by kernel_rfl) hR fun K hK => ?_
      iterate 2 (refine diLookP (by simp [-resL_cons, resL_cc]; exact rfl) (by simp (disch := omega) []; exact rfl) ?_)
      iterate 2 (refine diLookC (by simp [-resL_cons, resL_cc]; exact rfl) (by simp (disch := omega) [ho, hrd1, gc]; exact rfl) ?_)
      refine diLookP (by simp [-resL_cons, resL_cc]; exact rfl) (by simp (disch := omega) []; exact rfl) ?_
      refine diLookC (by simp [-resL_cons, resL_cc]; exact rfl) (by simp (disch := omega) [gM, m0]; exact rfl) ?_
      refine diLookP (by simp [-resL_cons, resL_cc]; exact rfl) (by simp (disch := omega) []; exact rfl) ?_
      refine diLookC (by simp [-resL_cons, resL_cc]; exact rfl) (by simp (disch := omega) [gM, m1]; exact rfl) ?_
      refine diLookP (by simp [-resL_cons, resL_cc]; exact rfl) (by simp (disch := omega) []; exact rfl) ?_
      refine diLookC (by simp [-resL_cons, resL_cc]; exact rfl) (by simp (disch := omega) [gM, m2]; exact rfl) ?_
      refine diLookP (by simp [-resL_cons, resL_cc]; exact rfl) (by simp (disch := omega) []; exact rfl) ?_
      refine diLookC (by simp [-resL_cons, resL_cc]; exact rfl) (by simp (disch := omega) [gM, m3]; exact rfl) ?_
      refine diLookP (by simp [-resL_cons, resL_cc]; exact rfl) (by simp (disch := omega) []; exact rfl) ?_
      refine diLookC (by simp [-resL_cons, resL_cc]; exact rfl) (by simp (disch := omega) [gM, m4]; exact rfl) ?_
      refine diLookP (by simp [-resL_cons, resL_cc]; exact rfl) (by simp (disch := omega) []; exact rfl) ?_
      refine diLookC (by simp [-resL_cons, resL_cc]; exact rfl) (by simp (disch := omega) [gM, m5]; exact rfl) ?_
      refine diLookP (by simp [-resL_cons, resL_cc]; exact rfl) (by simp (disch := omega) []; exact rfl) ?_
      refine diLookC (by simp [-resL_cons, resL_cc]; exact rfl) (by simp (disch := omega) [gM, m6]; exact rfl) ?_
      refine diLookP (by simp [-resL_cons, resL_cc]) (q51 _ m) ?_
      refine diFresh rfl (o := .cs 69 8 8 false zMt .e) (v := .ptr H'.next 0) rfl ?_
      obtain ⟨H3', s1, s2, s3, s4⟩ := storeM m (newM H')
      have kn : Keep noB H' (H'.new (.cs 69 8 8 false zMt .e)) := Keep.new _ _ _
      refine diHeavy (by simp [-resL_cons, resL_cc]; exact rfl) (v := undefA) (H2 := H3') (by simp; exact st_ob s1) (by omega) ?_
      have ho2 := kn.get hb' id ho
      have gM2 := kn.get (by omega) id gM
      simp only [diRun_nil, putA_none, List.reverse_cons, List.reverse_nil, List.nil_append, List.cons_append, chkAdd_f, chkBlk_f, atAll_s, atAll_z, and_true, true_and]
      refine ⟨⟨by simp (disch := omega) [ho2, hrd1, gM2, m0, m1, m2, m3, m4, m5, m6, gc], trivial, get_new_same _ _⟩, hK _ _ (WD.keep (l := [(0, .sl b off l.length cap), (2, .ptr N 0), (3, .int .i64 0), (9, .ptr H'.next 0)]) (WD.seq (WD.seqR ?_)) (by simp))⟩
      clear hK hRc hR
      have hv3 := h.keep ((kk'.trans kn).trans' s4 fun b hb e => absurd e (by omega) : Keep noB H H3') fun _ _ => id
      have kk3' : Keep noB H H3' := (kk'.trans kn).trans' s4 fun b hb e => absurd e (by omega)
      have hN3' : RdM H3' N zeroM := (hN'.keep kn (by omega) id).keep s4 (by simp; omega) (by omega)
      have hn4 : H'.next < H3'.next := by rw [s2]; simp
      rw [hv] at hv3
      generalize H'.next = N9 at s3 hn4 hnx ⊢
      obtain ⟨o4, g4, _, _, _, _, _, _, _, _, rc4⟩ := s3.all
      refine WDO.looks1 tyOk extOk 1 (ls := [⟨⟨ldA ⟨ldN 8⟩ (.tmp 9)⟩, (some 60), none⟩]) (by kernel_rfl) (by simp (disch := omega) [g4, rc4]; exact rfl) ?_
      refine WDO.callF (g := 85) rfl rfl rfl (by kernel_rfl) (l := .cons (mA m) .nil) (by simp [mA]) (encode_ok (m := m) (by omega) (by omega)) fun u H5 ⟨e1, e2, k5⟩ => ?_
      have h5 := hv3.keep k5 fun _ _ => id
      have hs2 := h5.str
      simp only [onSl_sl] at hs2
      have hN5 := hN3'.keep k5 (by omega) id
      have hM5 := s3.keep k5 hn4 id
      have kk5 := kk3'.trans k5
      have hn5 := k5.1
      obtain ⟨o5, g5, _, _, _, _, _, _, _, _, rc5⟩ := hM5.all
      by_cases hok : okM m
      · obtain ⟨B, hu, hB1, hB2, hown⟩ := e1 hok
        subst hu
        have hs1 := (RdS.bb' (n := (encM m).length) (cap := some (encM m).length) rfl hB2 hown).str
        simp only [onSl_sl] at hs1
        refine WDO.looks1 tyOk extOk 5 (ls := [⟨lkMove (.tmp 61), (some 59), none⟩, ⟨⟨exA (.tmp 59) 0⟩, (some 62), none⟩, ⟨⟨exA (.tmp 59) 1⟩, (some 63), none⟩, ⟨lkMove (.tmp 62), (some 10), none⟩, ⟨lkMove (.tmp 63), (some 11), none⟩]) (by kernel_rfl) (by simp (disch := omega) []; exact rfl) ?_
        refine WDO.nilS (WD.seqR ?_)
        by_cases hE : encM m = l
        · have hyes : saysM l := hsay.2 ⟨hok, hE⟩
          rw [hE] at hs1
          refine WDO.looks1 tyOk extOk 9 (ls := [⟨lkMove (.tmp 11), (some 64), none⟩, ⟨⟨binInt akNeq (.tmp 64) (.const (.int .i64 0))⟩, (some 65), none⟩, ⟨lkMove (.tmp 65), (some 66), none⟩, ⟨lkMove (.tmp 10), (some 67), (some (66, false))⟩, ⟨⟨cvStr (.tmp 67)⟩, (some 68), (some (66, false))⟩, ⟨lkMove (.tmp 0), (some 69), (some (66, false))⟩, ⟨⟨cvStr (.tmp 69)⟩, (some 70), (some (66, false))⟩, ⟨⟨binStr skNeq (.tmp 68) (.tmp 70)⟩, (some 71), (some (66, false))⟩, ⟨⟨pickA (.tmp 66) (.const (.bool true)) (.tmp 71)⟩, (some 72), none⟩]) (by kernel_rfl) (by simp (disch := omega) [hs1, hs2, hE]; exact rfl) ?_
          refine WDO.nilS (WD.cond (t := false) (by simp) (by simp) fun _ => WD.skip (.inl rfl) (WD.seqR ?_))
          refine WDO.looks1 tyOk extOk 1 (ls := [⟨⟨ldA ⟨ldN 8⟩ (.tmp 9)⟩, (some 74), none⟩]) (by kernel_rfl) (by simp (disch := omega) [g5, rc5]; exact rfl) ?_
          obtain ⟨Hz, z1, z2, z3, z4⟩ := storeM m hN5
          obtain ⟨oz, gz, _, _, _, _, _, _, _, _, rcz⟩ := z3.all
          refine WDO.heavy1 tyOk extOk (k := ⟨hvStore ⟨stN 8⟩ (.tmp 2) (.tmp 74)⟩) (by kernel_rfl) rfl (by kernel_rfl) (by simp; exact st_ob z1) ?_
          refine WDO.looks1 tyOk extOk 1 (ls := [⟨lkMove (.const (.int .i64 0)), (some 3), none⟩]) (by kernel_rfl) (by simp (disch := omega) []; exact rfl) ?_
          exact WDO.nilS (WD.ret (endR _ (by simp [gz, rcz]; rfl) ⟨fun _ => rfl, fun hs => absurd hyes hs, kk5.trans' z4 fun b hb e => absurd e (by omega)⟩))
        · have hno : ¬ saysM l := fun hs => hE (hsay.1 hs).2
          refine WDO.looks1 tyOk extOk 9 (ls := [⟨lkMove (.tmp 11), (some 64), none⟩, ⟨⟨binInt akNeq (.tmp 64) (.const (.int .i64 0))⟩, (some 65), none⟩, ⟨lkMove (.tmp 65), (some 66), none⟩, ⟨lkMove (.tmp 10), (some 67), (some (66, false))⟩, ⟨⟨cvStr (.tmp 67)⟩, (some 68), (some (66, false))⟩, ⟨lkMove (.tmp 0), (some 69), (some (66, false))⟩, ⟨⟨cvStr (.tmp 69)⟩, (some 70), (some (66, false))⟩, ⟨⟨binStr skNeq (.tmp 68) (.tmp 70)⟩, (some 71), (some (66, false))⟩, ⟨⟨pickA (.tmp 66) (.const (.bool true)) (.tmp 71)⟩, (some 72), none⟩]) (by kernel_rfl) (by simp (disch := omega) [hs1, hs2, hE]; exact rfl) ?_
          refine WDO.nilS (WD.cond (t := true) (by simp) (fun _ => WD.seqR ?_) (by simp))
          refine WDO.looks1 tyOk extOk 1 (ls := [⟨⟨buildA (.cons (.int .i64 0) (.cons (.int .i64 0) (.cons (.int .i64 0) (.cons (.int .i64 0) (.cons (.int .i64 0) (.cons (.int .i64 0) (.cons (.int .i64 0) (.cons (.int .i64 0) .nil)))))))) flEnd⟩, (some 73), none⟩]) (by kernel_rfl) (by simp (disch := omega) []; exact rfl) ?_
          obtain ⟨Hz, z1, z2, z3, z4⟩ := storeM zeroM hN5
          obtain ⟨oz, gz, _, _, _, _, _, _, _, _, rcz⟩ := z3.all
          refine WDO.heavy1 tyOk extOk (k := ⟨hvStore ⟨stN 8⟩ (.tmp 2) (.tmp 73)⟩) (by kernel_rfl) rfl (by kernel_rfl) (by simp; exact st_ob z1) ?_
          refine WDO.looks1 tyOk extOk 1 (ls := [⟨lkMove (.const (.int .i64 50)), (some 3), none⟩]) (by kernel_rfl) (by simp (disch := omega) []; exact rfl) ?_
          exact WDO.nilS (WD.ret (endR _ (by simp [gz, rcz]; rfl) ⟨fun hs => absurd hs hno, fun _ => rfl, kk5.trans' z4 fun b hb e => absurd e (by omega)⟩))
      · have hu := e2 hok
        subst hu
        have hno : ¬ saysM l := fun hs => hok (hsay.1 hs).1
        refine WDO.looks1 tyOk extOk 5 (ls := [⟨lkMove (.tmp 61), (some 59), none⟩, ⟨⟨exA (.tmp 59) 0⟩, (some 62), none⟩, ⟨⟨exA (.tmp 59) 1⟩, (some 63), none⟩, ⟨lkMove (.tmp 62), (some 10), none⟩, ⟨lkMove (.tmp 63), (some 11), none⟩]) (by kernel_rfl) (by simp (disch := omega) []; exact rfl) ?_
        refine WDO.nilS (WD.seqR ?_)
        refine WDO.looks1 tyOk extOk 9 (ls := [⟨lkMove (.tmp 11), (some 64), none⟩, ⟨⟨binInt akNeq (.tmp 64) (.const (.int .i64 0))⟩, (some 65), none⟩, ⟨lkMove (.tmp 65), (some 66), none⟩, ⟨lkMove (.tmp 10), (some 67), (some (66, false))⟩, ⟨⟨cvStr (.tmp 67)⟩, (some 68), (some (66, false))⟩, ⟨lkMove (.tmp 0), (some 69), (some (66, false))⟩, ⟨⟨cvStr (.tmp 69)⟩, (some 70), (some (66, false))⟩, ⟨⟨binStr skNeq (.tmp 68) (.tmp 70)⟩, (some 71), (some (66, false))⟩, ⟨⟨pickA (.tmp 66) (.const (.bool true)) (.tmp 71)⟩, (some 72), none⟩]) (by kernel_rfl) (by simp (disch := omega) []; exact rfl) ?_
        refine WDO.nilS (WD.cond (t := true) (by simp) (fun _ => WD.seqR ?_) (by simp))
        refine WDO.looks1 tyOk extOk 1 (ls := [⟨⟨buildA (.cons (.int .i64 0) (.cons (.int .i64 0) (.cons (.int .i64 0) (.cons (.int .i64 0) (.cons (.int .i64 0) (.cons (.int .i64 0) (.cons (.int .i64 0) (.cons (.int .i64 0) .nil)))))))) flEnd⟩, (some 73), none⟩]) (by kernel_rfl) (by simp (disch := omega) []; exact rfl) ?_
        obtain ⟨Hz, z1, z2, z3, z4⟩ := storeM zeroM hN5
        obtain ⟨oz, gz, _, _, _, _, _, _, _, _, rcz⟩ := z3.all
        refine WDO.heavy1 tyOk extOk (k := ⟨hvStore ⟨stN 8⟩ (.tmp 2) (.tmp 73)⟩) (by kernel_rfl) rfl (by kernel_rfl) (by simp; exact st_ob z1) ?_
        refine WDO.looks1 tyOk extOk 1 (ls := [⟨lkMove (.const (.int .i64 50)), (some 3), none⟩]) (by kernel_rfl) (by simp (disch := omega) []; exact rfl) ?_
        exact WDO.nilS (WD.ret (endR _ (by simp [gz, rcz]; rfl) ⟨fun hs => absurd hs hno, fun _ => rfl, kk5.trans' z4 fun b hb e => absurd e (by omega)⟩))
    · have hc : i < 7 := by have := of_decide_eq_true hc; omega
      obtain ⟨a, w, q2, q3, q4, q5, q7⟩ := read_at l hc
      refine WD.seqR ?_
      refine WDO.looks1 tyOk extOk 2 (ls := [⟨lkMove (.tmp 22), (some 24), none⟩, ⟨⟨ixAgg 7 2 ⟨partN 2⟩ (.tmp 21) (.tmp 22)⟩, (some 25), none⟩]) (by kernel_rfl) (by simp (disch := omega) [q7]; exact rfl) ?_
      refine WDO.fresh1 tyOk (k := ⟨frAlloc (.cs 171 2 2 false (.cons (.int .i64 0) (.cons (.int .i64 0) .nil)) .e)⟩) (by kernel_rfl) rfl (by kernel_rfl) (v := .ptr H'.next 0) (x := .cs 171 2 2 false (zIL 2) .e) ?_ ?_
      · exact rfl
      have h0 : RdIL 171 2 (H'.new (.cs 171 2 2 false (zIL 2) .e)) H'.next (zeroIL 2) := newIL 171 2 H'
      have k1 : Keep noB H' (H'.new (.cs 171 2 2 false (zIL 2) .e)) := Keep.new _ _ _
      obtain ⟨Hb, s1, s2, s3, s4⟩ := storeIL ⟨[(a : Int), (w : Int)], rfl⟩ h0
      have hv1 := hv'.keep k1 fun _ _ => id
      refine WDO.looks1 tyOk extOk 1 (ls := [⟨lkMove (.tmp 24), (some 5), none⟩]) (by kernel_rfl) (by simp (disch := omega) []; exact rfl) ?_
      refine WDO.heavy1 tyOk extOk (k := ⟨hvStore ⟨stN 2⟩ (.tmp 6) (.tmp 25)⟩) (by kernel_rfl) rfl (by kernel_rfl) (by simp; exact st_ob s1) ?_
      have kb : Keep noB H' Hb := k1.trans' s4 fun b hb e => absurd e (by omega)
      have hvb := hv'.keep kb fun _ _ => id
      have hsb := hs'.keep hv' (by intro e; subst e; simp at hA) kb fun _ _ => id
      have hMb := hM.keep kb (by omega) id
      have hNb := hN'.keep kb (by omega) id
      have hnb := kb.1
      obtain ⟨o8, g8, r8, _⟩ := s3.get
      have ra := r8 0 _ rfl
      have rw' := r8 1 _ rfl
      refine WDO.nilS (WD.seqR ?_)
      refine WDO.looks1 tyOk extOk 5 (ls := [⟨lkMove (.tmp 0), (some 27), none⟩, ⟨⟨fAddr (.tmp 6) 0⟩, (some 28), none⟩, ⟨⟨ldA ⟨ld1⟩ (.tmp 28)⟩, (some 29), none⟩, ⟨⟨fAddr (.tmp 6) 1⟩, (some 30), none⟩, ⟨⟨ldA ⟨ld1⟩ (.tmp 30)⟩, (some 31), none⟩]) (by kernel_rfl) (by simp (disch := omega) [g8, ra, rw']; exact rfl) ?_
      refine WDO.callF (g := 95) rfl rfl rfl (by kernel_rfl) (l := .cons v (.cons (.int .i64 (a : Int)) (.cons (.int .i64 (w : Int)) .nil))) (by simp) (readFixed_ok hvb hsb (by omega) q3 q4 (by omega) (by omega)) fun u Hc ⟨hu, hHc⟩ => ?_
      subst hu
      subst hHc
      have hrl : readL (sub l a w) < 18446744073709551616 := by
        have h1 := readL_lt w (sub l a w) (sub_len (by omega))
        have h2 : 256 ^ w ≤ 256 ^ 8 := Nat.pow_le_pow_right (by omega) q4
        omega
      refine WDO.looks1 tyOk extOk 5 (ls := [⟨lkMove (.tmp 32), (some 26), none⟩, ⟨⟨exA (.tmp 26) 0⟩, (some 33), none⟩, ⟨⟨exA (.tmp 26) 1⟩, (some 34), none⟩, ⟨lkMove (.tmp 33), (some 7), none⟩, ⟨lkMove (.tmp 34), (some 8), none⟩]) (by kernel_rfl) (by simp (disch := omega) []; exact rfl) ?_
      refine WDO.nilS (WD.region ?_)
      have cv := mkInt_i64u hrl
      refine WDO.looks1 tyOk extOk 4 (ls := [⟨lkMove (.tmp 5), (some 35), none⟩, ⟨lkMove (.tmp 7), (some 36), none⟩, ⟨⟨cvInt .i64 (.tmp 36)⟩, (some 37), none⟩, ⟨⟨ixArr 7 1 (.tmp 4) (.tmp 35)⟩, (some 38), none⟩]) (by kernel_rfl) (by simp (disch := omega) [cv]; exact rfl) ?_
      obtain ⟨Hd, t1, t2, t3, t4⟩ := store1IL (i64 (readL (sub l a w))) hMb hc
      rw [q5] at t3
      refine WDO.heavy1 tyOk extOk (k := ⟨hvStore ⟨st1'⟩ (.tmp 38) (.tmp 37)⟩) (by kernel_rfl) rfl (by kernel_rfl) (by simp [t1]; exact ⟨rfl, rfl⟩) ?_
      refine WDO.nil ?_
      refine WDO.looks1 tyOk extOk 2 (ls := [⟨⟨binInt akAdd (.tmp 22) (.const (.int .i64 1))⟩, (some 39), none⟩, ⟨lkMove (.tmp 39), (some 22), none⟩]) (by kernel_rfl) (by simp (disch := omega) []; exact rfl) ?_
      exact WDO.nil ⟨rfl, i + 1, _, rfl, by simp, ⟨by omega, t3, hNb.keep t4 (by omega) (by omega), by omega, (kk'.trans kb).trans' t4 fun b hb e => absurd e (by omega)⟩, by omega⟩
end
end Go.Proofs.YtoigokkeaddceaaGreatDoor
namespace Go.Proofs.YtoigokkeaddceaaGreatDoor
open Go.Xq
noncomputable section
def headOk (m : Mt) (d : Dl) : Prop := isPgI d.page = true ∧ m.engine = d.engine ∧ m.page = d.page ∧ m.txn = d.to ∧ 0 ≤ d.frm ∧ d.frm ≤ d.to
theorem okD_iff (d : Dl) : okD d ↔ saysM d.meta_ ∧ headOk (fldsM d.meta_) d ∧ ¬ (0 < d.frm ∧ d.frm = d.to ∧ d.pages ≠ []) ∧ risesP d.page (fldsM d.meta_).high 1 d.pages := by
  unfold okD headOk
  constructor
  · rintro ⟨h1, h2, h3, h4, h5, h6, h7, h8, h9⟩
    exact ⟨h1, ⟨h2, h3, h4, h5, h6, h7⟩, h8, h9⟩
  · rintro ⟨h1, ⟨h2, h3, h4, h5, h6, h7⟩, h8, h9⟩
    exact ⟨h1, h2, h3, h4, h5, h6, h7, h8, h9⟩
structure DlAt (H : AH) (d : Dl) (pv mv : AV) (cs : List (Int × AV)) : Prop where
  pages : SaysP H pv cs d.pages
  meta_ : RdS H mv d.meta_
  cut : d.meta_ ≠ [] → SlOk H mv
theorem DlAt.keep {H H2 : AH} {d : Dl} {pv mv : AV} {cs : List (Int × AV)} (h : DlAt H d pv mv cs) (hk : Keep noB H H2) : DlAt H2 d pv mv cs :=
  ⟨h.pages.keep0 hk, h.meta_.keep hk fun _ _ => id, fun hn => (h.cut hn).keep h.meta_ hn hk fun _ _ => id⟩
theorem DlAt.c1 {H : AH} {d : Dl} {pv mv : AV} {cs : List (Int × AV)} (h : DlAt H d pv mv cs) : isCell pv = true := h.pages.rd.cell
theorem DlAt.c2 {H : AH} {d : Dl} {pv mv : AV} {cs : List (Int × AV)} (h : DlAt H d pv mv cs) : isCell mv = true := h.meta_.cell
theorem SaysP.ln {H : AH} {v : AV} {cs : List (Int × AV)} {ps : List (Int × List UInt8)} (h : SaysP H v cs ps) : onSl v (some (AV.int .i64 0)) (fun _ _ n _ => some (.int .i64 (n : Int))) = some (.int .i64 (ps.length : Int)) := by
  rw [← h.len]; exact h.rd.len
theorem decodeE_ok {H : AH} {v : AV} {l : List UInt8} (h : RdS H v l) (hs : l ≠ [] → SlOk H v) (hl : l.length < 4611686018427387904) :
    DC Tryz.prog .normal 51 (.cons v .nil) H fun v' H2 => (saysM l → v' = .tup (.cons (mA (fldsM l)) (.cons (.int .i64 0) .nil))) ∧ (¬ saysM l → v' = .tup (.cons (mA zeroM) (.cons (.int .i64 50) .nil))) ∧ Keep noB H H2 := by
  by_cases hn : l = []
  · subst hn
    have hv : (v = .snil) ∨ ∃ b off cap, v = .sl b off 0 cap := by
      rcases h with ⟨e, _⟩ | ⟨b, off, cap, e, _⟩
      · exact .inl e
      · exact .inr ⟨b, off, cap, e⟩
    have hno : ¬ saysM [] := fun hs => by have := hs.1; simp at this
    refine DC.of_wd (re := reCell ⟨ldN 8⟩ 2 (reTmp 3 reNil)) tyOk Tryz.func51 (by kernel_rfl) rfl (by kernel_rfl) (by kernel_rfl) ?_
    rw [tl_nil, argsT_cons, argsT_nil]
    have hlen := h.len
    refine WD.seqR ?_
    refine WDO.fresh1 tyOk (k := ⟨frAlloc (.cs 69 8 8 false (.cons (.int .i64 0) (.cons (.int .i64 0) (.cons (.int .i64 0) (.cons (.int .i64 0) (.cons (.int .i64 0) (.cons (.int .i64 0) (.cons (.int .i64 0) (.cons (.int .i64 0) .nil)))))))) .e)⟩) (by kernel_rfl) rfl (by kernel_rfl) (v := .ptr H.next 0) (x := .cs 69 8 8 false zMt .e) ?_ ?_
    · exact rfl
    have hN := newM H
    have hk1 : Keep noB H (H.new (.cs 69 8 8 false zMt .e)) := Keep.new _ _ _
    refine WDO.looks1 tyOk extOk 1 (ls := [⟨lkMove (.const (.int .i64 0)), (some 3), none⟩]) (by kernel_rfl) (by simp (disch := omega) []; exact rfl) ?_
    refine WDO.nilS (WD.seq (WD.seqR ?_))
    refine WDO.looks1 tyOk extOk 8 (ls := [⟨lkMove (.tmp 0), (some 12), none⟩, ⟨⟨lenSl (.tmp 12)⟩, (some 13), none⟩, ⟨⟨binInt akLss (.tmp 13) (.const (.int .i64 512))⟩, (some 14), none⟩, ⟨lkMove (.tmp 14), (some 15), none⟩, ⟨lkMove (.tmp 0), (some 16), (some (15, false))⟩, ⟨⟨lenSl (.tmp 16)⟩, (some 17), (some (15, false))⟩, ⟨⟨binInt akGtr (.tmp 17) (.const (.int .i64 65536))⟩, (some 18), (some (15, false))⟩, ⟨⟨pickA (.tmp 15) (.const (.bool true)) (.tmp 18)⟩, (some 19), none⟩]) (by kernel_rfl) (by simp (disch := omega) [hlen]; exact rfl) ?_
    refine WDO.nilS (WD.cond (t := true) (by simp) (fun _ => WD.seqR ?_) (by simp))
    refine WDO.looks1 tyOk extOk 1 (ls := [⟨⟨buildA (.cons (.int .i64 0) (.cons (.int .i64 0) (.cons (.int .i64 0) (.cons (.int .i64 0) (.cons (.int .i64 0) (.cons (.int .i64 0) (.cons (.int .i64 0) (.cons (.int .i64 0) .nil)))))))) flEnd⟩, (some 20), none⟩]) (by kernel_rfl) (by simp (disch := omega) []; exact rfl) ?_
    obtain ⟨H2, s1, s2, s3, s4⟩ := storeM zeroM hN
    obtain ⟨o2, g2, _, _, _, _, _, _, _, _, rc2⟩ := s3.all
    refine WDO.heavy1 tyOk extOk (k := ⟨hvStore ⟨stN 8⟩ (.tmp 2) (.tmp 20)⟩) (by kernel_rfl) rfl (by kernel_rfl) (by simp; exact st_ob s1) ?_
    refine WDO.looks1 tyOk extOk 1 (ls := [⟨lkMove (.const (.int .i64 50)), (some 3), none⟩]) (by kernel_rfl) (by simp (disch := omega) []; exact rfl) ?_
    refine WDO.nilS (WD.ret (endR _ (by simp [g2, rc2]; rfl) ⟨fun hs => absurd hs hno, fun _ => rfl, hk1.trans' s4 fun b hb e => absurd e (by omega)⟩))
  · exact decode_ok h (hs hn) hl
theorem newP (H : AH) : Bx encPv 67 2 zPv (H.new (.cs 67 2 2 false zPv .e)) H.next zeroPv := Bx.new (z := zPv) (a := zeroPv) encPv_len rfl H rfl
set_option maxRecDepth 20000 in
set_option maxHeartbeats 4000000 in
theorem mayBe_ok {H : AH} {d : Dl} {pv mv : AV} {cs : List (Int × AV)} (h : DlAt H d pv mv cs) (hl : d.meta_.length < 4611686018427387904) (hp : d.pages.length < 4611686018427387904) :
    DC Tryz.prog .normal 36 (.cons (dlA d pv mv) .nil) H fun v' H2 => (okD d → v' = .tup (.cons (mA (fldsM d.meta_)) (.cons (.bool true) .nil))) ∧ (¬ okD d → ∃ m, v' = .tup (.cons (mA m) (.cons (.bool false) .nil))) ∧ Keep noB H H2 := by
  refine DC.of_wd (re := reCell ⟨ldN 8⟩ 2 (reTmp 3 reNil)) tyOk Tryz.func36 (by kernel_rfl) rfl (by kernel_rfl) (by kernel_rfl) ?_
  rw [tl_nil, argsT_cons, argsT_nil]
  refine WD.seqR ?_
  obtain ⟨o1, e1, hD, hk1⟩ := Bx.box (enc := encDv) (e := 25) (z := zDv) encDv_len (H := H) (a := d.dv pv mv h.c1 h.c2) (x := .tmp 0) (T := tl [(0, dlA d pv mv)]) (by simp; rfl)
  refine WDO.fresh1 tyOk (k := ⟨frBox ⟨mkCs 25 6 (.cons (.int .i64 0) (.cons (.int .i64 0) (.cons (.int .i64 0) (.cons (.int .i64 0) (.cons .snil (.cons .snil .nil))))))⟩ (.tmp 0)⟩) (by kernel_rfl) rfl (by kernel_rfl) e1 ?_
  have hlt : H.next < (H.new o1).next := by simp
  have hNk : H.next ≤ H.next := Nat.le_refl _
  generalize H.new o1 = H1 at hD hk1 hlt ⊢
  generalize hNN : H.next = N at hD hlt hNk ⊢
  refine WDO.fresh1 tyOk (k := ⟨frAlloc (.cs 69 8 8 false (.cons (.int .i64 0) (.cons (.int .i64 0) (.cons (.int .i64 0) (.cons (.int .i64 0) (.cons (.int .i64 0) (.cons (.int .i64 0) (.cons (.int .i64 0) (.cons (.int .i64 0) .nil)))))))) .e)⟩) (by kernel_rfl) rfl (by kernel_rfl) (v := .ptr H1.next 0) (x := .cs 69 8 8 false zMt .e) ?_ ?_
  · exact rfl
  have hN2 := newM H1
  have k2 : Keep noB H1 (H1.new (.cs 69 8 8 false zMt .e)) := Keep.new _ _ _
  have hlt2 : H1.next < (H1.new (.cs 69 8 8 false zMt .e)).next := by simp
  have hD2 := hD.keep k2 hlt id
  generalize H1.new (.cs 69 8 8 false zMt .e) = H2 at hN2 k2 hlt2 hD2 ⊢
  have hNN2 : N < H1.next := hlt
  generalize H1.next = N2 at hN2 hlt2 hNN2 ⊢
  have kk2 : Keep noB H H2 := hk1.trans k2
  obtain ⟨oD, gD, d0, d1, d2, d3, d4, d5, _⟩ := hD2.dv
  simp only [Dl.dv] at d0 d1 d2 d3 d4 d5
  refine WDO.looks1 tyOk extOk 1 (ls := [⟨lkMove (.const (.bool false)), (some 3), none⟩]) (by kernel_rfl) (by simp (disch := omega) []; exact rfl) ?_
  refine WDO.nilS (WD.seqR ?_)
  refine WDO.looks1 tyOk extOk 2 (ls := [⟨⟨fAddr (.tmp 1) 5⟩, (some 10), none⟩, ⟨⟨ldA ⟨ld1⟩ (.tmp 10)⟩, (some 11), none⟩]) (by kernel_rfl) (by simp (disch := omega) [gD, d5]; exact rfl) ?_
  have h2 := h.keep kk2
  refine WDO.callF (g := 51) rfl rfl rfl (by kernel_rfl) (l := .cons mv .nil) (by simp) (decodeE_ok h2.meta_ h2.cut hl) fun u H3 ⟨hu1, hu2, k3⟩ => ?_
  have kk3 := kk2.trans k3
  have gD3 := k3.get (by omega) id gD
  have hN3 := hN2.keep k3 hlt2 id
  have hn3 := k3.1
  by_cases hM : saysM d.meta_
  · have hu := hu1 hM
    subst hu
    generalize hm : fldsM d.meta_ = m at *
    refine WDO.looks1 tyOk extOk 3 (ls := [⟨lkMove (.tmp 12), (some 9), none⟩, ⟨⟨exA (.tmp 9) 0⟩, (some 13), none⟩, ⟨⟨exA (.tmp 9) 1⟩, (some 14), none⟩]) (by kernel_rfl) (by simp (disch := omega) []; exact rfl) ?_
    refine WDO.fresh1 tyOk (k := ⟨frAlloc (.cs 69 8 8 false (.cons (.int .i64 0) (.cons (.int .i64 0) (.cons (.int .i64 0) (.cons (.int .i64 0) (.cons (.int .i64 0) (.cons (.int .i64 0) (.cons (.int .i64 0) (.cons (.int .i64 0) .nil)))))))) .e)⟩) (by kernel_rfl) rfl (by kernel_rfl) (v := .ptr H3.next 0) (x := .cs 69 8 8 false zMt .e) ?_ ?_
    · exact rfl
    have kn : Keep noB H3 (H3.new (.cs 69 8 8 false zMt .e)) := Keep.new _ _ _
    obtain ⟨H4, s1, s2, s3, s4⟩ := storeM m (newM H3)
    refine WDO.heavy1 tyOk extOk (k := ⟨hvStore ⟨stN 8⟩ (.tmp 4) (.tmp 13)⟩) (by kernel_rfl) rfl (by kernel_rfl) (by simp; exact st_ob s1) ?_
    have kk4 : Keep noB H H4 := (kk3.trans kn).trans' s4 fun b hb e => absurd e (by omega)
    have gD4 := s4.get (by simp; omega) (by omega) (kn.get (by omega) id gD3)
    have hN4 : RdM H4 N2 zeroM := (hN3.keep kn (by omega) id).keep s4 (by simp; omega) (by omega)
    have hn4 : H3.next < H4.next := by rw [s2]; simp
    have hlt4 : N2 < H3.next := by omega
    generalize H3.next = N4 at s3 hn4 hlt4 ⊢
    obtain ⟨oM, gM, m0, m1, m2, m3, m4, m5, m6, m7, mc⟩ := s3.all
    refine WDO.looks1 tyOk extOk 1 (ls := [⟨lkMove (.tmp 14), (some 5), none⟩]) (by kernel_rfl) (by simp (disch := omega) []; exact rfl) ?_
    refine WDO.nilS (WD.keep (l := [(1, .ptr N 0), (2, .ptr N2 0), (3, .bool false), (4, .ptr N4 0), (5, .int .i64 0)]) (WD.seq (WD.seqR ?_)) (by simp))
    refine WDO.looks1 tyOk extOk 5 (ls := [⟨lkMove (.tmp 5), (some 15), none⟩, ⟨⟨binInt akNeq (.tmp 15) (.const (.int .i64 0))⟩, (some 16), none⟩, ⟨lkMove (.tmp 16), (some 17), none⟩, ⟨⟨fAddr (.tmp 1) 1⟩, (some 18), (some (17, false))⟩, ⟨⟨ldA ⟨ld1⟩ (.tmp 18)⟩, (some 19), (some (17, false))⟩]) (by kernel_rfl) (by simp (disch := omega) [gD4, d1]; exact rfl) ?_
    refine WDO.callG (g := 43) rfl rfl (gd := some (17, false)) (by kernel_rfl) (by simp [wantA, wantG, get_tl]) (by kernel_rfl) (l := .cons (.int .i64 d.page) .nil) (by simp) isPageShip_ok fun u Hx ⟨hu, hHx⟩ => ?_
    subst hu
    subst hHx
    have hpages : d.pages.length < 9223372036854775807 := by omega
    have hsay4 := h.keep kk4
    obtain ⟨b, l', hb, hrun, hsub⟩ : ∃ (b : Bool) (l' : List (Nat × AV)), (b = true ↔ ¬ headOk m d) ∧ runLk [⟨lkUn ukNot (.tmp 20), (some 21), (some (17, false))⟩, ⟨⟨pickA (.tmp 17) (.const (.bool true)) (.tmp 21)⟩, (some 22), none⟩, ⟨lkMove (.tmp 22), (some 23), none⟩, ⟨⟨fAddr (.tmp 4) 0⟩, (some 24), (some (23, false))⟩, ⟨⟨ldA ⟨ld1⟩ (.tmp 24)⟩, (some 25), (some (23, false))⟩, ⟨⟨fAddr (.tmp 1) 0⟩, (some 26), (some (23, false))⟩, ⟨⟨ldA ⟨ld1⟩ (.tmp 26)⟩, (some 27), (some (23, false))⟩, ⟨⟨binInt akNeq (.tmp 25) (.tmp 27)⟩, (some 28), (some (23, false))⟩, ⟨⟨pickA (.tmp 23) (.const (.bool true)) (.tmp 28)⟩, (some 29), none⟩, ⟨lkMove (.tmp 29), (some 30), none⟩, ⟨⟨fAddr (.tmp 4) 1⟩, (some 31), (some (30, false))⟩, ⟨⟨ldA ⟨ld1⟩ (.tmp 31)⟩, (some 32), (some (30, false))⟩, ⟨⟨fAddr (.tmp 1) 1⟩, (some 33), (some (30, false))⟩, ⟨⟨ldA ⟨ld1⟩ (.tmp 33)⟩, (some 34), (some (30, false))⟩, ⟨⟨binInt akNeq (.tmp 32) (.tmp 34)⟩, (some 35), (some (30, false))⟩, ⟨⟨pickA (.tmp 30) (.const (.bool true)) (.tmp 35)⟩, (some 36), none⟩, ⟨lkMove (.tmp 36), (some 37), none⟩, ⟨⟨fAddr (.tmp 4) 2⟩, (some 38), (some (37, false))⟩, ⟨⟨ldA ⟨ld1⟩ (.tmp 38)⟩, (some 39), (some (37, false))⟩, ⟨⟨fAddr (.tmp 1) 3⟩, (some 40), (some (37, false))⟩, ⟨⟨ldA ⟨ld1⟩ (.tmp 40)⟩, (some 41), (some (37, false))⟩, ⟨⟨binInt akNeq (.tmp 39) (.tmp 41)⟩, (some 42), (some (37, false))⟩, ⟨⟨pickA (.tmp 37) (.const (.bool true)) (.tmp 42)⟩, (some 43), none⟩, ⟨lkMove (.tmp 43), (some 44), none⟩, ⟨⟨fAddr (.tmp 1) 2⟩, (some 45), (some (44, false))⟩, ⟨⟨ldA ⟨ld1⟩ (.tmp 45)⟩, (some 46), (some (44, false))⟩, ⟨⟨binInt akLss (.tmp 46) (.const (.int .i64 0))⟩, (some 47), (some (44, false))⟩, ⟨⟨pickA (.tmp 44) (.const (.bool true)) (.tmp 47)⟩, (some 48), none⟩, ⟨lkMove (.tmp 48), (some 49), none⟩, ⟨⟨fAddr (.tmp 1) 2⟩, (some 50), (some (49, false))⟩, ⟨⟨ldA ⟨ld1⟩ (.tmp 50)⟩, (some 51), (some (49, false))⟩, ⟨⟨fAddr (.tmp 1) 3⟩, (some 52), (some (49, false))⟩, ⟨⟨ldA ⟨ld1⟩ (.tmp 52)⟩, (some 53), (some (49, false))⟩, ⟨⟨binInt akGtr (.tmp 51) (.tmp 53)⟩, (some 54), (some (49, false))⟩, ⟨⟨pickA (.tmp 49) (.const (.bool true)) (.tmp 54)⟩, (some 55), none⟩] (tl [(20, .bool (isPgI d.page)), (19, .int .i64 d.page), (18, .ptr N 1), (17, .bool false), (16, .bool false), (15, .int .i64 0), (1, .ptr N 0), (2, .ptr N2 0), (3, .bool false), (4, .ptr N4 0), (5, .int .i64 0)]) Hx = some (tl l') ∧ lsub [(1, .ptr N 0), (2, .ptr N2 0), (3, .bool false), (4, .ptr N4 0), (55, .bool b)] l' := by
      by_cases c1 : isPgI d.page = true
      · by_cases c2 : m.engine = d.engine
        · by_cases c3 : m.page = d.page
          · by_cases c4 : m.txn = d.to
            · by_cases c5 : d.frm < 0
              · exact ⟨true, _, ⟨fun _ h => by have := h.2.2.2.2.1; omega, fun _ => rfl⟩, by simp (disch := omega) [gM, gD4, d0, d1, d2, d3, m0, m1, m2, c1, c2, c3, c4, c5]; exact rfl, by simp⟩
              · by_cases c6 : d.to < d.frm
                · exact ⟨true, _, ⟨fun _ h => by have := h.2.2.2.2.2; omega, fun _ => rfl⟩, by simp (disch := omega) [gM, gD4, d0, d1, d2, d3, m0, m1, m2, c1, c2, c3, c4, c5, c6]; exact rfl, by simp⟩
                · exact ⟨false, _, ⟨fun h => (by cases h), fun h => absurd ⟨c1, c2, c3, c4, by omega, by omega⟩ h⟩, by simp (disch := omega) [gM, gD4, d0, d1, d2, d3, m0, m1, m2, c1, c2, c3, c4, c5, c6]; exact rfl, by simp⟩
            · exact ⟨true, _, ⟨fun _ h => c4 h.2.2.2.1, fun _ => rfl⟩, by simp (disch := omega) [gM, gD4, d0, d1, d3, m0, m1, m2, c1, c2, c3, c4]; exact rfl, by simp⟩
          · exact ⟨true, _, ⟨fun _ h => c3 h.2.2.1, fun _ => rfl⟩, by simp (disch := omega) [gM, gD4, d0, d1, m0, m1, c1, c2, c3]; exact rfl, by simp⟩
        · exact ⟨true, _, ⟨fun _ h => c2 h.2.1, fun _ => rfl⟩, by simp (disch := omega) [gM, gD4, d0, m0, c1, c2]; exact rfl, by simp⟩
      · have c1' : isPgI d.page = false := by simpa using c1
        exact ⟨true, _, ⟨fun _ h => c1 h.1, fun _ => rfl⟩, by simp (disch := omega) [c1']; exact rfl, by simp⟩
    refine WDO.looks1 tyOk extOk 35 (ls := [⟨lkUn ukNot (.tmp 20), (some 21), (some (17, false))⟩, ⟨⟨pickA (.tmp 17) (.const (.bool true)) (.tmp 21)⟩, (some 22), none⟩, ⟨lkMove (.tmp 22), (some 23), none⟩, ⟨⟨fAddr (.tmp 4) 0⟩, (some 24), (some (23, false))⟩, ⟨⟨ldA ⟨ld1⟩ (.tmp 24)⟩, (some 25), (some (23, false))⟩, ⟨⟨fAddr (.tmp 1) 0⟩, (some 26), (some (23, false))⟩, ⟨⟨ldA ⟨ld1⟩ (.tmp 26)⟩, (some 27), (some (23, false))⟩, ⟨⟨binInt akNeq (.tmp 25) (.tmp 27)⟩, (some 28), (some (23, false))⟩, ⟨⟨pickA (.tmp 23) (.const (.bool true)) (.tmp 28)⟩, (some 29), none⟩, ⟨lkMove (.tmp 29), (some 30), none⟩, ⟨⟨fAddr (.tmp 4) 1⟩, (some 31), (some (30, false))⟩, ⟨⟨ldA ⟨ld1⟩ (.tmp 31)⟩, (some 32), (some (30, false))⟩, ⟨⟨fAddr (.tmp 1) 1⟩, (some 33), (some (30, false))⟩, ⟨⟨ldA ⟨ld1⟩ (.tmp 33)⟩, (some 34), (some (30, false))⟩, ⟨⟨binInt akNeq (.tmp 32) (.tmp 34)⟩, (some 35), (some (30, false))⟩, ⟨⟨pickA (.tmp 30) (.const (.bool true)) (.tmp 35)⟩, (some 36), none⟩, ⟨lkMove (.tmp 36), (some 37), none⟩, ⟨⟨fAddr (.tmp 4) 2⟩, (some 38), (some (37, false))⟩, ⟨⟨ldA ⟨ld1⟩ (.tmp 38)⟩, (some 39), (some (37, false))⟩, ⟨⟨fAddr (.tmp 1) 3⟩, (some 40), (some (37, false))⟩, ⟨⟨ldA ⟨ld1⟩ (.tmp 40)⟩, (some 41), (some (37, false))⟩, ⟨⟨binInt akNeq (.tmp 39) (.tmp 41)⟩, (some 42), (some (37, false))⟩, ⟨⟨pickA (.tmp 37) (.const (.bool true)) (.tmp 42)⟩, (some 43), none⟩, ⟨lkMove (.tmp 43), (some 44), none⟩, ⟨⟨fAddr (.tmp 1) 2⟩, (some 45), (some (44, false))⟩, ⟨⟨ldA ⟨ld1⟩ (.tmp 45)⟩, (some 46), (some (44, false))⟩, ⟨⟨binInt akLss (.tmp 46) (.const (.int .i64 0))⟩, (some 47), (some (44, false))⟩, ⟨⟨pickA (.tmp 44) (.const (.bool true)) (.tmp 47)⟩, (some 48), none⟩, ⟨lkMove (.tmp 48), (some 49), none⟩, ⟨⟨fAddr (.tmp 1) 2⟩, (some 50), (some (49, false))⟩, ⟨⟨ldA ⟨ld1⟩ (.tmp 50)⟩, (some 51), (some (49, false))⟩, ⟨⟨fAddr (.tmp 1) 3⟩, (some 52), (some (49, false))⟩, ⟨⟨ldA ⟨ld1⟩ (.tmp 52)⟩, (some 53), (some (49, false))⟩, ⟨⟨binInt akGtr (.tmp 51) (.tmp 53)⟩, (some 54), (some (49, false))⟩, ⟨⟨pickA (.tmp 49) (.const (.bool true)) (.tmp 54)⟩, (some 55), none⟩]) (by kernel_rfl) hrun ?_
    have ret0 : ∀ (H' : AH) (l0 : List (Nat × AV)) (A : AV), True := fun _ _ _ => trivial
    cases b with
    | true =>
      have hno : ¬ okD d := fun h => hb.1 rfl (by have := ((okD_iff d).1 h).2.1; rwa [hm] at this)
      refine WDO.nilS (WD.keep (WD.cond (t := true) (by simp) (fun _ => WD.seqR ?_) (by simp)) hsub)
      refine WDO.looks1 tyOk extOk 1 (ls := [⟨⟨ldA ⟨ldN 8⟩ (.tmp 4)⟩, (some 56), none⟩]) (by kernel_rfl) (by simp (disch := omega) [gM, mc]; exact rfl) ?_
      obtain ⟨Hz, z1, z2, z3, z4⟩ := storeM m hN4
      obtain ⟨oz, gz, _, _, _, _, _, _, _, _, rcz⟩ := z3.all
      refine WDO.heavy1 tyOk extOk (k := ⟨hvStore ⟨stN 8⟩ (.tmp 2) (.tmp 56)⟩) (by kernel_rfl) rfl (by kernel_rfl) (by simp; exact st_ob z1) ?_
      refine WDO.looks1 tyOk extOk 1 (ls := [⟨lkMove (.const (.bool false)), (some 3), none⟩]) (by kernel_rfl) (by simp (disch := omega) []; exact rfl) ?_
      exact WDO.nilS (WD.ret (endR _ (by simp [gz, rcz]; rfl) ⟨fun hs => absurd hs hno, fun _ => ⟨m, rfl⟩, kk4.trans' z4 fun b hb e => absurd e (by omega)⟩))
    | false =>
    have hhd : headOk m d := Classical.not_not.1 fun h => by have := hb.2 h; cases this
    clear hrun
    refine WDO.nilS (WD.keep (WD.cond (t := false) (by simp) (by simp) fun _ => WD.skip (.inl rfl) (WD.keep (l := [(1, .ptr N 0), (2, .ptr N2 0), (3, .bool false), (4, .ptr N4 0)]) (WD.seq (WD.seqR ?_)) (by simp))) hsub)
    have hln := SaysP.ln hsay4.pages
    obtain ⟨b2, l2, hb2, hrun, hsub2⟩ : ∃ (b : Bool) (l' : List (Nat × AV)), (b = true ↔ (0 < d.frm ∧ d.frm = d.to ∧ d.pages ≠ [])) ∧ runLk [⟨⟨fAddr (.tmp 1) 2⟩, (some 57), none⟩, ⟨⟨ldA ⟨ld1⟩ (.tmp 57)⟩, (some 58), none⟩, ⟨⟨binInt akGtr (.tmp 58) (.const (.int .i64 0))⟩, (some 59), none⟩, ⟨lkMove (.tmp 59), (some 60), none⟩, ⟨⟨fAddr (.tmp 1) 2⟩, (some 61), (some (60, true))⟩, ⟨⟨ldA ⟨ld1⟩ (.tmp 61)⟩, (some 62), (some (60, true))⟩, ⟨⟨fAddr (.tmp 1) 3⟩, (some 63), (some (60, true))⟩, ⟨⟨ldA ⟨ld1⟩ (.tmp 63)⟩, (some 64), (some (60, true))⟩, ⟨⟨binInt akEql (.tmp 62) (.tmp 64)⟩, (some 65), (some (60, true))⟩, ⟨⟨pickA (.tmp 60) (.tmp 65) (.const (.bool false))⟩, (some 66), none⟩, ⟨lkMove (.tmp 66), (some 67), none⟩, ⟨⟨fAddr (.tmp 1) 4⟩, (some 68), (some (67, true))⟩, ⟨⟨ldA ⟨ld1⟩ (.tmp 68)⟩, (some 69), (some (67, true))⟩, ⟨⟨lenSl (.tmp 69)⟩, (some 70), (some (67, true))⟩, ⟨⟨binInt akGtr (.tmp 70) (.const (.int .i64 0))⟩, (some 71), (some (67, true))⟩, ⟨⟨pickA (.tmp 67) (.tmp 71) (.const (.bool false))⟩, (some 72), none⟩] (tl [(1, .ptr N 0), (2, .ptr N2 0), (3, .bool false), (4, .ptr N4 0)]) Hx = some (tl l') ∧ lsub [(1, .ptr N 0), (2, .ptr N2 0), (3, .bool false), (4, .ptr N4 0), (72, .bool b)] l' := by
      by_cases c1 : 0 < d.frm
      · by_cases c2 : d.frm = d.to
        · have c1' : 0 < d.to := by omega
          by_cases c3 : d.pages = []
          · have c4 : d.pages.length = 0 := by rw [c3]; rfl
            exact ⟨false, _, ⟨fun h => (by cases h), fun h => absurd c3 h.2.2⟩, by simp (disch := omega) [gD4, d2, d3, d4, c1', c2, hln, c4]; exact rfl, by simp⟩
          · have c4 : 0 < (d.pages.length : Int) := by have := List.length_pos_iff.2 c3; omega
            exact ⟨true, _, ⟨fun _ => ⟨c1, c2, c3⟩, fun _ => rfl⟩, by simp (disch := omega) [gD4, d2, d3, d4, c1', c2, hln]; exact rfl, by simp; omega⟩
        · exact ⟨false, _, ⟨fun h => (by cases h), fun h => absurd h.2.1 c2⟩, by simp (disch := omega) [gD4, d2, d3, c1, c2]; exact rfl, by simp⟩
      · exact ⟨false, _, ⟨fun h => (by cases h), fun h => absurd h.1 c1⟩, by simp (disch := omega) [gD4, d2, c1]; exact rfl, by simp⟩
    refine WDO.looks1 tyOk extOk 16 (ls := [⟨⟨fAddr (.tmp 1) 2⟩, (some 57), none⟩, ⟨⟨ldA ⟨ld1⟩ (.tmp 57)⟩, (some 58), none⟩, ⟨⟨binInt akGtr (.tmp 58) (.const (.int .i64 0))⟩, (some 59), none⟩, ⟨lkMove (.tmp 59), (some 60), none⟩, ⟨⟨fAddr (.tmp 1) 2⟩, (some 61), (some (60, true))⟩, ⟨⟨ldA ⟨ld1⟩ (.tmp 61)⟩, (some 62), (some (60, true))⟩, ⟨⟨fAddr (.tmp 1) 3⟩, (some 63), (some (60, true))⟩, ⟨⟨ldA ⟨ld1⟩ (.tmp 63)⟩, (some 64), (some (60, true))⟩, ⟨⟨binInt akEql (.tmp 62) (.tmp 64)⟩, (some 65), (some (60, true))⟩, ⟨⟨pickA (.tmp 60) (.tmp 65) (.const (.bool false))⟩, (some 66), none⟩, ⟨lkMove (.tmp 66), (some 67), none⟩, ⟨⟨fAddr (.tmp 1) 4⟩, (some 68), (some (67, true))⟩, ⟨⟨ldA ⟨ld1⟩ (.tmp 68)⟩, (some 69), (some (67, true))⟩, ⟨⟨lenSl (.tmp 69)⟩, (some 70), (some (67, true))⟩, ⟨⟨binInt akGtr (.tmp 70) (.const (.int .i64 0))⟩, (some 71), (some (67, true))⟩, ⟨⟨pickA (.tmp 67) (.tmp 71) (.const (.bool false))⟩, (some 72), none⟩]) (by kernel_rfl) hrun ?_
    cases b2 with
    | true =>
      have hno : ¬ okD d := fun h => ((okD_iff d).1 h).2.2.1 (hb2.1 rfl)
      refine WDO.nilS (WD.keep (WD.cond (t := true) (by simp) (fun _ => WD.seqR ?_) (by simp)) hsub2)
      refine WDO.looks1 tyOk extOk 1 (ls := [⟨⟨ldA ⟨ldN 8⟩ (.tmp 4)⟩, (some 73), none⟩]) (by kernel_rfl) (by simp (disch := omega) [gM, mc]; exact rfl) ?_
      obtain ⟨Hz, z1, z2, z3, z4⟩ := storeM m hN4
      obtain ⟨oz, gz, _, _, _, _, _, _, _, _, rcz⟩ := z3.all
      refine WDO.heavy1 tyOk extOk (k := ⟨hvStore ⟨stN 8⟩ (.tmp 2) (.tmp 73)⟩) (by kernel_rfl) rfl (by kernel_rfl) (by simp; exact st_ob z1) ?_
      refine WDO.looks1 tyOk extOk 1 (ls := [⟨lkMove (.const (.bool false)), (some 3), none⟩]) (by kernel_rfl) (by simp (disch := omega) []; exact rfl) ?_
      exact WDO.nilS (WD.ret (endR _ (by simp [gz, rcz]; rfl) ⟨fun hs => absurd hs hno, fun _ => ⟨m, rfl⟩, kk4.trans' z4 fun b hb e => absurd e (by omega)⟩))
    | false =>
    have hem : ¬ (0 < d.frm ∧ d.frm = d.to ∧ d.pages ≠ []) := fun h => by have := hb2.2 h; cases this
    clear hrun
    refine WDO.nilS (WD.keep (WD.cond (t := false) (by simp) (by simp) fun _ => WD.skip (.inl rfl) (WD.keep (l := [(1, .ptr N 0), (2, .ptr N2 0), (3, .bool false), (4, .ptr N4 0)]) (WD.seqR ?_) (by simp))) hsub2)
    refine WDO.looks1 tyOk extOk 1 (ls := [⟨lkMove (.const (.int .i64 1)), (some 6), none⟩]) (by kernel_rfl) (by simp (disch := omega) []; exact rfl) ?_
    refine WDO.nilS (WD.seq (WD.seqR ?_))
    refine WDO.looks1 tyOk extOk 4 (ls := [⟨⟨fAddr (.tmp 1) 4⟩, (some 74), none⟩, ⟨⟨ldA ⟨ld1⟩ (.tmp 74)⟩, (some 75), none⟩, ⟨⟨lenSl (.tmp 75)⟩, (some 76), none⟩, ⟨lkMove (.const (.int .i64 0)), (some 77), none⟩]) (by kernel_rfl) (by simp (disch := omega) [gD4, d4, hln]; exact rfl) ?_
    have hdk : okD d ↔ risesP d.page m.high 1 d.pages := by
      rw [okD_iff, hm]
      exact ⟨fun h => h.2.2.2, fun h => ⟨hM, hhd, hem, h⟩⟩
    have h1i : (1 : Int) ≤ 1 := by omega
    refine WDO.nilS (WD.forR (σ := Nat × Int) (fun s => [(1, .ptr N 0), (2, .ptr N2 0), (3, .bool false), (4, .ptr N4 0), (6, .int .i64 s.2), (75, pv), (76, .int .i64 (d.pages.length : Int)), (77, .int .i64 (s.1 : Int))])
      (fun s H' => s.1 ≤ d.pages.length ∧ Keep noB Hx H' ∧ (risesP d.page m.high 1 d.pages ↔ risesP d.page m.high s.2 (d.pages.drop s.1))) (fun s => d.pages.length - s.1) (0, 1)
      ⟨by simp, Keep.refl _ _, by simp⟩ (by simp) ?_)
    rintro ⟨i, last⟩ H' ⟨hi, kx, hri⟩
    dsimp only at hi hri
    have gM' := kx.get hn4 id gM
    have gD' := kx.get (by omega) id gD4
    have hN2' := hN4.keep kx (by omega) id
    have hnx := kx.1
    have kk' := kk4.trans kx
    refine WDO.looks1 tyOk extOk 1 (ls := [⟨⟨binInt akLss (.tmp 77) (.tmp 76)⟩, (some 78), none⟩]) (by kernel_rfl) (by simp (disch := omega) []; exact rfl) ?_
    refine WDO.nil ⟨decide ((i : Int) < (d.pages.length : Int)), _, rfl, by simp, fun hc => ?_, fun hc => ?_⟩
    · have hc : i = d.pages.length := by have := of_decide_eq_false hc; omega
      subst hc
      have hyes : okD d := by rw [hdk, hri, List.drop_length]; trivial
      refine WD.seqR ?_
      refine WDO.looks1 tyOk extOk 1 (ls := [⟨⟨ldA ⟨ldN 8⟩ (.tmp 4)⟩, (some 104), none⟩]) (by kernel_rfl) (by simp (disch := omega) [gM', mc]; exact rfl) ?_
      obtain ⟨Hz, z1, z2, z3, z4⟩ := storeM m hN2'
      obtain ⟨oz, gz, _, _, _, _, _, _, _, _, rcz⟩ := z3.all
      refine WDO.heavy1 tyOk extOk (k := ⟨hvStore ⟨stN 8⟩ (.tmp 2) (.tmp 104)⟩) (by kernel_rfl) rfl (by kernel_rfl) (by simp; exact st_ob z1) ?_
      refine WDO.looks1 tyOk extOk 1 (ls := [⟨lkMove (.const (.bool true)), (some 3), none⟩]) (by kernel_rfl) (by simp (disch := omega) []; exact rfl) ?_
      exact WDO.nilS (WD.ret (endR _ (by simp [gz, rcz]; rfl) ⟨fun _ => rfl, fun h => absurd hyes h, kk'.trans' z4 fun b hb e => absurd e (by omega)⟩))
    · have hc : i < d.pages.length := by have := of_decide_eq_true hc; omega
      have hci : (i : Int) < (d.pages.length : Int) := by omega
      have hp1 : d.pages[i]? = some (d.pages[i]) := List.getElem?_eq_getElem hc
      have hdr : d.pages.drop i = d.pages[i] :: d.pages.drop (i + 1) := List.drop_eq_getElem_cons hc
      generalize d.pages[i] = pg at hp1 hdr
      obtain ⟨b, off, cap, o, u, q1, q2, q3, q4, q5, q6, q7, q8, q9⟩ := (hsay4.pages.keep0 kx).get hp1
      refine WD.seqR ?_
      refine WDO.looks1 tyOk extOk 2 (ls := [⟨⟨ixSl 2 (.tmp 75) (.tmp 77)⟩, (some 79), none⟩, ⟨⟨ldA ⟨ldN 2⟩ (.tmp 79)⟩, (some 80), none⟩]) (by kernel_rfl) (by simp (disch := omega) [q1, q2, q5, hc]; exact rfl) ?_
      refine WDO.fresh1 tyOk (k := ⟨frAlloc (.cs 67 2 2 false (.cons (.int .i64 0) (.cons .snil .nil)) .e)⟩) (by kernel_rfl) rfl (by kernel_rfl) (v := .ptr H'.next 0) (x := .cs 67 2 2 false zPv .e) ?_ ?_
      · exact rfl
      have kn' : Keep noB H' (H'.new (.cs 67 2 2 false zPv .e)) := Keep.new _ _ _
      obtain ⟨Hp, p1, p2, p3, p4⟩ := (newP H').store encPv_len ⟨pg.1, u, q9⟩ (cells_pv _)
      refine WDO.heavy1 tyOk extOk (k := ⟨hvStore ⟨stN 2⟩ (.tmp 8) (.tmp 80)⟩) (by kernel_rfl) rfl (by kernel_rfl) (by simp; exact stN_ob p1) ?_
      obtain ⟨op, gp, r0, r1, _⟩ := p3.pv
      dsimp only at r0 r1
      have kp : Keep noB H' Hp := kn'.trans' p4 fun b hb e => absurd e (by omega)
      have kkp := kk'.trans kp
      have gMp := kp.get (by omega) id gM'
      have gDp := kp.get (by omega) id gD'
      have hN2p := hN2'.keep kp (by omega) id
      have hul := q6.len
      refine WDO.nilS ?_
      simp only [putA_no, putA_some]
      refine WD.keep (l := [(1, .ptr N 0), (2, .ptr N2 0), (3, .bool false), (4, .ptr N4 0), (6, .int .i64 last), (8, .ptr H'.next 0), (75, pv), (76, .int .i64 (d.pages.length : Int)), (77, .int .i64 (i : Int))]) (WD.seq (WD.seqR ?_)) (by simp [q1])
      obtain ⟨b3, l3, hb3, hrun, hsub3⟩ : ∃ (b : Bool) (l' : List (Nat × AV)), (b = true ↔ ¬ (last < pg.1 ∧ pg.1 < m.high ∧ (pg.2.length : Int) = d.page)) ∧ runLk [⟨⟨fAddr (.tmp 8) 0⟩, (some 81), none⟩, ⟨⟨ldA ⟨ld1⟩ (.tmp 81)⟩, (some 82), none⟩, ⟨lkMove (.tmp 6), (some 83), none⟩, ⟨⟨binInt akLeq (.tmp 82) (.tmp 83)⟩, (some 84), none⟩, ⟨lkMove (.tmp 84), (some 85), none⟩, ⟨⟨fAddr (.tmp 8) 0⟩, (some 86), (some (85, false))⟩, ⟨⟨ldA ⟨ld1⟩ (.tmp 86)⟩, (some 87), (some (85, false))⟩, ⟨⟨fAddr (.tmp 4) 7⟩, (some 88), (some (85, false))⟩, ⟨⟨ldA ⟨ld1⟩ (.tmp 88)⟩, (some 89), (some (85, false))⟩, ⟨⟨binInt akGeq (.tmp 87) (.tmp 89)⟩, (some 90), (some (85, false))⟩, ⟨⟨pickA (.tmp 85) (.const (.bool true)) (.tmp 90)⟩, (some 91), none⟩, ⟨lkMove (.tmp 91), (some 92), none⟩, ⟨⟨fAddr (.tmp 8) 1⟩, (some 93), (some (92, false))⟩, ⟨⟨ldA ⟨ld1⟩ (.tmp 93)⟩, (some 94), (some (92, false))⟩, ⟨⟨lenSl (.tmp 94)⟩, (some 95), (some (92, false))⟩, ⟨⟨fAddr (.tmp 1) 1⟩, (some 96), (some (92, false))⟩, ⟨⟨ldA ⟨ld1⟩ (.tmp 96)⟩, (some 97), (some (92, false))⟩, ⟨⟨binInt akNeq (.tmp 95) (.tmp 97)⟩, (some 98), (some (92, false))⟩, ⟨⟨pickA (.tmp 92) (.const (.bool true)) (.tmp 98)⟩, (some 99), none⟩] (tl [(1, .ptr N 0), (2, .ptr N2 0), (3, .bool false), (4, .ptr N4 0), (6, .int .i64 last), (8, .ptr H'.next 0), (75, pv), (76, .int .i64 (d.pages.length : Int)), (77, .int .i64 (i : Int))]) Hp = some (tl l') ∧ lsub [(1, .ptr N 0), (2, .ptr N2 0), (3, .bool false), (4, .ptr N4 0), (6, .int .i64 last), (8, .ptr H'.next 0), (75, pv), (76, .int .i64 (d.pages.length : Int)), (77, .int .i64 (i : Int)), (99, .bool b)] l' := by
        by_cases c1 : last < pg.1
        · by_cases c2 : pg.1 < m.high
          · by_cases c3 : (pg.2.length : Int) = d.page
            · exact ⟨false, _, ⟨fun h => (by cases h), fun h => absurd ⟨c1, c2, c3⟩ h⟩, by simp (disch := omega) [gp, r0, r1, gMp, m7, gDp, d1, hul, c1, c2, c3]; exact rfl, by simp⟩
            · exact ⟨true, _, ⟨fun _ h => c3 h.2.2, fun _ => rfl⟩, by simp (disch := omega) [gp, r0, r1, gMp, m7, gDp, d1, hul, c1, c2, c3]; exact rfl, by simp⟩
          · exact ⟨true, _, ⟨fun _ h => c2 h.2.1, fun _ => rfl⟩, by simp (disch := omega) [gp, r0, gMp, m7, c1, c2]; exact rfl, by simp⟩
        · exact ⟨true, _, ⟨fun _ h => c1 h.1, fun _ => rfl⟩, by simp (disch := omega) [gp, r0, c1]; exact rfl, by simp⟩
      refine WDO.looks1 tyOk extOk 19 (ls := [⟨⟨fAddr (.tmp 8) 0⟩, (some 81), none⟩, ⟨⟨ldA ⟨ld1⟩ (.tmp 81)⟩, (some 82), none⟩, ⟨lkMove (.tmp 6), (some 83), none⟩, ⟨⟨binInt akLeq (.tmp 82) (.tmp 83)⟩, (some 84), none⟩, ⟨lkMove (.tmp 84), (some 85), none⟩, ⟨⟨fAddr (.tmp 8) 0⟩, (some 86), (some (85, false))⟩, ⟨⟨ldA ⟨ld1⟩ (.tmp 86)⟩, (some 87), (some (85, false))⟩, ⟨⟨fAddr (.tmp 4) 7⟩, (some 88), (some (85, false))⟩, ⟨⟨ldA ⟨ld1⟩ (.tmp 88)⟩, (some 89), (some (85, false))⟩, ⟨⟨binInt akGeq (.tmp 87) (.tmp 89)⟩, (some 90), (some (85, false))⟩, ⟨⟨pickA (.tmp 85) (.const (.bool true)) (.tmp 90)⟩, (some 91), none⟩, ⟨lkMove (.tmp 91), (some 92), none⟩, ⟨⟨fAddr (.tmp 8) 1⟩, (some 93), (some (92, false))⟩, ⟨⟨ldA ⟨ld1⟩ (.tmp 93)⟩, (some 94), (some (92, false))⟩, ⟨⟨lenSl (.tmp 94)⟩, (some 95), (some (92, false))⟩, ⟨⟨fAddr (.tmp 1) 1⟩, (some 96), (some (92, false))⟩, ⟨⟨ldA ⟨ld1⟩ (.tmp 96)⟩, (some 97), (some (92, false))⟩, ⟨⟨binInt akNeq (.tmp 95) (.tmp 97)⟩, (some 98), (some (92, false))⟩, ⟨⟨pickA (.tmp 92) (.const (.bool true)) (.tmp 98)⟩, (some 99), none⟩]) (by kernel_rfl) hrun ?_
      cases b3 with
      | true =>
        have hno : ¬ okD d := fun h => by
          have := hri.1 (hdk.1 h)
          rw [hdr] at this
          exact hb3.1 rfl ⟨this.1, this.2.1, this.2.2.1⟩
        refine WDO.nilS (WD.keep (WD.cond (t := true) (by simp) (fun _ => WD.seqR ?_) (by simp)) hsub3)
        refine WDO.looks1 tyOk extOk 1 (ls := [⟨⟨ldA ⟨ldN 8⟩ (.tmp 4)⟩, (some 100), none⟩]) (by kernel_rfl) (by simp (disch := omega) [gMp, mc]; exact rfl) ?_
        obtain ⟨Hz, z1, z2, z3, z4⟩ := storeM m hN2p
        obtain ⟨oz, gz, _, _, _, _, _, _, _, _, rcz⟩ := z3.all
        refine WDO.heavy1 tyOk extOk (k := ⟨hvStore ⟨stN 8⟩ (.tmp 2) (.tmp 100)⟩) (by kernel_rfl) rfl (by kernel_rfl) (by simp; exact st_ob z1) ?_
        refine WDO.looks1 tyOk extOk 1 (ls := [⟨lkMove (.const (.bool false)), (some 3), none⟩]) (by kernel_rfl) (by simp (disch := omega) []; exact rfl) ?_
        exact WDO.nilS (WD.ret (endR _ (by simp [gz, rcz]; rfl) ⟨fun hs => absurd hs hno, fun _ => ⟨m, rfl⟩, kkp.trans' z4 fun b hb e => absurd e (by omega)⟩))
      | false =>
      have hpg3 : last < pg.1 ∧ pg.1 < m.high ∧ (pg.2.length : Int) = d.page := Classical.not_not.1 fun h => by have := hb3.2 h; cases this
      clear hrun
      refine WDO.nilS (WD.keep (WD.cond (t := false) (by simp) (by simp) fun _ => WD.skip (.inl rfl) (WD.keep (l := [(1, .ptr N 0), (2, .ptr N2 0), (3, .bool false), (4, .ptr N4 0), (8, .ptr H'.next 0), (75, pv), (76, .int .i64 (d.pages.length : Int)), (77, .int .i64 (i : Int))]) (WD.region ?_) (by simp))) hsub3)
      refine WDO.looks1 tyOk extOk 3 (ls := [⟨⟨fAddr (.tmp 8) 0⟩, (some 101), none⟩, ⟨⟨ldA ⟨ld1⟩ (.tmp 101)⟩, (some 102), none⟩, ⟨lkMove (.tmp 102), (some 6), none⟩]) (by kernel_rfl) (by simp (disch := omega) [gp, r0]; exact rfl) ?_
      refine WDO.nil ?_
      refine WDO.looks1 tyOk extOk 2 (ls := [⟨⟨binInt akAdd (.tmp 77) (.const (.int .i64 1))⟩, (some 103), none⟩, ⟨lkMove (.tmp 103), (some 77), none⟩]) (by kernel_rfl) (by simp (disch := omega) []; exact rfl) ?_
      refine WDO.nil ⟨rfl, (i + 1, pg.1), _, rfl, by simp, ⟨by omega, kx.trans kp, ?_⟩, by simp only; omega⟩
      rw [hri, hdr]
      exact ⟨fun h => h.2.2.2, fun h => ⟨hpg3.1, hpg3.2.1, hpg3.2.2, h⟩⟩
  · have hu := hu2 hM
    subst hu
    have hno : ¬ okD d := fun h => hM h.1
    refine WDO.looks1 tyOk extOk 3 (ls := [⟨lkMove (.tmp 12), (some 9), none⟩, ⟨⟨exA (.tmp 9) 0⟩, (some 13), none⟩, ⟨⟨exA (.tmp 9) 1⟩, (some 14), none⟩]) (by kernel_rfl) (by simp (disch := omega) []; exact rfl) ?_
    refine WDO.fresh1 tyOk (k := ⟨frAlloc (.cs 69 8 8 false (.cons (.int .i64 0) (.cons (.int .i64 0) (.cons (.int .i64 0) (.cons (.int .i64 0) (.cons (.int .i64 0) (.cons (.int .i64 0) (.cons (.int .i64 0) (.cons (.int .i64 0) .nil)))))))) .e)⟩) (by kernel_rfl) rfl (by kernel_rfl) (v := .ptr H3.next 0) (x := .cs 69 8 8 false zMt .e) ?_ ?_
    · exact rfl
    have kn : Keep noB H3 (H3.new (.cs 69 8 8 false zMt .e)) := Keep.new _ _ _
    obtain ⟨H4, s1, s2, s3, s4⟩ := storeM zeroM (newM H3)
    refine WDO.heavy1 tyOk extOk (k := ⟨hvStore ⟨stN 8⟩ (.tmp 4) (.tmp 13)⟩) (by kernel_rfl) rfl (by kernel_rfl) (by simp; exact st_ob s1) ?_
    have kk4 : Keep noB H H4 := (kk3.trans kn).trans' s4 fun b hb e => absurd e (by omega)
    have gD4 := s4.get (by simp; omega) (by omega) (kn.get (by omega) id gD3)
    have hN4 : RdM H4 N2 zeroM := (hN3.keep kn (by omega) id).keep s4 (by simp; omega) (by omega)
    obtain ⟨oM, gM, m0, m1, m2, m3, m4, m5, m6, m7, mc⟩ := s3.all
    refine WDO.looks1 tyOk extOk 1 (ls := [⟨lkMove (.tmp 14), (some 5), none⟩]) (by kernel_rfl) (by simp (disch := omega) []; exact rfl) ?_
    refine WDO.nilS (WD.seq (WD.seqR ?_))
    refine WDO.looks1 tyOk extOk 5 (ls := [⟨lkMove (.tmp 5), (some 15), none⟩, ⟨⟨binInt akNeq (.tmp 15) (.const (.int .i64 0))⟩, (some 16), none⟩, ⟨lkMove (.tmp 16), (some 17), none⟩, ⟨⟨fAddr (.tmp 1) 1⟩, (some 18), (some (17, false))⟩, ⟨⟨ldA ⟨ld1⟩ (.tmp 18)⟩, (some 19), (some (17, false))⟩]) (by kernel_rfl) (by simp (disch := omega) []; exact rfl) ?_
    refine WDO.skipG (g := some (17, false)) (by kernel_rfl) (by simp [wantA, wantG, get_tl]) (by kernel_rfl) ?_
    refine WDO.looks1 tyOk extOk 35 (ls := [⟨lkUn ukNot (.tmp 20), (some 21), (some (17, false))⟩, ⟨⟨pickA (.tmp 17) (.const (.bool true)) (.tmp 21)⟩, (some 22), none⟩, ⟨lkMove (.tmp 22), (some 23), none⟩, ⟨⟨fAddr (.tmp 4) 0⟩, (some 24), (some (23, false))⟩, ⟨⟨ldA ⟨ld1⟩ (.tmp 24)⟩, (some 25), (some (23, false))⟩, ⟨⟨fAddr (.tmp 1) 0⟩, (some 26), (some (23, false))⟩, ⟨⟨ldA ⟨ld1⟩ (.tmp 26)⟩, (some 27), (some (23, false))⟩, ⟨⟨binInt akNeq (.tmp 25) (.tmp 27)⟩, (some 28), (some (23, false))⟩, ⟨⟨pickA (.tmp 23) (.const (.bool true)) (.tmp 28)⟩, (some 29), none⟩, ⟨lkMove (.tmp 29), (some 30), none⟩, ⟨⟨fAddr (.tmp 4) 1⟩, (some 31), (some (30, false))⟩, ⟨⟨ldA ⟨ld1⟩ (.tmp 31)⟩, (some 32), (some (30, false))⟩, ⟨⟨fAddr (.tmp 1) 1⟩, (some 33), (some (30, false))⟩, ⟨⟨ldA ⟨ld1⟩ (.tmp 33)⟩, (some 34), (some (30, false))⟩, ⟨⟨binInt akNeq (.tmp 32) (.tmp 34)⟩, (some 35), (some (30, false))⟩, ⟨⟨pickA (.tmp 30) (.const (.bool true)) (.tmp 35)⟩, (some 36), none⟩, ⟨lkMove (.tmp 36), (some 37), none⟩, ⟨⟨fAddr (.tmp 4) 2⟩, (some 38), (some (37, false))⟩, ⟨⟨ldA ⟨ld1⟩ (.tmp 38)⟩, (some 39), (some (37, false))⟩, ⟨⟨fAddr (.tmp 1) 3⟩, (some 40), (some (37, false))⟩, ⟨⟨ldA ⟨ld1⟩ (.tmp 40)⟩, (some 41), (some (37, false))⟩, ⟨⟨binInt akNeq (.tmp 39) (.tmp 41)⟩, (some 42), (some (37, false))⟩, ⟨⟨pickA (.tmp 37) (.const (.bool true)) (.tmp 42)⟩, (some 43), none⟩, ⟨lkMove (.tmp 43), (some 44), none⟩, ⟨⟨fAddr (.tmp 1) 2⟩, (some 45), (some (44, false))⟩, ⟨⟨ldA ⟨ld1⟩ (.tmp 45)⟩, (some 46), (some (44, false))⟩, ⟨⟨binInt akLss (.tmp 46) (.const (.int .i64 0))⟩, (some 47), (some (44, false))⟩, ⟨⟨pickA (.tmp 44) (.const (.bool true)) (.tmp 47)⟩, (some 48), none⟩, ⟨lkMove (.tmp 48), (some 49), none⟩, ⟨⟨fAddr (.tmp 1) 2⟩, (some 50), (some (49, false))⟩, ⟨⟨ldA ⟨ld1⟩ (.tmp 50)⟩, (some 51), (some (49, false))⟩, ⟨⟨fAddr (.tmp 1) 3⟩, (some 52), (some (49, false))⟩, ⟨⟨ldA ⟨ld1⟩ (.tmp 52)⟩, (some 53), (some (49, false))⟩, ⟨⟨binInt akGtr (.tmp 51) (.tmp 53)⟩, (some 54), (some (49, false))⟩, ⟨⟨pickA (.tmp 49) (.const (.bool true)) (.tmp 54)⟩, (some 55), none⟩]) (by kernel_rfl) (by simp (disch := omega) []; exact rfl) ?_
    refine WDO.nilS (WD.cond (t := true) (by simp) (fun _ => WD.seqR ?_) (by simp))
    refine WDO.looks1 tyOk extOk 1 (ls := [⟨⟨ldA ⟨ldN 8⟩ (.tmp 4)⟩, (some 56), none⟩]) (by kernel_rfl) (by simp (disch := omega) [gM, mc]; exact rfl) ?_
    obtain ⟨Hz, z1, z2, z3, z4⟩ := storeM zeroM hN4
    obtain ⟨oz, gz, _, _, _, _, _, _, _, _, rcz⟩ := z3.all
    refine WDO.heavy1 tyOk extOk (k := ⟨hvStore ⟨stN 8⟩ (.tmp 2) (.tmp 56)⟩) (by kernel_rfl) rfl (by kernel_rfl) (by simp; exact st_ob z1) ?_
    refine WDO.looks1 tyOk extOk 1 (ls := [⟨lkMove (.const (.bool false)), (some 3), none⟩]) (by kernel_rfl) (by simp (disch := omega) []; exact rfl) ?_
    exact WDO.nilS (WD.ret (endR _ (by simp [gz, rcz]; rfl) ⟨fun hs => absurd hs hno, fun _ => ⟨zeroM, rfl⟩, kk4.trans' z4 fun b hb e => absurd e (by omega)⟩))
end
end Go.Proofs.YtoigokkeaddceaaGreatDoor
