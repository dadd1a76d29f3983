/- A part of the proof of this seat's statement: what is particular to its program. Its conditions stand in each theorem. -/
import Derived.Test.YtcfpppleiikjhaaGreatDoorK4
import Derived.Test.YtcfpppleiikjhaaGreatDoorZ6
import Derived.Test.YtcfpppleiikjhaaGreatDoorZ7
namespace Go.Proofs.YtcfpppleiikjhaaGreatDoor
open Go.Xq
noncomputable section
@[simp] theorem natOf_two : natOf (.int .i64 2) = some 2 := rfl
@[simp] theorem natOf_three : natOf (.int .i64 3) = some 3 := rfl
@[simp] theorem natOf_five : natOf (.int .i64 5) = some 5 := rfl
@[simp] theorem natOf_six : natOf (.int .i64 6) = some 6 := rfl
theorem mkInt_i64u {n : Nat} (h : n < 18446744073709551616) : mkInt .i64 (n : Int) = some (.int .i64 (i64 n)) := by
  unfold i64
  split
  · exact mkInt_i64 (by omega) (by omega)
  · rw [mkInt_eq]
    congr 2
    show IntKind.wrap .i64 (n : Int) = _
    simp [IntKind.wrap, IntKind.bits, IntKind.signed]
    omega
def partI (l : List UInt8) (i : Nat) : IL 7 := ⟨((numsM (fldsM l)).take i ++ List.replicate (7 - min i 7) 0), by
  have : (numsM (fldsM l)).length = 7 := rfl
  simp [this]; omega⟩
theorem partI_zero (l : List UInt8) : partI l 0 = zeroIL 7 := rfl
theorem partI_all (l : List UInt8) : partI l 7 = numsIL (fldsM l) := rfl
theorem read_at (l : List UInt8) {i : Nat} (hi : i < 7) : ∃ (a w : Nat), a + w ≤ 40 ∧ 1 ≤ w ∧ w ≤ 8 ∧ setIL (partI l i) i (i64 (readL (sub l a w))) = partI l (i + 1) ∧
    partN 2 (i * 2) (avl (encIL placesL)) = some (.agg (.cons (.int .i64 (a : Int)) (.cons (.int .i64 (w : Int)) .nil))) := by
  have : i = 0 ∨ i = 1 ∨ i = 2 ∨ i = 3 ∨ i = 4 ∨ i = 5 ∨ i = 6 := by omega
  rcases this with rfl | rfl | rfl | rfl | rfl | rfl | rfl
  · exact ⟨8, 4, by omega, by omega, by omega, rfl, rfl⟩
  · exact ⟨12, 8, by omega, by omega, by omega, rfl, rfl⟩
  · exact ⟨20, 4, by omega, by omega, by omega, rfl, rfl⟩
  · exact ⟨24, 4, by omega, by omega, by omega, rfl, rfl⟩
  · exact ⟨28, 4, by omega, by omega, by omega, rfl, rfl⟩
  · exact ⟨32, 4, by omega, by omega, by omega, rfl, rfl⟩
  · exact ⟨36, 4, by omega, by omega, by omega, rfl, rfl⟩
theorem high_lt (l : List UInt8) (h : 40 ≤ l.length) : 0 ≤ (fldsM l).high ∧ (fldsM l).high < 4294967296 := by
  have := read4_lt (b := l) (at_ := 36) (by omega)
  have e : (fldsM l).high = i64 (readL (sub l 36 4)) := rfl
  rw [e, i64_small (by omega)]
  omega
theorem q51 (H : AH) (m : Mt) : ((⟨buildA (.cons (.int .i64 0) (.cons (.int .i64 0) (.cons (.int .i64 0) (.cons (.int .i64 0) (.cons (.int .i64 0) (.cons (.int .i64 0) (.cons (.int .i64 0) (.cons (.int .i64 0) .nil)))))))) ⟨fill1 (.tmp 43) 0 1 ⟨fill1 (.tmp 45) 1 1 ⟨fill1 (.tmp 47) 2 1 ⟨fill1 (.tmp 49) 3 1 ⟨fill1 (.tmp 51) 4 1 ⟨fill1 (.tmp 53) 5 1 ⟨fill1 (.tmp 55) 6 1 ⟨fill1 (.tmp 57) 7 1 flEnd⟩⟩⟩⟩⟩⟩⟩⟩⟩) : LK).f (tl [(43, .int .i64 m.engine), (45, .int .i64 m.page), (47, .int .i64 m.txn), (49, .int .i64 m.root), (51, .int .i64 m.count), (53, .int .i64 m.free), (55, .int .i64 m.listed), (57, .int .i64 m.high)]) H = some (mA m) := by
  simp
  rfl
set_option maxRecDepth 20000 in
set_option maxHeartbeats 4000000 in
theorem decode_ok {H : AH} {v : AV} {l : List UInt8} (h : RdS H v l) (hs : SlOk H v) (hl : l.length < 4611686018427387904) :
    DC Tryz.prog .normal 47 (.cons v .nil) H fun v' H2 => (saysM l → v' = .tup (.cons (mA (fldsM l)) (.cons (.int .i64 0) .nil))) ∧ (¬ saysM l → v' = .tup (.cons (mA zeroM) (.cons (.int .i64 50) .nil))) ∧ Keep noB H H2 := by
  refine DC.of_wd (re := reCell ⟨ldN 8⟩ 2 (reTmp 3 reNil)) tyOk Tryz.func47 (by kernel_rfl) rfl (by kernel_rfl) (by kernel_rfl) ?_
  rw [tl_nil, argsT_cons, argsT_nil]
  have hlen := h.len
  refine WD.seqR ?_
  refine WDO.fresh1 tyOk (k := ⟨frAlloc (.cs 75 8 8 false (.cons (.int .i64 0) (.cons (.int .i64 0) (.cons (.int .i64 0) (.cons (.int .i64 0) (.cons (.int .i64 0) (.cons (.int .i64 0) (.cons (.int .i64 0) (.cons (.int .i64 0) .nil)))))))) .e)⟩) (by kernel_rfl) rfl (by kernel_rfl) (v := .ptr H.next 0) (x := .cs 75 8 8 false zMt .e) ?_ ?_
  · exact rfl
  have hN := newM H
  have hk1 : Keep noB H (H.new (.cs 75 8 8 false zMt .e)) := Keep.new _ _ _
  have hlt : H.next < (H.new (.cs 75 8 8 false zMt .e)).next := by simp
  have hNe : H.next ≤ H.next := Nat.le_refl _
  generalize H.new (.cs 75 8 8 false zMt .e) = H1 at hN hk1 hlt ⊢
  generalize hHN : H.next = N at hN hlt hNe ⊢
  have h1 := h.keep hk1 fun _ _ => id
  refine lkD 1 [⟨lkMove (.const (.int .i64 0)), (some 3), none⟩] (by simp (disch := omega) []; exact rfl) ?_
  refine WDO.nilS (WD.seq (WD.seqR ?_))
  by_cases hA : l.length < 512 ∨ 65536 < l.length
  · have hno : ¬ saysM l := fun hs => by have := hs.1; have := hs.le; omega
    have hrun : ∃ l' : List (Nat × AV), runLk [xM 0 12, xN 12 13, xC akLss 13 512 14, xM 14 15, yM 0 16 15 false, yN 16 17 15 false, yC akGtr 17 65536 18 15 false, xP 15 18 19 true] (tl [(3, .int .i64 0), (2, .ptr N 0), (0, v)]) H1 = some (tl l') ∧ lsub [(2, .ptr N 0), (19, .bool true)] l' := by
      rcases hA with c1 | c1
      · have f1 : (l.length : Int) < 512 := by omega
        exact ⟨_, by simp (disch := omega) [hlen, f1]; exact rfl, by simp⟩
      · have f1 : ¬ (l.length : Int) < 512 := by omega
        have f2 : (65536 : Int) < (l.length : Int) := by omega
        exact ⟨_, by simp (disch := omega) [hlen, f1, f2]; exact rfl, by simp⟩
    obtain ⟨l', hrun, hsub⟩ := hrun
    refine lkD 8 [xM 0 12, xN 12 13, xC akLss 13 512 14, xM 14 15, yM 0 16 15 false, yN 16 17 15 false, yC akGtr 17 65536 18 15 false, xP 15 18 19 true] hrun ?_
    refine WDO.nilS (WD.keep (WD.cond (t := true) (by simp) (fun _ => WD.seqR ?_) (by simp)) hsub)
    refine lkD 1 [⟨⟨buildA (.cons (.int .i64 0) (.cons (.int .i64 0) (.cons (.int .i64 0) (.cons (.int .i64 0) (.cons (.int .i64 0) (.cons (.int .i64 0) (.cons (.int .i64 0) (.cons (.int .i64 0) .nil)))))))) flEnd⟩, (some 20), none⟩] (by simp (disch := omega) []; exact rfl) ?_
    obtain ⟨H2, s1, s2, s3, s4⟩ := storeM zeroM hN
    obtain ⟨o2, g2, _, _, _, _, _, _, _, _, rc2⟩ := s3.all
    refine WDO.heavy1 tyOk extOk (k := ⟨hvStore ⟨stN 8⟩ (.tmp 2) (.tmp 20)⟩) (by kernel_rfl) rfl (by kernel_rfl) (by simp; exact st_ob s1) ?_
    refine lkD 1 [⟨lkMove (.const (.int .i64 50)), (some 3), none⟩] (by simp (disch := omega) []; exact rfl) ?_
    refine WDO.nilS (WD.ret (endR _ (by simp [g2, rc2]; rfl) ⟨fun hs => absurd hs hno, fun _ => rfl, hk1.trans' s4 fun b hb e => absurd e (by omega)⟩))
  · have f1 : ¬ (l.length : Int) < 512 := by omega
    have f2 : ¬ (65536 : Int) < (l.length : Int) := by omega
    refine lkD 8 [xM 0 12, xN 12 13, xC akLss 13 512 14, xM 14 15, yM 0 16 15 false, yN 16 17 15 false, yC akGtr 17 65536 18 15 false, xP 15 18 19 true] (by simp (disch := omega) [hlen, f1, f2]; exact rfl) ?_
    refine WDO.nilS (WD.cond (t := false) (by simp) (by simp) fun _ => WD.skip (.inl rfl) (WD.seqR ?_))
    refine WDO.fresh1 tyOk (k := ⟨frAlloc (.cs 143 7 7 false (.cons (.int .i64 0) (.cons (.int .i64 0) (.cons (.int .i64 0) (.cons (.int .i64 0) (.cons (.int .i64 0) (.cons (.int .i64 0) (.cons (.int .i64 0) .nil))))))) .e)⟩) (by kernel_rfl) rfl (by kernel_rfl) (v := .ptr H1.next 0) (x := .cs 143 7 7 false (zIL 7) .e) ?_ ?_
    · exact rfl
    have h0 : RdIL 143 7 (H1.new (.cs 143 7 7 false (zIL 7) .e)) H1.next (zeroIL 7) := newIL 143 7 H1
    have k2 : Keep noB H1 (H1.new (.cs 143 7 7 false (zIL 7) .e)) := Keep.new _ _ _
    have hN2 := hN.keep k2 hlt id
    have hM2 : H1.next < (H1.new (.cs 143 7 7 false (zIL 7) .e)).next := by simp
    have kk2 := hk1.trans k2
    have hNM : N < H1.next := hlt
    generalize H1.new (.cs 143 7 7 false (zIL 7) .e) = H2 at h0 k2 hN2 hM2 kk2 ⊢
    generalize H1.next = M at h0 hM2 hNM ⊢
    refine WDO.nilS (WD.seq (WD.seqR ?_))
    refine WDO.callF (g := 80) rfl rfl rfl (by kernel_rfl) (l := .nil) (by simp) places_ok fun u H3 ⟨hu, k3⟩ => ?_
    subst hu
    have hN3 := hN2.keep k3 (by omega) id
    have hM3 := h0.keep k3 hM2 id
    have kk3 := kk2.trans k3
    have hn3 := k3.1
    refine lkD 1 [⟨lkMove (.const (.int .i64 0)), (some 22), none⟩] (by simp (disch := omega) []; exact rfl) ?_
    refine WDO.nilS (WD.forR (σ := Nat) (fun i => [(0, v), (2, .ptr N 0), (3, .int .i64 0), (4, .ptr M 0), (21, .agg (avl (encIL placesL))), (22, .int .i64 (i : Int))])
      (fun i H' => i ≤ 7 ∧ RdIL 143 7 H' M (partI l i) ∧ RdM H' N zeroM ∧ H3.next ≤ H'.next ∧ Keep noB H H') (fun i => 7 - i) 0
      ⟨by omega, by rw [partI_zero]; exact hM3, hN3, Nat.le_refl _, kk3⟩ (by simp) ?_)
    rintro i H' ⟨hi, hM, hN', hnx, kk'⟩
    have hv' := h.keep kk' fun _ _ => id
    have hs' := hs.keep h (by intro e; subst e; simp at hA) kk' fun _ _ => id
    refine lkD 1 [xC akLss 22 7 23] (by simp (disch := omega) []; exact rfl) ?_
    refine WDO.nil ⟨decide ((i : Int) < 7), _, rfl, by simp, fun hc => ?_, fun hc => ?_⟩
    · have hc : i = 7 := by have := of_decide_eq_false hc; omega
      subst hc
      rw [partI_all] at hM
      refine WD.seq ?_
      have hhi := high_lt l (by omega)
      have hsay : saysM l ↔ okM (fldsM l) ∧ encM (fldsM l) = l := ⟨fun h => h.2, fun h => ⟨by omega, h⟩⟩
      have hfe : (fldsM l).engine = ((l[1]?.getD 0).toNat : Int) := rfl
      generalize fldsM l = m at hM hhi hsay hfe ⊢
      obtain ⟨oM, gM, rM, _⟩ := hM.get
      have m0 := rM 0 _ rfl
      have m1 := rM 1 _ rfl
      have m2 := rM 2 _ rfl
      have m3 := rM 3 _ rfl
      have m4 := rM 4 _ rfl
      have m5 := rM 5 _ rfl
      have m6 := rM 6 _ rfl
      have hx1 : l[1]? = some (l[1]'(by omega)) := List.getElem?_eq_getElem _
      generalize l[1]'_ = x1 at hx1
      rw [hx1, Option.getD_some] at hfe
      obtain ⟨b, off, cap, o', hv, hb', ho, hby⟩ := hv'.pos (by omega)
      have hrd1 := hby _ _ hx1
      have f3 : 1 < l.length := by omega
      have hx1l := x1.toNat_lt
      have gc : mkInt .i64 (x1.toNat : Int) = some (.int .i64 m.engine) := by rw [hfe]; exact mkInt_i64 (by omega) (by omega)
      rw [hv]
      obtain ⟨R, hR, hRc⟩ := specR_ex Tryz.prog (fun _ _ _ _ _ => False)
      refine WD.drawnK tyOk extOk (by kernel_rfl) (ls := [zM 0 40 0 1, ⟨[40], .look (⟨ixSl 1 (.tmp 40) (.const (.int .i64 1))⟩), (some 41), none, 0, 1, true, false⟩, zL 41 42 0 1, ⟨[42], .look (⟨cvInt .i64 (.tmp 42)⟩), (some 43), none, 0, 1, false, false⟩, ⟨[4], .look (⟨ixArr 7 1 (.tmp 4) (.const (.int .i64 0))⟩), (some 44), none, 0, 1, true, false⟩, zL 44 45 0 1, ⟨[4], .look (⟨ixArr 7 1 (.tmp 4) (.const (.int .i64 1))⟩), (some 46), none, 0, 1, true, false⟩, zL 46 47 0 1, ⟨[4], .look (⟨ixArr 7 1 (.tmp 4) (.const (.int .i64 2))⟩), (some 48), none, 0, 1, true, false⟩, zL 48 49 0 1, ⟨[4], .look (⟨ixArr 7 1 (.tmp 4) (.const (.int .i64 3))⟩), (some 50), none, 0, 1, true, false⟩, zL 50 51 0 1, ⟨[4], .look (⟨ixArr 7 1 (.tmp 4) (.const (.int .i64 4))⟩), (some 52), none, 0, 1, true, false⟩, zL 52 53 0 1, ⟨[4], .look (⟨ixArr 7 1 (.tmp 4) (.const (.int .i64 5))⟩), (some 54), none, 0, 1, true, false⟩, zL 54 55 0 1, ⟨[4], .look (⟨ixArr 7 1 (.tmp 4) (.const (.int .i64 6))⟩), (some 56), none, 0, 1, true, false⟩, zL 56 57 0 1, ⟨[43, 45, 47, 49, 51, 53, 55, 57], .look (⟨buildA (.cons (.int .i64 0) (.cons (.int .i64 0) (.cons (.int .i64 0) (.cons (.int .i64 0) (.cons (.int .i64 0) (.cons (.int .i64 0) (.cons (.int .i64 0) (.cons (.int .i64 0) .nil)))))))) ⟨fill1 (.tmp 43) 0 1 ⟨fill1 (.tmp 45) 1 1 ⟨fill1 (.tmp 47) 2 1 ⟨fill1 (.tmp 49) 3 1 ⟨fill1 (.tmp 51) 4 1 ⟨fill1 (.tmp 53) 5 1 ⟨fill1 (.tmp 55) 6 1 ⟨fill1 (.tmp 57) 7 1 flEnd⟩⟩⟩⟩⟩⟩⟩⟩⟩), (some 58), none, 0, 1, true, false⟩, ⟨[], .fresh ⟨frAlloc (.cs 75 8 8 false (.cons (.int .i64 0) (.cons (.int .i64 0) (.cons (.int .i64 0) (.cons (.int .i64 0) (.cons (.int .i64 0) (.cons (.int .i64 0) (.cons (.int .i64 0) (.cons (.int .i64 0) .nil)))))))) .e)⟩, (some 9), none, 0, 1, false, false⟩, ⟨[9, 58], .heavy ⟨hvStore ⟨stN 8⟩ (.tmp 9) (.tmp 58)⟩, none, none, 0, 2, false, true⟩]) (by kernel_rfl) hR fun K hK => ?_
      iterate 2 (refine diLookP (by simp [-resL_cons, resL_cc]; exact rfl) (by simp (disch := omega) []; exact rfl) ?_)
      iterate 2 (refine diLookC (by simp [-resL_cons, resL_cc]; exact rfl) (by simp (disch := omega) [ho, hrd1, gc]; exact rfl) ?_)
      refine diLookP (by simp [-resL_cons, resL_cc]; exact rfl) (by simp (disch := omega) []; exact rfl) ?_
      refine diLookC (by simp [-resL_cons, resL_cc]; exact rfl) (by simp (disch := omega) [gM, m0]; exact rfl) ?_
      refine diLookP (by simp [-resL_cons, resL_cc]; exact rfl) (by simp (disch := omega) []; exact rfl) ?_
      refine diLookC (by simp [-resL_cons, resL_cc]; exact rfl) (by simp (disch := omega) [gM, m1]; exact rfl) ?_
      refine diLookP (by simp [-resL_cons, resL_cc]; exact rfl) (by simp (disch := omega) []; exact rfl) ?_
      refine diLookC (by simp [-resL_cons, resL_cc]; exact rfl) (by simp (disch := omega) [gM, m2]; exact rfl) ?_
      refine diLookP (by simp [-resL_cons, resL_cc]; exact rfl) (by simp (disch := omega) []; exact rfl) ?_
      refine diLookC (by simp [-resL_cons, resL_cc]; exact rfl) (by simp (disch := omega) [gM, m3]; exact rfl) ?_
      refine diLookP (by simp [-resL_cons, resL_cc]; exact rfl) (by simp (disch := omega) []; exact rfl) ?_
      refine diLookC (by simp [-resL_cons, resL_cc]; exact rfl) (by simp (disch := omega) [gM, m4]; exact rfl) ?_
      refine diLookP (by simp [-resL_cons, resL_cc]; exact rfl) (by simp (disch := omega) []; exact rfl) ?_
      refine diLookC (by simp [-resL_cons, resL_cc]; exact rfl) (by simp (disch := omega) [gM, m5]; exact rfl) ?_
      refine diLookP (by simp [-resL_cons, resL_cc]; exact rfl) (by simp (disch := omega) []; exact rfl) ?_
      refine diLookC (by simp [-resL_cons, resL_cc]; exact rfl) (by simp (disch := omega) [gM, m6]; exact rfl) ?_
      refine diLookP (by simp [-resL_cons, resL_cc]) (q51 _ m) ?_
      refine diFresh rfl (o := .cs 75 8 8 false zMt .e) (v := .ptr H'.next 0) rfl ?_
      obtain ⟨H3', s1, s2, s3, s4⟩ := storeM m (newM H')
      have kn : Keep noB H' (H'.new (.cs 75 8 8 false zMt .e)) := Keep.new _ _ _
      refine diHeavy (by simp [-resL_cons, resL_cc]; exact rfl) (v := undefA) (H2 := H3') (by simp; exact st_ob s1) (by omega) ?_
      have ho2 := kn.get hb' id ho
      have gM2 := kn.get (by omega) id gM
      simp only [diRun_nil, putA_none, List.reverse_cons, List.reverse_nil, List.nil_append, List.cons_append, chkAdd_f, chkBlk_f, atAll_s, atAll_z, and_true, true_and]
      refine ⟨⟨by simp (disch := omega) [ho2, hrd1, gM2, m0, m1, m2, m3, m4, m5, m6, gc], trivial, get_new_same _ _⟩, hK _ _ (WD.keep (l := [(0, .sl b off l.length cap), (2, .ptr N 0), (3, .int .i64 0), (9, .ptr H'.next 0)]) (WD.seq (WD.seqR ?_)) (by simp))⟩
      clear hK hRc hR
      have hv3 := h.keep ((kk'.trans kn).trans' s4 fun b hb e => absurd e (by omega) : Keep noB H H3') fun _ _ => id
      have kk3' : Keep noB H H3' := (kk'.trans kn).trans' s4 fun b hb e => absurd e (by omega)
      have hN3' : RdM H3' N zeroM := (hN'.keep kn (by omega) id).keep s4 (by simp; omega) (by omega)
      have hn4 : H'.next < H3'.next := by rw [s2]; simp
      rw [hv] at hv3
      generalize H'.next = N9 at s3 hn4 hnx ⊢
      obtain ⟨o4, g4, _, _, _, _, _, _, _, _, rc4⟩ := s3.all
      refine lkD 1 [⟨⟨ldA ⟨ldN 8⟩ (.tmp 9)⟩, (some 60), none⟩] (by simp (disch := omega) [g4, rc4]; exact rfl) ?_
      refine WDO.callF (g := 82) rfl rfl rfl (by kernel_rfl) (l := .cons (mA m) .nil) (by simp [mA]) (encode_ok (m := m) (by omega) (by omega)) fun u H5 ⟨e1, e2, k5⟩ => ?_
      have h5 := hv3.keep k5 fun _ _ => id
      have hs2 := h5.str
      simp only [onSl_sl] at hs2
      have hN5 := hN3'.keep k5 (by omega) id
      have hM5 := s3.keep k5 hn4 id
      have kk5 := kk3'.trans k5
      have hn5 := k5.1
      obtain ⟨o5, g5, _, _, _, _, _, _, _, _, rc5⟩ := hM5.all
      by_cases hok : okM m
      · obtain ⟨B, hu, hB1, hB2, hown⟩ := e1 hok
        subst hu
        have hs1 := (RdS.bb' (n := (encM m).length) (cap := some (encM m).length) rfl hB2 hown).str
        simp only [onSl_sl] at hs1
        refine lkD 5 [xM 61 59, ⟨⟨exA (.tmp 59) 0⟩, (some 62), none⟩, ⟨⟨exA (.tmp 59) 1⟩, (some 63), none⟩, xM 62 10, xM 63 11] (by simp (disch := omega) []; exact rfl) ?_
        refine WDO.nilS (WD.seqR ?_)
        by_cases hE : encM m = l
        · have hyes : saysM l := hsay.2 ⟨hok, hE⟩
          rw [hE] at hs1
          refine lkD 9 [xM 11 64, xC akNeq 64 0 65, xM 65 66, yM 10 67 66 false, ⟨⟨cvStr (.tmp 67)⟩, (some 68), (some (66, false))⟩, yM 0 69 66 false, ⟨⟨cvStr (.tmp 69)⟩, (some 70), (some (66, false))⟩, ⟨⟨binStr skNeq (.tmp 68) (.tmp 70)⟩, (some 71), (some (66, false))⟩, xP 66 71 72 true] (by simp (disch := omega) [hs1, hs2, hE]; exact rfl) ?_
          refine WDO.nilS (WD.cond (t := false) (by simp) (by simp) fun _ => WD.skip (.inl rfl) (WD.seqR ?_))
          refine lkD 1 [⟨⟨ldA ⟨ldN 8⟩ (.tmp 9)⟩, (some 74), none⟩] (by simp (disch := omega) [g5, rc5]; exact rfl) ?_
          obtain ⟨Hz, z1, z2, z3, z4⟩ := storeM m hN5
          obtain ⟨oz, gz, _, _, _, _, _, _, _, _, rcz⟩ := z3.all
          refine WDO.heavy1 tyOk extOk (k := ⟨hvStore ⟨stN 8⟩ (.tmp 2) (.tmp 74)⟩) (by kernel_rfl) rfl (by kernel_rfl) (by simp; exact st_ob z1) ?_
          refine lkD 1 [⟨lkMove (.const (.int .i64 0)), (some 3), none⟩] (by simp (disch := omega) []; exact rfl) ?_
          exact WDO.nilS (WD.ret (endR _ (by simp [gz, rcz]; rfl) ⟨fun _ => rfl, fun hs => absurd hyes hs, kk5.trans' z4 fun b hb e => absurd e (by omega)⟩))
        · have hno : ¬ saysM l := fun hs => hE (hsay.1 hs).2
          refine lkD 9 [xM 11 64, xC akNeq 64 0 65, xM 65 66, yM 10 67 66 false, ⟨⟨cvStr (.tmp 67)⟩, (some 68), (some (66, false))⟩, yM 0 69 66 false, ⟨⟨cvStr (.tmp 69)⟩, (some 70), (some (66, false))⟩, ⟨⟨binStr skNeq (.tmp 68) (.tmp 70)⟩, (some 71), (some (66, false))⟩, xP 66 71 72 true] (by simp (disch := omega) [hs1, hs2, hE]; exact rfl) ?_
          refine WDO.nilS (WD.cond (t := true) (by simp) (fun _ => WD.seqR ?_) (by simp))
          refine lkD 1 [⟨⟨buildA (.cons (.int .i64 0) (.cons (.int .i64 0) (.cons (.int .i64 0) (.cons (.int .i64 0) (.cons (.int .i64 0) (.cons (.int .i64 0) (.cons (.int .i64 0) (.cons (.int .i64 0) .nil)))))))) flEnd⟩, (some 73), none⟩] (by simp (disch := omega) []; exact rfl) ?_
          obtain ⟨Hz, z1, z2, z3, z4⟩ := storeM zeroM hN5
          obtain ⟨oz, gz, _, _, _, _, _, _, _, _, rcz⟩ := z3.all
          refine WDO.heavy1 tyOk extOk (k := ⟨hvStore ⟨stN 8⟩ (.tmp 2) (.tmp 73)⟩) (by kernel_rfl) rfl (by kernel_rfl) (by simp; exact st_ob z1) ?_
          refine lkD 1 [⟨lkMove (.const (.int .i64 50)), (some 3), none⟩] (by simp (disch := omega) []; exact rfl) ?_
          exact WDO.nilS (WD.ret (endR _ (by simp [gz, rcz]; rfl) ⟨fun hs => absurd hs hno, fun _ => rfl, kk5.trans' z4 fun b hb e => absurd e (by omega)⟩))
      · have hu := e2 hok
        subst hu
        have hno : ¬ saysM l := fun hs => hok (hsay.1 hs).1
        refine lkD 5 [xM 61 59, ⟨⟨exA (.tmp 59) 0⟩, (some 62), none⟩, ⟨⟨exA (.tmp 59) 1⟩, (some 63), none⟩, xM 62 10, xM 63 11] (by simp (disch := omega) []; exact rfl) ?_
        refine WDO.nilS (WD.seqR ?_)
        refine lkD 9 [xM 11 64, xC akNeq 64 0 65, xM 65 66, yM 10 67 66 false, ⟨⟨cvStr (.tmp 67)⟩, (some 68), (some (66, false))⟩, yM 0 69 66 false, ⟨⟨cvStr (.tmp 69)⟩, (some 70), (some (66, false))⟩, ⟨⟨binStr skNeq (.tmp 68) (.tmp 70)⟩, (some 71), (some (66, false))⟩, xP 66 71 72 true] (by simp (disch := omega) []; exact rfl) ?_
        refine WDO.nilS (WD.cond (t := true) (by simp) (fun _ => WD.seqR ?_) (by simp))
        refine lkD 1 [⟨⟨buildA (.cons (.int .i64 0) (.cons (.int .i64 0) (.cons (.int .i64 0) (.cons (.int .i64 0) (.cons (.int .i64 0) (.cons (.int .i64 0) (.cons (.int .i64 0) (.cons (.int .i64 0) .nil)))))))) flEnd⟩, (some 73), none⟩] (by simp (disch := omega) []; exact rfl) ?_
        obtain ⟨Hz, z1, z2, z3, z4⟩ := storeM zeroM hN5
        obtain ⟨oz, gz, _, _, _, _, _, _, _, _, rcz⟩ := z3.all
        refine WDO.heavy1 tyOk extOk (k := ⟨hvStore ⟨stN 8⟩ (.tmp 2) (.tmp 73)⟩) (by kernel_rfl) rfl (by kernel_rfl) (by simp; exact st_ob z1) ?_
        refine lkD 1 [⟨lkMove (.const (.int .i64 50)), (some 3), none⟩] (by simp (disch := omega) []; exact rfl) ?_
        exact WDO.nilS (WD.ret (endR _ (by simp [gz, rcz]; rfl) ⟨fun hs => absurd hs hno, fun _ => rfl, kk5.trans' z4 fun b hb e => absurd e (by omega)⟩))
    · have hc : i < 7 := by have := of_decide_eq_true hc; omega
      obtain ⟨a, w, q2, q3, q4, q5, q7⟩ := read_at l hc
      refine WD.seqR ?_
      refine lkD 2 [xM 22 24, ⟨⟨ixAgg 7 2 ⟨partN 2⟩ (.tmp 21) (.tmp 22)⟩, (some 25), none⟩] (by simp (disch := omega) [q7]; exact rfl) ?_
      refine WDO.fresh1 tyOk (k := ⟨frAlloc (.cs 145 2 2 false (.cons (.int .i64 0) (.cons (.int .i64 0) .nil)) .e)⟩) (by kernel_rfl) rfl (by kernel_rfl) (v := .ptr H'.next 0) (x := .cs 145 2 2 false (zIL 2) .e) ?_ ?_
      · exact rfl
      have h0 : RdIL 145 2 (H'.new (.cs 145 2 2 false (zIL 2) .e)) H'.next (zeroIL 2) := newIL 145 2 H'
      have k1 : Keep noB H' (H'.new (.cs 145 2 2 false (zIL 2) .e)) := Keep.new _ _ _
      obtain ⟨Hb, s1, s2, s3, s4⟩ := storeIL ⟨[(a : Int), (w : Int)], rfl⟩ h0
      have hv1 := hv'.keep k1 fun _ _ => id
      refine lkD 1 [xM 24 5] (by simp (disch := omega) []; exact rfl) ?_
      refine WDO.heavy1 tyOk extOk (k := ⟨hvStore ⟨stN 2⟩ (.tmp 6) (.tmp 25)⟩) (by kernel_rfl) rfl (by kernel_rfl) (by simp; exact st_ob s1) ?_
      have kb : Keep noB H' Hb := k1.trans' s4 fun b hb e => absurd e (by omega)
      have hvb := hv'.keep kb fun _ _ => id
      have hsb := hs'.keep hv' (by intro e; subst e; simp at hA) kb fun _ _ => id
      have hMb := hM.keep kb (by omega) id
      have hNb := hN'.keep kb (by omega) id
      have hnb := kb.1
      obtain ⟨o8, g8, r8, _⟩ := s3.get
      have ra := r8 0 _ rfl
      have rw' := r8 1 _ rfl
      refine WDO.nilS (WD.seqR ?_)
      refine lkD 5 [xM 0 27, xF 6 0 28, xL 28 29, xF 6 1 30, xL 30 31] (by simp (disch := omega) [g8, ra, rw']; exact rfl) ?_
      refine WDO.callF (g := 81) rfl rfl rfl (by kernel_rfl) (l := .cons v (.cons (.int .i64 (a : Int)) (.cons (.int .i64 (w : Int)) .nil))) (by simp) (readFixed_ok hvb hsb (by omega) q3 q4 (by omega) (by omega)) fun u Hc ⟨hu, hHc⟩ => ?_
      subst hu
      subst hHc
      have hrl : readL (sub l a w) < 18446744073709551616 := by
        have h1 := readL_lt w (sub l a w) (sub_len (by omega))
        have h2 : 256 ^ w ≤ 256 ^ 8 := Nat.pow_le_pow_right (by omega) q4
        omega
      refine lkD 5 [xM 32 26, ⟨⟨exA (.tmp 26) 0⟩, (some 33), none⟩, ⟨⟨exA (.tmp 26) 1⟩, (some 34), none⟩, xM 33 7, xM 34 8] (by simp (disch := omega) []; exact rfl) ?_
      refine WDO.nilS (WD.region ?_)
      have cv := mkInt_i64u hrl
      refine lkD 4 [xM 5 35, xM 7 36, ⟨⟨cvInt .i64 (.tmp 36)⟩, (some 37), none⟩, ⟨⟨ixArr 7 1 (.tmp 4) (.tmp 35)⟩, (some 38), none⟩] (by simp (disch := omega) [cv]; exact rfl) ?_
      obtain ⟨Hd, t1, t2, t3, t4⟩ := store1IL (i64 (readL (sub l a w))) hMb hc
      rw [q5] at t3
      refine WDO.heavy1 tyOk extOk (k := ⟨hvStore ⟨st1'⟩ (.tmp 38) (.tmp 37)⟩) (by kernel_rfl) rfl (by kernel_rfl) (by simp [t1]; exact ⟨rfl, rfl⟩) ?_
      refine WDO.nil ?_
      refine lkD 2 [xC akAdd 22 1 39, xM 39 22] (by simp (disch := omega) []; exact rfl) ?_
      exact WDO.nil ⟨rfl, i + 1, _, rfl, by simp, ⟨by omega, t3, hNb.keep t4 (by omega) (by omega), by omega, (kk'.trans kb).trans' t4 fun b hb e => absurd e (by omega)⟩, by omega⟩
end
end Go.Proofs.YtcfpppleiikjhaaGreatDoor
namespace Go.Proofs.YtcfpppleiikjhaaGreatDoor
open Go.Xq
noncomputable section
def headOk (m : Mt) (d : Dl) : Prop := isPgI d.page = true ∧ m.engine = d.engine ∧ m.page = d.page ∧ m.txn = d.to ∧ 0 ≤ d.frm ∧ d.frm ≤ d.to
structure DlAt (H : AH) (d : Dl) (pv mv : AV) (cs : List (Int × AV)) : Prop where
  pages : SaysP H pv cs d.pages
  meta_ : RdS H mv d.meta_
  cut : d.meta_ ≠ [] → SlOk H mv
theorem decodeE_ok {H : AH} {v : AV} {l : List UInt8} (h : RdS H v l) (hs : l ≠ [] → SlOk H v) (hl : l.length < 4611686018427387904) :
    DC Tryz.prog .normal 47 (.cons v .nil) H fun v' H2 => (saysM l → v' = .tup (.cons (mA (fldsM l)) (.cons (.int .i64 0) .nil))) ∧ (¬ saysM l → v' = .tup (.cons (mA zeroM) (.cons (.int .i64 50) .nil))) ∧ Keep noB H H2 := by
  by_cases hn : l = []
  · subst hn
    have hv : (v = .snil) ∨ ∃ b off cap, v = .sl b off 0 cap := by
      rcases h with ⟨e, _⟩ | ⟨b, off, cap, e, _⟩
      · exact .inl e
      · exact .inr ⟨b, off, cap, e⟩
    have hno : ¬ saysM [] := fun hs => by have := hs.1; simp at this
    refine DC.of_wd (re := reCell ⟨ldN 8⟩ 2 (reTmp 3 reNil)) tyOk Tryz.func47 (by kernel_rfl) rfl (by kernel_rfl) (by kernel_rfl) ?_
    rw [tl_nil, argsT_cons, argsT_nil]
    have hlen := h.len
    refine WD.seqR ?_
    refine WDO.fresh1 tyOk (k := ⟨frAlloc (.cs 75 8 8 false (.cons (.int .i64 0) (.cons (.int .i64 0) (.cons (.int .i64 0) (.cons (.int .i64 0) (.cons (.int .i64 0) (.cons (.int .i64 0) (.cons (.int .i64 0) (.cons (.int .i64 0) .nil)))))))) .e)⟩) (by kernel_rfl) rfl (by kernel_rfl) (v := .ptr H.next 0) (x := .cs 75 8 8 false zMt .e) ?_ ?_
    · exact rfl
    have hN := newM H
    have hk1 : Keep noB H (H.new (.cs 75 8 8 false zMt .e)) := Keep.new _ _ _
    refine lkD 1 [⟨lkMove (.const (.int .i64 0)), (some 3), none⟩] (by simp (disch := omega) []; exact rfl) ?_
    refine WDO.nilS (WD.seq (WD.seqR ?_))
    refine lkD 8 [xM 0 12, xN 12 13, xC akLss 13 512 14, xM 14 15, yM 0 16 15 false, yN 16 17 15 false, yC akGtr 17 65536 18 15 false, xP 15 18 19 true] (by simp (disch := omega) [hlen]; exact rfl) ?_
    refine WDO.nilS (WD.cond (t := true) (by simp) (fun _ => WD.seqR ?_) (by simp))
    refine lkD 1 [⟨⟨buildA (.cons (.int .i64 0) (.cons (.int .i64 0) (.cons (.int .i64 0) (.cons (.int .i64 0) (.cons (.int .i64 0) (.cons (.int .i64 0) (.cons (.int .i64 0) (.cons (.int .i64 0) .nil)))))))) flEnd⟩, (some 20), none⟩] (by simp (disch := omega) []; exact rfl) ?_
    obtain ⟨H2, s1, s2, s3, s4⟩ := storeM zeroM hN
    obtain ⟨o2, g2, _, _, _, _, _, _, _, _, rc2⟩ := s3.all
    refine WDO.heavy1 tyOk extOk (k := ⟨hvStore ⟨stN 8⟩ (.tmp 2) (.tmp 20)⟩) (by kernel_rfl) rfl (by kernel_rfl) (by simp; exact st_ob s1) ?_
    refine lkD 1 [⟨lkMove (.const (.int .i64 50)), (some 3), none⟩] (by simp (disch := omega) []; exact rfl) ?_
    refine WDO.nilS (WD.ret (endR _ (by simp [g2, rc2]; rfl) ⟨fun hs => absurd hs hno, fun _ => rfl, hk1.trans' s4 fun b hb e => absurd e (by omega)⟩))
  · exact decode_ok h (hs hn) hl
end
end Go.Proofs.YtcfpppleiikjhaaGreatDoor
namespace Go.Proofs.YtcfpppleiikjhaaGreatDoor
open Go.Xq
noncomputable section
theorem ownB_own {H : AH} {lo hi lo2 : Nat} {v : AV} {l : List UInt8} (h : OwnB 5 H lo v l) (hn : H.next ≤ hi) (hl : lo2 ≤ lo) : Own H lo2 hi v l := by
  rcases h with h | ⟨b, h1, h2, h3, h4, h5⟩
  · exact .inl h
  · exact .inr (.inr ⟨b, h1, h2, by omega, by omega, h5⟩)
abbrev SlBox (H : AH) (b : Nat) (v : AV) : Prop := Bx enc1 22 1 z1 H b v
theorem sub_drop (l : List UInt8) (w : Nat) : sub l w (l.length - w) = l.drop w := by
  unfold sub
  rw [List.take_of_length_le (by simp)]
@[simp] theorem eqSl_nn (H : AH) : eqSl H .snil .snil = some true := rfl
@[simp] theorem eqSl_sn (H : AH) (b o n : Nat) (c : Option Nat) : eqSl H (.sl b o n c) .snil = some false := rfl
def OwnZ (H : AH) (lo : Nat) (v : AV) (l : List UInt8) : Prop := OwnB 5 H lo v l ∨ (∃ b, v = .sl b 0 0 (some 0) ∧ lo ≤ b ∧ b < H.next ∧ l = [])
end
end Go.Proofs.YtcfpppleiikjhaaGreatDoor
