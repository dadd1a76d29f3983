/- A part of the proof of this seat's statement. Conditions: in each theorem. -/
import Derived.Test.YtfgipbjaapkdlaaGreatDoorL8
namespace Go.Proofs.YtfgipbjaapkdlaaGreatDoor
open Go.Xq
noncomputable section
theorem mkZero27 (m : Nat) : mkZero E 27 m = some (.cs 27 4 (m * 4) false zIv .e) := by kernel_rfl
set_option maxHeartbeats 2000000 in
theorem LentItems_ok : ∀ (z : Nat) {l : Its} {H : AH} {N : Nat} {v : AV}, l.size ≤ z → SaysI H N v l → N ≤ H.next → l.size < 1073741824 →
  DC Tryz.prog .normal 87 (.cons v .nil) H fun v' H2 => ∃ lo, H.next ≤ lo ∧ LentS H2 lo H2.next v' l ∧ Keep noB H H2
 | z, l, H, N, v, hz, hv, hN, hsz => by
  refine DC.of_wd (re := reTmp 2 reNil) tyOk Tryz.func87 (by kernel_rfl) rfl (by kernel_rfl) (by kernel_rfl) ?_
  rw [tl_nil, argsT_cons, argsT_nil]
  have hlen := hv.len
  have hls := l.len_le
  refine WD.seqR ?_
  refine leD 1 [⟨lkMove (.const (.slice none 0 0)), (some 2), none⟩] ?_
  refine WDO.nilS (WD.seqR ?_)
  refine lkD 3 [xM 0 7, xN 7 8, xM 8 3] (by simp (disch := omega) [hlen]; exact rfl) ?_
  refine WDO.nilS (WD.seqR ?_)
  have gm : (l.len : Int) + 3 = ((l.len + 3 : Nat) : Int) := by omega
  generalize hm : l.len + 3 = m at gm
  refine lkD 2 [xM 3 9, xC akAdd 9 3 10] (by simp (disch := omega) [gm]; exact rfl) ?_
  refine WDO.fresh1 tyOk (k := ⟨frMake E 27 56 (.tmp 10) (.tmp 10)⟩) (by kernel_rfl) rfl (by kernel_rfl) (v := .sl H.next 0 m (some m)) (x := .cs 27 4 (m * 4) false zIv .e) ?_ ?_
  ·dsimp only
   refine frMake_cs (E := E) (e := 27) (bytes := 56) (l := .tmp 10) (c := .tmp 10) (n := m) (m := m) (mkZero27 _) ?_ ?_ (Nat.le_refl _) (by omega) (by omega)
   ·simp
   ·simp
  have kb : Keep noB H (H.new (.cs 27 4 (m * 4) false zIv .e)) := Keep.new _ _ _
  have hA0 := Ax.new (e := 27) (z := zIv) encI_len (a := zeroIv) rfl H m
  have nb : H.next < (H.new (.cs 27 4 (m * 4) false zIv .e)).next := by simp
  have hP0 := LentP.zero (H := H.new (.cs 27 4 (m * 4) false zIv .e)) (l := l) (b0 := H.next) (cs := List.replicate m zeroIv) (by simp; omega) nb
  generalize H.new (.cs 27 4 (m * 4) false zIv .e) = H1 at *
  generalize hb0 : H.next = b0 at *
  refine leD 1 [xM 11 4] ?_
  refine WDO.nilS (WD.seq (WD.seqR ?_))
  refine leD 1 [xK 0 5] ?_
  refine WDO.nilS ?_
  refine WD.forE (σ := Nat) (fun i => [(0, v), (3, .int .i64 (l.len : Int)), (4, .sl b0 0 m (some m)), (5, .int .i64 (i : Int))]) (fun i H' => i ≤ m ∧ Keep (fun b => b = b0) H1 H' ∧ ∃ cs mids los, Ax encI 27 4 zIv H' b0 cs ∧ LentP H' l i b0 cs mids los) (fun i => m - i) 0 ⟨Nat.zero_le _, Keep.refl _ _, _, _, _, hA0, hP0⟩ (by simp) ?_
  rintro i H' ⟨hi, hk, cs, mids, los, hA, hP⟩
  have n1 := hk.1
  have kk : Keep noB H H' := kb.trans' hk fun b hb e => by omega
  refine leD 4 [xM 5 12, xM 4 13, xN 13 14, xB akLss 12 14 15] ?_
  refine WDO.nil ⟨decide (i < m), _, rfl, by simp, fun hc => ?_, fun hc => ?_⟩
  ·have hc : i = m := by have := of_decide_eq_false hc; omega
   subst hc
   have hsl : slA 4 l.len (.sl b0 0 i (some i)) H' = some (.sl b0 0 l.len (some i)) := slA_some (by omega)
   refine WD.seqR ?_
   refine lkD 4 [xM 4 40, xM 3 41, ⟨⟨slSl 4 (.tmp 40) none (some (.tmp 41)) none⟩, (some 42), none⟩, xM 42 2] (by simp (disch := omega) [hsl]; exact rfl) ?_
   subst hm
   refine WDO.nilS (WD.ret (endR _ (by simp; rfl) ?_))
   exact ⟨b0, Nat.le_refl _, hP.done hA (by omega), kk⟩
  ·have hc : i < m := of_decide_eq_true hc
   have hcl := hP.len
   obtain ⟨H2, s1, s2, hA2, s4⟩ := hA.store encI_len (i := i) (by omega) ⟨-7, 0, [], .snil, rfl⟩ (cells_iv _)
   have s1' : stN 4 H' (.agg (.cons (.int .i64 (-7)) (.cons (.int .i64 0) (.cons (.str 0 0) (.cons .snil .nil))))) (.ptr b0 (i * 4)) = some H2 := s1
   refine WD.seqR ?_
   refine lkD 4 [xM 4 18, xM 5 19, ⟨⟨buildA (.cons (.int .i64 0) (.cons (.int .i64 0) (.cons (.str 0 0) (.cons .snil .nil)))) ⟨fill1 (.const (.int .i64 (-7))) 0 1 flEnd⟩⟩, (some 20), none⟩, xI 4 18 19 21] (by simp (disch := omega) [hc]; exact rfl) ?_
   refine WDO.heavy1 tyOk extOk (k := ⟨hvStore ⟨stN 4⟩ (.tmp 21) (.tmp 20)⟩) (by kernel_rfl) rfl (by kernel_rfl) (by simp [s1']; exact ⟨rfl, rfl⟩) ?_
   have kk2 : Keep noB H H2 := kk.trans' s4 fun b hb e => by omega
   have hP2 := hP.keep s4 fun b hb _ e => by omega
   have hk2 := hk.trans s4
   refine WDO.nilS (WD.seqR ?_)
   refine leD 3 [xM 5 22, xM 3 23, xB akLss 22 23 24] ?_
   refine WDO.nilS (WD.cond (t := decide (i < l.len)) (by simp) (fun h => WD.seqR ?_) (fun h => WD.skip (.inl rfl) ?_))
   ·have h := of_decide_eq_true h
    obtain ⟨x, hx⟩ := l.get_some i h
    have hsx := Its.size_get hx
    obtain ⟨b, off, cap, o, u, e1, _, e3, e4, e5, e6, e7, e8, e9, e10⟩ := (hv.keep0 kk2 (by omega)).at hx
    refine lkD 4 [xM 0 25, xM 5 26, xI 4 25 26 27, xD 4 27 28] (by simp (disch := omega) [e1, e4, e10, h]; exact rfl) ?_
    refine WDO.fresh1 tyOk (k := ⟨frAlloc (.cs 27 4 4 false zIv .e)⟩) (by kernel_rfl) rfl (by kernel_rfl) (v := .ptr H2.next 0) (x := .cs 27 4 4 false zIv .e) ?_ ?_
    ·simp [zIv]
    have b1 := Bx.new (enc := encI) (e := 27) (es := 4) (z := zIv) (a := zeroIv) encI_len rfl H2 (n := 4) rfl
    obtain ⟨H3, t1, t2, t3, t4⟩ := b1.store encI_len ⟨x.k, x.n, x.t, u, e9.cell⟩ (cells_iv _)
    have k3 : Keep noB H2 H3 := (Keep.new _ _ _).trans' t4 fun b hb e => by omega
    refine WDO.heavy1 tyOk extOk (k := ⟨hvStore ⟨stN 4⟩ (.tmp 6) (.tmp 28)⟩) (by kernel_rfl) rfl (by kernel_rfl) (by simp only [encI, avl_cons, avl_nil] at t1; simp [t1]; exact ⟨rfl, rfl⟩) ?_
    have n3 : H3.next = H2.next + 1 := by rw [t2]; simp
    have e43 := k3.get (by omega) id e4
    have hP3 := hP2.keep k3 fun _ _ _ => id
    have hA3 := hA2.keep k3 (by omega) id
    have kk3 := kk2.trans k3
    clear b1 t1 t4
    refine WDO.nilS (WD.seqR ?_)
    refine lkD 5 [xM 0 29, xM 5 30, xI 4 29 30 31, xF 31 3 32, xL 32 33] (by simp (disch := omega) [e43, e8]; exact rfl) ?_
    refine WDO.callF (g := 87) rfl rfl rfl (by kernel_rfl) (l := .cons u .nil) (by simp) (LentItems_ok (z - 1) (l := x.s) (H := H3) (N := N) (v := u) (by omega) (e9.keep0 k3 (by omega)) (by omega) (by omega)) fun r H4 ⟨lo', hlo', hr, k4⟩ => ?_
    have t34 := t3.keep k4 (by omega) id
    have hP4 := hP3.keep k4 fun _ _ _ => id
    have hA4 := hA3.keep k4 (by omega) id
    have kk4 := kk3.trans k4
    have n4 := k4.1
    obtain ⟨H5, w1, w2, w3, w4⟩ := t34.store1 encI_len ⟨x.k, x.n, x.t, r, hr.cell⟩ (f := 3) (v := r) (by omega) rfl hr.cell
    have ht2 := hP2.top
    have hP5 := hP4.keep w4 fun b hb1 hb2 e => by omega
    have hA5 := hA4.keep w4 (by omega) (by omega)
    have hr5 := hr.keep w4 (Nat.le_refl _) fun b hb1 hb2 e => by omega
    have kk5 : Keep noB H H5 := kk4.trans' w4 fun b hb e => by omega
    obtain ⟨o5, g1, g2, g3⟩ := w3.get encI_len
    simp only [encI, avl_cons, avl_nil] at g3
    refine leD 1 [xF 6 3 35] ?_
    refine WDO.heavy1 tyOk extOk (k := ⟨hvStore ⟨st1'⟩ (.tmp 35) (.tmp 34)⟩) (by kernel_rfl) rfl (by kernel_rfl) (by simp; exact st1_ob w1) ?_
    have hcl2 := hP5.len
    obtain ⟨H6, y1, y2, hA6, y4⟩ := hA5.store encI_len (i := i) (by simp; omega) ⟨x.k, x.n, x.t, r, hr.cell⟩ (cells_iv _)
    refine WDO.nilS (WD.region ?_)
    refine lkD 4 [xM 4 36, xM 5 37, xD 4 6 38, xI 4 36 37 39] (by simp (disch := omega) [g1, g3]; exact rfl) ?_
    refine WDO.heavy1 tyOk extOk (k := ⟨hvStore ⟨stN 4⟩ (.tmp 39) (.tmp 38)⟩) (by kernel_rfl) rfl (by kernel_rfl) (by simp only [encI, avl_cons, avl_nil] at y1; simp [y1]; exact ⟨rfl, rfl⟩) ?_
    have hmn : min i l.len = i := Nat.min_eq_left (by omega)
    rw [hmn] at ht2
    have hP6 := (hP5.item hx (c := ⟨x.k, x.n, x.t, r, hr.cell⟩) ⟨rfl, rfl, rfl⟩ hr5 (by omega) (by omega)).keep y4 fun b hb1 hb2 e => by omega
    rw [List.set_set] at hA6
    have kz : Keep (fun b => b = b0) H1 H6 := ((((hk2.trans' k3 fun _ _ e => e.elim).trans' k4 fun _ _ e => e.elim).trans' w4 fun b hb e => by omega)).trans y4
    refine WDO.nil ?_
    refine leD 3 [xM 5 16, xC akAdd 16 1 17, xM 17 5] ?_
    exact WDO.nil ⟨rfl, i + 1, _, rfl, by simp [e1], ⟨by omega, kz, _, _, _, hA6, hP6⟩, by omega⟩
   ·have h := of_decide_eq_false h
    have hP6 := (hP2.behind (c := ⟨-7, 0, [], .snil, rfl⟩) (by omega) (by omega) rfl)
    refine leD 3 [xM 5 16, xC akAdd 16 1 17, xM 17 5] ?_
    exact WDO.nil ⟨rfl, i + 1, _, rfl, by simp, ⟨by omega, hk2, _, _, _, hA2, hP6⟩, by omega⟩
termination_by z => z
decreasing_by omega
abbrev qM24_1 : List Lk := [xM 6 91, xM 8 92, ⟨⟨buildA (.cons (.int .i64 0) (.cons (.int .i64 0) (.cons (.str 0 0) (.cons .snil .nil)))) ⟨fill1 (.const (.int .i64 (-8))) 0 1 flEnd⟩⟩, (some 93), none⟩, xI 4 91 92 94]
abbrev qM24_2 : List Dk := [⟨[10], lkMove (.tmp 10), (some 47), none⟩, ⟨[47], lkMove (.tmp 47), (some 48), none⟩, ⟨[6, 48], lkMove (.tmp 6), (some 49), (some (48, true))⟩, ⟨[8, 48], lkMove (.tmp 8), (some 50), (some (48, true))⟩, ⟨[49, 50, 48], ⟨ixSl 4 (.tmp 49) (.tmp 50)⟩, (some 51), (some (48, true))⟩, ⟨[51, 48], ⟨fAddr (.tmp 51) 0⟩, (some 52), (some (48, true))⟩, ⟨[52, 48], ⟨ldA ⟨ld1⟩ (.tmp 52)⟩, (some 53), (some (48, true))⟩, ⟨[1, 48], lkMove (.tmp 1), (some 54), (some (48, true))⟩, ⟨[8, 48], lkMove (.tmp 8), (some 55), (some (48, true))⟩, ⟨[54, 55, 48], ⟨ixSl 4 (.tmp 54) (.tmp 55)⟩, (some 56), (some (48, true))⟩, ⟨[56, 48], ⟨fAddr (.tmp 56) 0⟩, (some 57), (some (48, true))⟩, ⟨[57, 48], ⟨ldA ⟨ld1⟩ (.tmp 57)⟩, (some 58), (some (48, true))⟩, ⟨[53, 58, 48], ⟨binInt akEql (.tmp 53) (.tmp 58)⟩, (some 59), (some (48, true))⟩, ⟨[48, 59], ⟨pickA (.tmp 48) (.tmp 59) (.const (.bool false))⟩, (some 60), none⟩, ⟨[60], lkMove (.tmp 60), (some 61), none⟩, ⟨[6, 61], lkMove (.tmp 6), (some 62), (some (61, true))⟩, ⟨[8, 61], lkMove (.tmp 8), (some 63), (some (61, true))⟩, ⟨[62, 63, 61], ⟨ixSl 4 (.tmp 62) (.tmp 63)⟩, (some 64), (some (61, true))⟩, ⟨[64, 61], ⟨fAddr (.tmp 64) 1⟩, (some 65), (some (61, true))⟩, ⟨[65, 61], ⟨ldA ⟨ld1⟩ (.tmp 65)⟩, (some 66), (some (61, true))⟩, ⟨[1, 61], lkMove (.tmp 1), (some 67), (some (61, true))⟩, ⟨[8, 61], lkMove (.tmp 8), (some 68), (some (61, true))⟩, ⟨[67, 68, 61], ⟨ixSl 4 (.tmp 67) (.tmp 68)⟩, (some 69), (some (61, true))⟩, ⟨[69, 61], ⟨fAddr (.tmp 69) 1⟩, (some 70), (some (61, true))⟩, ⟨[70, 61], ⟨ldA ⟨ld1⟩ (.tmp 70)⟩, (some 71), (some (61, true))⟩, ⟨[66, 71, 61], ⟨binInt akEql (.tmp 66) (.tmp 71)⟩, (some 72), (some (61, true))⟩, ⟨[61, 72], ⟨pickA (.tmp 61) (.tmp 72) (.const (.bool false))⟩, (some 73), none⟩, ⟨[73], lkMove (.tmp 73), (some 74), none⟩, ⟨[6, 74], lkMove (.tmp 6), (some 75), (some (74, true))⟩, ⟨[8, 74], lkMove (.tmp 8), (some 76), (some (74, true))⟩, ⟨[75, 76, 74], ⟨ixSl 4 (.tmp 75) (.tmp 76)⟩, (some 77), (some (74, true))⟩, ⟨[77, 74], ⟨fAddr (.tmp 77) 2⟩, (some 78), (some (74, true))⟩, ⟨[78, 74], ⟨ldA ⟨ld1⟩ (.tmp 78)⟩, (some 79), (some (74, true))⟩, ⟨[1, 74], lkMove (.tmp 1), (some 80), (some (74, true))⟩, ⟨[8, 74], lkMove (.tmp 8), (some 81), (some (74, true))⟩, ⟨[80, 81, 74], ⟨ixSl 4 (.tmp 80) (.tmp 81)⟩, (some 82), (some (74, true))⟩, ⟨[82, 74], ⟨fAddr (.tmp 82) 2⟩, (some 83), (some (74, true))⟩, ⟨[83, 74], ⟨ldA ⟨ld1⟩ (.tmp 83)⟩, (some 84), (some (74, true))⟩, ⟨[79, 84, 74], ⟨binStr skEql (.tmp 79) (.tmp 84)⟩, (some 85), (some (74, true))⟩, ⟨[74, 85], ⟨pickA (.tmp 74) (.tmp 85) (.const (.bool false))⟩, (some 86), none⟩, ⟨[86], lkMove (.tmp 86), (some 9), none⟩]
set_option maxHeartbeats 2000000 in
theorem LentItem_ok {H : AH} {N : Nat} {k n : Int} {t : List UInt8} {u : AV} {s : Its} (hu : SaysI H N u s) (hN : N ≤ H.next) (hsz : s.size < 1073741824) :
  DC Tryz.prog .normal 37 (.cons (itA k n t u) .nil) H fun v' H2 => ∃ lo r, v' = itA k n t r ∧ H.next ≤ lo ∧ LentS H2 lo H2.next r s ∧ Keep noB H H2 := by
 refine DC.of_wd (re := reCell ⟨ldN 4⟩ 2 reNil) tyOk Tryz.func37 (by kernel_rfl) rfl (by kernel_rfl) (by kernel_rfl) ?_
 rw [tl_nil, argsT_cons, argsT_nil]
 refine WD.seqR ?_
 refine WDO.box1 (enc := encI) (a := ⟨k, n, t, u, hu.cell⟩) tyOk encI_len (by kernel_rfl : freshK E _ = some ⟨frBox ⟨mkCs 27 4 zIv⟩ (.tmp 0)⟩) rfl (by kernel_rfl) (by simp [itA]; try rfl) fun o1 b1 => ?_
 have k1 : Keep noB H (H.new o1) := Keep.new _ _ _
 have B1 : Bx encI 27 4 zIv (H.new o1) H.next ⟨k, n, t, u, hu.cell⟩ := ⟨⟨o1, get_new_same _ _, b1⟩⟩
 have hn1 : H.next < (H.new o1).next := by simp
 clear b1
 generalize H.new o1 = H1 at *
 generalize hn1' : H.next = n1 at *
 refine WDO.fresh1 tyOk (k := ⟨frAlloc (.cs 27 4 4 false zIv .e)⟩) (by kernel_rfl) rfl (by kernel_rfl) (v := .ptr H1.next 0) (x := .cs 27 4 4 false zIv .e) ?_ ?_
 ·simp [zIv]
 have B2 := Bx.new (enc := encI) (e := 27) (es := 4) (z := zIv) (a := zeroIv) encI_len rfl H1 (n := 4) rfl
 have kn : Keep noB H1 (H1.new (.cs 27 4 4 false zIv .e)) := Keep.new _ _ _
 have k2 : Keep noB H (H1.new (.cs 27 4 4 false zIv .e)) := k1.trans kn
 have B1 := B1.keep kn hn1 id
 have hn2 : H1.next < (H1.new (.cs 27 4 4 false zIv .e)).next := by simp
 generalize H1.new (.cs 27 4 4 false zIv .e) = H2 at *
 generalize hn2' : H1.next = n2 at *
 obtain ⟨o, g1, g2, g3⟩ := B1.get encI_len
 have gu : rdCell o 3 = some u := g2 3 _ rfl
 refine WDO.nilS (WD.seqR ?_)
 refine lkD 2 [xF 1 3 3, xL 3 4] (by simp (disch := omega) [g1, gu]; exact rfl) ?_
 refine WDO.callF (g := 87) rfl rfl rfl (by kernel_rfl) (l := .cons u .nil) (by simp) (LentItems_ok s.size (Nat.le_refl _) (hu.keep0 k2 (by omega)) (by omega) hsz) fun r H3 ⟨lo, hlo, hr, k3⟩ => ?_
 have B1 := B1.keep k3 (by omega) id
 have B2 := B2.keep k3 (by omega) id
 have n3 := k3.1
 obtain ⟨H4, w1, w2, w3, w4⟩ := B1.store1 encI_len ⟨k, n, t, r, hr.cell⟩ (f := 3) (v := r) (by omega) rfl hr.cell
 have B2 := B2.keep w4 (by omega) (by omega)
 have hr4 := hr.keep w4 (Nat.le_refl _) fun b h1 h2 e => by omega
 obtain ⟨o5, f1, f2, f3⟩ := w3.get encI_len
 simp only [encI, avl_cons, avl_nil] at f3
 refine leD 1 [xF 1 3 6] ?_
 refine WDO.heavy1 tyOk extOk (k := ⟨hvStore ⟨st1'⟩ (.tmp 6) (.tmp 5)⟩) (by kernel_rfl) rfl (by kernel_rfl) (by simp; exact st1_ob w1) ?_
 refine WDO.nilS (WD.seqR ?_)
 refine lkD 1 [xD 4 1 7] (by simp (disch := omega) [f1, f3]; exact rfl) ?_
 obtain ⟨H5, y1, y2, y3, y4⟩ := B2.store encI_len ⟨k, n, t, r, hr.cell⟩ (cells_iv _)
 refine WDO.heavy1 tyOk extOk (k := ⟨hvStore ⟨stN 4⟩ (.tmp 2) (.tmp 7)⟩) (by kernel_rfl) rfl (by kernel_rfl) (by simp only [encI, avl_cons, avl_nil] at y1; simp [y1]; exact ⟨rfl, rfl⟩) ?_
 have hr5 := hr4.keep y4 (by omega) fun b h1 h2 e => by omega
 obtain ⟨o6, q1, q2, q3⟩ := y3.get encI_len
 simp only [encI, avl_cons, avl_nil] at q3
 refine WDO.nilS (WD.ret (endR _ (l := .cons (itA k n t r) .nil) (by simp [q1, q3, itA]) ⟨lo, r, rfl, by omega, hr5.wide (by omega), ?_⟩))
 exact ((k2.trans k3).trans' w4 fun b hb e => by omega).trans' y4 fun b hb e => by omega
set_option maxHeartbeats 4000000 in
theorem AsLentItems_ok : ∀ (z : Nat) {l : Its} {H : AH} {N lo hi : Nat} {v w : AV}, l.size ≤ z → LentS H lo hi v l → hi ≤ H.next → SaysI H N w l → N ≤ lo → l.size < 1073741824 →
  DC Tryz.prog .normal 92 (.cons v (.cons w .nil)) H fun v' H2 => v' = .bool true ∧ Keep (fun b => lo ≤ b ∧ b < hi) H H2
 | z, l, H, N, lo, hi, v, w, hz, hv, hhi, hw, hNlo, hsz => by
  refine DC.of_wd (re := reTmp 4 reNil) tyOk Tryz.func92 (by kernel_rfl) rfl (by kernel_rfl) (by kernel_rfl) ?_
  rw [tl_nil, argsT_cons, argsT_cons, argsT_nil]
  have hlen := hw.len
  have hls := l.len_le
  obtain ⟨cs, mids, los, rfl, hlt, hA, hcl, hm0, hm1, hmn, hkk, hss, hbb⟩ := hv.inv
  clear hv
  refine WD.seqR ?_
  refine leD 1 [xZ false 4] ?_
  refine WDO.nilS (WD.seqR ?_)
  refine lkD 3 [xM 1 11, xN 11 12, xM 12 5] (by simp (disch := omega) [hlen]; exact rfl) ?_
  refine WDO.nilS (WD.seq (WD.seqR ?_))
  refine leD 4 [xM 0 13, xN 13 14, xM 5 15, xB akNeq 14 15 16] ?_
  refine cdF ?_
  have gm : (l.len : Int) + 3 = ((l.len + 3 : Nat) : Int) := by omega
  generalize hm : l.len + 3 = m at *
  have hsl : slA 4 m (.sl lo 0 l.len (some m)) H = some (.sl lo 0 m (some m)) := slA_some (Nat.le_refl _)
  refine WD.seqR ?_
  refine lkD 5 [xM 0 17, xM 5 18, xC akAdd 18 3 19, ⟨⟨slSl 4 (.tmp 17) none (some (.tmp 19)) none⟩, (some 20), none⟩, xM 20 6] (by simp (disch := omega) [gm, hsl]; exact rfl) ?_
  refine WDO.nilS (WD.seqR ?_)
  refine leD 1 [xZ true 7] ?_
  refine WDO.nilS (WD.seq (WD.seqR ?_))
  refine leD 1 [xK 0 8] ?_
  refine WDO.nilS ?_
  refine WD.forE (σ := Nat) (fun i => [(1, w), (5, .int .i64 (l.len : Int)), (6, .sl lo 0 m (some m)), (7, .bool true), (8, .int .i64 (i : Int))]) (fun i H' => i ≤ m ∧ Keep (fun b => lo ≤ b ∧ b < hi) H H' ∧ (∃ ds, Ax encI 27 4 zIv H' lo ds ∧ ds.length = m ∧ ∀ j, i ≤ j → ds[j]? = cs[j]?) ∧ ∀ (j : Nat) (x : It) (c : Iv), i ≤ j → l.get j = some x → cs[j]? = some c → LentS H' (los j) (mids (j + 1)) c.v x.s) (fun i => m - i) 0 ⟨Nat.zero_le _, Keep.refl _ _, ⟨cs, hA, hcl, fun _ _ => rfl⟩, fun j x c _ => hss j x c⟩ (by simp) ?_
  rintro i H' ⟨hi', hk, ⟨ds, hD, hdl, hde⟩, hch⟩
  have n1 := hk.1
  refine leD 4 [xM 8 21, xM 6 22, xN 22 23, xB akLss 21 23 24] ?_
  refine WDO.nil ⟨decide (i < m), _, rfl, by simp, fun hc => ?_, fun hc => ?_⟩
  ·refine WD.seqR ?_
   refine leD 2 [xM 7 95, xM 95 4] ?_
   exact WDO.nilS (WD.ret (endR _ (by simp; rfl) ⟨rfl, hk⟩))
  ·have hc : i < m := of_decide_eq_true hc
   obtain ⟨c, hcc⟩ := getS (l := cs) (i := i) (by omega)
   have hdc : ds[i]? = some c := by rw [hde i (Nat.le_refl _), hcc]
   obtain ⟨o, g1, g2, g3⟩ := hD.get encI_len hdc
   have gk : rdCell o (i * 4) = some (.int .i64 c.k) := g2 0 _ rfl
   have gn : rdCell o (i * 4 + 1) = some (.int .i64 c.n) := g2 1 _ rfl
   have gt : rdCell o (i * 4 + 2) = some (sb c.t) := g2 2 _ rfl
   have gu : rdCell o (i * 4 + 3) = some c.v := g2 3 _ rfl
   have wk := fun {b : Nat} (h : b < N) (e : lo ≤ b ∧ b < hi) => (by omega : False)
   have hw' := hw.keep hk (by omega) (fun b h e => wk h e) (Nat.le_refl _)
   refine WD.seqR ?_
   by_cases h : i < l.len
   ·obtain ⟨x, hx⟩ := l.get_some i h
    obtain ⟨a1, a2, a3⟩ := hkk i x c hx hcc
    rw [a1] at gk
    rw [a2] at gn
    rw [a3] at gt
    have hsx := Its.size_get hx
    obtain ⟨b, off, cap, o', u, e1, _, e3, e4, e5, e6, e7, e8, e9, e10⟩ := hw'.at hx
    refine lkD 7 [xM 6 27, xM 8 28, xI 4 27 28 29, xF 29 0 30, xL 30 31, xC akEql 31 (-7) 32, xM 32 9] (by simp (disch := omega) [g1, gk, hc]; exact rfl) ?_
    refine WDO.nilS (WD.seq (WD.seqR ?_))
    refine leD 3 [xM 8 33, xM 5 34, xB akLss 33 34 35] ?_
    refine WDO.nilS (WD.cond (t := true) (by simp [h]) (fun _ => ?_) (by simp [h]))
    refine WD.seq ?_
    obtain ⟨q1, q2⟩ := mids_in hmn hm0 hm1 h
    have hli := hch i x c (Nat.le_refl _) hx hcc
    have hrec := AsLentItems_ok (z - 1) (l := x.s) (H := H') (N := N) (lo := los i) (hi := mids (i + 1)) (v := c.v) (w := u) (by omega) hli (by omega) e9 (by omega) (by omega)
    obtain ⟨R, hR, hRc⟩ := specR_ex Tryz.prog (fun _ _ Hx u H2 => u = .bool true ∧ Keep (fun b => los i ≤ b ∧ b < mids (i + 1)) Hx H2)
    refine WD.drawnK tyOk extOk (by kernel_rfl) (ls := [zM 6 36 0 1, zM 8 37 0 1, zI 4 36 37 38 0 1, zF 38 3 39 0 1, zL 39 40 0 1, zM 1 41 0 1, zM 8 42 0 1, zI 4 41 42 43 0 1, zF 43 3 44 0 1, zL 44 45 0 1, ⟨[40, 45], .heavy ⟨hvCallF E 92 (opnds [(.tmp 40), (.tmp 45)])⟩, (some 46), none, 0, 2, false, true⟩, zM 46 10 1 1]) (by kernel_rfl) hR fun K hK => ?_
    iterate 4 (refine diLookP (by simp [-resL_cons, resL_cc]; exact rfl) (by simp (disch := omega) []; exact rfl) ?_)
    refine diLookC (by simp [-resL_cons, resL_cc]; exact rfl) (by simp (disch := omega) [g1, gu]; exact rfl) ?_
    iterate 4 (refine diLookP (by simp [-resL_cons, resL_cc]; exact rfl) (by simp (disch := omega) [e1]; exact rfl) ?_)
    refine diLookC (by simp [-resL_cons, resL_cc]; exact rfl) (by simp (disch := omega) [e4, e8]; exact rfl) ?_
    obtain ⟨uw, H2, q3, rfl, k2⟩ := hRc 92 _ _ hrec
    refine diCallF (by simp [-resL_cons, resL_cc]; exact rfl) (by simp) (extFree _ _ _ rfl rfl rfl) q3 k2.1 ?_
    refine diLookP (by simp [-resL_cons, resL_cc]; exact rfl) (by simp (disch := omega) []; exact rfl) ?_
    have hD2 := hD.keep k2 (by omega) (by omega)
    have hk2 : Keep (fun b => lo ≤ b ∧ b < hi) H H2 := hk.trans' k2 fun b hb e => by omega
    have n2 := k2.1
    have g1' := k2.get (by omega) (by omega) g1
    have e4' := k2.get (by omega) (by omega) e4
    simp only [diRun_nil, List.reverse_cons, List.reverse_nil, List.nil_append, List.cons_append, chkAdd_f, atAll_s, atAll_z, and_true, true_and]
    refine ⟨by simp (disch := omega) [g1, gu, e4, e8], hK _ _ ?_⟩
    clear hK hRc hR q3 hrec
    refine WD.keep (l := [(1, .sl b off l.len cap), (5, .int .i64 (l.len : Int)), (6, .sl lo 0 m (some m)), (7, .bool true), (8, .int .i64 (i : Int)), (10, .bool true)]) ?_ (by simp [e1])
    obtain ⟨l3, hrun, hsub3⟩ : ∃ (l' : List (Nat × AV)), runDk qM24_2 (tl [(1, .sl b off l.len cap), (5, .int .i64 (l.len : Int)), (6, .sl lo 0 m (some m)), (7, .bool true), (8, .int .i64 (i : Int)), (10, .bool true)]) H2 = some (tl l') ∧ lsub [(1, .sl b off l.len cap), (5, .int .i64 (l.len : Int)), (6, .sl lo 0 m (some m)), (7, .bool true), (8, .int .i64 (i : Int)), (9, .bool true)] l' := ⟨_, by
     iterate 41 (first | (refine dkSkip ?_ ?_; focus (simp; done)) | refine dkStep (by first | rfl | (simp [-resL_cons, resL_cc]; exact rfl)) (by simp) (by simp (disch := omega) [g1', gk, gn, gt, e4', e5, e6, e7]; exact rfl) ?_)
     exact rfl, by simp⟩
    refine WD.drawLooks tyOk extOk (by kernel_rfl) (ls := qM24_2) (by kernel_rfl) hrun ?_
    refine WD.keep ?_ hsub3
    have hch2 : ∀ (j : Nat) (x : It) (c : Iv), i + 1 ≤ j → l.get j = some x → cs[j]? = some c → LentS H2 (los j) (mids (j + 1)) c.v x.s := fun j y d hj hy hd => by
     have hjl := Its.get_lt hy
     obtain ⟨r1, r2⟩ := mids_in hmn hm0 hm1 hjl
     refine (hch j y d (by omega) hy hd).keep k2 (by omega) fun b hb1 hb2 e => ?_
     have r3 := mids_le hmn (j - (i + 1)) (i + 1) (by omega)
     rw [show i + 1 + (j - (i + 1)) = j by omega] at r3
     have := hmn j hjl
     omega
    obtain ⟨H3, s1, s2, s3, s4⟩ := hD2.store encI_len (i := i) (by omega) ⟨-8, 0, [], .snil, rfl⟩ (cells_iv _)
    have s1' : stN 4 H2 (.agg (.cons (.int .i64 (-8)) (.cons (.int .i64 0) (.cons (.str 0 0) (.cons .snil .nil))))) (.ptr lo (i * 4)) = some H3 := s1
    refine WD.seqR ?_
    refine leD 5 [xM 7 87, xM 87 88, yM 9 89 88 true, xA 88 89 90 false, xM 90 7] ?_
    refine WDO.nilS (WD.region ?_)
    refine leD 4 qM24_1 ?_
    refine WDO.heavy1 tyOk extOk (k := ⟨hvStore ⟨stN 4⟩ (.tmp 94) (.tmp 93)⟩) (by kernel_rfl) rfl (by kernel_rfl) (by simp [s1']; exact ⟨rfl, rfl⟩) ?_
    refine WDO.nil ?_
    refine leD 3 [xM 8 25, xC akAdd 25 1 26, xM 26 8] ?_
    exact WDO.nil ⟨rfl, i + 1, _, rfl, by simp [e1], ⟨by omega, hk2.trans' s4 fun b hb e => by omega, ⟨_, s3, by simp [hdl], fun j hj => by rw [List.getElem?_set_ne (by omega)]; exact hde j (by omega)⟩, fun j y d hj hy hd => by
     have hjl := Its.get_lt hy
     obtain ⟨r1, r2⟩ := mids_in hmn hm0 hm1 hjl
     exact (hch2 j y d hj hy hd).keep s4 (by omega) fun b hb1 hb2 e => by omega⟩, by omega⟩
   ·have hck := hbb i c (by omega) hcc
    rw [hck] at gk
    refine lkD 7 [xM 6 27, xM 8 28, xI 4 27 28 29, xF 29 0 30, xL 30 31, xC akEql 31 (-7) 32, xM 32 9] (by simp (disch := omega) [g1, gk, hc]; exact rfl) ?_
    refine WDO.nilS (WD.seq (WD.seqR ?_))
    refine leD 3 [xM 8 33, xM 5 34, xB akLss 33 34 35] ?_
    refine WDO.nilS (WD.cond (t := false) (by simp; omega) (by simp) fun _ => WD.skip (.inl rfl) ?_)
    obtain ⟨H3, s1, s2, s3, s4⟩ := hD.store encI_len (i := i) (by omega) ⟨-8, 0, [], .snil, rfl⟩ (cells_iv _)
    have s1' : stN 4 H' (.agg (.cons (.int .i64 (-8)) (.cons (.int .i64 0) (.cons (.str 0 0) (.cons .snil .nil))))) (.ptr lo (i * 4)) = some H3 := s1
    refine WD.seqR ?_
    refine leD 5 [xM 7 87, xM 87 88, yM 9 89 88 true, xA 88 89 90 false, xM 90 7] ?_
    refine WDO.nilS (WD.region ?_)
    refine leD 4 qM24_1 ?_
    refine WDO.heavy1 tyOk extOk (k := ⟨hvStore ⟨stN 4⟩ (.tmp 94) (.tmp 93)⟩) (by kernel_rfl) rfl (by kernel_rfl) (by simp [s1']; exact ⟨rfl, rfl⟩) ?_
    refine WDO.nil ?_
    refine leD 3 [xM 8 25, xC akAdd 25 1 26, xM 26 8] ?_
    exact WDO.nil ⟨rfl, i + 1, _, rfl, by simp, ⟨by omega, hk.trans' s4 fun b hb e => by omega, ⟨_, s3, by simp [hdl], fun j hj => by rw [List.getElem?_set_ne (by omega)]; exact hde j (by omega)⟩, fun j y d hj hy hd => by
     have := Its.get_lt hy
     omega⟩, by omega⟩
termination_by z => z
decreasing_by omega
theorem AsLentItem_ok {H : AH} {N lo hi : Nat} {k n : Int} {t : List UInt8} {r u : AV} {s : Its} (hr : LentS H lo hi r s) (hhi : hi ≤ H.next) (hu : SaysI H N u s) (hNlo : N ≤ lo) (hsz : s.size < 1073741824) :
  DC Tryz.prog .normal 42 (.cons (itA k n t r) (.cons (itA k n t u) .nil)) H fun v' H2 => v' = .bool true ∧ Keep (fun b => lo ≤ b ∧ b < hi) H H2 := by
 refine DC.of_wd (re := reTmp 4 reNil) tyOk Tryz.func42 (by kernel_rfl) rfl (by kernel_rfl) (by kernel_rfl) ?_
 rw [tl_nil, argsT_cons, argsT_cons, argsT_nil]
 refine WD.seqR ?_
 refine WDO.box1 (enc := encI) (a := ⟨k, n, t, r, hr.cell⟩) tyOk encI_len (by kernel_rfl : freshK E _ = some ⟨frBox ⟨mkCs 27 4 zIv⟩ (.tmp 0)⟩) rfl (by kernel_rfl) (by simp [itA]; try rfl) fun o1 b1 => ?_
 have k1 : Keep noB H (H.new o1) := Keep.new _ _ _
 obtain ⟨p2, p3⟩ := box_rd encI_len b1
 have p1 : (H.new o1).get H.next = some o1 := get_new_same _ _
 have hn1 : H.next < (H.new o1).next := by simp
 clear b1
 generalize H.new o1 = H1 at *
 generalize hn1' : H.next = n1 at *
 refine WDO.box1 (enc := encI) (a := ⟨k, n, t, u, hu.cell⟩) tyOk encI_len (by kernel_rfl : freshK E _ = some ⟨frBox ⟨mkCs 27 4 zIv⟩ (.tmp 1)⟩) rfl (by kernel_rfl) (by simp [itA]; try rfl) fun o2 b2 => ?_
 have kn : Keep noB H1 (H1.new o2) := Keep.new _ _ _
 have k2 : Keep noB H (H1.new o2) := k1.trans kn
 obtain ⟨q2, q3⟩ := box_rd encI_len b2
 have q1 : (H1.new o2).get H1.next = some o2 := get_new_same _ _
 have p1 := kn.get hn1 id p1
 have hn2 : H1.next < (H1.new o2).next := by simp
 clear b2
 generalize H1.new o2 = H2 at *
 generalize hn2' : H1.next = n2 at *
 have a0 : rdCell o1 0 = some (.int .i64 k) := p2 0 _ rfl
 have a1 : rdCell o1 1 = some (.int .i64 n) := p2 1 _ rfl
 have a2 : rdCell o1 2 = some (sb t) := p2 2 _ rfl
 have a3 : rdCell o1 3 = some r := p2 3 _ rfl
 have c0 : rdCell o2 0 = some (.int .i64 k) := q2 0 _ rfl
 have c1 : rdCell o2 1 = some (.int .i64 n) := q2 1 _ rfl
 have c2 : rdCell o2 2 = some (sb t) := q2 2 _ rfl
 have c3 : rdCell o2 3 = some u := q2 3 _ rfl
 refine leD 1 [xZ false 4] ?_
 refine WDO.nilS (WD.seqR ?_)
 refine lkD 4 [xF 2 3 6, xL 6 7, xF 3 3 8, xL 8 9] (by simp (disch := omega) [p1, q1, a3, c3]; exact rfl) ?_
 have hlt := hr.lt
 refine WDO.callF (g := 92) rfl rfl rfl (by kernel_rfl) (l := .cons r (.cons u .nil)) (by simp) (AsLentItems_ok s.size (Nat.le_refl _) (hr.keep k2 (by omega) fun _ _ _ => id) (by omega) (hu.keep0 k2 (by omega)) hNlo hsz) fun uu H3 ⟨hu3, k3⟩ => ?_
 subst hu3
 have p1 := k3.get (by omega) (by omega) p1
 have q1 := k3.get (by omega) (by omega) q1
 refine leD 1 [xM 10 5] ?_
 refine WDO.nilS (WD.seqR ?_)
 refine lkD 23 [xM 5 11, xM 11 12, yF 2 0 13 12 true, yL 13 14 12 true, yF 3 0 15 12 true, yL 15 16 12 true, yB akEql 14 16 17 12 true, xA 12 17 18 false, xM 18 19, yF 2 1 20 19 true, yL 20 21 19 true, yF 3 1 22 19 true, yL 22 23 19 true, yB akEql 21 23 24 19 true, xA 19 24 25 false, xM 25 26, yF 2 2 27 26 true, yL 27 28 26 true, yF 3 2 29 26 true, yL 29 30 26 true, ⟨⟨binStr skEql (.tmp 28) (.tmp 30)⟩, (some 31), (some (26, true))⟩, xA 26 31 32 false, xM 32 4] (by simp (disch := omega) [p1, q1, a0, a1, a2, c0, c1, c2]; exact rfl) ?_
 exact WDO.nilS (WD.ret (endR _ (by simp; rfl) ⟨rfl, (k2.mono fun _ _ e => e.elim).trans k3⟩))
theorem mkZero76 (m : Nat) : mkZero E 76 m = some (.cs 76 5 (m * 5) false zFv .e) := by kernel_rfl
def behF : Fv := ⟨behindL, 0, 0, [], .snil, rfl⟩
set_option maxHeartbeats 4000000 in
theorem Lent_ok {H : AH} {N : Nat} {r : Rv} {x : Rec9} (hx : RecAt H N r x) (hN : N ≤ H.next) (hok : RecOk9 x) (hn32 : x.fs.length < 1073741824) :
  DC Tryz.prog .normal 9 (.cons (rvA r) .nil) H fun v' H2 => ∃ r' lo, v' = rvA r' ∧ H.next ≤ lo ∧ LentR H2 lo H2.next r' x ∧ Keep noB H H2 := by
 refine DC.of_wd (re := reCell ⟨ldN 5⟩ 2 reNil) tyOk Tryz.func9 (by kernel_rfl) rfl (by kernel_rfl) (by kernel_rfl) ?_
 rw [tl_nil, argsT_cons, argsT_nil]
 refine WD.seqR ?_
 refine WDO.box1 (enc := encR) (a := r) tyOk encR_len (by kernel_rfl : freshK E _ = some ⟨frBox ⟨mkCs 30 5 zRv⟩ (.tmp 0)⟩) rfl (by kernel_rfl) (by simp [rvA]; try rfl) fun o1 b1 => ?_
 have k1 : Keep noB H (H.new o1) := Keep.new _ _ _
 obtain ⟨p2, p3⟩ := box_rd encR_len b1
 have p1 : (H.new o1).get H.next = some o1 := get_new_same _ _
 have gv : rdCell o1 4 = some r.w := p2 4 _ rfl
 have gk : rdCells o1 4 0 = some (avl (encI ⟨r.k, r.n, r.t, r.v, r.c⟩)) := rdCells_of (encI ⟨r.k, r.n, r.t, r.v, r.c⟩) _ fun j w hj => by
  rw [Nat.zero_add]
  refine p2 j w ?_
  match j, hj with
  | 0, hj => exact hj
  | 1, hj => exact hj
  | 2, hj => exact hj
  | 3, hj => exact hj
  | j + 4, hj => simp [encI] at hj
 have hn1 : H.next < (H.new o1).next := by simp
 clear b1 p2 p3
 generalize H.new o1 = H1 at *
 generalize hn1' : H.next = n1 at *
 refine WDO.fresh1 tyOk (k := ⟨frAlloc (.cs 30 5 5 false zRv .e)⟩) (by kernel_rfl) rfl (by kernel_rfl) (v := .ptr H1.next 0) (x := .cs 30 5 5 false zRv .e) ?_ ?_
 ·simp [zRv]
 have B2 := Bx.new (enc := encR) (e := 30) (es := 5) (z := zRv) (a := zeroRv) encR_len rfl H1 (n := 5) rfl
 have kn : Keep noB H1 (H1.new (.cs 30 5 5 false zRv .e)) := Keep.new _ _ _
 have k2 : Keep noB H (H1.new (.cs 30 5 5 false zRv .e)) := k1.trans kn
 have p1 := kn.get hn1 id p1
 have hn2 : H1.next < (H1.new (.cs 30 5 5 false zRv .e)).next := by simp
 generalize H1.new (.cs 30 5 5 false zRv .e) = H2 at *
 generalize hn2' : H1.next = n2 at *
 have hlf := (hx.f.keep0 k2 (by omega)).len
 refine WDO.nilS (WD.seqR ?_)
 refine lkD 4 [xF 1 4 6, xL 6 7, xN 7 8, xM 8 3] (by simp (disch := omega) [p1, gv, hlf]; exact rfl) ?_
 have gm : (x.fs.length : Int) + 3 = ((x.fs.length + 3 : Nat) : Int) := by omega
 generalize hm : x.fs.length + 3 = m at gm
 refine WDO.nilS (WD.seqR ?_)
 refine lkD 2 [xM 3 9, xC akAdd 9 3 10] (by simp (disch := omega) [gm]; exact rfl) ?_
 refine WDO.fresh1 tyOk (k := ⟨frMake E 76 72 (.tmp 10) (.tmp 10)⟩) (by kernel_rfl) rfl (by kernel_rfl) (v := .sl H2.next 0 m (some m)) (x := .cs 76 5 (m * 5) false zFv .e) ?_ ?_
 ·dsimp only
  refine frMake_cs (E := E) (e := 76) (bytes := 72) (l := .tmp 10) (c := .tmp 10) (n := m) (m := m) (mkZero76 _) ?_ ?_ (Nat.le_refl _) (by omega) (by omega)
  ·simp
  ·simp
 have kb : Keep noB H2 (H2.new (.cs 76 5 (m * 5) false zFv .e)) := Keep.new _ _ _
 have hA0 := Ax.new (e := 76) (z := zFv) encF_len (a := zeroFv) rfl H2 m
 have nb : H2.next < (H2.new (.cs 76 5 (m * 5) false zFv .e)).next := by simp
 have hP0 := ChP.zero (sub := Fv.v) (its := fsIts x.fs) (Q := QF x.fs) (H := H2.new (.cs 76 5 (m * 5) false zFv .e)) (n := x.fs.length) (b0 := H2.next) (cs := List.replicate m zeroFv) (by simp; omega) nb
 have k3 := k2.trans kb
 have p1 := kb.get (by omega) id p1
 have B2 := B2.keep kb (by omega) id
 generalize H2.new (.cs 76 5 (m * 5) false zFv .e) = H3 at *
 generalize hb0 : H2.next = b0 at *
 refine leD 1 [xM 11 4] ?_
 refine WDO.nilS (WD.seq (WD.seqR ?_))
 refine leD 1 [xK 0 5] ?_
 refine WDO.nilS ?_
 refine WD.forE (σ := Nat) (fun i => [(1, .ptr n1 0), (2, .ptr n2 0), (3, .int .i64 (x.fs.length : Int)), (4, .sl b0 0 m (some m)), (5, .int .i64 (i : Int))]) (fun i H' => i ≤ m ∧ Keep (fun b => b = b0) H3 H' ∧ ∃ cs mids los, Ax encF 76 5 zFv H' b0 cs ∧ ChP Fv.v (fsIts x.fs) (QF x.fs) H' x.fs.length i b0 cs mids los) (fun i => m - i) 0 ⟨Nat.zero_le _, Keep.refl _ _, _, _, _, hA0, hP0⟩ (by simp) ?_
 rintro i H' ⟨hi, hk, cs, mids, los, hA, hP⟩
 have n4 := hk.1
 have kk : Keep noB H H' := k3.trans' hk fun b hb e => by omega
 have p1' := hk.get (by omega) (by omega) p1
 refine leD 4 [xM 5 12, xM 4 13, xN 13 14, xB akLss 12 14 15] ?_
 refine WDO.nil ⟨decide (i < m), _, rfl, by simp, fun hc => ?_, fun hc => ?_⟩
 ·have hc : i = m := by have := of_decide_eq_false hc; omega
  subst hc
  have hsl : slA 5 x.fs.length (.sl b0 0 i (some i)) H' = some (.sl b0 0 x.fs.length (some i)) := slA_some (by omega)
  have hx' := hx.keep0 kk (by omega)
  have hks : x.key.s.size < 1073741824 := by have := hok.key; simp only [Its.ofL, Its.size] at this; omega
  refine WD.seq ?_
  obtain ⟨R, hR, hRc⟩ := specR_ex Tryz.prog (fun _ _ Hx u H2 => ∃ lo q, u = itA r.k r.n r.t q ∧ Hx.next ≤ lo ∧ LentS H2 lo H2.next q x.key.s ∧ Keep noB Hx H2)
  refine WD.drawnK tyOk extOk (by kernel_rfl) (ls := [zF 1 0 42 0 1, ⟨[42], .look (⟨ldA ⟨ldN 4⟩ (.tmp 42)⟩), (some 43), none, 0, 1, false, false⟩, zM 4 45 0 2, zM 3 46 0 2, ⟨[45, 46], .look (⟨slSl 5 (.tmp 45) none (some (.tmp 46)) none⟩), (some 47), none, 0, 2, false, false⟩, ⟨[43], .heavy ⟨hvCallF E 37 (opnds [(.tmp 43)])⟩, (some 44), none, 0, 2, false, true⟩, ⟨[44, 47], .look (⟨buildA (.cons (.int .i64 0) (.cons (.int .i64 0) (.cons (.str 0 0) (.cons .snil (.cons .snil .nil))))) ⟨fill1 (.tmp 44) 0 4 ⟨fill1 (.tmp 47) 4 1 flEnd⟩⟩⟩), (some 48), none, 1, 1, true, false⟩, ⟨[2, 48], .heavy ⟨hvStore ⟨stN 5⟩ (.tmp 2) (.tmp 48)⟩, none, none, 1, 2, false, true⟩]) (by kernel_rfl) hR fun K hK => ?_
  refine diLookP (by simp [-resL_cons, resL_cc]; exact rfl) (by simp (disch := omega) []; exact rfl) ?_
  refine diLookC (by simp [-resL_cons, resL_cc]; exact rfl) (by simp (disch := omega) [p1', gk]; exact rfl) ?_
  iterate 2 (refine diLookP (by simp [-resL_cons, resL_cc]; exact rfl) (by simp (disch := omega) []; exact rfl) ?_)
  refine diLookC (by simp [-resL_cons, resL_cc]; exact rfl) (by simp (disch := omega) [hsl]; exact rfl) ?_
  obtain ⟨uw, H5, q3, lo5, q5, rfl, hlo5, hq5, k5⟩ := hRc 37 _ _ (LentItem_ok (k := r.k) (n := r.n) (t := r.t) hx'.s (by omega) hks)
  have q3 : R.call 37 (.cons (.agg (avl (encI ⟨r.k, r.n, r.t, r.v, r.c⟩))) .nil) H' = some (_, H5) := q3
  refine diCallF (by simp [-resL_cons, resL_cc]; exact rfl) (by simp) (extFree _ _ _ rfl rfl rfl) q3 k5.1 ?_
  refine diLookP (by simp [-resL_cons, resL_cc]; exact rfl) (by simp (disch := omega) [itA]; exact rfl) ?_
  have n5 := k5.1
  have B5 := (B2.keep hk (by omega) (by omega)).keep k5 (by omega) id
  obtain ⟨H6, y1, y2, y3, y4⟩ := B5.store encR_len ⟨r.k, r.n, r.t, q5, .sl b0 0 x.fs.length (some i), hq5.cell, rfl⟩ (cells_r _)
  have y1' : stN 5 H5 (.agg (.cons (.int .i64 r.k) (.cons (.int .i64 r.n) (.cons (sb r.t) (.cons q5 (.cons (.sl b0 0 x.fs.length (some i)) .nil)))))) (.ptr n2 0) = some H6 := y1
  refine diHeavy (by simp [-resL_cons, resL_cc]; exact rfl) (v := undefA) (H2 := H6) (by simp; exact stN_ob y1') (by omega) ?_
  have p16 := k5.get (by omega) id p1'
  have p17 := y4.get (by omega) (by omega) p16
  simp only [diRun_nil, putA_none, List.reverse_cons, List.reverse_nil, List.nil_append, List.cons_append, chkAdd_f, atAll_s, atAll_z, and_true, true_and]
  refine ⟨by simp (disch := omega) [p1', gk, hsl], hK _ _ ?_⟩
  clear hK hRc hR q3
  obtain ⟨o7, g1, g2, g3⟩ := y3.get encR_len
  have ht := hP.top
  rw [Nat.min_eq_right (by omega)] at ht
  have hAn := (hA.keep k5 (by omega) id).keep y4 (by omega) (by omega)
  have hPn := (hP.keep k5 fun _ _ _ => id).keep y4 fun b hb1 hb2 e => by omega
  rw [← hm] at hPn
  refine WD.ret (endR _ (l := .cons (rvA ⟨r.k, r.n, r.t, q5, .sl b0 0 x.fs.length (some i), hq5.cell, rfl⟩) .nil) (by simp [g1, g3, rvA]) ?_)
  refine ⟨_, b0, rfl, by omega, ⟨hx.k, hx.n, hx.t, H'.next, lo5, ⟨by rw [hm], by omega, cs, mids, los, hAn, hPn, by omega⟩, hlo5, (hq5.keep y4 (by omega) fun b hb1 hb2 e => by omega).wide (by omega)⟩, (kk.trans k5).trans' y4 fun b hb e => by omega⟩
 ·have hc : i < m := of_decide_eq_true hc
  have hcl := hP.len
  obtain ⟨H5, s1, s2, hA2, s4⟩ := hA.store encF_len (i := i) (by omega) behF (cells_f _)
  have s1' : stN 5 H' (.agg (.cons (sb [98, 101, 104, 105, 110, 100]) (.cons (.int .i64 0) (.cons (.int .i64 0) (.cons (.str 0 0) (.cons .snil .nil)))))) (.ptr b0 (i * 5)) = some H5 := s1
  refine WD.seqR ?_
  refine lkD 4 [xM 4 18, xM 5 19, ⟨⟨buildA (.cons (.str 0 0) (.cons (.int .i64 0) (.cons (.int .i64 0) (.cons (.str 0 0) (.cons .snil .nil))))) ⟨fill1 (.const (.string ⟨#[98, 101, 104, 105, 110, 100]⟩)) 0 1 flEnd⟩⟩, (some 20), none⟩, xI 5 18 19 21] (by simp (disch := omega) [hc]; exact rfl) ?_
  refine WDO.heavy1 tyOk extOk (k := ⟨hvStore ⟨stN 5⟩ (.tmp 21) (.tmp 20)⟩) (by kernel_rfl) rfl (by kernel_rfl) (by simp [s1']; exact ⟨rfl, rfl⟩) ?_
  have kk5 : Keep noB H H5 := kk.trans' s4 fun b hb e => by omega
  have hP2 := hP.keep s4 fun b hb _ e => by omega
  have hk2 := hk.trans s4
  have p15 := s4.get (by omega) (by omega) p1'
  refine WDO.nilS (WD.seqR ?_)
  refine leD 3 [xM 5 22, xM 3 23, xB akLss 22 23 24] ?_
  refine WDO.nilS (WD.cond (t := decide (i < x.fs.length)) (by simp) (fun h => ?_) (fun h => WD.skip (.inl rfl) ?_))
  ·have h := of_decide_eq_true h
   obtain ⟨f, hf⟩ := getS h
   have hfm := List.mem_of_getElem? hf
   have hfs' := hx.f.keep0 kk5 (by omega)
   obtain ⟨b', off', cap', o', u', e1', _, e3', e4', e5', e6', e7', e8', e9', e10', e11', e12'⟩ := hfs'.at hf
   obtain ⟨R, hR, hRc⟩ := specR_ex Tryz.prog (fun _ _ Hx u H2 => ∃ lo q, u = itA f.it.k f.it.n f.it.t q ∧ Hx.next ≤ lo ∧ LentS H2 lo H2.next q f.it.s ∧ Keep noB Hx H2)
   refine WD.drawnK tyOk extOk (by kernel_rfl) (ls := [zM 4 25 0 2, zM 5 26 0 2, zF 1 4 27 0 2, zL 27 28 0 2, zM 5 29 0 2, zI 5 28 29 30 0 2, zF 30 0 31 0 2, zL 31 32 0 2, zF 1 4 33 0 1, zL 33 34 0 1, zM 5 35 0 1, zI 5 34 35 36 0 1, zF 36 1 37 0 1, ⟨[37], .look (⟨ldA ⟨ldN 4⟩ (.tmp 37)⟩), (some 38), none, 0, 1, false, false⟩, ⟨[38], .heavy ⟨hvCallF E 37 (opnds [(.tmp 38)])⟩, (some 39), none, 0, 2, false, true⟩, ⟨[32, 39], .look (⟨buildA (.cons (.str 0 0) (.cons (.int .i64 0) (.cons (.int .i64 0) (.cons (.str 0 0) (.cons .snil .nil))))) ⟨fill1 (.tmp 32) 0 1 ⟨fill1 (.tmp 39) 1 4 flEnd⟩⟩⟩), (some 40), none, 1, 1, true, false⟩, zI 5 25 26 41 1 1, ⟨[41, 40], .heavy ⟨hvStore ⟨stN 5⟩ (.tmp 41) (.tmp 40)⟩, none, none, 1, 2, false, true⟩]) (by kernel_rfl) hR fun K hK => ?_
   iterate 3 (refine diLookP (by simp [-resL_cons, resL_cc]; exact rfl) (by simp (disch := omega) []; exact rfl) ?_)
   refine diLookC (by simp [-resL_cons, resL_cc]; exact rfl) (by simp (disch := omega) [p15, gv, e1']; exact rfl) ?_
   iterate 3 (refine diLookP (by simp [-resL_cons, resL_cc]; exact rfl) (by simp (disch := omega) []; exact rfl) ?_)
   refine diLookC (by simp [-resL_cons, resL_cc]; exact rfl) (by simp (disch := omega) [e4', e5']; exact rfl) ?_
   refine diLookP (by simp [-resL_cons, resL_cc]; exact rfl) (by simp (disch := omega) []; exact rfl) ?_
   refine diLookC (by simp [-resL_cons, resL_cc]; exact rfl) (by simp (disch := omega) [p15, gv, e1']; exact rfl) ?_
   iterate 3 (refine diLookP (by simp [-resL_cons, resL_cc]; exact rfl) (by simp (disch := omega) []; exact rfl) ?_)
   refine diLookC (by simp [-resL_cons, resL_cc]; exact rfl) (by simp (disch := omega) [e4', e11']; exact rfl) ?_
   obtain ⟨uw, H6, q3, lo6, q6, rfl, hlo6, hq6, k6⟩ := hRc 37 _ _ (LentItem_ok (k := f.it.k) (n := f.it.n) (t := f.it.t) e10' (by omega) (by have := (hok.fs f hfm).2.1; omega))
   have q3 : R.call 37 (.cons (.agg (avl [.int .i64 f.it.k, .int .i64 f.it.n, sb f.it.t, u'])) .nil) H5 = some (_, H6) := q3
   refine diCallF (by simp [-resL_cons, resL_cc]; exact rfl) (by simp) (extFree _ _ _ rfl rfl rfl) q3 k6.1 ?_
   iterate 2 (refine diLookP (by simp [-resL_cons, resL_cc]; exact rfl) (by simp (disch := omega) [itA]; exact rfl) ?_)
   have n6 := k6.1
   have ht2 := hP2.top
   rw [Nat.min_eq_left (by omega)] at ht2
   obtain ⟨H7, y1, y2, hA7, y4⟩ := (hA2.keep k6 (by omega) id).store encF_len (i := i) (by simp; omega) ⟨f.nm, f.it.k, f.it.n, f.it.t, q6, hq6.cell⟩ (cells_f _)
   have y1' : stN 5 H6 (.agg (.cons (sb f.nm) (.cons (.int .i64 f.it.k) (.cons (.int .i64 f.it.n) (.cons (sb f.it.t) (.cons q6 .nil)))))) (.ptr b0 (i * 5)) = some H7 := y1
   refine diHeavy (by simp [-resL_cons, resL_cc]; exact rfl) (v := undefA) (H2 := H7) (by simp; exact stN_ob y1') (by omega) ?_
   have p16 := k6.get (by omega) id p15
   have p17 := y4.get (by omega) (by omega) p16
   have e4c := k6.get (by omega) id e4'
   have e4d := y4.get (by omega) (by omega) e4c
   simp only [diRun_nil, putA_none, List.reverse_cons, List.reverse_nil, List.nil_append, List.cons_append, chkAdd_f, atAll_s, atAll_z, and_true, true_and]
   refine ⟨by simp (disch := omega) [p15, p16, gv, e1', e4', e4c, e5', e11'], hK _ _ ?_⟩
   clear hK hRc hR q3
   have hP7 := ((hP2.keep k6 fun _ _ _ => id).item h (c := ⟨f.nm, f.it.k, f.it.n, f.it.t, q6, hq6.cell⟩) ⟨fun g hg => by rw [hf] at hg; cases hg; exact ⟨rfl, rfl, rfl, rfl⟩, fun hg => by omega⟩ (by rw [fsIts_at hf]; exact hq6) (by omega) (Nat.le_refl _)).keep y4 fun b hb1 hb2 e => by omega
   rw [List.set_set] at hA7
   refine leD 3 [xM 5 16, xC akAdd 16 1 17, xM 17 5] ?_
   exact WDO.nil ⟨rfl, i + 1, _, rfl, by simp, ⟨by omega, (hk2.trans' k6 fun _ _ e => e.elim).trans y4, _, _, _, hA7, hP7⟩, by omega⟩
  ·have h := of_decide_eq_false h
   have hP6 := hP2.behind (c := behF) (by omega) (by omega) ⟨fun g hg => (by rw [List.getElem?_eq_none (by omega)] at hg; cases hg), fun _ => rfl⟩
   refine leD 3 [xM 5 16, xC akAdd 16 1 17, xM 17 5] ?_
   exact WDO.nil ⟨rfl, i + 1, _, rfl, by simp, ⟨by omega, hk2, _, _, _, hA2, hP6⟩, by omega⟩
end
end Go.Proofs.YtfgipbjaapkdlaaGreatDoor
