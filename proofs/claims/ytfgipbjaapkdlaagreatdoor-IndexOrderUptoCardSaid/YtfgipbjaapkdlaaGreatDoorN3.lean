/- A part of the proof of this seat's statement. Conditions: in each theorem. -/
import Derived.Test.YtfgipbjaapkdlaaGreatDoorN2
namespace Go.Proofs.YtfgipbjaapkdlaaGreatDoor
open Go.Xq
noncomputable section
set_option maxHeartbeats 1000000 in
theorem Decode_ok {l : Its} {H : AH} {v : AV} {b : List UInt8} (h : Sl8 H v b) (hb : b = l.enc) (hbn : b ≠ []) (hlo : ∀ x, blk v = some x → x < H.next) (hc : isCell v = true) (hchk : l.check 0 = 0) (hrng : l.rng) (hmx : b.length ≤ 65536) (hG : GlobU H) :
    DC Tryz.prog .normal 17 (.cons v .nil) H fun v' H2 => ∃ u, v' = .tup (.cons u (.cons (.int .i64 0) .nil)) ∧ SaysI H2 H2.next u l ∧ Keep noB H H2 := by
  refine DC.of_wd (re := reTmp 2 (reTmp 3 reNil)) tyOk Tryz.func17 (by kernel_rfl) rfl (by kernel_rfl) (by kernel_rfl) ?_
  rw [tl_nil, argsT_cons, argsT_nil]
  have hlen := h.rd.len
  have f1 : ¬ (65536 : Int) < (b.length : Int) := by omega
  refine WD.seqR ?_
  refine WDO.looks1 tyOk extOk 2 (ls := [⟨lkMove (.const (.slice none 0 0)), (some 2), none⟩, xK 0 3]) (by kernel_rfl) (by simp (disch := omega) []; exact rfl) ?_
  refine WDO.nilS (WD.seq (WD.seqR ?_))
  refine WDO.looks1 tyOk extOk 3 (ls := [xM 0 5, xN 5 6, xC akGtr 6 65536 7]) (by kernel_rfl) (by simp (disch := omega) [hlen, f1]; exact rfl) ?_
  refine WDO.nilS (WD.cond (t := false) (by simp) (by simp) fun _ => WD.skip (.inl rfl) ?_)
  refine WD.seqR ?_
  refine WDO.looks1 tyOk extOk 2 (ls := [xM 0 8, ⟨⟨buildA (.cons .snil (.cons (.int .i64 0) .nil)) ⟨fill1 (.tmp 8) 0 1 flEnd⟩⟩, (some 9), none⟩]) (by kernel_rfl) (by simp (disch := omega) [cellsA_cell hc]; exact rfl) ?_
  refine WDO.box1 (enc := encG) (a := ⟨v, 0, hc⟩) tyOk encG_len (by kernel_rfl : freshK E _ = some ⟨frBox ⟨mkCs 93 2 (.cons .snil (.cons (.int .i64 0) .nil))⟩ (.tmp 9)⟩) rfl (by kernel_rfl) (by simp [encG]; try rfl) fun o1 b1 => ?_
  have k1 : Keep noB H (H.new o1) := Keep.new _ _ _
  have n1 : (H.new o1).next = H.next + 1 := by simp
  have r1 : RdrAt (H.new o1) H.next v b 0 := ⟨hc, ⟨o1, get_new_same _ _, b1⟩, h.rd.keep k1 fun _ _ => id, (h.sl hbn).keep h.rd hbn k1 fun _ _ => id, fun x hx e => by have := hlo x hx; omega, fun x hx => by have := hlo x hx; omega, by omega⟩
  refine WDO.looks1 tyOk extOk 1 (ls := [xM 10 4]) (by kernel_rfl) (by simp (disch := omega) []; exact rfl) ?_
  refine WDO.nilS (WD.seqR ?_)
  refine WDO.looks1 tyOk extOk 1 (ls := [xM 4 11]) (by kernel_rfl) (by simp (disch := omega) []; exact rfl) ?_
  have hG1 := hG.keep k1 fun _ _ => id
  have h3 : 3 ≤ H.next := hG.1
  refine WDO.callF (g := 46) rfl rfl rfl (by kernel_rfl) (l := .cons (.ptr H.next 0) (.cons (.int .i64 ((0 : Nat) : Int)) .nil)) (by simp) (rdItems_ok l.size (Nat.le_refl _) hchk hrng r1 (Nat.zero_le _) hbn (rest := []) (by rw [List.drop_zero, hb]; simp [tailL]) hmx hG1 h3) fun w H2 ⟨u, hw, hu, _, k2⟩ => ?_
  subst hw
  refine WDO.looks1 tyOk extOk 4 (ls := [xE 12 0 13, xE 12 1 14, xM 13 2, xM 14 3]) (by kernel_rfl) (by simp (disch := omega) []; exact rfl) ?_
  exact WDO.nilS (WD.ret (endR _ (by simp; rfl) ⟨u, rfl, hu.toI fun _ hx => hx.2, k1.trans' k2 fun b hb e => by omega⟩))
set_option maxHeartbeats 2000000 in
theorem row_ok {H : AH} {N : Nat} {w : AV} {ks : List (List UInt8)} {r : Rv} {x : Rec9} (hk : SaysE encT 1 H N w ks) (hx : RecAt H N r x) (hN : N ≤ H.next) (hks : ks.length < 8589934592) (hfl : x.fs.length < 8589934592) :
    DC Tryz.prog .normal 15 (.cons w (.cons (rvA r) .nil)) H fun v' H2 => SaysI H2 H2.next v' (Its.ofL ((ks.map fun k => pick k x.fs) ++ [x.key])) ∧ Keep noB H H2 := by
  refine DC.of_wd (re := reTmp 4 reNil) tyOk Tryz.func15 (by kernel_rfl) rfl (by kernel_rfl) (by kernel_rfl) ?_
  rw [tl_nil, argsT_cons, argsT_cons, argsT_nil]
  have hlk := hk.len
  refine WD.seqR ?_
  refine WDO.box1 (enc := encR) (a := r) tyOk encR_len (by kernel_rfl : freshK E _ = some ⟨frBox ⟨mkCs 30 5 (.cons (.int .i64 0) (.cons (.int .i64 0) (.cons (.str 0 0) (.cons .snil (.cons .snil .nil)))))⟩ (.tmp 1)⟩) rfl (by kernel_rfl) (by simp [rvA]; try rfl) fun o2 b2 => ?_
  have k2 : Keep noB H (H.new o2) := Keep.new _ _ _
  obtain ⟨f2, f3⟩ := box_rd encR_len b2
  have f1 : (H.new o2).get H.next = some o2 := get_new_same _ _
  have gk : rdCells o2 4 0 = some (avl (encI ⟨r.k, r.n, r.t, r.v, r.c⟩)) := rdCells_of (encI ⟨r.k, r.n, r.t, r.v, r.c⟩) _ fun j w hj => by
    rw [Nat.zero_add]
    refine f2 j w ?_
    match j, hj with
    | 0, hj => exact hj
    | 1, hj => exact hj
    | 2, hj => exact hj
    | 3, hj => exact hj
    | j + 4, hj => simp [encI] at hj
  have hn2 : H.next + 1 = (H.new o2).next := by simp
  clear b2 f2
  generalize H.new o2 = H2 at *
  generalize hn2' : H.next = n2 at *
  refine WDO.looks1 tyOk extOk 1 (ls := [⟨lkMove (.const (.slice none 0 0)), (some 4), none⟩]) (by kernel_rfl) (by simp (disch := omega) []; exact rfl) ?_
  refine WDO.nilS (WD.seqR ?_)
  refine WDO.looks1 tyOk extOk 1 (ls := [⟨lkMove (.const (.slice none 0 0)), (some 5), none⟩]) (by kernel_rfl) (by simp (disch := omega) []; exact rfl) ?_
  refine WDO.nilS (WD.seq (WD.seqR ?_))
  refine WDO.looks1 tyOk extOk 1 (ls := [xK 0 6]) (by kernel_rfl) (by simp (disch := omega) []; exact rfl) ?_
  refine WDO.nilS ?_
  refine WD.forE (σ := Nat × AV) (fun s => [(0, w), (3, .ptr n2 0), (5, s.2), (6, .int .i64 (s.1 : Int))]) (fun s H' => s.1 ≤ ks.length ∧ OwnI H' H2.next n2 s.2 ((ks.take s.1).map fun k => pick k x.fs) ∧ Keep noB H2 H') (fun s => ks.length - s.1) (0, .snil) ⟨Nat.zero_le _, OwnI.nil _ _ _, Keep.refl _ _⟩ (by simp) ?_
  rintro ⟨i, c⟩ H5 ⟨hic, ho, k5⟩
  simp only at hic ho
  have kk5 := k2.trans k5
  have f15 := k5.get (by omega) id f1
  have n5 := k5.1
  refine WDO.looks1 tyOk extOk 4 (ls := [xM 6 7, xM 0 8, xN 8 9, xB akLss 7 9 10]) (by kernel_rfl) (by simp (disch := omega) [hlk]; exact rfl) ?_
  refine WDO.nil ⟨decide (i < ks.length), _, rfl, by simp, fun hc => ?_, fun hc => ?_⟩
  · have hc : i = ks.length := by have := of_decide_eq_false hc; omega
    subst hc
    rw [List.take_length] at ho
    refine WD.seqR ?_
    refine WDO.looks1 tyOk extOk 3 (ls := [xM 5 22, xF 3 0 23, xD 4 23 24]) (by kernel_rfl) (by simp (disch := omega) [f15, gk]; exact rfl) ?_
    refine WDO.slice1 (enc := encI) (a := ⟨r.k, r.n, r.t, r.v, r.c⟩) tyOk encI_len (by kernel_rfl : freshK E _ = some ⟨frSlice 1 (zerosA (.cons (.int .i64 0) (.cons (.int .i64 0) (.cons (.str 0 0) (.cons .snil .nil)))) 1) ⟨fill1 (.tmp 24) 0 4 flEnd⟩ ⟨mkCs 27 4 (.cons (.int .i64 0) (.cons (.int .i64 0) (.cons (.str 0 0) (.cons .snil .nil))))⟩⟩) rfl (by kernel_rfl) (by simp; rfl) (by rfl) (by rfl) (by rfl) fun o4 b4 => ?_
    have k6 : Keep noB H5 (H5.new o4) := Keep.new _ _ _
    have g6 : (H5.new o4).get H5.next = some o4 := get_new_same _ _
    have n6 : H5.next + 1 = (H5.new o4).next := by simp
    have hx5 := hx.keep0 kk5 (by omega)
    obtain ⟨c', Ha, a1, a2, a3, a4, a5⟩ := (ho.keep k6 (by omega) (by omega) (fun b h => h.elim) fun _ _ => id).app (x := .sl H5.next 0 1 (some 1)) (a := ⟨r.k, r.n, r.t, r.v, r.c⟩) (y := x.key) (by omega) (by omega) (One.of g6 b4) hx5.k hx5.n hx5.t ((hx5.s.keep0 k6 (by omega)).keep (Keep.refl noB _) (by omega) (fun _ _ => id) (by omega)) (by simp; omega)
    refine WDO.heavy1 tyOk extOk (k := ⟨hvAppend ⟨grownCs 4 ⟨mkCs 27 4 (.cons (.int .i64 0) (.cons (.int .i64 0) (.cons (.str 0 0) (.cons .snil .nil))))⟩⟩ 4 (.tmp 22) (.tmp 25)⟩) (by kernel_rfl) rfl (by kernel_rfl) (by simp; exact a1) ?_
    have kka : Keep noB H Ha := (kk5.trans k6).trans' a5 fun b hb e => by have := (ho.low e).1; omega
    refine WDO.looks1 tyOk extOk 1 (ls := [xM 26 4]) (by kernel_rfl) (by simp (disch := omega) []; exact rfl) ?_
    exact WDO.nilS (WD.ret (endR _ (l := .cons c' .nil) (by simp) ⟨a2.says (by omega), kka⟩))
  · have hc : i < ks.length := of_decide_eq_true hc
    obtain ⟨y, hy⟩ := getS hc
    obtain ⟨b', off', cap', o', e1', _, e3', e4', e5', e6'⟩ := (hk.keep0 kk5 (by omega)).at encT_len hy
    have e5 : rdCell o' (off' + i) = some (sb y) := by have := e5' 0 _ rfl; simpa using this
    obtain ⟨R, hR, hRc⟩ := specR_ex Tryz.prog (fun _ _ Hx u H2 => ∃ v, u = itA (pick y x.fs).k (pick y x.fs).n (pick y x.fs).t v ∧ SaysI H2 N v (pick y x.fs).s ∧ Keep noB Hx H2)
    refine WD.drawnK tyOk extOk (by kernel_rfl) (ls := [⟨[5], .look (lkMove (.tmp 5)), (some 13), none, 0, 2, true, false⟩, ⟨[3], .look (⟨ldA ⟨ldN 5⟩ (.tmp 3)⟩), (some 14), none, 0, 1, false, false⟩, ⟨[0], .look (lkMove (.tmp 0)), (some 15), none, 0, 1, true, false⟩, ⟨[6], .look (lkMove (.tmp 6)), (some 16), none, 0, 1, true, false⟩, ⟨[15, 16], .look (⟨ixSl 1 (.tmp 15) (.tmp 16)⟩), (some 17), none, 0, 1, true, false⟩, ⟨[17], .look (⟨ldA ⟨ld1⟩ (.tmp 17)⟩), (some 18), none, 0, 1, false, false⟩, ⟨[14, 18], .heavy ⟨hvCallF E 35 (opnds [(.tmp 14), (.tmp 18)])⟩, (some 19), none, 0, 2, false, true⟩, ⟨[19], .fresh ⟨frSlice 1 (zerosA (.cons (.int .i64 0) (.cons (.int .i64 0) (.cons (.str 0 0) (.cons .snil .nil)))) 1) ⟨fill1 (.tmp 19) 0 4 flEnd⟩ ⟨mkCs 27 4 (.cons (.int .i64 0) (.cons (.int .i64 0) (.cons (.str 0 0) (.cons .snil .nil))))⟩⟩, (some 20), none, 1, 1, false, false⟩, ⟨[13, 20], .heavy ⟨hvAppend ⟨grownCs 4 ⟨mkCs 27 4 (.cons (.int .i64 0) (.cons (.int .i64 0) (.cons (.str 0 0) (.cons .snil .nil))))⟩⟩ 4 (.tmp 13) (.tmp 20)⟩, (some 21), none, 1, 2, false, true⟩, ⟨[21], .look (lkMove (.tmp 21)), (some 5), none, 2, 1, true, false⟩]) (by kernel_rfl) hR fun K hK => ?_
    refine diLookP (by simp [-resL_cons, resL_cc]; exact rfl) (by simp (disch := omega) []; exact rfl) ?_
    refine diLookC (by simp [-resL_cons, resL_cc]; exact rfl) (by simp (disch := omega) [f15, f3]; exact rfl) ?_
    iterate 3 (refine diLookP (by simp [-resL_cons, resL_cc]; exact rfl) (by simp (disch := omega) [e1']; exact rfl) ?_)
    refine diLookC (by simp [-resL_cons, resL_cc]; exact rfl) (by simp (disch := omega) [e4', e5]; exact rfl) ?_
    obtain ⟨uw, Hc, q2, v9, rfl, hs9, kc⟩ := hRc 35 _ _ (Item_ok (nm := y) (hx.keep0 kk5 (by omega)) (by omega) (by omega))
    have q2 : R.call 35 (.cons (.agg (avl (encR r))) (.cons (sb y) .nil)) H5 = some (_, Hc) := q2
    refine diCallF (by simp [-resL_cons, resL_cc]; exact rfl) (by simp) (extFree _ _ _ rfl rfl rfl) q2 kc.1 ?_
    have nc := kc.1
    obtain ⟨ox, fx, bx⟩ := frSlice_els (enc := encI) (e := 27) (es := 4) (z := zIv) (els := [⟨(pick y x.fs).k, (pick y x.fs).n, (pick y x.fs).t, v9, hs9.cell⟩]) encI_len (n := 1) (z0 := zerosA zIv 1) (g := ⟨fill1 (.tmp 19) 0 4 flEnd⟩) (T := tl [(19, itA (pick y x.fs).k (pick y x.fs).n (pick y x.fs).t v9)]) (b0 := Hc.next) (by rfl) rfl
    refine diFresh (by first | (simp [-resL_cons, resL_cc]; done) | (simp [-resL_cons, resL_cc]; exact rfl)) (l2 := [(19, itA (pick y x.fs).k (pick y x.fs).n (pick y x.fs).t v9)]) (o := ox) (v := .sl Hc.next 0 1 (some 1)) (by exact fx) ?_
    have kn : Keep noB Hc (Hc.new ox) := Keep.new _ _ _
    have gn : (Hc.new ox).get Hc.next = some ox := get_new_same _ _
    have nn : (Hc.new ox).next = Hc.next + 1 := by simp
    have kcn := kc.trans kn
    obtain ⟨c', Ha, a1, a2, a3, a4, a5⟩ := (ho.keep kcn (by omega) (by omega) (fun b h => h.elim) fun _ _ => id).app (x := .sl Hc.next 0 1 (some 1)) (a := ⟨(pick y x.fs).k, (pick y x.fs).n, (pick y x.fs).t, v9, hs9.cell⟩) (y := pick y x.fs) (by omega) (by omega) (One.of gn bx) rfl rfl rfl (hs9.keep kn (by omega) (fun _ _ => id) (by omega)) (by simp; omega)
    refine diHeavy (by simp [-resL_cons, resL_cc]; exact rfl) (v := c') (H2 := Ha) (by simp; exact a1) (by omega) ?_
    simp only [putA_some]
    refine diLookP (by simp [-resL_cons, resL_cc]; exact rfl) (by simp (disch := omega) []; exact rfl) ?_
    have f1c := kc.get (by omega) id f15
    have f1n := kn.get (by omega) id f1c
    have e4c := kc.get (by omega) id e4'
    have e4n := kn.get (by omega) id e4c
    simp only [diRun_nil, List.reverse_cons, List.reverse_nil, List.nil_append, List.cons_append, chkAdd_f, chkBlk_f, atAll_s, atAll_z, and_true, true_and]
    refine ⟨by simp (disch := omega) [f15, f3, e4', e5]; obtain ⟨t, rfl⟩ := bx.opn; trivial, hK _ _ ?_⟩
    clear hK hRc hR q2
    have kf : Keep noB H2 Ha := (k5.trans kcn).trans' a5 fun b hb e => by have := (ho.low e).1; omega
    refine WDO.looks1 tyOk extOk 3 (ls := [xM 6 11, xC akAdd 11 1 12, xM 12 6]) (by kernel_rfl) (by simp (disch := omega) []; exact rfl) ?_
    exact WDO.nil ⟨rfl, (i + 1, c'), _, rfl, by simp [e1'], ⟨by simp only; omega, by simp only [take_snoc hy, List.map_append]; exact a2, kf⟩, by simp only; omega⟩
theorem mmMin' {k j : IntKind} {m n : Int} : mmA false (.cons (.int j m) .nil) (.int k n) = some (.int k (if m < n then m else n)) := by
  show some (AV.int k (bt (bt false (ltI n m) (ltI m n)) m n)) = _
  rw [bt_false, ltI_dec]
  by_cases h : m < n
  · rw [decide_eq_true h, bt_true, if_pos h]
  · rw [decide_eq_false h, bt_false, if_neg h]
theorem nan97_ok {H : AH} {x : Int} : DC Tryz.prog .normal 97 (.cons (.int .i64 x) .nil) H fun v' H2 => v' = .bool false ∧ H2 = H := by
  refine DC.of_wd (re := reTmp 2 reNil) tyOk Tryz.func97 (by kernel_rfl) rfl (by kernel_rfl) (by kernel_rfl) ?_
  rw [tl_nil, argsT_cons, argsT_nil]
  refine WD.seqR ?_
  refine WDO.looks1 tyOk extOk 1 (ls := [xZ false 2]) (by kernel_rfl) (by simp (disch := omega) []; exact rfl) ?_
  refine WDO.nilS (WD.seqR ?_)
  refine WDO.looks1 tyOk extOk 4 (ls := [xM 0 3, xM 0 4, xB akNeq 3 4 5, xM 5 2]) (by kernel_rfl) (by simp (disch := omega) []; exact rfl) ?_
  exact WDO.nilS (WD.ret (endR _ (by simp; rfl) ⟨rfl, rfl⟩))
theorem cmp45_ok {H : AH} {x y : Int} : DC Tryz.prog .normal 45 (.cons (.int .i64 x) (.cons (.int .i64 y) .nil)) H fun v' H2 => v' = .int .i64 (cmpI x y) ∧ H2 = H := by
  refine DC.of_wd (re := reTmp 4 reNil) tyOk Tryz.func45 (by kernel_rfl) rfl (by kernel_rfl) (by kernel_rfl) ?_
  rw [tl_nil, argsT_cons, argsT_cons, argsT_nil]
  refine WD.seqR ?_
  refine WDO.looks1 tyOk extOk 1 (ls := [xK 0 4]) (by kernel_rfl) (by simp (disch := omega) []; exact rfl) ?_
  refine WDO.nilS (WD.seqR ?_)
  refine WDO.looks1 tyOk extOk 1 (ls := [xM 0 7]) (by kernel_rfl) (by simp (disch := omega) []; exact rfl) ?_
  refine WDO.callF (g := 97) rfl rfl rfl (by kernel_rfl) (l := .cons (.int .i64 x) .nil) (by simp) nan97_ok fun u H2 ⟨hu, hH⟩ => ?_
  subst hu; subst hH
  refine WDO.looks1 tyOk extOk 1 (ls := [xM 8 5]) (by kernel_rfl) (by simp (disch := omega) []; exact rfl) ?_
  refine WDO.nilS (WD.seqR ?_)
  refine WDO.looks1 tyOk extOk 1 (ls := [xM 1 9]) (by kernel_rfl) (by simp (disch := omega) []; exact rfl) ?_
  refine WDO.callF (g := 97) rfl rfl rfl (by kernel_rfl) (l := .cons (.int .i64 y) .nil) (by simp) nan97_ok fun u H2 ⟨hu, hH⟩ => ?_
  subst hu; subst hH
  refine WDO.looks1 tyOk extOk 1 (ls := [xM 10 6]) (by kernel_rfl) (by simp (disch := omega) []; exact rfl) ?_
  refine WDO.nilS (WD.seq (WD.seqR ?_))
  refine WDO.looks1 tyOk extOk 1 (ls := [xM 5 11]) (by kernel_rfl) (by simp (disch := omega) []; exact rfl) ?_
  refine WDO.nilS (WD.cond (t := false) (by simp) (by simp) fun _ => WD.skip (.inl rfl) (WD.seq (WD.seqR ?_)))
  refine WDO.looks1 tyOk extOk 1 (ls := [xM 6 13]) (by kernel_rfl) (by simp (disch := omega) []; exact rfl) ?_
  refine WDO.nilS (WD.cond (t := false) (by simp) (by simp) fun _ => WD.skip (.inl rfl) (WD.seq (WD.seqR ?_)))
  by_cases h1 : x < y
  · refine WDO.looks1 tyOk extOk 3 (ls := [xM 0 14, xM 1 15, xB akLss 14 15 16]) (by kernel_rfl) (by simp (disch := omega) [h1]; exact rfl) ?_
    refine WDO.nilS (WD.cond (t := true) (by simp) (fun _ => WD.seqR ?_) (by simp))
    refine WDO.looks1 tyOk extOk 1 (ls := [xK (-1) 4]) (by kernel_rfl) (by simp (disch := omega) []; exact rfl) ?_
    exact WDO.nilS (WD.ret (endR _ (by simp; rfl) ⟨by unfold cmpI; rw [if_pos h1]; rfl, rfl⟩))
  · refine WDO.looks1 tyOk extOk 3 (ls := [xM 0 14, xM 1 15, xB akLss 14 15 16]) (by kernel_rfl) (by simp (disch := omega) [h1]; exact rfl) ?_
    refine WDO.nilS (WD.cond (t := false) (by simp) (by simp) fun _ => WD.skip (.inl rfl) (WD.seq (WD.seqR ?_)))
    by_cases h2 : y < x
    · refine WDO.looks1 tyOk extOk 3 (ls := [xM 0 17, xM 1 18, xB akGtr 17 18 19]) (by kernel_rfl) (by simp (disch := omega) [h2]; exact rfl) ?_
      refine WDO.nilS (WD.cond (t := true) (by simp) (fun _ => WD.seqR ?_) (by simp))
      refine WDO.looks1 tyOk extOk 1 (ls := [xK 1 4]) (by kernel_rfl) (by simp (disch := omega) []; exact rfl) ?_
      exact WDO.nilS (WD.ret (endR _ (by simp; rfl) ⟨by unfold cmpI; rw [if_neg h1, if_pos h2]; rfl, rfl⟩))
    · refine WDO.looks1 tyOk extOk 3 (ls := [xM 0 17, xM 1 18, xB akGtr 17 18 19]) (by kernel_rfl) (by simp (disch := omega) [h2]; exact rfl) ?_
      refine WDO.nilS (WD.cond (t := false) (by simp) (by simp) fun _ => WD.skip (.inl rfl) (WD.seqR ?_))
      refine WDO.looks1 tyOk extOk 1 (ls := [xK 0 4]) (by kernel_rfl) (by simp (disch := omega) []; exact rfl) ?_
      exact WDO.nilS (WD.ret (endR _ (by simp; rfl) ⟨by unfold cmpI; rw [if_neg h1, if_neg h2]; rfl, rfl⟩))
theorem nan132_ok {H : AH} {x : Int} : DC Tryz.prog .normal 132 (.cons (.int .i64 x) .nil) H fun v' H2 => v' = .bool false ∧ H2 = H := by
  refine DC.of_wd (re := reTmp 2 reNil) tyOk Tryz.func132 (by kernel_rfl) rfl (by kernel_rfl) (by kernel_rfl) ?_
  rw [tl_nil, argsT_cons, argsT_nil]
  refine WD.seqR ?_
  refine WDO.looks1 tyOk extOk 1 (ls := [xZ false 2]) (by kernel_rfl) (by simp (disch := omega) []; exact rfl) ?_
  refine WDO.nilS (WD.seqR ?_)
  refine WDO.looks1 tyOk extOk 4 (ls := [xM 0 3, xM 0 4, xB akNeq 3 4 5, xM 5 2]) (by kernel_rfl) (by simp (disch := omega) []; exact rfl) ?_
  exact WDO.nilS (WD.ret (endR _ (by simp; rfl) ⟨rfl, rfl⟩))
theorem cmp93_ok {H : AH} {x y : Int} : DC Tryz.prog .normal 93 (.cons (.int .i64 x) (.cons (.int .i64 y) .nil)) H fun v' H2 => v' = .int .i64 (cmpI x y) ∧ H2 = H := by
  refine DC.of_wd (re := reTmp 4 reNil) tyOk Tryz.func93 (by kernel_rfl) rfl (by kernel_rfl) (by kernel_rfl) ?_
  rw [tl_nil, argsT_cons, argsT_cons, argsT_nil]
  refine WD.seqR ?_
  refine WDO.looks1 tyOk extOk 1 (ls := [xK 0 4]) (by kernel_rfl) (by simp (disch := omega) []; exact rfl) ?_
  refine WDO.nilS (WD.seqR ?_)
  refine WDO.looks1 tyOk extOk 1 (ls := [xM 0 7]) (by kernel_rfl) (by simp (disch := omega) []; exact rfl) ?_
  refine WDO.callF (g := 132) rfl rfl rfl (by kernel_rfl) (l := .cons (.int .i64 x) .nil) (by simp) nan132_ok fun u H2 ⟨hu, hH⟩ => ?_
  subst hu; subst hH
  refine WDO.looks1 tyOk extOk 1 (ls := [xM 8 5]) (by kernel_rfl) (by simp (disch := omega) []; exact rfl) ?_
  refine WDO.nilS (WD.seqR ?_)
  refine WDO.looks1 tyOk extOk 1 (ls := [xM 1 9]) (by kernel_rfl) (by simp (disch := omega) []; exact rfl) ?_
  refine WDO.callF (g := 132) rfl rfl rfl (by kernel_rfl) (l := .cons (.int .i64 y) .nil) (by simp) nan132_ok fun u H2 ⟨hu, hH⟩ => ?_
  subst hu; subst hH
  refine WDO.looks1 tyOk extOk 1 (ls := [xM 10 6]) (by kernel_rfl) (by simp (disch := omega) []; exact rfl) ?_
  refine WDO.nilS (WD.seq (WD.seqR ?_))
  refine WDO.looks1 tyOk extOk 1 (ls := [xM 5 11]) (by kernel_rfl) (by simp (disch := omega) []; exact rfl) ?_
  refine WDO.nilS (WD.cond (t := false) (by simp) (by simp) fun _ => WD.skip (.inl rfl) (WD.seq (WD.seqR ?_)))
  refine WDO.looks1 tyOk extOk 1 (ls := [xM 6 13]) (by kernel_rfl) (by simp (disch := omega) []; exact rfl) ?_
  refine WDO.nilS (WD.cond (t := false) (by simp) (by simp) fun _ => WD.skip (.inl rfl) (WD.seq (WD.seqR ?_)))
  by_cases h1 : x < y
  · refine WDO.looks1 tyOk extOk 3 (ls := [xM 0 14, xM 1 15, xB akLss 14 15 16]) (by kernel_rfl) (by simp (disch := omega) [h1]; exact rfl) ?_
    refine WDO.nilS (WD.cond (t := true) (by simp) (fun _ => WD.seqR ?_) (by simp))
    refine WDO.looks1 tyOk extOk 1 (ls := [xK (-1) 4]) (by kernel_rfl) (by simp (disch := omega) []; exact rfl) ?_
    exact WDO.nilS (WD.ret (endR _ (by simp; rfl) ⟨by unfold cmpI; rw [if_pos h1]; rfl, rfl⟩))
  · refine WDO.looks1 tyOk extOk 3 (ls := [xM 0 14, xM 1 15, xB akLss 14 15 16]) (by kernel_rfl) (by simp (disch := omega) [h1]; exact rfl) ?_
    refine WDO.nilS (WD.cond (t := false) (by simp) (by simp) fun _ => WD.skip (.inl rfl) (WD.seq (WD.seqR ?_)))
    by_cases h2 : y < x
    · refine WDO.looks1 tyOk extOk 3 (ls := [xM 0 17, xM 1 18, xB akGtr 17 18 19]) (by kernel_rfl) (by simp (disch := omega) [h2]; exact rfl) ?_
      refine WDO.nilS (WD.cond (t := true) (by simp) (fun _ => WD.seqR ?_) (by simp))
      refine WDO.looks1 tyOk extOk 1 (ls := [xK 1 4]) (by kernel_rfl) (by simp (disch := omega) []; exact rfl) ?_
      exact WDO.nilS (WD.ret (endR _ (by simp; rfl) ⟨by unfold cmpI; rw [if_neg h1, if_pos h2]; rfl, rfl⟩))
    · refine WDO.looks1 tyOk extOk 3 (ls := [xM 0 17, xM 1 18, xB akGtr 17 18 19]) (by kernel_rfl) (by simp (disch := omega) [h2]; exact rfl) ?_
      refine WDO.nilS (WD.cond (t := false) (by simp) (by simp) fun _ => WD.skip (.inl rfl) (WD.seqR ?_))
      refine WDO.looks1 tyOk extOk 1 (ls := [xK 0 4]) (by kernel_rfl) (by simp (disch := omega) []; exact rfl) ?_
      exact WDO.nilS (WD.ret (endR _ (by simp; rfl) ⟨by unfold cmpI; rw [if_neg h1, if_neg h2]; rfl, rfl⟩))
theorem nan133_ok {H : AH} {x : Int} : DC Tryz.prog .normal 133 (.cons (.int .u64 x) .nil) H fun v' H2 => v' = .bool false ∧ H2 = H := by
  refine DC.of_wd (re := reTmp 2 reNil) tyOk Tryz.func133 (by kernel_rfl) rfl (by kernel_rfl) (by kernel_rfl) ?_
  rw [tl_nil, argsT_cons, argsT_nil]
  refine WD.seqR ?_
  refine WDO.looks1 tyOk extOk 1 (ls := [xZ false 2]) (by kernel_rfl) (by simp (disch := omega) []; exact rfl) ?_
  refine WDO.nilS (WD.seqR ?_)
  refine WDO.looks1 tyOk extOk 4 (ls := [xM 0 3, xM 0 4, xB akNeq 3 4 5, xM 5 2]) (by kernel_rfl) (by simp (disch := omega) []; exact rfl) ?_
  exact WDO.nilS (WD.ret (endR _ (by simp; rfl) ⟨rfl, rfl⟩))
theorem cmp94_ok {H : AH} {x y : Int} : DC Tryz.prog .normal 94 (.cons (.int .u64 x) (.cons (.int .u64 y) .nil)) H fun v' H2 => v' = .int .i64 (cmpI x y) ∧ H2 = H := by
  refine DC.of_wd (re := reTmp 4 reNil) tyOk Tryz.func94 (by kernel_rfl) rfl (by kernel_rfl) (by kernel_rfl) ?_
  rw [tl_nil, argsT_cons, argsT_cons, argsT_nil]
  refine WD.seqR ?_
  refine WDO.looks1 tyOk extOk 1 (ls := [xK 0 4]) (by kernel_rfl) (by simp (disch := omega) []; exact rfl) ?_
  refine WDO.nilS (WD.seqR ?_)
  refine WDO.looks1 tyOk extOk 1 (ls := [xM 0 7]) (by kernel_rfl) (by simp (disch := omega) []; exact rfl) ?_
  refine WDO.callF (g := 133) rfl rfl rfl (by kernel_rfl) (l := .cons (.int .u64 x) .nil) (by simp) nan133_ok fun u H2 ⟨hu, hH⟩ => ?_
  subst hu; subst hH
  refine WDO.looks1 tyOk extOk 1 (ls := [xM 8 5]) (by kernel_rfl) (by simp (disch := omega) []; exact rfl) ?_
  refine WDO.nilS (WD.seqR ?_)
  refine WDO.looks1 tyOk extOk 1 (ls := [xM 1 9]) (by kernel_rfl) (by simp (disch := omega) []; exact rfl) ?_
  refine WDO.callF (g := 133) rfl rfl rfl (by kernel_rfl) (l := .cons (.int .u64 y) .nil) (by simp) nan133_ok fun u H2 ⟨hu, hH⟩ => ?_
  subst hu; subst hH
  refine WDO.looks1 tyOk extOk 1 (ls := [xM 10 6]) (by kernel_rfl) (by simp (disch := omega) []; exact rfl) ?_
  refine WDO.nilS (WD.seq (WD.seqR ?_))
  refine WDO.looks1 tyOk extOk 1 (ls := [xM 5 11]) (by kernel_rfl) (by simp (disch := omega) []; exact rfl) ?_
  refine WDO.nilS (WD.cond (t := false) (by simp) (by simp) fun _ => WD.skip (.inl rfl) (WD.seq (WD.seqR ?_)))
  refine WDO.looks1 tyOk extOk 1 (ls := [xM 6 13]) (by kernel_rfl) (by simp (disch := omega) []; exact rfl) ?_
  refine WDO.nilS (WD.cond (t := false) (by simp) (by simp) fun _ => WD.skip (.inl rfl) (WD.seq (WD.seqR ?_)))
  by_cases h1 : x < y
  · refine WDO.looks1 tyOk extOk 3 (ls := [xM 0 14, xM 1 15, xB akLss 14 15 16]) (by kernel_rfl) (by simp (disch := omega) [h1]; exact rfl) ?_
    refine WDO.nilS (WD.cond (t := true) (by simp) (fun _ => WD.seqR ?_) (by simp))
    refine WDO.looks1 tyOk extOk 1 (ls := [xK (-1) 4]) (by kernel_rfl) (by simp (disch := omega) []; exact rfl) ?_
    exact WDO.nilS (WD.ret (endR _ (by simp; rfl) ⟨by unfold cmpI; rw [if_pos h1]; rfl, rfl⟩))
  · refine WDO.looks1 tyOk extOk 3 (ls := [xM 0 14, xM 1 15, xB akLss 14 15 16]) (by kernel_rfl) (by simp (disch := omega) [h1]; exact rfl) ?_
    refine WDO.nilS (WD.cond (t := false) (by simp) (by simp) fun _ => WD.skip (.inl rfl) (WD.seq (WD.seqR ?_)))
    by_cases h2 : y < x
    · refine WDO.looks1 tyOk extOk 3 (ls := [xM 0 17, xM 1 18, xB akGtr 17 18 19]) (by kernel_rfl) (by simp (disch := omega) [h2]; exact rfl) ?_
      refine WDO.nilS (WD.cond (t := true) (by simp) (fun _ => WD.seqR ?_) (by simp))
      refine WDO.looks1 tyOk extOk 1 (ls := [xK 1 4]) (by kernel_rfl) (by simp (disch := omega) []; exact rfl) ?_
      exact WDO.nilS (WD.ret (endR _ (by simp; rfl) ⟨by unfold cmpI; rw [if_neg h1, if_pos h2]; rfl, rfl⟩))
    · refine WDO.looks1 tyOk extOk 3 (ls := [xM 0 17, xM 1 18, xB akGtr 17 18 19]) (by kernel_rfl) (by simp (disch := omega) [h2]; exact rfl) ?_
      refine WDO.nilS (WD.cond (t := false) (by simp) (by simp) fun _ => WD.skip (.inl rfl) (WD.seqR ?_))
      refine WDO.looks1 tyOk extOk 1 (ls := [xK 0 4]) (by kernel_rfl) (by simp (disch := omega) []; exact rfl) ?_
      exact WDO.nilS (WD.ret (endR _ (by simp; rfl) ⟨by unfold cmpI; rw [if_neg h1, if_neg h2]; rfl, rfl⟩))
theorem cmpE {H : AH} {s t : List UInt8} : E.ext 170 (.cons (sb s) (.cons (sb t) .nil)) H = some (.int .i64 (Lib.compareBytes s t)) := by
  show cmpA (.cons (sb s) (.cons (sb t) .nil)) H = _
  show ob (bytesA H (sb s)) (fun p => ob (bytesA H (sb t)) fun q => some (AV.int .i64 (cmpB (Nat.succ p.1) p.1 p.2 q.1 q.2))) = _
  show some (AV.int .i64 (cmpB (Nat.succ s.length) s.length (leNat s) t.length (leNat t))) = _
  rw [cmpB_eq _ _ _ _ _ (Nat.lt_succ_self _), bytesN_leNat, bytesN_leNat]
theorem cmpStr_ok {H : AH} {s t : List UInt8} : DC Tryz.prog .normal 134 (.cons (sb s) (.cons (sb t) .nil)) H fun v' H2 => v' = .int .i64 (Lib.compareBytes s t) ∧ H2 = H := by
  refine DC.of_wd (re := reTmp 4 reNil) tyOk Tryz.func134 (by kernel_rfl) rfl (by kernel_rfl) (by kernel_rfl) ?_
  rw [tl_nil, argsT_cons, argsT_cons, argsT_nil]
  refine WD.seqR ?_
  refine WDO.looks1 tyOk extOk 1 (ls := [xK 0 4]) (by kernel_rfl) (by simp (disch := omega) []; exact rfl) ?_
  refine WDO.nilS (WD.seqR ?_)
  refine WDO.looks1 tyOk extOk 2 (ls := [xM 0 5, xM 1 6]) (by kernel_rfl) (by simp (disch := omega) []; exact rfl) ?_
  refine WDO.heavy1 tyOk extOk (k := ⟨hvCallF E 170 (opnds [(.tmp 5), (.tmp 6)])⟩) (v := .int .i64 (Lib.compareBytes s t)) (H2 := H) (by kernel_rfl) rfl (by kernel_rfl) ?_ ?_
  · have hc := cmpE (H := H) (s := s) (t := t)
    simp [hvCallF, callFA, hc]
  refine WDO.looks1 tyOk extOk 1 (ls := [xM 7 4]) (by kernel_rfl) (by simp (disch := omega) []; exact rfl) ?_
  exact WDO.nilS (WD.ret (endR _ (by simp; rfl) ⟨rfl, rfl⟩))
theorem strCmp_ok {H : AH} {s t : List UInt8} : DC Tryz.prog .normal 96 (.cons (sb s) (.cons (sb t) .nil)) H fun v' H2 => v' = .int .i64 (Lib.compareBytes s t) ∧ H2 = H := by
  refine DC.of_wd (re := reTmp 4 reNil) tyOk Tryz.func96 (by kernel_rfl) rfl (by kernel_rfl) (by kernel_rfl) ?_
  rw [tl_nil, argsT_cons, argsT_cons, argsT_nil]
  refine WD.seqR ?_
  refine WDO.looks1 tyOk extOk 1 (ls := [xK 0 4]) (by kernel_rfl) (by simp (disch := omega) []; exact rfl) ?_
  refine WDO.nilS (WD.seqR ?_)
  refine WDO.looks1 tyOk extOk 2 (ls := [xM 0 5, xM 1 6]) (by kernel_rfl) (by simp (disch := omega) []; exact rfl) ?_
  refine WDO.callF (g := 134) rfl rfl rfl (by kernel_rfl) (l := .cons (sb s) (.cons (sb t) .nil)) (by simp) cmpStr_ok fun u H2 ⟨hu, hH⟩ => ?_
  subst hu; subst hH
  refine WDO.looks1 tyOk extOk 1 (ls := [xM 7 4]) (by kernel_rfl) (by simp (disch := omega) []; exact rfl) ?_
  exact WDO.nilS (WD.ret (endR _ (by simp; rfl) ⟨rfl, rfl⟩))
def CmpOk (s s' : Its) : Prop := ∀ {H : AH} {N : Nat} {v w : AV}, SaysI H N v s → SaysI H N w s' → N ≤ H.next → DC Tryz.prog .normal 16 (.cons v (.cons w .nil)) H fun u H2 => u = .int .i64 (s.cmp s') ∧ Keep noB H H2
def S8 : Nat → AV → AH → AV → AH → Prop := fun g a Hx u H2 => H2 = Hx ∧ (g = 95 → ∀ n : Int, a = .cons (.int .i64 n) .nil → u = .int .u64 ((turned n : Nat) : Int)) ∧ (g = 94 → ∀ x y : Int, a = .cons (.int .u64 x) (.cons (.int .u64 y) .nil) → u = .int .i64 (cmpI x y))
theorem sorted_S {H : AH} {n : Int} (h1 : -9223372036854775808 ≤ n) (h2 : n < 9223372036854775808) : DC Tryz.prog .normal 95 (.cons (.int .i64 n) .nil) H (S8 95 (.cons (.int .i64 n) .nil) H) :=
  (sorted_ok h1 h2).mono fun u H2 ⟨e1, e2⟩ => ⟨e2, fun _ m e => by
    injection e with e _
    injection e with _ e
    subst e; exact e1, fun h => by cases h⟩
theorem cmp94_S {H : AH} {x y : Int} : DC Tryz.prog .normal 94 (.cons (.int .u64 x) (.cons (.int .u64 y) .nil)) H (S8 94 (.cons (.int .u64 x) (.cons (.int .u64 y) .nil)) H) :=
  cmp94_ok.mono fun u H2 ⟨e1, e2⟩ => ⟨e2, fun h => (by cases h), fun _ a b e => by
    injection e with e e'
    injection e with _ e
    injection e' with e' _
    injection e' with _ e'
    subst e; subst e'; exact e1⟩
set_option maxHeartbeats 2000000 in
theorem compare_ok {s s' : Its} (hc : CmpOk s s') {H : AH} {N : Nat} {k n k' n' : Int} {t t' : List UInt8} {v v' : AV} (hv : SaysI H N v s) (hv' : SaysI H N v' s') (hN : N ≤ H.next)
    (hr : -9223372036854775808 ≤ n ∧ n < 9223372036854775808) (hr' : -9223372036854775808 ≤ n' ∧ n' < 9223372036854775808) :
    DC Tryz.prog .normal 44 (.cons (itA k n t v) (.cons (itA k' n' t' v') .nil)) H fun u H2 => u = .int .i64 (cmp1 k n t k' n' t' (s.cmp s')) ∧ Keep noB H H2 := by
  refine DC.of_wd (re := reTmp 4 reNil) tyOk Tryz.func44 (by kernel_rfl) rfl (by kernel_rfl) (by kernel_rfl) ?_
  rw [tl_nil, argsT_cons, argsT_cons, argsT_nil, itA_iv k n t v hv.cell, itA_iv k' n' t' v' hv'.cell]
  refine WD.seqR ?_
  refine WDO.box1 (enc := encI) (a := ⟨k, n, t, v, hv.cell⟩) tyOk encI_len (by kernel_rfl : freshK E _ = some ⟨frBox ⟨mkCs 27 4 (.cons (.int .i64 0) (.cons (.int .i64 0) (.cons (.str 0 0) (.cons .snil .nil))))⟩ (.tmp 0)⟩) rfl (by kernel_rfl) (by simp; try rfl) fun o1 b1 => ?_
  have k1 : Keep noB H (H.new o1) := Keep.new _ _ _
  have g1 : (H.new o1).get H.next = some o1 := get_new_same _ _
  obtain ⟨q1, _⟩ := box_rd encI_len b1
  have r0 : rdCell o1 0 = some (.int .i64 k) := q1 0 _ rfl
  have r1 : rdCell o1 1 = some (.int .i64 n) := q1 1 _ rfl
  have r2 : rdCell o1 2 = some (sb t) := q1 2 _ rfl
  have r3 : rdCell o1 3 = some v := q1 3 _ rfl
  have hn1 : (H.new o1).next = H.next + 1 := by simp
  clear q1 b1
  generalize H.new o1 = H1 at *
  refine WDO.box1 (enc := encI) (a := ⟨k', n', t', v', hv'.cell⟩) tyOk encI_len (by kernel_rfl : freshK E _ = some ⟨frBox ⟨mkCs 27 4 (.cons (.int .i64 0) (.cons (.int .i64 0) (.cons (.str 0 0) (.cons .snil .nil))))⟩ (.tmp 1)⟩) rfl (by kernel_rfl) (by simp; try rfl) fun o2 b2 => ?_
  have k2' : Keep noB H1 (H1.new o2) := Keep.new _ _ _
  have k2 := k1.trans k2'
  have g2 : (H1.new o2).get H1.next = some o2 := get_new_same _ _
  have g1 := k2'.get (by omega) id g1
  obtain ⟨q1, _⟩ := box_rd encI_len b2
  have s0 : rdCell o2 0 = some (.int .i64 k') := q1 0 _ rfl
  have s1 : rdCell o2 1 = some (.int .i64 n') := q1 1 _ rfl
  have s2 : rdCell o2 2 = some (sb t') := q1 2 _ rfl
  have s3 : rdCell o2 3 = some v' := q1 3 _ rfl
  have hn2 : (H1.new o2).next = H1.next + 1 := by simp
  clear q1 b2 k2'
  generalize H1.new o2 = H2 at *
  generalize H1.next = N2 at *
  generalize hN1 : H.next = N1 at *
  refine WDO.looks1 tyOk extOk 1 (ls := [xK 0 4]) (by kernel_rfl) (by simp (disch := omega) []; exact rfl) ?_
  refine WDO.nilS (WD.seq (WD.seqR ?_))
  refine WDO.looks1 tyOk extOk 4 (ls := [xF 2 0 6, xL 6 7, xF 3 0 8, xL 8 9]) (by kernel_rfl) (by simp (disch := omega) [g1, g2, r0, s0]; exact rfl) ?_
  refine WDO.callF (g := 45) rfl rfl rfl (by kernel_rfl) (l := .cons (.int .i64 k) (.cons (.int .i64 k') .nil)) (by simp) cmp45_ok fun u H2 ⟨hu, hH⟩ => ?_
  subst hu; subst hH
  refine WDO.looks1 tyOk extOk 1 (ls := [xM 10 5]) (by kernel_rfl) (by simp (disch := omega) []; exact rfl) ?_
  refine WDO.nilS (WD.seqR ?_)
  unfold cmp1
  by_cases hk : cmpI k k' = 0
  rotate_left
  · refine WDO.looks1 tyOk extOk 2 (ls := [xM 5 11, xC akNeq 11 0 12]) (by kernel_rfl) (by simp (disch := omega) [hk]; exact rfl) ?_
    refine WDO.nilS (WD.cond (t := true) (by simp) (fun _ => WD.seqR ?_) (by simp))
    refine WDO.looks1 tyOk extOk 2 (ls := [xM 5 13, xM 13 4]) (by kernel_rfl) (by simp (disch := omega) []; exact rfl) ?_
    exact WDO.nilS (WD.ret (endR _ (by simp; rfl) ⟨by rw [if_pos hk]; rfl, k2⟩))
  rw [if_neg (by simp [hk])]
  refine WDO.looks1 tyOk extOk 2 (ls := [xM 5 11, xC akNeq 11 0 12]) (by kernel_rfl) (by simp (disch := omega) [hk]; exact rfl) ?_
  refine WDO.nilS (WD.cond (t := false) (by simp) (by simp) fun _ => WD.skip (.inl rfl) ?_)
  refine WD.seq (WD.seqR ?_)
  refine WDO.looks1 tyOk extOk 2 (ls := [xF 2 0 14, xL 14 15]) (by kernel_rfl) (by simp (disch := omega) [g1, r0]; exact rfl) ?_
  refine WDO.nilS (WD.block (WD.seqR ?_))
  by_cases k3 : k = 3
  · subst k3
    refine WDO.looks1 tyOk extOk 2 (ls := [xC akEql 15 3 17, xM 17 16]) (by kernel_rfl) (by simp (disch := omega) []; exact rfl) ?_
    refine WDO.nilS (WD.cond (t := true) (by simp) (fun _ => WD.seqR ?_) (by simp))
    refine WDO.looks1 tyOk extOk 4 (ls := [xF 2 1 18, xL 18 19, xF 3 1 20, xL 20 21]) (by kernel_rfl) (by simp (disch := omega) [g1, g2, r1, s1]; exact rfl) ?_
    refine WDO.callF (g := 93) rfl rfl rfl (by kernel_rfl) (l := .cons (.int .i64 n) (.cons (.int .i64 n') .nil)) (by simp) cmp93_ok fun u H2 ⟨hu, hH⟩ => ?_
    subst hu; subst hH
    refine WDO.looks1 tyOk extOk 1 (ls := [xM 22 4]) (by kernel_rfl) (by simp (disch := omega) []; exact rfl) ?_
    exact WDO.nilS (WD.ret (endR _ (by simp; rfl) ⟨rfl, k2⟩))
  rw [if_neg k3]
  refine WDO.looks1 tyOk extOk 2 (ls := [xC akEql 15 3 17, xM 17 16]) (by kernel_rfl) (by simp (disch := omega) [k3]; exact rfl) ?_
  refine WDO.nilS (WD.cond (t := false) (by simp) (by simp) fun _ => WD.seqR ?_)
  by_cases k4 : k = 4
  · subst k4
    refine WDO.looks1 tyOk extOk 2 (ls := [xC akEql 15 4 24, xM 24 23]) (by kernel_rfl) (by simp (disch := omega) []; exact rfl) ?_
    refine WDO.nilS (WD.cond (t := true) (by simp) (fun _ => WD.seq ?_) (by simp))
    obtain ⟨R, hR, hRc⟩ := specR_ex Tryz.prog S8
    refine WD.drawnK tyOk extOk (by kernel_rfl) (ls := [⟨[2], .look (⟨fAddr (.tmp 2) 1⟩), (some 25), none, 0, 1, true, false⟩, ⟨[25], .look (⟨ldA ⟨ld1⟩ (.tmp 25)⟩), (some 26), none, 0, 1, false, false⟩, ⟨[3], .look (⟨fAddr (.tmp 3) 1⟩), (some 28), none, 0, 2, true, false⟩, ⟨[28], .look (⟨ldA ⟨ld1⟩ (.tmp 28)⟩), (some 29), none, 0, 2, false, false⟩, ⟨[26], .heavy ⟨hvCallF E 95 (opnds [(.tmp 26)])⟩, (some 27), none, 0, 2, false, true⟩, ⟨[29], .heavy ⟨hvCallF E 95 (opnds [(.tmp 29)])⟩, (some 30), none, 1, 2, false, true⟩, ⟨[27, 30], .heavy ⟨hvCallF E 94 (opnds [(.tmp 27), (.tmp 30)])⟩, (some 31), none, 2, 2, false, true⟩, ⟨[31], .look (lkMove (.tmp 31)), (some 4), none, 3, 1, true, false⟩]) (by kernel_rfl) hR fun K hK => ?_
    refine diLookP (by simp [-resL_cons, resL_cc]; exact rfl) (by simp (disch := omega) []; exact rfl) ?_
    refine diLookC (by simp [-resL_cons, resL_cc]; exact rfl) (by simp (disch := omega) [g1, r1]; exact rfl) ?_
    refine diLookP (by simp [-resL_cons, resL_cc]; exact rfl) (by simp (disch := omega) []; exact rfl) ?_
    refine diLookC (by simp [-resL_cons, resL_cc]; exact rfl) (by simp (disch := omega) [g2, s1]; exact rfl) ?_
    obtain ⟨x1, H2, c1, rfl, p1, _⟩ := hRc 95 _ _ (sorted_S (H := H2) hr.1 hr.2)
    have p1 := p1 rfl n rfl
    subst p1
    refine diCallF (by simp [-resL_cons, resL_cc]; exact rfl) (by simp) (extFree _ _ _ rfl rfl rfl) c1 (Nat.le_refl _) ?_
    obtain ⟨x2, H2, c2, rfl, p2, _⟩ := hRc 95 _ _ (sorted_S (H := H2) hr'.1 hr'.2)
    have p2 := p2 rfl n' rfl
    subst p2
    refine diCallF (by simp [-resL_cons, resL_cc]; exact rfl) (by simp) (extFree _ _ _ rfl rfl rfl) c2 (Nat.le_refl _) ?_
    obtain ⟨x3, H2, c3, rfl, _, p3⟩ := hRc 94 _ _ (cmp94_S (H := H2) (x := ((turned n : Nat) : Int)) (y := ((turned n' : Nat) : Int)))
    have p3 := p3 rfl _ _ rfl
    subst p3
    refine diCallF (by simp [-resL_cons, resL_cc]; exact rfl) (by simp) (extFree _ _ _ rfl rfl rfl) c3 (Nat.le_refl _) ?_
    refine diLookP (by simp [-resL_cons, resL_cc]; exact rfl) (by simp (disch := omega) []; exact rfl) ?_
    simp only [diRun_nil, List.reverse_cons, List.reverse_nil, List.nil_append, List.cons_append, chkAdd_f, atAll_s, atAll_z, and_true, true_and]
    refine ⟨by simp (disch := omega) [g1, g2, r1, s1], hK _ _ ?_⟩
    clear hK hRc hR
    exact WD.ret (endR _ (by simp; rfl) ⟨rfl, k2⟩)
  rw [if_neg k4]
  refine WDO.looks1 tyOk extOk 2 (ls := [xC akEql 15 4 24, xM 24 23]) (by kernel_rfl) (by simp (disch := omega) [k4]; exact rfl) ?_
  refine WDO.nilS (WD.cond (t := false) (by simp) (by simp) fun _ => WD.seq ?_)
  refine WD.mono (Q := fun o => ∃ l', o = .nor (tl l') [] H2 ∧ lsub [(2, .ptr N1 0), (3, .ptr N2 0), (15, .int .i64 k), (32, .bool (decide (k = 5 ∨ k = 6)))] l') (WD.seqR ?_) ?_
  · by_cases k5 : k = 5
    · subst k5
      refine WDO.looks1 tyOk extOk 2 (ls := [xC akEql 15 5 33, xM 33 32]) (by kernel_rfl) (by simp (disch := omega) []; exact rfl) ?_
      refine WDO.nilS (WD.cond (t := true) (by simp) (fun _ => WD.skip (.inl rfl) ?_) (by simp))
      exact ⟨_, rfl, by simp⟩
    · refine WDO.looks1 tyOk extOk 2 (ls := [xC akEql 15 5 33, xM 33 32]) (by kernel_rfl) (by simp (disch := omega) [k5]; exact rfl) ?_
      refine WDO.nilS (WD.cond (t := false) (by simp) (by simp) fun _ => WD.region ?_)
      refine WDO.looks1 tyOk extOk 2 (ls := [xC akEql 15 6 34, xM 34 32]) (by kernel_rfl) (by simp (disch := omega) []; exact rfl) ?_
      exact WDO.nil ⟨_, rfl, by simp [k5]⟩
  rintro _ ⟨l', rfl, hl'⟩
  refine WD.keep ?_ hl'
  clear l' hl'
  by_cases k56 : k = 5 ∨ k = 6
  · rw [if_pos k56]
    refine WD.cond (t := true) (by simp [k56]) (fun _ => WD.seqR ?_) (by simp)
    refine WDO.looks1 tyOk extOk 4 (ls := [xF 2 2 35, xL 35 36, xF 3 2 37, xL 37 38]) (by kernel_rfl) (by simp (disch := omega) [g1, g2, r2, s2]; exact rfl) ?_
    refine WDO.callF (g := 96) rfl rfl rfl (by kernel_rfl) (l := .cons (sb t) (.cons (sb t') .nil)) (by simp) strCmp_ok fun u H2 ⟨hu, hH⟩ => ?_
    subst hu; subst hH
    refine WDO.looks1 tyOk extOk 1 (ls := [xM 39 4]) (by kernel_rfl) (by simp (disch := omega) []; exact rfl) ?_
    exact WDO.nilS (WD.ret (endR _ (by simp; rfl) ⟨rfl, k2⟩))
  rw [if_neg k56]
  refine WD.cond (t := false) (by simp [k56]) (by simp) fun _ => WD.seqR ?_
  by_cases k7 : k = 7
  · subst k7
    rw [if_pos rfl]
    refine WDO.looks1 tyOk extOk 2 (ls := [xC akEql 15 7 41, xM 41 40]) (by kernel_rfl) (by simp (disch := omega) []; exact rfl) ?_
    refine WDO.nilS (WD.cond (t := true) (by simp) (fun _ => WD.seqR ?_) (by simp))
    refine WDO.looks1 tyOk extOk 4 (ls := [xF 2 3 42, xL 42 43, xF 3 3 44, xL 44 45]) (by kernel_rfl) (by simp (disch := omega) [g1, g2, r3, s3]; exact rfl) ?_
    refine WDO.callF (g := 16) rfl rfl rfl (by kernel_rfl) (l := .cons v (.cons v' .nil)) (by simp) (hc (hv.keep0 k2 (by omega)) (hv'.keep0 k2 (by omega)) (by omega)) fun u H3 ⟨hu, k3⟩ => ?_
    subst hu
    refine WDO.looks1 tyOk extOk 1 (ls := [xM 46 4]) (by kernel_rfl) (by simp (disch := omega) []; exact rfl) ?_
    exact WDO.nilS (WD.ret (endR _ (by simp; rfl) ⟨rfl, k2.trans k3⟩))
  · rw [if_neg k7]
    refine WDO.looks1 tyOk extOk 2 (ls := [xC akEql 15 7 41, xM 41 40]) (by kernel_rfl) (by simp (disch := omega) [k7]; exact rfl) ?_
    refine WDO.nilS (WD.cond (t := false) (by simp) (by simp) fun _ => WD.skip (.inl rfl) ?_)
    refine WD.seqR ?_
    refine WDO.looks1 tyOk extOk 1 (ls := [xK 0 4]) (by kernel_rfl) (by simp (disch := omega) []; exact rfl) ?_
    exact WDO.nilS (WD.ret (endR _ (by simp; rfl) ⟨rfl, k2⟩))
theorem cmp_lens : ∀ (l m : Its), (l = .nil ∨ m = .nil) → l.cmp m = cmpI (l.len : Int) (m.len : Int)
  | .nil, .nil, _ => rfl
  | .nil, .cons _ _ _ _ r, _ => by
    show (-1 : Int) = cmpI ((0 : Nat) : Int) ((r.len + 1 : Nat) : Int)
    unfold cmpI; rw [if_pos (by omega)]
  | .cons _ _ _ _ r, .nil, _ => by
    show (1 : Int) = cmpI ((r.len + 1 : Nat) : Int) ((0 : Nat) : Int)
    unfold cmpI; rw [if_neg (by omega), if_pos (by omega)]
  | .cons _ _ _ _ _, .cons _ _ _ _ _, h => by rcases h with h | h <;> cases h
theorem drop_len' : ∀ (l : Its) (i : Nat), (l.drop i).len = l.len - i
  | .nil, 0 => rfl
  | .nil, i + 1 => by simp [Its.drop, Its.len]
  | .cons _ _ _ _ r, 0 => rfl
  | .cons k n t s r, i + 1 => by
    have := drop_len' r i
    show (r.drop i).len = r.len + 1 - (i + 1)
    rw [this]; omega
set_option maxHeartbeats 2000000 in
theorem Compare_ok : ∀ (z : Nat) {l m : Its}, l.size ≤ z → l.size < 17179869184 → m.size < 17179869184 → l.rng → m.rng → CmpOk l m
  | z, l, m, hz, hsl, hsm, hrl, hrm, H, N, v, w, hv, hw, hN => by
    refine DC.of_wd (re := reTmp 4 reNil) tyOk Tryz.func16 (by kernel_rfl) rfl (by kernel_rfl) (by kernel_rfl) ?_
    rw [tl_nil, argsT_cons, argsT_cons, argsT_nil]
    have hlv := hv.len
    have hlw := hw.len
    have hll := l.len_le
    have hlm := m.len_le
    obtain ⟨q, hq⟩ : ∃ q, q = min l.len m.len := ⟨_, rfl⟩
    have hmm : mmA false (.cons (.int .i64 (m.len : Int)) .nil) (.int .i64 (l.len : Int)) = some (.int .i64 (q : Int)) := by
      rw [mmMin']
      congr 2
      split <;> omega
    refine WD.seqR ?_
    refine WDO.looks1 tyOk extOk 1 (ls := [xK 0 4]) (by kernel_rfl) (by simp (disch := omega) []; exact rfl) ?_
    refine WDO.nilS (WD.seq (WD.seqR ?_))
    refine WDO.looks1 tyOk extOk 6 (ls := [xM 0 7, xN 7 8, xM 1 9, xN 9 10, ⟨⟨mmK false (.tmp 8) [(.tmp 10)]⟩, (some 11), none⟩, xK 0 12]) (by kernel_rfl) (by simp (disch := omega) [hlv, hlw, hmm]; exact rfl) ?_
    refine WDO.nilS ?_
    refine WD.forR (σ := Nat) (fun i => [(0, v), (1, w), (11, .int .i64 (q : Int)), (12, .int .i64 (i : Int))]) (fun i H' => i ≤ q ∧ l.cmp m = (l.drop i).cmp (m.drop i) ∧ Keep noB H H') (fun i => q - i) 0 ⟨Nat.zero_le _, by rw [drop0, drop0], Keep.refl _ _⟩ (by simp) ?_
    rintro i H' ⟨hi, he, hk⟩
    have nn := hk.1
    refine WDO.looks1 tyOk extOk 1 (ls := [xB akLss 12 11 13]) (by kernel_rfl) (by simp (disch := omega) []; exact rfl) ?_
    refine WDO.nil ⟨decide (i < q), _, rfl, by simp, fun hc => ?_, fun hc => ?_⟩
    · have hc : i = q := by have := of_decide_eq_false hc; omega
      subst hc
      refine WD.seqR ?_
      refine WDO.looks1 tyOk extOk 4 (ls := [xM 0 28, xN 28 29, xM 1 30, xN 30 31]) (by kernel_rfl) (by simp (disch := omega) [hlv, hlw]; exact rfl) ?_
      refine WDO.callF (g := 45) rfl rfl rfl (by kernel_rfl) (l := .cons (.int .i64 (l.len : Int)) (.cons (.int .i64 (m.len : Int)) .nil)) (by simp) cmp45_ok fun u H3 ⟨hu, hH⟩ => ?_
      subst hu; subst hH
      refine WDO.looks1 tyOk extOk 1 (ls := [xM 32 4]) (by kernel_rfl) (by simp (disch := omega) []; exact rfl) ?_
      refine WDO.nilS (WD.ret (endR _ (by simp; rfl) ⟨?_, hk⟩))
      rw [he, cmp_lens _ _ (by
        rcases Nat.le_total l.len m.len with h | h
        · exact .inl (len_zero (by rw [drop_len']; omega))
        · exact .inr (len_zero (by rw [drop_len']; omega))), drop_len', drop_len']
      have : cmpI (l.len : Int) (m.len : Int) = cmpI ((l.len - i : Nat) : Int) ((m.len - i : Nat) : Int) := by
        unfold cmpI; (repeat' split) <;> omega
      rw [← this]; rfl
    · have hc : i < q := of_decide_eq_true hc
      obtain ⟨x, hx⟩ := l.get_some i (by omega)
      obtain ⟨y, hy⟩ := m.get_some i (by omega)
      obtain ⟨b, off, cap, o, u, e1, e2, e3, e4, _, _, _, _, e9, e10⟩ := (hv.keep0 hk hN).at hx
      obtain ⟨b', off', cap', o', u', e1', e2', e3', e4', _, _, _, _, e9', e10'⟩ := (hw.keep0 hk hN).at hy
      obtain ⟨hxn, hxr⟩ := Its.rng_get hrl hx
      obtain ⟨hyn, hyr⟩ := Its.rng_get hrm hy
      have hsx := Its.size_get hx
      have hsy := Its.size_get hy
      have hce := compare_ok (k := x.k) (n := x.n) (t := x.t) (k' := y.k) (n' := y.n) (t' := y.t) (Compare_ok x.s.size (Nat.le_refl _) (by omega) (by omega) hxr hyr) e9 e9' (by omega : N ≤ H'.next) hxn hyn
      obtain ⟨c, hcc⟩ : ∃ c, c = cmp1 x.k x.n x.t y.k y.n y.t (x.s.cmp y.s) := ⟨_, rfl⟩
      rw [← hcc] at hce
      have hcmp : (l.drop i).cmp (m.drop i) = if c ≠ 0 then c else (l.drop (i + 1)).cmp (m.drop (i + 1)) := by
        rw [Its.drop_get hx, Its.drop_get hy, hcc]; rfl
      refine WD.seqR ?_
      refine WDO.looks1 tyOk extOk 2 (ls := [xM 12 14, xM 14 5]) (by kernel_rfl) (by simp (disch := omega) []; exact rfl) ?_
      refine WDO.nilS (WD.seq ?_)
      obtain ⟨R, hR, hRc⟩ := specR_ex Tryz.prog (fun _ _ Hx u H2 => u = .int .i64 c ∧ Keep noB Hx H2)
      refine WD.drawnK tyOk extOk (by kernel_rfl) (ls := [⟨[0], .look (lkMove (.tmp 0)), (some 15), none, 0, 1, true, false⟩, ⟨[5], .look (lkMove (.tmp 5)), (some 16), none, 0, 1, true, false⟩, ⟨[15, 16], .look (⟨ixSl 4 (.tmp 15) (.tmp 16)⟩), (some 17), none, 0, 1, true, false⟩, ⟨[17], .look (⟨ldA ⟨ldN 4⟩ (.tmp 17)⟩), (some 18), none, 0, 1, false, false⟩, ⟨[1], .look (lkMove (.tmp 1)), (some 19), none, 0, 1, true, false⟩, ⟨[5], .look (lkMove (.tmp 5)), (some 20), none, 0, 1, true, false⟩, ⟨[19, 20], .look (⟨ixSl 4 (.tmp 19) (.tmp 20)⟩), (some 21), none, 0, 1, true, false⟩, ⟨[21], .look (⟨ldA ⟨ldN 4⟩ (.tmp 21)⟩), (some 22), none, 0, 1, false, false⟩, ⟨[18, 22], .heavy ⟨hvCallF E 44 (opnds [(.tmp 18), (.tmp 22)])⟩, (some 23), none, 0, 2, false, true⟩, ⟨[23], .look (lkMove (.tmp 23)), (some 6), none, 1, 1, true, false⟩]) (by kernel_rfl) hR fun K hK => ?_
      iterate 3 (refine diLookP (by simp [-resL_cons, resL_cc]; exact rfl) (by simp (disch := omega) [e1]; exact rfl) ?_)
      refine diLookC (by simp [-resL_cons, resL_cc]; exact rfl) (by simp (disch := omega) [e4, e10]; exact rfl) ?_
      iterate 3 (refine diLookP (by simp [-resL_cons, resL_cc]; exact rfl) (by simp (disch := omega) [e1']; exact rfl) ?_)
      refine diLookC (by simp [-resL_cons, resL_cc]; exact rfl) (by simp (disch := omega) [e4', e10']; exact rfl) ?_
      obtain ⟨x1, H3, c1, rfl, k3⟩ := hRc 44 _ _ hce
      have c1 : R.call 44 (.cons (.agg (avl [.int .i64 x.k, .int .i64 x.n, sb x.t, u])) (.cons (.agg (avl [.int .i64 y.k, .int .i64 y.n, sb y.t, u'])) .nil)) H' = some (_, H3) := c1
      refine diCallF (by simp [-resL_cons, resL_cc]; exact rfl) (by simp) (extFree _ _ _ rfl rfl rfl) c1 k3.1 ?_
      refine diLookP (by simp [-resL_cons, resL_cc]; exact rfl) (by simp (disch := omega) []; exact rfl) ?_
      have e4c := k3.get (by omega) id e4
      have e4d := k3.get (by omega) id e4'
      simp only [diRun_nil, List.reverse_cons, List.reverse_nil, List.nil_append, List.cons_append, chkAdd_f, atAll_s, atAll_z, and_true, true_and]
      refine ⟨by simp (disch := omega) [e4, e10, e4', e10'], hK _ _ ?_⟩
      clear hK hRc hR c1
      refine WD.seqR ?_
      by_cases h0 : c = 0
      · refine WDO.looks1 tyOk extOk 2 (ls := [xM 6 24, xC akNeq 24 0 25]) (by kernel_rfl) (by simp (disch := omega) [h0]; exact rfl) ?_
        refine WDO.nilS (WD.cond (t := false) (by simp) (by simp) fun _ => WD.skip (.inl rfl) ?_)
        refine WDO.looks1 tyOk extOk 2 (ls := [xC akAdd 12 1 27, xM 27 12]) (by kernel_rfl) (by simp (disch := omega) []; exact rfl) ?_
        exact WDO.nil ⟨rfl, i + 1, _, rfl, by simp [e1, e1'], ⟨by omega, by rw [he, hcmp, if_neg (by simp [h0])], hk.trans k3⟩, by omega⟩
      · refine WDO.looks1 tyOk extOk 2 (ls := [xM 6 24, xC akNeq 24 0 25]) (by kernel_rfl) (by simp (disch := omega) [h0]; exact rfl) ?_
        refine WDO.nilS (WD.cond (t := true) (by simp) (fun _ => WD.seqR ?_) (by simp))
        refine WDO.looks1 tyOk extOk 2 (ls := [xM 6 26, xM 26 4]) (by kernel_rfl) (by simp (disch := omega) []; exact rfl) ?_
        exact WDO.nilS (WD.ret (endR _ (by simp; rfl) ⟨by rw [he, hcmp, if_pos h0]; rfl, hk.trans k3⟩))
abbrev qN9_1 : List Dk := [⟨[6], lkMove (.tmp 6), (some 29), none⟩, ⟨[29], lkUn ukNot (.tmp 29), (some 30), none⟩, ⟨[30], lkMove (.tmp 30), (some 31), none⟩, ⟨[0, 31], lkMove (.tmp 0), (some 32), (some (31, false))⟩, ⟨[5, 31], lkMove (.tmp 5), (some 33), (some (31, false))⟩, ⟨[32, 33, 31], ⟨ixSl 4 (.tmp 32) (.tmp 33)⟩, (some 34), (some (31, false))⟩, ⟨[34, 31], ⟨fAddr (.tmp 34) 0⟩, (some 35), (some (31, false))⟩, ⟨[35, 31], ⟨ldA ⟨ld1⟩ (.tmp 35)⟩, (some 36), (some (31, false))⟩, ⟨[1, 31], lkMove (.tmp 1), (some 37), (some (31, false))⟩, ⟨[5, 31], lkMove (.tmp 5), (some 38), (some (31, false))⟩, ⟨[37, 38, 31], ⟨ixSl 4 (.tmp 37) (.tmp 38)⟩, (some 39), (some (31, false))⟩, ⟨[39, 31], ⟨fAddr (.tmp 39) 0⟩, (some 40), (some (31, false))⟩, ⟨[40, 31], ⟨ldA ⟨ld1⟩ (.tmp 40)⟩, (some 41), (some (31, false))⟩, ⟨[36, 41, 31], ⟨binInt akNeq (.tmp 36) (.tmp 41)⟩, (some 42), (some (31, false))⟩, ⟨[31, 42], ⟨pickA (.tmp 31) (.const (.bool true)) (.tmp 42)⟩, (some 43), none⟩, ⟨[43], lkMove (.tmp 43), (some 44), none⟩, ⟨[0, 44], lkMove (.tmp 0), (some 45), (some (44, false))⟩, ⟨[5, 44], lkMove (.tmp 5), (some 46), (some (44, false))⟩, ⟨[45, 46, 44], ⟨ixSl 4 (.tmp 45) (.tmp 46)⟩, (some 47), (some (44, false))⟩, ⟨[47, 44], ⟨fAddr (.tmp 47) 1⟩, (some 48), (some (44, false))⟩, ⟨[48, 44], ⟨ldA ⟨ld1⟩ (.tmp 48)⟩, (some 49), (some (44, false))⟩, ⟨[1, 44], lkMove (.tmp 1), (some 50), (some (44, false))⟩, ⟨[5, 44], lkMove (.tmp 5), (some 51), (some (44, false))⟩, ⟨[50, 51, 44], ⟨ixSl 4 (.tmp 50) (.tmp 51)⟩, (some 52), (some (44, false))⟩, ⟨[52, 44], ⟨fAddr (.tmp 52) 1⟩, (some 53), (some (44, false))⟩, ⟨[53, 44], ⟨ldA ⟨ld1⟩ (.tmp 53)⟩, (some 54), (some (44, false))⟩, ⟨[49, 54, 44], ⟨binInt akNeq (.tmp 49) (.tmp 54)⟩, (some 55), (some (44, false))⟩, ⟨[44, 55], ⟨pickA (.tmp 44) (.const (.bool true)) (.tmp 55)⟩, (some 56), none⟩, ⟨[56], lkMove (.tmp 56), (some 57), none⟩, ⟨[0, 57], lkMove (.tmp 0), (some 58), (some (57, false))⟩, ⟨[5, 57], lkMove (.tmp 5), (some 59), (some (57, false))⟩, ⟨[58, 59, 57], ⟨ixSl 4 (.tmp 58) (.tmp 59)⟩, (some 60), (some (57, false))⟩, ⟨[60, 57], ⟨fAddr (.tmp 60) 2⟩, (some 61), (some (57, false))⟩, ⟨[61, 57], ⟨ldA ⟨ld1⟩ (.tmp 61)⟩, (some 62), (some (57, false))⟩, ⟨[1, 57], lkMove (.tmp 1), (some 63), (some (57, false))⟩, ⟨[5, 57], lkMove (.tmp 5), (some 64), (some (57, false))⟩, ⟨[63, 64, 57], ⟨ixSl 4 (.tmp 63) (.tmp 64)⟩, (some 65), (some (57, false))⟩, ⟨[65, 57], ⟨fAddr (.tmp 65) 2⟩, (some 66), (some (57, false))⟩, ⟨[66, 57], ⟨ldA ⟨ld1⟩ (.tmp 66)⟩, (some 67), (some (57, false))⟩, ⟨[62, 67, 57], ⟨binStr skNeq (.tmp 62) (.tmp 67)⟩, (some 68), (some (57, false))⟩, ⟨[57, 68], ⟨pickA (.tmp 57) (.const (.bool true)) (.tmp 68)⟩, (some 69), none⟩]
set_option maxHeartbeats 2000000 in
theorem same02_ok : ∀ (z : Nat) {l : Its}, l.size ≤ z → l.size < 17179869184 → ∀ {H : AH} {N M : Nat} {v w : AV}, SaysI H N v l → SaysI H M w l →
    DC Tryz.prog .normal 18 (.cons v (.cons w .nil)) H fun u H2 => u = .bool true ∧ H2 = H
  | z, l, hz, hsl, H, N, M, v, w, hv, hw => by
    refine DC.of_wd (re := reTmp 4 reNil) tyOk Tryz.func18 (by kernel_rfl) rfl (by kernel_rfl) (by kernel_rfl) ?_
    rw [tl_nil, argsT_cons, argsT_cons, argsT_nil]
    have hlv := hv.len
    have hlw := hw.len
    have hll := l.len_le
    refine WD.seqR ?_
    refine WDO.looks1 tyOk extOk 1 (ls := [xZ false 4]) (by kernel_rfl) (by simp (disch := omega) []; exact rfl) ?_
    refine WDO.nilS (WD.seq (WD.seqR ?_))
    refine WDO.looks1 tyOk extOk 5 (ls := [xM 0 7, xN 7 8, xM 1 9, xN 9 10, xB akNeq 8 10 11]) (by kernel_rfl) (by simp (disch := omega) [hlv, hlw]; exact rfl) ?_
    refine WDO.nilS (WD.cond (t := false) (by simp) (by simp) fun _ => WD.skip (.inl rfl) ?_)
    refine WD.seq (WD.seqR ?_)
    refine WDO.looks1 tyOk extOk 1 (ls := [xK 0 5]) (by kernel_rfl) (by simp (disch := omega) []; exact rfl) ?_
    refine WDO.nilS ?_
    refine WD.forE (σ := Nat) (fun i => [(0, v), (1, w), (5, .int .i64 (i : Int))]) (fun i H' => i ≤ l.len ∧ H = H') (fun i => l.len - i) 0 ⟨Nat.zero_le _, rfl⟩ (by simp) ?_
    rintro i _ ⟨hi, rfl⟩
    refine WDO.looks1 tyOk extOk 4 (ls := [xM 5 12, xM 0 13, xN 13 14, xB akLss 12 14 15]) (by kernel_rfl) (by simp (disch := omega) [hlv]; exact rfl) ?_
    refine WDO.nil ⟨decide (i < l.len), _, rfl, by simp, fun hc => ?_, fun hc => ?_⟩
    · refine WD.seqR ?_
      refine WDO.looks1 tyOk extOk 1 (ls := [xZ true 4]) (by kernel_rfl) (by simp (disch := omega) []; exact rfl) ?_
      exact WDO.nilS (WD.ret (endR _ (by simp; rfl) ⟨rfl, rfl⟩))
    · have hc : i < l.len := of_decide_eq_true hc
      obtain ⟨x, hx⟩ := l.get_some i (by omega)
      obtain ⟨b, off, cap, o, u, e1, e2, e3, e4, r0, r1, r2, r3, e9, e10⟩ := hv.at hx
      obtain ⟨b', off', cap', o', u', e1', e2', e3', e4', s0, s1, s2, s3, e9', e10'⟩ := hw.at hx
      have hsx := Its.size_get hx
      refine WD.seq ?_
      obtain ⟨R, hR, hRc⟩ := specR_ex Tryz.prog (fun _ _ Hx u H2 => u = .bool true ∧ H2 = Hx)
      refine WD.drawnK tyOk extOk (by kernel_rfl) (ls := [⟨[0], .look (lkMove (.tmp 0)), (some 18), none, 0, 1, true, false⟩, ⟨[5], .look (lkMove (.tmp 5)), (some 19), none, 0, 1, true, false⟩, ⟨[18, 19], .look (⟨ixSl 4 (.tmp 18) (.tmp 19)⟩), (some 20), none, 0, 1, true, false⟩, ⟨[20], .look (⟨fAddr (.tmp 20) 3⟩), (some 21), none, 0, 1, true, false⟩, ⟨[21], .look (⟨ldA ⟨ld1⟩ (.tmp 21)⟩), (some 22), none, 0, 1, false, false⟩, ⟨[1], .look (lkMove (.tmp 1)), (some 23), none, 0, 1, true, false⟩, ⟨[5], .look (lkMove (.tmp 5)), (some 24), none, 0, 1, true, false⟩, ⟨[23, 24], .look (⟨ixSl 4 (.tmp 23) (.tmp 24)⟩), (some 25), none, 0, 1, true, false⟩, ⟨[25], .look (⟨fAddr (.tmp 25) 3⟩), (some 26), none, 0, 1, true, false⟩, ⟨[26], .look (⟨ldA ⟨ld1⟩ (.tmp 26)⟩), (some 27), none, 0, 1, false, false⟩, ⟨[22, 27], .heavy ⟨hvCallF E 18 (opnds [(.tmp 22), (.tmp 27)])⟩, (some 28), none, 0, 2, false, true⟩, ⟨[28], .look (lkMove (.tmp 28)), (some 6), none, 1, 1, true, false⟩]) (by kernel_rfl) hR fun K hK => ?_
      iterate 4 (refine diLookP (by simp [-resL_cons, resL_cc]; exact rfl) (by simp (disch := omega) [e1]; exact rfl) ?_)
      refine diLookC (by simp [-resL_cons, resL_cc]; exact rfl) (by simp (disch := omega) [e4, r3]; exact rfl) ?_
      iterate 4 (refine diLookP (by simp [-resL_cons, resL_cc]; exact rfl) (by simp (disch := omega) [e1']; exact rfl) ?_)
      refine diLookC (by simp [-resL_cons, resL_cc]; exact rfl) (by simp (disch := omega) [e4', s3]; exact rfl) ?_
      obtain ⟨x1, H2, c1, rfl, rfl⟩ := hRc 18 _ _ (same02_ok x.s.size (Nat.le_refl _) (by omega) e9 e9')
      refine diCallF (by simp [-resL_cons, resL_cc]; exact rfl) (by simp) (extFree _ _ _ rfl rfl rfl) c1 (Nat.le_refl _) ?_
      refine diLookP (by simp [-resL_cons, resL_cc]; exact rfl) (by simp (disch := omega) []; exact rfl) ?_
      simp only [diRun_nil, List.reverse_cons, List.reverse_nil, List.nil_append, List.cons_append, chkAdd_f, atAll_s, atAll_z, and_true, true_and]
      refine ⟨by simp (disch := omega) [e4, r3, e4', s3], hK _ _ ?_⟩
      clear hK hRc hR c1
      refine WD.seq ?_
      refine WD.keep (l := [(0, v), (1, w), (5, .int .i64 (i : Int)), (6, .bool true)]) ?_ (by simp [e1, e1'])
      have hr : ∃ l2, runDk qN9_1 (tl [(0, v), (1, w), (5, .int .i64 (i : Int)), (6, .bool true)]) H2 = some (tl l2) ∧ tget 69 l2 = some (.bool false) ∧ tget 0 l2 = some v ∧ tget 1 l2 = some w ∧ tget 5 l2 = some (.int .i64 (i : Int)) := ⟨_, by
        iterate 41 (first | (refine dkSkip ?_ ?_; focus (simp; done)) | refine dkStep (by first | rfl | (simp [-resL_cons, resL_cc]; exact rfl)) (by simp) (by simp (disch := omega) [e1, e4, r0, r1, r2, e1', e4', s0, s1, s2]; exact rfl) ?_)
        exact rfl, by simp, by simp [e1], by simp [e1'], by simp⟩
      obtain ⟨l2, ht1, ht2, ht3, ht4, ht5⟩ := hr
      refine WD.drawLooks tyOk extOk (by kernel_rfl) (ls := qN9_1) (by kernel_rfl) ht1 ?_
      refine WD.cond (t := false) (by simp [ht2]) (by simp) fun _ => WD.skip (.inl rfl) ?_
      refine WDO.looks1 tyOk extOk 3 (ls := [xM 5 16, xC akAdd 16 1 17, xM 17 5]) (by kernel_rfl) (by simp (disch := omega) [ht5]; exact rfl) ?_
      exact WDO.nil ⟨rfl, i + 1, _, rfl, by simp [ht3, ht4], ⟨by omega, rfl⟩, by omega⟩
end
end Go.Proofs.YtfgipbjaapkdlaaGreatDoor
