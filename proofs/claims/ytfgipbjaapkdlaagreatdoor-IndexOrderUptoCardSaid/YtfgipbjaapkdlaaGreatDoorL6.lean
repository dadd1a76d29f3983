/- A part of the proof of this seat's statement. Conditions: in each theorem. -/
import Derived.Test.YtfgipbjaapkdlaaGreatDoorL5
namespace Go.Proofs.YtfgipbjaapkdlaaGreatDoor
open Go.Xq
noncomputable section
theorem getS {α : Type} {l : List α} {i : Nat} (h : i < l.length) : ∃ x, l[i]? = some x := ⟨_, List.getElem?_eq_getElem h⟩
abbrev qM15_1 : List Lk := [xU 30 31, xM 31 32, yF 1 1 33 32 false, yL 33 34 32 false, yM 3 35 32 false, ⟨⟨slSl 1 (.tmp 34) none (some (.tmp 35)) none⟩, (some 36), (some (32, false))⟩, yM 4 37 32 false]
abbrev qM15_2 : List Lk := [xU 7 8, xM 8 9, yF 1 1 10 9 false, yL 10 11 9 false, yN 11 12 9 false, yC akEql 12 0 13 9 false, xP 9 13 14 true, xM 14 15, yF 1 1 16 15 false, yL 16 17 15 false, yN 17 18 15 false, yC akGtr 18 8 19 15 false, xP 15 19 20 true]
set_option maxHeartbeats 1000000
theorem Index_ok {H : AH} {N : Nat} {v : AV} {ks : List (List UInt8)} {y : List UInt8} (h : SaysE encT 1 H N v ks) (hl : ks.length < 17179869184) :
    DC Tryz.prog .normal 101 (.cons v (.cons (sb y) .nil)) H fun v' H2 => H2 = H ∧ ∃ r : Int, v' = .int .i64 r ∧ ((0 ≤ r ∧ y ∈ ks) ∨ (r < 0 ∧ y ∉ ks)) := by
  refine DC.of_wd (re := reTmp 4 reNil) tyOk Tryz.func101 (by kernel_rfl) rfl (by kernel_rfl) (by kernel_rfl) ?_
  rw [tl_nil, argsT_cons, argsT_cons, argsT_nil]
  have hlen := h.len
  refine WD.seqR ?_
  refine leD 1 [xK 0 4] ?_
  refine WDO.nilS (WD.seq (WD.seqR ?_))
  refine lkD 3 [xM 0 6, xN 6 7, xK 0 8] (by simp (disch := omega) [hlen]; exact rfl) ?_
  refine WDO.nilS ?_
  refine WD.forR (σ := Nat) (fun i => [(0, v), (1, sb y), (6, v), (7, .int .i64 (ks.length : Int)), (8, .int .i64 (i : Int))]) (fun i H' => i ≤ ks.length ∧ (∀ (j : Nat) (z : List UInt8), j < i → ks[j]? = some z → z ≠ y) ∧ H' = H) (fun i => ks.length - i) 0 ⟨Nat.zero_le _, fun j z h => absurd h (Nat.not_lt_zero _), rfl⟩ (by simp) ?_
  rintro i H' ⟨hi, hno, rfl⟩
  refine leD 1 [xB akLss 8 7 9] ?_
  refine WDO.nil ⟨decide (i < ks.length), _, rfl, by simp, fun hc => ?_, fun hc => ?_⟩
  · have hc : i = ks.length := by have := of_decide_eq_false hc; omega
    subst hc
    refine WD.seqR ?_
    refine leD 1 [xK (-1) 4] ?_
    refine WDO.nilS (WD.ret (endR _ (by simp; rfl) ⟨rfl, -1, rfl, .inr ⟨by omega, fun hm => ?_⟩⟩))
    obtain ⟨j, hj⟩ := List.mem_iff_getElem?.1 hm
    have : j < ks.length := by
      rcases Nat.lt_or_ge j ks.length with h | h
      · exact h
      · rw [List.getElem?_eq_none h] at hj; cases hj
    exact hno j y this hj rfl
  · have hc : i < ks.length := of_decide_eq_true hc
    obtain ⟨z, hz⟩ := getS hc
    obtain ⟨b, off, cap, o, e1, _, e3, e4, e5, e6⟩ := h.at encT_len hz
    have e5' : rdCell o (off + i) = some (sb z) := by have := e5 0 _ rfl; simpa using this
    refine WD.seqR ?_
    refine leD 2 [xM 8 10, xM 10 5] ?_
    refine WDO.nilS (WD.seqR ?_)
    refine lkD 6 [xM 1 11, xM 0 12, xM 5 13, xI 1 12 13 14, xL 14 15, ⟨⟨binStr skEql (.tmp 11) (.tmp 15)⟩, (some 16), none⟩] (by simp (disch := omega) [e1, e4, e5', hc]; exact rfl) ?_
    refine WDO.nilS (WD.cond (t := decide (y = z)) (by simp) (fun h => WD.seqR ?_) (fun h => WD.skip (.inl rfl) ?_))
    · have h := of_decide_eq_true h
      refine leD 2 [xM 5 17, xM 17 4] ?_
      exact WDO.nilS (WD.ret (endR _ (by simp; rfl) ⟨rfl, (i : Int), rfl, .inl ⟨by omega, by rw [h]; exact List.mem_of_getElem? hz⟩⟩))
    · have h := of_decide_eq_false h
      refine leD 2 [xC akAdd 8 1 18, xM 18 8] ?_
      exact WDO.nil ⟨rfl, i + 1, _, rfl, by simp [e1], ⟨by omega, fun a w ha hw => by
        rcases Nat.lt_or_ge a i with h3 | h3
        · exact hno a w h3 hw
        · obtain rfl : a = i := by omega
          rw [hz] at hw; cases hw; exact fun e => h e.symm, rfl⟩, by omega⟩
theorem Contains_ok {H : AH} {N : Nat} {v : AV} {ks : List (List UInt8)} {y : List UInt8} (h : SaysE encT 1 H N v ks) (hl : ks.length < 17179869184) :
    DC Tryz.prog .normal 55 (.cons v (.cons (sb y) .nil)) H fun v' H2 => H2 = H ∧ v' = .bool (decide (y ∈ ks)) := by
  refine DC.of_wd (re := reTmp 4 reNil) tyOk Tryz.func55 (by kernel_rfl) rfl (by kernel_rfl) (by kernel_rfl) ?_
  rw [tl_nil, argsT_cons, argsT_cons, argsT_nil]
  refine WD.seqR ?_
  refine leD 1 [xZ false 4] ?_
  refine WDO.nilS (WD.seqR ?_)
  refine leD 2 [xM 0 5, xM 1 6] ?_
  refine WDO.callF (g := 101) rfl rfl rfl (by kernel_rfl) (l := .cons v (.cons (sb y) .nil)) (by simp) (Index_ok h hl) fun u H2 ⟨hH, r, hu, hr⟩ => ?_
  subst hu
  subst hH
  rcases hr with ⟨h1, h2⟩ | ⟨h1, h2⟩
  · have hh : decide (r < 0) = false := decide_eq_false (by omega)
    refine lkD 2 [xC akGeq 7 0 8, xM 8 4] (by simp (disch := omega) [hh]; exact rfl) ?_
    exact WDO.nilS (WD.ret (endR _ (by simp; rfl) ⟨rfl, by rw [decT h2]; rfl⟩))
  · have hh : decide (r < 0) = true := decide_eq_true (by omega)
    refine lkD 2 [xC akGeq 7 0 8, xM 8 4] (by simp (disch := omega) [hh]; exact rfl) ?_
    exact WDO.nilS (WD.ret (endR _ (by simp; rfl) ⟨rfl, by rw [decF h2]; rfl⟩))
theorem isIndex_ok {H : AH} {N : Nat} {r : Xv} {x : Ixd} (hx : IxAt H N r x) (hN : N ≤ H.next) (hb : x.nm.length < 17179869184) (hk : ∀ k ∈ x.ks, k.length < 17179869184) (hn : x.ks.length < 17179869184) :
    DC Tryz.prog .normal 38 (.cons (xvA r) .nil) H fun v' H2 => v' = .bool (ixB x) ∧ Keep noB H H2 := by
  refine DC.of_wd (re := reTmp 2 reNil) tyOk Tryz.func38 (by kernel_rfl) rfl (by kernel_rfl) (by kernel_rfl) ?_
  rw [tl_nil, argsT_cons, argsT_nil]
  have hks := hx.k
  refine WD.seqR ?_
  refine WDO.box1 (enc := encX) (a := r) tyOk encX_len (by kernel_rfl : freshK E _ = some ⟨frBox ⟨mkCs 24 3 (.cons (.str 0 0) (.cons .snil (.cons (.bool false) .nil)))⟩ (.tmp 0)⟩) rfl (by kernel_rfl) (by simp [xvA]; try rfl) fun o1 b1 => ?_
  have k1 : Keep noB H (H.new o1) := Keep.new _ _ _
  obtain ⟨g2, g3⟩ := box_rd encX_len b1
  have g1 : (H.new o1).get H.next = some o1 := get_new_same _ _
  have gn : rdCell o1 0 = some (sb x.nm) := by have := g2 0 _ rfl; rw [hx.nm] at this; exact this
  have gv : rdCell o1 1 = some r.v := g2 1 _ rfl
  have hks1 := hks.keep0 k1 hN
  have hct := hx.c.keep k1 hN (fun _ _ => id) (Nat.le_refl _)
  have hn1 : H.next < (H.new o1).next := by simp
  clear b1 g2 g3
  generalize H.new o1 = H1 at *
  generalize H.next = n1 at *
  refine leD 1 [xZ false 2] ?_
  refine WDO.nilS (WD.seq (WD.seqR ?_))
  refine lkD 2 [xF 1 0 5, xL 5 6] (by simp (disch := omega) [g1, gn]; exact rfl) ?_
  refine WDO.callF (g := 47) rfl rfl rfl (by kernel_rfl) (l := .cons (sb x.nm) (.cons (.int .i64 30) .nil)) (by simp) (named_ok hb (m := 30) (by omega)) fun u H2 ⟨hu, hH⟩ => ?_
  subst hu
  subst hH
  have hl1 := hks1.len
  by_cases c1 : nameB x.nm 30 = true
  · by_cases c2 : 1 ≤ x.ks.length
    · have hne : x.ks ≠ [] := by
        intro e
        rw [e] at c2
        simp at c2
      by_cases c3 : x.ks.length ≤ 8
      · refine lkD 13 qM15_2 (by simp (disch := omega) [c1, g1, gv, hl1, decF, hne]; exact rfl) ?_
        refine cdF ?_
        refine WD.seq (WD.seqR ?_)
        refine lkD 4 [xF 1 1 21, xL 21 22, xN 22 23, xK 0 24] (by simp (disch := omega) [g1, gv, hl1]; exact rfl) ?_
        refine WDO.nilS ?_
        refine WD.forR (σ := Nat) (fun i => [(1, .ptr n1 0), (22, r.v), (23, .int .i64 (x.ks.length : Int)), (24, .int .i64 (i : Int))]) (fun i H' => i ≤ x.ks.length ∧ keysTo x.ks i ∧ H' = H2) (fun i => x.ks.length - i) 0 ⟨Nat.zero_le _, keysTo_zero _, rfl⟩ (by simp) ?_
        rintro i H' ⟨hi, hto, rfl⟩
        refine leD 1 [xB akLss 24 23 25] ?_
        refine WDO.nil ⟨decide (i < x.ks.length), _, rfl, by simp, fun hc => ?_, fun hc => ?_⟩
        · have hc : i = x.ks.length := by have := of_decide_eq_false hc; omega
          subst hc
          refine WD.seqR ?_
          refine leD 1 [xZ true 2] ?_
          exact WDO.nilS (WD.ret (endR _ (by simp; rfl) ⟨by rw [ixB_t c1 c2 c3 hto]; rfl, k1⟩))
        · have hc : i < x.ks.length := of_decide_eq_true hc
          obtain ⟨y, hy⟩ := getS hc
          obtain ⟨b, off, cap, o, e1, _, e3, e4, e5, e6⟩ := hks1.at encT_len hy
          have e5' : rdCell o (off + i) = some (sb y) := by have := e5 0 _ rfl; simpa using this
          refine WD.seqR ?_
          refine lkD 5 [xM 24 26, xI 1 22 24 27, xL 27 28, xM 26 3, xM 28 4] (by simp (disch := omega) [e1, e4, e5', hc]; exact rfl) ?_
          refine WDO.nilS (WD.seqR ?_)
          refine leD 1 [xM 4 29] ?_
          refine WDO.callF (g := 88) rfl rfl rfl (by kernel_rfl) (l := .cons (sb y) .nil) (by simp) (isField_ok (hk y (List.mem_of_getElem? hy))) fun u H3 ⟨hu, hH⟩ => ?_
          subst hu
          subst hH
          cases hf : fieldB y with
          | false =>
            refine leD 7 qM15_1 ?_
            refine WDO.skipG (g := some (32, false)) (by kernel_rfl) (by simp [wantA, wantG, get_tl]) (by kernel_rfl) ?_
            refine leD 1 [xP 32 38 39 true] ?_
            refine cdT ?_
            refine leD 1 [xZ false 2] ?_
            exact WDO.nilS (WD.ret (endR _ (by simp; rfl) ⟨by rw [ixB_f fun h => keysTo_bad hy (.inl hf) h.2.2.2]; rfl, k1⟩))
          | true =>
            obtain ⟨v', s1, s2⟩ := hks1.cut hct (n := i) (by omega)
            have s1' := s1
            rw [e1] at s1'
            refine lkD 7 qM15_1 (by simp (disch := omega) [g1, gv, s1', e1]; exact rfl) ?_
            refine WDO.callG (g := 55) rfl rfl (gd := some (32, false)) (by kernel_rfl) (by simp [wantA, wantG, get_tl]) (by kernel_rfl) (l := .cons v' (.cons (sb y) .nil)) (by simp) (Contains_ok s2 (by simp; omega)) fun u H4 ⟨hH, hu⟩ => ?_
            subst hu
            subst hH
            refine leD 1 [xP 32 38 39 true] ?_
            refine WDO.nilS (WD.cond (t := decide (y ∈ x.ks.take i)) (by simp) (fun h => WD.seqR ?_) (fun h => WD.skip (.inl rfl) ?_))
            · have h := of_decide_eq_true h
              obtain ⟨m, hm⟩ := List.mem_iff_getElem?.1 h
              have hmi : m < i := by
                rcases Nat.lt_or_ge m i with h | h
                · exact h
                · rw [List.getElem?_eq_none (by simp; omega)] at hm; cases hm
              rw [List.getElem?_take_of_lt hmi] at hm
              refine leD 1 [xZ false 2] ?_
              exact WDO.nilS (WD.ret (endR _ (by simp; rfl) ⟨by rw [ixB_f fun h' => keysTo_bad hy (.inr ⟨m, y, hmi, hm, rfl⟩) h'.2.2.2]; rfl, k1⟩))
            · have h := of_decide_eq_false h
              refine leD 2 [xC akAdd 24 1 40, xM 40 24] ?_
              exact WDO.nil ⟨rfl, i + 1, _, rfl, by simp [e1], ⟨by omega, keysTo_succ hto hy hf fun m z hm hz e => h (List.mem_iff_getElem?.2 ⟨m, by rw [List.getElem?_take_of_lt hm, hz, e]⟩), rfl⟩, by omega⟩
      · have hbad := ixB_f (x := x) fun h => c3 h.2.2.1
        refine lkD 13 qM15_2 (by simp (disch := omega) [c1, g1, gv, hl1, decT, hne]; exact rfl) ?_
        refine cdT ?_
        refine leD 1 [xZ false 2] ?_
        exact WDO.nilS (WD.ret (endR _ (by simp; rfl) ⟨by rw [hbad]; rfl, k1⟩))
    · have hbad := ixB_f (x := x) fun h => c2 h.2.1
      have hne : x.ks = [] := List.length_eq_zero_iff.1 (by omega)
      refine lkD 13 qM15_2 (by simp (disch := omega) [c1, g1, gv, hl1, hne]; exact rfl) ?_
      refine cdT ?_
      refine leD 1 [xZ false 2] ?_
      exact WDO.nilS (WD.ret (endR _ (by simp; rfl) ⟨by rw [hbad]; rfl, k1⟩))
  · have hbad := ixB_f (x := x) fun h => c1 h.1
    have c1 : nameB x.nm 30 = false := by simpa using c1
    refine lkD 13 qM15_2 (by simp (disch := omega) [c1]; exact rfl) ?_
    refine cdT ?_
    refine leD 1 [xZ false 2] ?_
    exact WDO.nilS (WD.ret (endR _ (by simp; rfl) ⟨by rw [hbad]; rfl, k1⟩))
set_option maxHeartbeats 1000000
theorem word89_ok {H : AH} {t : List UInt8} : DC Tryz.prog .normal 89 (.cons (sb t) .nil) H fun v' H2 => v' = itA 6 0 t .snil ∧ Keep noB H H2 := by
  refine DC.of_wd (re := reCell ⟨ldN 4⟩ 2 reNil) tyOk Tryz.func89 (by kernel_rfl) rfl (by kernel_rfl) (by kernel_rfl) ?_
  rw [tl_nil, argsT_cons, argsT_nil]
  refine WD.seqR ?_
  refine WDO.fresh1 tyOk (k := ⟨frAlloc (.cs 27 4 4 false (.cons (.int .i64 0) (.cons (.int .i64 0) (.cons (.str 0 0) (.cons .snil .nil)))) .e)⟩) (by kernel_rfl) rfl (by kernel_rfl) (v := .ptr H.next 0) (x := .cs 27 4 4 false zIv .e) ?_ ?_
  · simp [zIv]
  have b1 := Bx.new (enc := encI) (e := 27) (es := 4) (z := zIv) (a := zeroIv) encI_len rfl H (n := 4) rfl
  have k1 : Keep noB H (H.new (.cs 27 4 4 false zIv .e)) := Keep.new _ _ _
  obtain ⟨H2, s1, s2, s3, s4⟩ := b1.store encI_len ⟨6, 0, t, .snil, rfl⟩ (cells_iv _)
  have k2 : Keep noB H H2 := k1.trans' s4 fun b hb e => by omega
  refine WDO.nilS (WD.seqR ?_)
  refine leD 2 [xM 0 3, ⟨⟨buildA (.cons (.int .i64 0) (.cons (.int .i64 0) (.cons (.str 0 0) (.cons .snil .nil)))) ⟨fill1 (.const (.int .i64 6)) 0 1 ⟨fill1 (.tmp 3) 2 1 flEnd⟩⟩⟩, (some 4), none⟩] ?_
  refine WDO.heavy1 tyOk extOk (k := ⟨hvStore ⟨stN 4⟩ (.tmp 2) (.tmp 4)⟩) (by kernel_rfl) rfl (by kernel_rfl) (by simp only [encI, avl_cons, avl_nil] at s1; simp [s1]; exact ⟨rfl, rfl⟩) ?_
  obtain ⟨o1, g1, g2, g3⟩ := s3.get encI_len
  simp only [encI, avl_cons, avl_nil] at g3
  refine WDO.nilS (WD.ret (endR _ (l := .cons (itA 6 0 t .snil) .nil) (by simp [g1, g3, itA]) ⟨rfl, k2⟩))
theorem pick_drop {nm : List UInt8} {fs : List Fld} {i : Nat} {f : Fld} (h : fs[i]? = some f) : pick nm (fs.drop i) = if f.nm = nm then f.it else pick nm (fs.drop (i + 1)) := by
  have hi : i < fs.length := by
    rcases Nat.lt_or_ge i fs.length with h | h
    · exact h
    · rw [List.getElem?_eq_none h] at *; contradiction
  rw [List.drop_eq_getElem_cons hi]
  have : fs[i] = f := by rw [List.getElem?_eq_getElem hi] at h; exact Option.some.inj h
  rw [this]; rfl
theorem Item_ok {H : AH} {N : Nat} {r : Rv} {x : Rec9} {nm : List UInt8} (hx : RecAt H N r x) (hN : N ≤ H.next) (hn : x.fs.length < 17179869184) :
    DC Tryz.prog .normal 35 (.cons (rvA r) (.cons (sb nm) .nil)) H fun v' H2 => ∃ u, v' = itA (pick nm x.fs).k (pick nm x.fs).n (pick nm x.fs).t u ∧ SaysI H2 N u (pick nm x.fs).s ∧ Keep noB H H2 := by
  refine DC.of_wd (re := reCell ⟨ldN 4⟩ 4 reNil) tyOk Tryz.func35 (by kernel_rfl) rfl (by kernel_rfl) (by kernel_rfl) ?_
  rw [tl_nil, argsT_cons, argsT_cons, argsT_nil]
  refine WD.seqR ?_
  refine WDO.box1 (enc := encR) (a := r) tyOk encR_len (by kernel_rfl : freshK E _ = some ⟨frBox ⟨mkCs 30 5 (.cons (.int .i64 0) (.cons (.int .i64 0) (.cons (.str 0 0) (.cons .snil (.cons .snil .nil)))))⟩ (.tmp 0)⟩) rfl (by kernel_rfl) (by simp [rvA]; try rfl) fun o1 b1 => ?_
  have k1 : Keep noB H (H.new o1) := Keep.new _ _ _
  obtain ⟨g2, g3⟩ := box_rd encR_len b1
  have g1 : (H.new o1).get H.next = some o1 := get_new_same _ _
  have gv : rdCell o1 4 = some r.w := g2 4 _ rfl
  have hn1 : H.next < (H.new o1).next := by simp
  have k1N : N ≤ (H.new o1).next := by omega
  clear b1 g2 g3
  generalize hH1 : H.new o1 = H1 at *
  generalize hn1' : H.next = n1 at *
  refine WDO.fresh1 tyOk (k := ⟨frAlloc (.cs 27 4 4 false (.cons (.int .i64 0) (.cons (.int .i64 0) (.cons (.str 0 0) (.cons .snil .nil)))) .e)⟩) (by kernel_rfl) rfl (by kernel_rfl) (v := .ptr H1.next 0) (x := .cs 27 4 4 false zIv .e) ?_ ?_
  · simp [zIv]
  have b2 := Bx.new (enc := encI) (e := 27) (es := 4) (z := zIv) (a := zeroIv) encI_len rfl H1 (n := 4) rfl
  have k2 : Keep noB H (H1.new (.cs 27 4 4 false zIv .e)) := k1.trans (Keep.new _ _ _)
  have g2 := (Keep.new noB H1 (.cs 27 4 4 false zIv .e)).get hn1 id g1
  generalize hH2 : H1.new (.cs 27 4 4 false zIv .e) = H2 at *
  have hn2 : n1 < H1.next := hn1
  generalize H1.next = n2 at *
  have hfs := hx.f.keep0 k2 (by omega)
  have hlen := hfs.len
  refine WDO.nilS (WD.seq (WD.seqR ?_))
  refine leD 1 [xK 0 5] ?_
  refine WDO.nilS ?_
  refine WD.forE (σ := Nat) (fun i => [(1, sb nm), (2, .ptr n1 0), (4, .ptr n2 0), (5, .int .i64 (i : Int))]) (fun i H' => i ≤ x.fs.length ∧ pick nm x.fs = pick nm (x.fs.drop i) ∧ H' = H2) (fun i => x.fs.length - i) 0 ⟨Nat.zero_le _, rfl, rfl⟩ (by simp) ?_
  rintro i H' ⟨hi, hp, hH'⟩
  subst hH'
  refine lkD 5 [xM 5 6, xF 2 4 7, xL 7 8, xN 8 9, xB akLss 6 9 10] (by simp (disch := omega) [g2, gv, hlen]; exact rfl) ?_
  refine WDO.nil ⟨decide (i < x.fs.length), _, rfl, by simp, fun hc => ?_, fun hc => ?_⟩
  · have hc : i = x.fs.length := by have := of_decide_eq_false hc; omega
    subst hc
    rw [List.drop_length] at hp
    obtain ⟨H3, s1, s2, s3, s4⟩ := b2.store encI_len zeroIv (cells_iv _)
    refine WD.seqR ?_
    refine leD 1 [⟨⟨buildA (.cons (.int .i64 0) (.cons (.int .i64 0) (.cons (.str 0 0) (.cons .snil .nil)))) flEnd⟩, (some 27), none⟩] ?_
    have s1' : stN 4 H' (.agg (.cons (.int .i64 0) (.cons (.int .i64 0) (.cons (.str 0 0) (.cons .snil .nil))))) (.ptr n2 0) = some H3 := s1
    refine WDO.heavy1 tyOk extOk (k := ⟨hvStore ⟨stN 4⟩ (.tmp 4) (.tmp 27)⟩) (by kernel_rfl) rfl (by kernel_rfl) (by simp [s1']; exact ⟨rfl, rfl⟩) ?_
    obtain ⟨o3, q1, q2, q3⟩ := s3.get encI_len
    simp only [encI, avl_cons, avl_nil] at q3
    refine WDO.nilS (WD.ret (endR _ (l := .cons (itA 0 0 [] .snil) .nil) (by simp [q1, q3, itA, zeroIv]) ⟨.snil, by rw [hp]; rfl, by rw [hp]; exact .inl ⟨rfl, rfl⟩, ?_⟩))
    exact k2.trans' s4 fun b hb e => by omega
  · have hc : i < x.fs.length := of_decide_eq_true hc
    obtain ⟨f, hf⟩ := getS hc
    rw [pick_drop hf] at hp
    obtain ⟨b, off, cap, o, u, e1, _, e3, e4, e5, e6, e7, e8, e9, e10, e11, e12⟩ := hfs.at hf
    refine WD.seqR ?_
    refine lkD 8 [xF 2 4 13, xL 13 14, xM 5 15, xI 5 14 15 16, xF 16 0 17, xL 17 18, xM 1 19, ⟨⟨binStr skEql (.tmp 18) (.tmp 19)⟩, (some 20), none⟩] (by simp (disch := omega) [g2, gv, e1, e4, e5, hc]; exact rfl) ?_
    refine WDO.nilS (WD.cond (t := decide (f.nm = nm)) (by simp) (fun h => WD.seqR ?_) (fun h => WD.skip (.inl rfl) ?_))
    · have h := of_decide_eq_true h
      rw [if_pos h] at hp
      obtain ⟨H3, s1, s2, s3, s4⟩ := b2.store encI_len ⟨f.it.k, f.it.n, f.it.t, u, e10.cell⟩ (cells_iv _)
      refine lkD 6 [xF 2 4 21, xL 21 22, xM 5 23, xI 5 22 23 24, xF 24 1 25, xD 4 25 26] (by simp (disch := omega) [g2, gv, e1, e4, e11]; exact rfl) ?_
      refine WDO.heavy1 tyOk extOk (k := ⟨hvStore ⟨stN 4⟩ (.tmp 4) (.tmp 26)⟩) (by kernel_rfl) rfl (by kernel_rfl) (by simp only [encI, avl_cons, avl_nil] at s1; simp [s1]; exact ⟨rfl, rfl⟩) ?_
      obtain ⟨o3, q1, q2, q3⟩ := s3.get encI_len
      simp only [encI, avl_cons, avl_nil] at q3
      refine WDO.nilS (WD.ret (endR _ (l := .cons (itA f.it.k f.it.n f.it.t u) .nil) (by simp [q1, q3, itA]) ⟨u, by rw [hp]; rfl, by rw [hp]; exact e10.keep s4 (by have := k2.1; omega) (fun b hb e => by omega) (Nat.le_refl _), ?_⟩))
      exact k2.trans' s4 fun b hb e => by omega
    · have h := of_decide_eq_false h
      rw [if_neg h] at hp
      refine leD 3 [xM 5 11, xC akAdd 11 1 12, xM 12 5] ?_
      exact WDO.nil ⟨rfl, i + 1, _, rfl, by simp [], ⟨by omega, hp, rfl⟩, by omega⟩
abbrev qM17_1 : List Lk := [xM 5 32, xM 32 33, yF 8 0 34 33 true, yL 34 35 33 true, yC akNeq 35 0 36 33 true, xA 33 36 37 false, xM 37 5]
theorem take_snoc {α : Type} {l : List α} {i : Nat} {x : α} (h : l[i]? = some x) : l.take (i + 1) = l.take i ++ [x] := by
  rw [List.take_add_one, h]; rfl
set_option maxHeartbeats 2000000 in
theorem items_ok {H : AH} {N : Nat} {rx : Xv} {ix : Ixd} {r : Rv} {x : Rec9} (hi : IxAt H N rx ix) (hx : RecAt H N r x) (hN : N ≤ H.next) (hks : ix.ks.length < 8589934592) (hfl : x.fs.length < 8589934592) :
    DC Tryz.prog .normal 40 (.cons (xvA rx) (.cons (rvA r) .nil)) H fun v' H2 => ∃ u ok, v' = .tup (.cons u (.cons (.bool ok) .nil)) ∧ OwnI H2 H.next N u (ix.ks.map fun k => pickL k ⟨0, 0, [], .nil⟩ x.fs) ∧ Keep noB H H2 := by
  refine DC.of_wd (re := reTmp 4 (reTmp 5 reNil)) tyOk Tryz.func40 (by kernel_rfl) rfl (by kernel_rfl) (by kernel_rfl) ?_
  rw [tl_nil, argsT_cons, argsT_cons, argsT_nil]
  refine WD.seqR ?_
  refine WDO.box1 (enc := encX) (a := rx) tyOk encX_len (by kernel_rfl : freshK E _ = some ⟨frBox ⟨mkCs 24 3 (.cons (.str 0 0) (.cons .snil (.cons (.bool false) .nil)))⟩ (.tmp 0)⟩) rfl (by kernel_rfl) (by simp [xvA]; try rfl) fun o1 b1 => ?_
  have k1 : Keep noB H (H.new o1) := Keep.new _ _ _
  obtain ⟨g2, g3⟩ := box_rd encX_len b1
  have g1 : (H.new o1).get H.next = some o1 := get_new_same _ _
  have gv : rdCell o1 1 = some rx.v := g2 1 _ rfl
  have hn1 : H.next < (H.new o1).next := by simp
  clear b1 g2 g3
  generalize hH1 : H.new o1 = H1 at *
  generalize hn1' : H.next = n1 at *
  refine WDO.box1 (enc := encR) (a := r) tyOk encR_len (by kernel_rfl : freshK E _ = some ⟨frBox ⟨mkCs 30 5 (.cons (.int .i64 0) (.cons (.int .i64 0) (.cons (.str 0 0) (.cons .snil (.cons .snil .nil)))))⟩ (.tmp 1)⟩) rfl (by kernel_rfl) (by simp [rvA]; try rfl) fun o2 b2 => ?_
  have k2 : Keep noB H (H1.new o2) := k1.trans (Keep.new _ _ _)
  obtain ⟨f2, f3⟩ := box_rd encR_len b2
  have f1 : (H1.new o2).get H1.next = some o2 := get_new_same _ _
  have fv : rdCell o2 4 = some r.w := f2 4 _ rfl
  have g1 := (Keep.new noB H1 o2).get hn1 id g1
  have hn2 : H1.next < (H1.new o2).next := by simp
  clear b2 f2 f3 hH1
  generalize hH2 : H1.new o2 = H2 at *
  generalize hn2' : H1.next = n2 at *
  clear hH2
  refine leD 2 [⟨lkMove (.const (.slice none 0 0)), (some 4), none⟩, xZ false 5] ?_
  refine WDO.nilS (WD.seqR ?_)
  refine leD 1 [xZ true 5] ?_
  have hlk := (hi.k.keep0 k2 (by omega)).len
  refine WDO.nilS (WD.seq (WD.seqR ?_))
  refine lkD 4 [xF 2 1 11, xL 11 12, xN 12 13, xK 0 14] (by simp (disch := omega) [g1, gv, hlk]; exact rfl) ?_
  refine WDO.nilS ?_
  refine WD.forR (σ := Nat × AV × Bool) (fun s => [(2, .ptr n1 0), (3, .ptr n2 0), (12, rx.v), (13, .int .i64 (ix.ks.length : Int)), (4, s.2.1), (5, .bool s.2.2), (14, .int .i64 (s.1 : Int))]) (fun s H' => s.1 ≤ ix.ks.length ∧ OwnI H' n1 N s.2.1 ((ix.ks.take s.1).map fun k => pickL k ⟨0, 0, [], .nil⟩ x.fs) ∧ Keep noB H2 H' ∧ ∀ b, blk s.2.1 = some b → H2.next ≤ b) (fun s => ix.ks.length - s.1) (0, .snil, true) ⟨Nat.zero_le _, by simpa using OwnI.nil H2 n1 N, Keep.refl _ _, fun b h => by cases h⟩ (by simp) ?_
  rintro ⟨i, c, ok⟩ H' ⟨hic, ho, hk, hb⟩
  simp only at hic ho hb
  have hkk := k2.trans hk
  refine leD 1 [xB akLss 14 13 15] ?_
  refine WDO.nil ⟨decide (i < ix.ks.length), _, rfl, by simp, fun hc => ?_, fun hc => ?_⟩
  · have hc : i = ix.ks.length := by have := of_decide_eq_false hc; omega
    subst hc
    rw [List.take_length] at ho
    refine WD.seqR ?_
    refine leD 4 [xM 4 43, xM 5 44, xM 43 4, xM 44 5] ?_
    exact WDO.nilS (WD.ret (endR _ (by simp; rfl) ⟨c, ok, rfl, ho, hkk⟩))
  · have hc : i < ix.ks.length := of_decide_eq_true hc
    obtain ⟨y, hy⟩ := getS hc
    have nn := hk.1
    obtain ⟨b, off, cap, o, e1, _, e3, e4, e5, e6⟩ := (hi.k.keep0 hkk (by omega)).at encT_len hy
    have e5' : rdCell o (off + i) = some (sb y) := by have := e5 0 _ rfl; simpa using this
    have hfs := hx.f.keep0 hkk (by omega)
    have hlf := hfs.len
    have f1' := hk.get hn2 id f1
    refine WD.seqR ?_
    refine lkD 3 [xI 1 12 14 16, xL 16 17, xM 17 7] (by simp (disch := omega) [e1, e4, e5', hc]; exact rfl) ?_
    refine WDO.nilS (WD.seqR ?_)
    refine WDO.fresh1 tyOk (k := ⟨frAlloc (.cs 27 4 4 false (.cons (.int .i64 0) (.cons (.int .i64 0) (.cons (.str 0 0) (.cons .snil .nil)))) .e)⟩) (by kernel_rfl) rfl (by kernel_rfl) (v := .ptr H'.next 0) (x := .cs 27 4 4 false zIv .e) ?_ ?_
    · simp [zIv]
    have b3 := Bx.new (enc := encI) (e := 27) (es := 4) (z := zIv) (a := zeroIv) encI_len rfl H' (n := 4) rfl
    have k3 : Keep noB H' (H'.new (.cs 27 4 4 false zIv .e)) := Keep.new _ _ _
    have n3 : H'.next < (H'.new (.cs 27 4 4 false zIv .e)).next := by simp
    have ho3 := ho.keep k3 (by omega) (by omega) (fun b h => h.elim) fun _ _ => id
    have f3 := k3.get (by omega) id f1'
    have hfs3 := hfs.keep0 k3 (by omega)
    have hlow : ∀ b, blk c = some b → b < H'.next := fun b e => (ho.low e).2
    generalize H'.new (.cs 27 4 4 false zIv .e) = H3 at *
    generalize hn3 : H'.next = n3' at *
    refine WDO.nilS (WD.seq (WD.seqR ?_))
    refine lkD 4 [xF 3 4 18, xL 18 19, xN 19 20, xK 0 21] (by simp (disch := omega) [f3, fv, hlf]; exact rfl) ?_
    refine WDO.nilS ?_
    refine WD.forR (σ := Nat) (fun m => [(2, .ptr n1 0), (3, .ptr n2 0), (12, rx.v), (13, .int .i64 (ix.ks.length : Int)), (4, c), (5, .bool ok), (14, .int .i64 (i : Int)), (7, sb y), (8, .ptr n3' 0), (19, r.w), (20, .int .i64 (x.fs.length : Int)), (21, .int .i64 (m : Int))]) (fun m G => m ≤ x.fs.length ∧ Keep (fun b => b = n3') H3 G ∧ ∃ iv, Bx encI 27 4 zIv G n3' iv ∧ iv.k = (pickL y ⟨0, 0, [], .nil⟩ (x.fs.take m)).k ∧ iv.n = (pickL y ⟨0, 0, [], .nil⟩ (x.fs.take m)).n ∧ iv.t = (pickL y ⟨0, 0, [], .nil⟩ (x.fs.take m)).t ∧ SaysI G N iv.v (pickL y ⟨0, 0, [], .nil⟩ (x.fs.take m)).s) (fun m => x.fs.length - m) 0 ⟨Nat.zero_le _, Keep.refl _ _, zeroIv, b3, rfl, rfl, rfl, .inl ⟨rfl, rfl⟩⟩ (by simp [e1]) ?_
    rintro m G ⟨hm, hkG, iv, hB, i1, i2, i3, i4⟩
    have nG := hkG.1
    refine leD 1 [xB akLss 21 20 22] ?_
    refine WDO.nil ⟨decide (m < x.fs.length), _, rfl, by simp, fun hcm => ?_, fun hcm => ?_⟩
    · have hcm : m = x.fs.length := by have := of_decide_eq_false hcm; omega
      subst hcm
      rw [List.take_length] at i1 i2 i3 i4
      obtain ⟨o3, q1, q2, q3⟩ := hB.get encI_len
      have qk : rdCell o3 0 = some (.int .i64 iv.k) := q2 0 _ rfl
      refine WD.seqR ?_
      have hoG := ho3.keep hkG (by omega) (by omega) (fun b h => by omega) fun b e h => by have := hlow b e; omega
      refine WDO.mono (Q := fun o => ∃ l' ok', o = .nor (tl l') [] G ∧ lsub [(2, .ptr n1 0), (3, .ptr n2 0), (12, rx.v), (13, .int .i64 (ix.ks.length : Int)), (4, c), (5, .bool ok'), (14, .int .i64 (i : Int)), (8, .ptr n3' 0)] l') ?_ ?_
      · cases ok with
        | true =>
          refine lkD 7 qM17_1 (by simp (disch := omega) [q1, qk]; exact rfl) ?_
          exact WDO.nil ⟨_, !decide (iv.k = 0), rfl, by simp [e1]⟩
        | false =>
          refine leD 7 qM17_1 ?_
          exact WDO.nil ⟨_, false, rfl, by simp [e1]⟩
      · rintro o' ⟨l', ok', rfl, hs⟩
        refine WD.keep (WD.region ?_) hs
        refine lkD 2 [xM 4 38, xD 4 8 39] (by simp (disch := omega) [q1, q3]; exact rfl) ?_
        refine WDO.slice1 (enc := encI) (a := iv) tyOk encI_len (by kernel_rfl : freshK E _ = some ⟨frSlice 1 (zerosA (.cons (.int .i64 0) (.cons (.int .i64 0) (.cons (.str 0 0) (.cons .snil .nil)))) 1) ⟨fill1 (.tmp 39) 0 4 flEnd⟩ ⟨mkCs 27 4 (.cons (.int .i64 0) (.cons (.int .i64 0) (.cons (.str 0 0) (.cons .snil .nil))))⟩⟩) rfl (by kernel_rfl) (by simp; rfl) (by rfl) (by rfl) (by rfl) fun o4 b4 => ?_
        have k4 : Keep noB G (G.new o4) := Keep.new _ _ _
        have g4 : (G.new o4).get G.next = some o4 := get_new_same _ _
        obtain ⟨c', G5, a1, a2, a3, a4, a5⟩ := (hoG.keep k4 (by omega) (by omega) (fun b h => h.elim) fun _ _ => id).app (x := .sl G.next 0 1 (some 1)) (a := iv) (by have := k4.1; omega) (by omega) (One.of g4 b4) i1 i2 i3 (i4.keep0 k4 (by omega)) (by simp; omega)
        refine WDO.heavy1 tyOk extOk (k := ⟨hvAppend ⟨grownCs 4 ⟨mkCs 27 4 (.cons (.int .i64 0) (.cons (.int .i64 0) (.cons (.str 0 0) (.cons .snil .nil))))⟩⟩ 4 (.tmp 38) (.tmp 40)⟩) (by kernel_rfl) rfl (by kernel_rfl) (by simp; exact a1) ?_
        refine leD 1 [xM 41 4] ?_
        refine WDO.nil ?_
        refine leD 2 [xC akAdd 14 1 42, xM 42 14] ?_
        have kf : Keep noB H2 G5 := (((hk.trans k3).trans' hkG fun b hb e => by omega).trans k4).trans' a5 fun b hb' e => by have := hb _ e; omega
        exact WDO.nil ⟨rfl, (i + 1, c', ok'), _, rfl, by simp, ⟨by simp only; omega, by simp only [take_snoc hy, List.map_append]; exact a2, kf, fun b e => by
          simp only at e
          rw [a3] at e
          cases e
          have := k4.1
          simp at this ⊢
          omega⟩, by simp only; omega⟩
    · have hcm : m < x.fs.length := of_decide_eq_true hcm
      obtain ⟨f, hf⟩ := getS hcm
      have ht : x.fs.take (m + 1) = x.fs.take m ++ [f] := take_snoc hf
      have hfsG := hfs3.keep hkG (by omega) (fun b hb e => by omega) (Nat.le_refl _)
      obtain ⟨b', off', cap', o', u, e1', _, e3', e4', e5', e6', e7', e8', e9', e10', e11', e12'⟩ := hfsG.at hf
      refine WD.seqR ?_
      refine lkD 2 [xI 5 19 21 23, xD 5 23 24] (by simp (disch := omega) [e1', e4', e12', hcm]; exact rfl) ?_
      refine WDO.fresh1 tyOk (k := ⟨frAlloc (.cs 76 5 5 false (.cons (.str 0 0) (.cons (.int .i64 0) (.cons (.int .i64 0) (.cons (.str 0 0) (.cons .snil .nil))))) .e)⟩) (by kernel_rfl) rfl (by kernel_rfl) (v := .ptr G.next 0) (x := .cs 76 5 5 false zFv .e) ?_ ?_
      · simp [zFv]
      have b5 := Bx.new (enc := encF) (e := 76) (es := 5) (z := zFv) (a := zeroFv) encF_len rfl G (n := 5) rfl
      obtain ⟨G2, s1, s2, s3, s4⟩ := b5.store encF_len ⟨f.nm, f.it.k, f.it.n, f.it.t, u, e10'.cell⟩ (cells_f _)
      have kG : Keep noB G G2 := (Keep.new _ _ _).trans' s4 fun b hb e => by omega
      refine WDO.heavy1 tyOk extOk (k := ⟨hvStore ⟨stN 5⟩ (.tmp 10) (.tmp 24)⟩) (by kernel_rfl) rfl (by kernel_rfl) (by simp only [encF, avl_cons, avl_nil] at s1; simp [s1]; exact ⟨rfl, rfl⟩) ?_
      have hB2 := hB.keep kG (by omega) id
      have i42 := i4.keep0 kG (by omega)
      have e102 := e10'.keep0 kG (by omega)
      obtain ⟨o5, p1, p2, p3⟩ := s3.get encF_len
      have p0 : rdCell o5 0 = some (sb f.nm) := p2 0 _ rfl
      have p4 : rdCells o5 4 1 = some (avl [.int .i64 f.it.k, .int .i64 f.it.n, sb f.it.t, u]) := rdCells_of _ _ fun j w hj => by
        have := p2 (j + 1) w (by simpa [encF] using hj)
        rwa [Nat.add_comm] at this
      have hnG : G.next < G2.next := by rw [s2]; simp
      generalize hn5 : G.next = n5 at *
      refine WDO.nilS (WD.seqR ?_)
      refine lkD 4 [xF 10 0 25, xL 25 26, xM 7 27, ⟨⟨binStr skEql (.tmp 26) (.tmp 27)⟩, (some 28), none⟩] (by simp (disch := omega) [p1, p0]; exact rfl) ?_
      refine WDO.nilS (WD.cond (t := decide (f.nm = y)) (by simp) (fun h => WD.region ?_) (fun h => WD.skip (.inl rfl) ?_))
      · have h := of_decide_eq_true h
        have hp : pickL y ⟨0, 0, [], .nil⟩ (x.fs.take (m + 1)) = f.it := by rw [ht, pickL_snoc, if_pos h]
        obtain ⟨G3, t1, t2, t3, t4⟩ := hB2.store encI_len ⟨f.it.k, f.it.n, f.it.t, u, e102.cell⟩ (cells_iv _)
        refine lkD 2 [xF 10 1 29, xD 4 29 30] (by simp (disch := omega) [p1, p4]; exact rfl) ?_
        refine WDO.heavy1 tyOk extOk (k := ⟨hvStore ⟨stN 4⟩ (.tmp 8) (.tmp 30)⟩) (by kernel_rfl) rfl (by kernel_rfl) (by simp only [encI, avl_cons, avl_nil] at t1; simp [t1]; exact ⟨rfl, rfl⟩) ?_
        refine WDO.nil ?_
        refine leD 2 [xC akAdd 21 1 31, xM 31 21] ?_
        have kn := kG.1
        exact WDO.nil ⟨rfl, m + 1, _, rfl, by simp [e1, e1'], ⟨by omega, (hkG.trans' kG fun b hb e => e.elim).trans' t4 fun b hb e => e, _, t3, by rw [hp], by rw [hp], by rw [hp], by rw [hp]; exact e102.keep t4 (by omega) (fun b hb e => by omega) (Nat.le_refl _)⟩, by omega⟩
      · have h := of_decide_eq_false h
        have hp : pickL y ⟨0, 0, [], .nil⟩ (x.fs.take (m + 1)) = pickL y ⟨0, 0, [], .nil⟩ (x.fs.take m) := by rw [ht, pickL_snoc, if_neg h]
        refine leD 2 [xC akAdd 21 1 31, xM 31 21] ?_
        exact WDO.nil ⟨rfl, m + 1, _, rfl, by simp [e1, e1'], ⟨by omega, hkG.trans' kG fun b hb e => e.elim, iv, hB2, by rw [hp]; exact i1, by rw [hp]; exact i2, by rw [hp]; exact i3, by rw [hp]; exact i42⟩, by omega⟩
end
end Go.Proofs.YtfgipbjaapkdlaaGreatDoor
