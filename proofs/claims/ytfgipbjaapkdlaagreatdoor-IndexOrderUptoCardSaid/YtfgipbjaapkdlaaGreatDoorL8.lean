/- A part of the proof of this seat's statement. Conditions: in each theorem. -/
import Derived.Test.YtfgipbjaapkdlaaGreatDoorL7
namespace Go.Proofs.YtfgipbjaapkdlaaGreatDoor
open Go.Xq
noncomputable section
structure IxOk (x : Ixd) : Prop where
  nm : x.nm.length < 17179869184
  ks : ∀ k ∈ x.ks, k.length < 17179869184
  n : x.ks.length < 8589934592
theorem ixB_len {x : Ixd} (h : ixB x = true) : x.ks.length ≤ 8 := by
  by_cases h' : x.ks.length ≤ 8
  · exact h'
  · rw [ixB_f fun h => h' h.2.2.1] at h; cases h
theorem pick_cases (nm : List UInt8) : ∀ (fs : List Fld), pick nm fs = ⟨0, 0, [], .nil⟩ ∨ ∃ f ∈ fs, pick nm fs = f.it
  | [] => .inl rfl
  | f :: r => by
    by_cases h : f.nm = nm
    · exact .inr ⟨f, by simp, by simp [pick, h]⟩
    · have : pick nm (f :: r) = pick nm r := by simp [pick, h]
      rw [this]
      rcases pick_cases nm r with e | ⟨g, hg, e⟩
      · exact .inl e
      · exact .inr ⟨g, List.mem_cons_of_mem _ hg, e⟩
theorem picks_size {x : Rec9} (hok : RecOk9 x) : ∀ (ks : List (List UInt8)), (Its.ofL (ks.map fun k => pick k x.fs)).size ≤ ks.length * 2097152
  | [] => by simp [Its.ofL, Its.size]
  | k :: r => by
    have h := picks_size hok r
    have h1 : 1 + (pick k x.fs).t.length + (pick k x.fs).s.size < 2097152 := by
      rcases pick_cases k x.fs with e | ⟨f, hf, e⟩
      · rw [e]; simp [Its.size]
      · rw [e]; exact (hok.fs f hf).2.1
    simp only [List.map_cons, Its.ofL, Its.size, List.length_cons, Nat.succ_mul] at h ⊢
    omega
theorem entry_size {ix : Ixd} {x : Rec9} (hok : RecOk9 x) (hb : ix.ks.length ≤ 8) : (Its.ofL (entryI ix x)).size < 134217728 := by
  unfold entryI
  rw [size_append]
  have h1 := picks_size hok ix.ks
  have h2 := hok.key
  have : ix.ks.length * 2097152 ≤ 8 * 2097152 := Nat.mul_le_mul_right _ hb
  omega
theorem entry_rng {ix : Ixd} {x : Rec9} (hok : RecOk9 x) : (Its.ofL (entryI ix x)).rng := by
  refine Its.rng_ofL fun y hy => ?_
  unfold entryI at hy
  rcases List.mem_append.1 hy with hy | hy
  · obtain ⟨k, _, rfl⟩ := List.mem_map.1 hy
    rcases pick_cases k x.fs with e | ⟨f, hf, e⟩
    · rw [e]; exact ⟨by simp, trivial⟩
    · rw [e]; exact (hok.fs f hf).2.2
  · simp at hy; subst hy; exact hok.keyr
theorem laidE_names {x : Rec9} (h : laidE x = 0) : namesTo x.fs x.fs.length := by
  unfold laidE at h
  split at h
  · exact absurd h (by assumption)
  · split at h
    · cases h
    · rename_i h2
      simp only [not_or, Classical.not_not] at h2
      exact h2.2
def EntQ (H : AH) (ix : Ixd) (x : Rec9) (v' : AV) (H2 : AH) : Prop := ∃ u, v' = .tup (.cons u (.cons (.int .i64 (((entryL ix x).2 : Nat) : Int)) .nil)) ∧ OwnB 5 H2 H.next u (entryL ix x).1 ∧ Keep noB H H2
set_option maxHeartbeats 2000000 in
theorem Entry10_ok {H : AH} {N : Nat} {rx : Xv} {ix : Ixd} {r : Rv} {x : Rec9} (hi : IxAt H N rx ix) (hx : RecAt H N r x) (hN : N ≤ H.next) (hG : GlobU H) (hik : IxOk ix) (hok : RecOk9 x) :
    DC Tryz.prog .normal 10 (.cons (xvA rx) (.cons (rvA r) .nil)) H fun v' H2 => EntQ H ix x v' H2 := by
  refine DC.of_wd (re := reTmp 4 (reTmp 5 reNil)) tyOk Tryz.func10 (by kernel_rfl) rfl (by kernel_rfl) (by kernel_rfl) ?_
  rw [tl_nil, argsT_cons, argsT_cons, argsT_nil]
  refine WD.seqR ?_
  refine WDO.box1 (enc := encX) (a := rx) tyOk encX_len (by kernel_rfl : freshK E _ = some ⟨frBox ⟨mkCs 24 3 (.cons (.str 0 0) (.cons .snil (.cons (.bool false) .nil)))⟩ (.tmp 0)⟩) rfl (by kernel_rfl) (by simp [xvA]; try rfl) fun o1 b1 => ?_
  have k1 : Keep noB H (H.new o1) := Keep.new _ _ _
  obtain ⟨g2, g3⟩ := box_rd encX_len b1
  have g1 : (H.new o1).get H.next = some o1 := get_new_same _ _
  have hn1 : H.next < (H.new o1).next := by simp
  clear b1 g2
  generalize hH1 : H.new o1 = H1 at *
  generalize hn1' : H.next = n1 at *
  refine WDO.box1 (enc := encR) (a := r) tyOk encR_len (by kernel_rfl : freshK E _ = some ⟨frBox ⟨mkCs 30 5 (.cons (.int .i64 0) (.cons (.int .i64 0) (.cons (.str 0 0) (.cons .snil (.cons .snil .nil)))))⟩ (.tmp 1)⟩) rfl (by kernel_rfl) (by simp [rvA]; try rfl) fun o2 b2 => ?_
  have k2 : Keep noB H (H1.new o2) := k1.trans (Keep.new _ _ _)
  obtain ⟨f2, f3⟩ := box_rd encR_len b2
  have f1 : (H1.new o2).get H1.next = some o2 := get_new_same _ _
  have gk : rdCells o2 4 0 = some (avl (encI ⟨r.k, r.n, r.t, r.v, r.c⟩)) := rdCells_of (encI ⟨r.k, r.n, r.t, r.v, r.c⟩) _ fun j w hj => by
    rw [Nat.zero_add]
    refine f2 j w ?_
    match j, hj with
    | 0, hj => exact hj
    | 1, hj => exact hj
    | 2, hj => exact hj
    | 3, hj => exact hj
    | j + 4, hj => simp [encI] at hj
  have g1 := (Keep.new noB H1 o2).get hn1 id g1
  have hn2 : H1.next < (H1.new o2).next := by simp
  clear b2 f2 hH1
  generalize hH2 : H1.new o2 = H2 at *
  generalize hn2' : H1.next = n2 at *
  clear hH2
  refine leD 2 [⟨lkMove (.const (.slice none 0 0)), (some 4), none⟩, xK 0 5] ?_
  have xi : xvA rx = .agg (avl (encX rx)) := rfl
  have xr : rvA r = .agg (avl (encR r)) := rfl
  refine WDO.nilS (WD.seq (WD.seqR ?_))
  refine lkD 1 [xD 3 2 11] (by simp (disch := omega) [g1, g3]; exact rfl) ?_
  refine WDO.callF (g := 38) rfl rfl rfl (by kernel_rfl) (l := .cons (xvA rx) .nil) (by simp [xvA]) (isIndex_ok (hi.keep0 k2 (by omega)) (by omega) hik.nm hik.ks (by have := hik.n; omega)) fun u H3 ⟨hu, k3⟩ => ?_
  subst hu
  have kk3 := k2.trans k3
  have g13 := k3.get (by omega) id g1
  have f13 := k3.get (by omega) id f1
  have n3 := k3.1
  refine leD 1 [xU 12 13] ?_
  cases hib : ixB ix with
  | false =>
    have he : entryL ix x = ([], 193) := by unfold entryL; rw [if_pos hib]
    refine cdT ?_
    refine leD 2 [⟨lkMove (.const (.slice none 0 0)), (some 4), none⟩, xK 193 5] ?_
    exact WDO.nilS (WD.ret (endR _ (by simp; rfl) ⟨.snil, by rw [he]; rfl, by rw [he]; exact .inl ⟨rfl, rfl⟩, kk3⟩))
  | true =>
    refine cdF ?_
    refine WD.seq (WD.seqR ?_)
    refine lkD 1 [xD 5 3 15] (by simp (disch := omega) [f13, f3]; exact rfl) ?_
    refine WDO.callF (g := 39) rfl rfl rfl (by kernel_rfl) (l := .cons (rvA r) .nil) (by simp [rvA]) (laid_ok (hx.keep0 kk3 (by omega)) (by omega) (hG.keep kk3 fun _ _ => id) hok) fun u H4 ⟨u1, u2, hu, k4⟩ => ?_
    subst hu
    have kk4 := kk3.trans k4
    have g14 := k4.get (by omega) id g13
    have f14 := k4.get (by omega) id f13
    have n4 := k4.1
    have hl : laidE x ≠ 0 → entryL ix x = ([], laidE x) := fun h => by unfold entryL; rw [if_neg (by simp [hib]), if_pos h]
    have hl0 : laidE x = 0 → entryL ix x = encode (Its.ofL (entryI ix x)) := fun h => by unfold entryL; rw [if_neg (by simp [hib]), if_neg (by simp [h])]
    have hna := laidE_names (x := x)
    generalize laidE x = e1 at hl hl0 hna ⊢
    refine leD 7 [xM 16 14, xE 14 0 17, xE 14 1 18, xE 14 2 19, xM 17 6, xM 18 7, xM 19 8] ?_
    refine WDO.nilS (WD.seqR ?_)
    by_cases c1 : e1 = 0
    rotate_left
    · refine lkD 2 [xM 8 20, xC akNeq 20 0 21] (by simp (disch := omega) [c1]; exact rfl) ?_
      refine cdT ?_
      refine leD 3 [xM 8 22, ⟨lkMove (.const (.slice none 0 0)), (some 4), none⟩, xM 22 5] ?_
      exact WDO.nilS (WD.ret (endR _ (by simp; rfl) ⟨.snil, by rw [hl c1]; rfl, by rw [hl c1]; exact .inl ⟨rfl, rfl⟩, kk4⟩))
    · refine lkD 2 [xM 8 20, xC akNeq 20 0 21] (by simp (disch := omega) [c1]; exact rfl) ?_
      refine cdF ?_
      refine WD.seqR ?_
      refine lkD 2 [xD 3 2 24, xD 5 3 25] (by simp (disch := omega) [g14, g3, f14, f3]; exact rfl) ?_
      refine WDO.callF (g := 40) rfl rfl rfl (by kernel_rfl) (l := .cons (xvA rx) (.cons (rvA r) .nil)) (by simp [rvA, xvA]) (items_ok (hi.keep0 kk4 (by omega)) (hx.keep0 kk4 (by omega)) (by omega) hik.n hok.n) fun u H5 ⟨u3, ok3, hu, ho, k5⟩ => ?_
      subst hu
      have kk5 := kk4.trans k5
      have f15 := k5.get (by omega) id f14
      have n5 := k5.1
      have hpl : (ix.ks.map fun k => pickL k ⟨0, 0, [], .nil⟩ x.fs) = ix.ks.map fun k => pick k x.fs := List.map_congr_left fun k _ => pickL_pick k x.fs (hna c1)
      rw [hpl] at ho
      refine leD 5 [xM 26 23, xE 23 0 27, xE 23 1 28, xM 27 9, xM 28 10] ?_
      refine WDO.nilS (WD.seqR ?_)
      refine lkD 3 [xM 9 29, xF 3 0 30, xD 4 30 31] (by simp (disch := omega) [f15, gk]; exact rfl) ?_
      refine WDO.slice1 (enc := encI) (a := ⟨r.k, r.n, r.t, r.v, r.c⟩) tyOk encI_len (by kernel_rfl : freshK E _ = some ⟨frSlice 1 (zerosA (.cons (.int .i64 0) (.cons (.int .i64 0) (.cons (.str 0 0) (.cons .snil .nil)))) 1) ⟨fill1 (.tmp 31) 0 4 flEnd⟩ ⟨mkCs 27 4 (.cons (.int .i64 0) (.cons (.int .i64 0) (.cons (.str 0 0) (.cons .snil .nil))))⟩⟩) rfl (by kernel_rfl) (by simp; rfl) (by rfl) (by rfl) (by rfl) fun o4 b4 => ?_
      have k6 : Keep noB H5 (H5.new o4) := Keep.new _ _ _
      have g6 : (H5.new o4).get H5.next = some o4 := get_new_same _ _
      have n6 : H5.next + 1 = (H5.new o4).next := by simp
      have hx5 := hx.keep0 kk5 (by omega)
      obtain ⟨c', Ha, a1, a2, a3, a4, a5⟩ := (ho.keep k6 (by omega) (by omega) (fun b h => h.elim) fun _ _ => id).app (x := .sl H5.next 0 1 (some 1)) (a := ⟨r.k, r.n, r.t, r.v, r.c⟩) (y := x.key) (by omega) (by omega) (One.of g6 b4) hx5.k hx5.n hx5.t (hx5.s.keep0 k6 (by omega)) (by simp; have := hik.n; omega)
      refine WDO.heavy1 tyOk extOk (k := ⟨hvAppend ⟨grownCs 4 ⟨mkCs 27 4 (.cons (.int .i64 0) (.cons (.int .i64 0) (.cons (.str 0 0) (.cons .snil .nil))))⟩⟩ 4 (.tmp 29) (.tmp 32)⟩) (by kernel_rfl) rfl (by kernel_rfl) (by simp; exact a1) ?_
      have kka : Keep noB H Ha := (kk5.trans k6).trans' a5 fun b hb e => by have := (ho.low e).1; omega
      have hE : (ix.ks.map fun k => pick k x.fs) ++ [x.key] = entryI ix x := rfl
      rw [hE] at a2
      have na : n2 ≤ Ha.next := by omega
      refine WDO.callF (g := 41) rfl rfl rfl (by kernel_rfl) (l := .cons c' .nil) (by simp) (Encode_ok (a2.says (by omega)) (Nat.le_refl _) (hG.keep kka fun _ _ => id) (entry_size hok (ixB_len hib)) (entry_rng hok)) fun u H7 ⟨u7, hu, ho7, k7⟩ => ?_
      subst hu
      refine leD 4 [xE 34 0 35, xE 34 1 36, xM 35 4, xM 36 5] ?_
      exact WDO.nilS (WD.ret (endR _ (by simp; rfl) ⟨u7, by rw [hl0 c1]; rfl, by rw [hl0 c1]; exact ownB_wide ho7 (by omega), kka.trans k7⟩))
abbrev qM22_1 : List Lk := [xM 5 6, xM 0 7, xN 7 8, xB akLss 6 8 9, xM 9 10, yM 1 11 10 true, yC akLeq 11 100000 12 10 true, xA 10 12 13 false]
abbrev qM22_2 : List Lk := [xM 4 8, xF 1 4 9, xL 9 10, xN 10 11, xB akLss 8 11 12, xM 12 13, yM 4 14 13 true, yC akLss 14 1000 15 13 true, xA 13 15 16 false]
theorem drop_size {l : Its} {i : Nat} {x : It} (h : l.get i = some x) : (l.drop i).size = 1 + x.t.length + x.s.size + (l.drop (i + 1)).size := by rw [Its.drop_get h]; rfl
theorem drop_weigh {l : Its} {i n : Nat} {x : It} (h : l.get i = some x) (hn : n ≤ 100000) : (l.drop i).weigh n = (l.drop (i + 1)).weigh (x.s.weigh (n + 1 + x.t.length / 64)) := by
  rw [Its.drop_get h]
  show (if n ≤ 100000 then _ else n) = _
  rw [if_pos hn]
set_option maxHeartbeats 2000000 in
theorem weigh_ok : ∀ (z : Nat) {l : Its} {H : AH} {N n : Nat} {v : AV}, l.size ≤ z → SaysI H N v l → N ≤ H.next → n + l.size < 4611686018427387904 →
    DC Tryz.prog .normal 81 (.cons v (.cons (.int .i64 (n : Int)) .nil)) H fun v' H2 => v' = .int .i64 ((l.weigh n : Nat) : Int) ∧ Keep noB H H2
  | z, l, H, N, n, v, hz, hv, hN, hsz => by
    refine DC.of_wd (re := reTmp 4 reNil) tyOk Tryz.func81 (by kernel_rfl) rfl (by kernel_rfl) (by kernel_rfl) ?_
    rw [tl_nil, argsT_cons, argsT_cons, argsT_nil]
    have hlen := hv.len
    have hls := l.len_le
    refine WD.seqR ?_
    refine leD 1 [xK 0 4] ?_
    refine WDO.nilS (WD.seq (WD.seqR ?_))
    refine leD 1 [xK 0 5] ?_
    refine WDO.nilS ?_
    refine WD.forE (σ := Nat × Nat) (fun s => [(0, v), (1, .int .i64 (s.2 : Int)), (5, .int .i64 (s.1 : Int))]) (fun s H' => s.1 ≤ l.len ∧ l.weigh n = (l.drop s.1).weigh s.2 ∧ s.2 + (l.drop s.1).size ≤ n + l.size ∧ Keep noB H H') (fun s => l.len - s.1) (0, n) ⟨Nat.zero_le _, by rw [drop0], by rw [drop0]; exact Nat.le_refl _, Keep.refl _ _⟩ (by simp) ?_
    rintro ⟨i, m⟩ H' ⟨hi, hw, hb, hk⟩
    simp only at hi hw hb
    by_cases hc : i < l.len
    · by_cases hm : m ≤ 100000
      · have hmd : decide ((m : Int) ≤ 100000) = true := decide_eq_true (by omega)
        refine lkD 8 qM22_1 (by simp (disch := omega) [hlen, hc]; exact rfl) ?_
        have hmI : (m : Int) ≤ 100000 := by omega
        refine WDO.nil ⟨true, _, rfl, by simp [hmI], fun h => by simp at h, fun _ => ?_⟩
        obtain ⟨x, hx⟩ := l.get_some i hc
        have hsx := Its.size_get hx
        rw [drop_weigh hx hm] at hw
        rw [drop_size hx] at hb
        obtain ⟨b, off, cap, o, u, e1, _, e3, e4, e5, e6, e7, e8, e9, e10⟩ := hv.at hx
        have e4' := hk.get (by omega) id e4
        have hk1 := hk.1
        have hdiv : x.t.length / 64 ≤ x.t.length := Nat.div_le_self _ _
        have hdi : ((x.t.length : Nat) : Int) / 64 = ((x.t.length / 64 : Nat) : Int) := by omega
        generalize x.t.length / 64 = q at hdiv hdi hw
        obtain ⟨P, hP⟩ : ∃ P, P = m + 1 + q := ⟨_, rfl⟩
        have g1 : (m : Int) + 1 + (q : Int) = (P : Int) := by omega
        rw [← hP] at hw
        have hrec := weigh_ok (z - 1) (l := x.s) (H := H') (N := N) (n := P) (v := u) (by omega) (e9.keep0 hk hN) (by omega) (by omega)
        have hwl := Its.weigh_le x.s P
        obtain ⟨R, hR, hRc⟩ := specR_ex Tryz.prog (fun _ _ Hx u H2 => u = .int .i64 ((x.s.weigh P : Nat) : Int) ∧ Keep noB Hx H2)
        refine WD.drawnK tyOk extOk (by kernel_rfl) (ls := [zM 0 16 0 1, zM 5 17 0 1, zI 4 16 17 18 0 1, zF 18 3 19 0 1, zL 19 20 0 1, zM 1 21 0 1, ⟨[21], .look (⟨binInt akAdd (.tmp 21) (.const (.int .i64 1))⟩), (some 22), none, 0, 1, false, false⟩, zM 0 23 0 1, zM 5 24 0 1, zI 4 23 24 25 0 1, zF 25 2 26 0 1, zL 26 27 0 1, ⟨[27], .look (⟨lenStr (.tmp 27)⟩), (some 28), none, 0, 1, false, false⟩, ⟨[28], .look (⟨binInt ⟨quoA⟩ (.tmp 28) (.const (.int .i64 64))⟩), (some 29), none, 0, 1, false, false⟩, ⟨[22, 29], .look (⟨binInt akAdd (.tmp 22) (.tmp 29)⟩), (some 30), none, 0, 1, false, false⟩, ⟨[20, 30], .heavy ⟨hvCallF E 81 (opnds [(.tmp 20), (.tmp 30)])⟩, (some 31), none, 0, 2, false, true⟩, zM 31 1 1 1]) (by kernel_rfl) hR fun K hK => ?_
        iterate 4 (refine diLookP (by simp [-resL_cons, resL_cc]; exact rfl) (by simp (disch := omega) [e1]; exact rfl) ?_)
        refine diLookC (by simp [-resL_cons, resL_cc]; exact rfl) (by simp (disch := omega) [e4', e8]; exact rfl) ?_
        refine diLookP (by simp [-resL_cons, resL_cc]; exact rfl) (by simp (disch := omega) []; exact rfl) ?_
        refine diLookC (by simp [-resL_cons, resL_cc]; exact rfl) (by simp (disch := omega) []; exact rfl) ?_
        iterate 4 (refine diLookP (by simp [-resL_cons, resL_cc]; exact rfl) (by simp (disch := omega) [e1]; exact rfl) ?_)
        iterate 4 (refine diLookC (by simp [-resL_cons, resL_cc]; exact rfl) (by simp (disch := omega) [e4', e7, hdi, g1]; exact rfl) ?_)
        obtain ⟨uw, Hc, q2, rfl, kc⟩ := hRc 81 _ _ hrec
        have e4c := kc.get (by omega) id e4'
        refine diCallF (by simp [-resL_cons, resL_cc]; exact rfl) (by simp) (extFree _ _ _ rfl rfl rfl) q2 kc.1 ?_
        refine diLookP (by simp [-resL_cons, resL_cc]; exact rfl) (by simp (disch := omega) []; exact rfl) ?_
        simp only [diRun_nil, List.reverse_cons, List.reverse_nil, List.nil_append, List.cons_append, chkAdd_f, atAll_s, atAll_z, and_true, true_and]
        refine ⟨by simp (disch := omega) [e4', e7, e8, hdi, g1], hK _ _ ?_⟩
        refine leD 3 [xM 5 14, xC akAdd 14 1 15, xM 15 5] ?_
        exact WDO.nil ⟨rfl, (i + 1, x.s.weigh P), _, rfl, by simp [e1], ⟨by simp only; omega, hw, by simp only; omega, hk.trans kc⟩, by simp only; omega⟩
      · have hmd : decide ((m : Int) ≤ 100000) = false := decide_eq_false (by omega)
        refine lkD 8 qM22_1 (by simp (disch := omega) [hlen, hc]; exact rfl) ?_
        have hmI : 100000 < (m : Int) := by omega
        refine WDO.nil ⟨false, _, rfl, by simp [hmI], fun _ => ?_, fun h => by simp at h⟩
        rw [Its.weigh_stop (l.drop i) (n := m) (by omega)] at hw
        refine WD.seqR ?_
        refine leD 2 [xM 1 32, xM 32 4] ?_
        exact WDO.nilS (WD.ret (endR _ (by simp; rfl) ⟨by rw [hw]; rfl, hk⟩))
    · have hi : i = l.len := by omega
      subst hi
      rw [Its.drop_len] at hw
      refine lkD 8 qM22_1 (by simp (disch := omega) [hlen]; exact rfl) ?_
      refine WDO.nil ⟨false, _, rfl, by simp, fun _ => ?_, fun h => by simp at h⟩
      refine WD.seqR ?_
      refine leD 2 [xM 1 32, xM 32 4] ?_
      exact WDO.nilS (WD.ret (endR _ (by simp; rfl) ⟨by rw [hw]; rfl, hk⟩))
termination_by z => z
decreasing_by omega
theorem Great02_ok {l : Its} {H : AH} {N : Nat} {v : AV} (hv : SaysI H N v l) (hN : N ≤ H.next) (hsz : l.size < 4611686018427387904) :
    DC Tryz.prog .normal 32 (.cons v .nil) H fun v' H2 => (∃ b, v' = .bool b) ∧ Keep noB H H2 := by
  refine DC.of_wd (re := reTmp 2 reNil) tyOk Tryz.func32 (by kernel_rfl) rfl (by kernel_rfl) (by kernel_rfl) ?_
  rw [tl_nil, argsT_cons, argsT_nil]
  refine WD.seqR ?_
  refine leD 1 [xZ false 2] ?_
  refine WDO.nilS (WD.seqR ?_)
  refine leD 1 [xM 0 3] ?_
  refine WDO.callF (g := 81) rfl rfl rfl (by kernel_rfl) (l := .cons v (.cons (.int .i64 0) .nil)) (by simp) (weigh_ok l.size (n := 0) (Nat.le_refl _) hv hN (by omega)) fun u H2 ⟨hu, k2⟩ => ?_
  subst hu
  refine leD 2 [xC akGtr 4 100000 5, xM 5 2] ?_
  exact WDO.nilS (WD.ret (endR _ (by simp; rfl) ⟨⟨_, rfl⟩, k2⟩))
def OwnG (H : AH) (lo N : Nat) (v : AV) (l : List It) : Prop := OwnI H lo N v l ∨ ∃ b cs o, v = .sl b 0 cs.length (some cs.length) ∧ lo ≤ b ∧ b < H.next ∧ H.get b = some o ∧ RdE encI 4 0 cs o ∧ AsIts H N cs l
theorem OwnG.app {H : AH} {lo N : Nat} {v x : AV} {l : List It} {a : Iv} {y : It} (h : OwnG H lo N v l) (hlo : lo ≤ H.next) (hN : N ≤ lo) (hx : One encI 4 H x a) (e1 : a.k = y.k) (e2 : a.n = y.n) (e3 : a.t = y.t) (e4 : SaysI H N a.v y.s) (hmax : l.length < 8589934592) :
    ∃ v' H2, appendA ⟨grownCs 4 ⟨mkCs 27 4 zIv⟩⟩ 4 H v x = some (v', H2) ∧ OwnI H2 lo N v' (l ++ [y]) ∧ Keep (fun b => blk v = some b) H H2 := by
  rcases h with h | ⟨b, cs, o, rfl, h1, h2, h3, h4, h5⟩
  · obtain ⟨v', H2, a1, a2, a3, a4, a5⟩ := h.app hlo hN hx e1 e2 e3 e4 hmax
    exact ⟨v', H2, a1, a2, a5⟩
  · have hl := h5.1
    obtain ⟨o', g1, g2⟩ := appE_full (e := 27) (z := zIv) (b := b) (off := 0) encI_len (cells_iv a) hx rfl (fun _ => ⟨o, h3, h4⟩) (by omega)
    have kn : Keep noB H (H.new o') := Keep.new _ _ _
    refine ⟨_, _, g1, ⟨cs ++ [a], .inr ⟨H.next, o', by simp, by simp, hlo, by simp, get_new_same _ _, g2⟩, ?_⟩, Keep.new _ _ _⟩
    exact (h5.snoc e1 e2 e3 e4).keep kn (by omega) (fun _ _ => id) (Nat.le_refl _)
theorem OwnG.says {H : AH} {lo N : Nat} {v : AV} {l : List It} (h : OwnG H lo N v l) (hN : N ≤ H.next) : SaysI H H.next v (Its.ofL l) := by
  rcases h with h | ⟨b, cs, o, rfl, h1, h2, h3, h4, h5⟩
  · exact h.says hN
  · exact saysI_of (M := H.next) (.inr ⟨b, 0, _, rfl, fun _ => ⟨h2, o, h3, h4⟩⟩) (h5.keep (Keep.refl noB H) hN (fun _ _ => id) hN) (Nat.le_refl _)
theorem OwnG.low {H : AH} {lo N b : Nat} {v : AV} {l : List It} (h : OwnG H lo N v l) (hb : blk v = some b) : lo ≤ b ∧ b < H.next := by
  rcases h with h | ⟨b', cs, o, rfl, h1, h2, _⟩
  · exact h.low hb
  · cases hb; exact ⟨h1, h2⟩
theorem OwnG.keep {H H2 : AH} {lo N : Nat} {v : AV} {l : List It} (h : OwnG H lo N v l) (hk : Keep noB H H2) (hN : N ≤ H.next) (hlo : N ≤ lo) : OwnG H2 lo N v l := by
  rcases h with h | ⟨b, cs, o, rfl, h1, h2, h3, h4, h5⟩
  · exact .inl (h.keep hk hN hlo (fun b h => h.elim) fun _ _ => id)
  · exact .inr ⟨b, cs, o, rfl, h1, Nat.lt_of_lt_of_le h2 hk.1, hk.get h2 id h3, h4, h5.keep hk hN (fun _ _ => id) (Nat.le_refl _)⟩
theorem row_size : ∀ (l : List It), (∀ y ∈ l, 1 + y.t.length + y.s.size < 2097152) → (Its.ofL l).size ≤ l.length * 2097152
  | [], _ => by simp [Its.ofL, Its.size]
  | y :: r, h => by
    have h1 := h y (by simp)
    have h2 := row_size r fun g hg => h g (List.mem_cons_of_mem _ hg)
    simp only [Its.ofL, Its.size, List.length_cons, Nat.succ_mul]
    omega
set_option maxHeartbeats 2000000 in
theorem Great_ok {H : AH} {N : Nat} {r : Rv} {x : Rec9} (hx : RecAt H N r x) (hN : N ≤ H.next) (hok : RecOk9 x) :
    DC Tryz.prog .normal 6 (.cons (rvA r) .nil) H fun v' H2 => (∃ b, v' = .bool b) ∧ Keep noB H H2 := by
  refine DC.of_wd (re := reTmp 2 reNil) tyOk Tryz.func6 (by kernel_rfl) rfl (by kernel_rfl) (by kernel_rfl) ?_
  rw [tl_nil, argsT_cons, argsT_nil]
  refine WD.seqR ?_
  refine WDO.box1 (enc := encR) (a := r) tyOk encR_len (by kernel_rfl : freshK E _ = some ⟨frBox ⟨mkCs 30 5 (.cons (.int .i64 0) (.cons (.int .i64 0) (.cons (.str 0 0) (.cons .snil (.cons .snil .nil)))))⟩ (.tmp 0)⟩) rfl (by kernel_rfl) (by simp [rvA]; try rfl) fun o1 b1 => ?_
  have k1 : Keep noB H (H.new o1) := Keep.new _ _ _
  obtain ⟨g2, g3⟩ := box_rd encR_len b1
  have g1 : (H.new o1).get H.next = some o1 := get_new_same _ _
  have gv : rdCell o1 4 = some r.w := g2 4 _ rfl
  have gk : rdCells o1 4 0 = some (avl (encI ⟨r.k, r.n, r.t, r.v, r.c⟩)) := rdCells_of (encI ⟨r.k, r.n, r.t, r.v, r.c⟩) _ fun j w hj => by
    rw [Nat.zero_add]
    refine g2 j w ?_
    match j, hj with
    | 0, hj => exact hj
    | 1, hj => exact hj
    | 2, hj => exact hj
    | 3, hj => exact hj
    | j + 4, hj => simp [encI] at hj
  have hn1 : H.next < (H.new o1).next := by simp
  clear b1 g2 g3
  generalize hH1 : H.new o1 = H1 at *
  generalize hn1' : H.next = n1 at *
  clear hH1
  refine leD 1 [xZ false 2] ?_
  refine WDO.nilS (WD.seqR ?_)
  refine lkD 2 [xF 1 0 5, xD 4 5 6] (by simp (disch := omega) [g1, gk]; exact rfl) ?_
  refine WDO.slice1 (enc := encI) (a := ⟨r.k, r.n, r.t, r.v, r.c⟩) tyOk encI_len (by kernel_rfl : freshK E _ = some ⟨frSlice 1 (zerosA (.cons (.int .i64 0) (.cons (.int .i64 0) (.cons (.str 0 0) (.cons .snil .nil)))) 1) ⟨fill1 (.tmp 6) 0 4 flEnd⟩ ⟨mkCs 27 4 (.cons (.int .i64 0) (.cons (.int .i64 0) (.cons (.str 0 0) (.cons .snil .nil))))⟩⟩) rfl (by kernel_rfl) (by simp; rfl) (by rfl) (by rfl) (by rfl) fun o2 b2 => ?_
  have kb : Keep noB H1 (H1.new o2) := Keep.new _ _ _
  have k2 : Keep noB H (H1.new o2) := k1.trans kb
  have f1 : (H1.new o2).get H1.next = some o2 := get_new_same _ _
  have g1 := kb.get hn1 id g1
  have n2 := kb.1
  have n2' : (H1.new o2).next = H1.next + 1 := by simp
  have hx2 := hx.keep0 k2 (by omega)
  have ho0 : OwnG (H1.new o2) (n1 + 1) N (.sl H1.next 0 1 (some 1)) [x.key] := .inr ⟨H1.next, [⟨r.k, r.n, r.t, r.v, r.c⟩], o2, rfl, by omega, by omega, f1, b2.rd, (AsIts.nil _ _).snoc (c := ⟨r.k, r.n, r.t, r.v, r.c⟩) (x := x.key) hx.k hx.n hx.t hx2.s⟩
  generalize H1.new o2 = H2 at *
  clear f1 b2
  generalize AV.sl H1.next 0 1 (some 1) = v0 at ho0
  refine leD 1 [xM 7 3] ?_
  have hfs2 := hx2.f
  have hlf := hfs2.len
  have hon := hok.n
  have hkey : 1 + x.key.t.length + x.key.s.size < 2097152 := by have := hok.key; simp only [Its.ofL, Its.size] at this; omega
  refine WDO.nilS (WD.seq (WD.seqR ?_))
  refine leD 1 [xK 0 4] ?_
  refine WDO.nilS ?_
  refine WD.forE (σ := Nat × AV) (fun s => [(1, .ptr n1 0), (3, s.2), (4, .int .i64 (s.1 : Int))]) (fun s H' => s.1 ≤ x.fs.length ∧ OwnG H' (n1 + 1) N s.2 (x.key :: (x.fs.take s.1).map fun f => f.it) ∧ Keep noB H H' ∧ Keep (fun b => n1 < b) H2 H') (fun s => x.fs.length - s.1) (0, v0) ⟨Nat.zero_le _, ho0, k2, Keep.refl _ _⟩ (by simp) ?_
  rintro ⟨i, c⟩ H' ⟨hi, ho, hk, hk2⟩
  simp only at hi ho
  have g1' := hk2.get (by omega) (by omega) g1
  have hfs' := hx.f.keep0 hk (by omega)
  have hlf' := hfs'.len
  have n4 := hk2.1
  have hrow : ∀ y ∈ (x.key :: (x.fs.take i).map fun f => f.it), 1 + y.t.length + y.s.size < 2097152 := by
    intro y hy
    rcases List.mem_cons.1 hy with rfl | hy
    · exact hkey
    · obtain ⟨f, hf, rfl⟩ := List.mem_map.1 hy
      exact (hok.fs f (List.mem_of_mem_take hf)).2.1
  have hrs := row_size _ hrow
  have hrl : (x.key :: (x.fs.take i).map fun f => f.it).length ≤ 8589934592 := by simp; omega
  have hmul : (x.key :: (x.fs.take i).map fun f => f.it).length * 2097152 ≤ 8589934592 * 2097152 := Nat.mul_le_mul_right _ hrl
  have stop : decide (i < x.fs.length) = false ∨ decide ((i : Int) < 1000) = false ∨ (decide (i < x.fs.length) = true ∧ decide ((i : Int) < 1000) = true) := by
    by_cases h1 : i < x.fs.length
    · by_cases h2 : (i : Int) < 1000
      · exact .inr (.inr ⟨decide_eq_true h1, decide_eq_true h2⟩)
      · exact .inr (.inl (decide_eq_false h2))
    · exact .inl (decide_eq_false h1)
  refine WDO.mono (Q := fun o => ∃ t l', o = .nor (tl l') [] H' ∧ lsub [(1, .ptr n1 0), (3, c), (4, .int .i64 (i : Int))] l' ∧ tget 16 l' = some (.bool t) ∧ (t = true → i < x.fs.length)) ?_ ?_
  · rcases stop with h | h | ⟨h1, h2⟩
    · refine lkD 9 qM22_2 (by simp (disch := omega) [g1', gv, hlf', h]; exact rfl) ?_
      exact WDO.nil ⟨false, _, rfl, by simp, by simp [], by simp⟩
    · by_cases h1 : i < x.fs.length
      · refine lkD 9 qM22_2 (by simp (disch := omega) [g1', gv, hlf', h, h1]; exact rfl) ?_
        have := of_decide_eq_false h
        exact WDO.nil ⟨false, _, rfl, by simp, by simp, by simp⟩
      · refine lkD 9 qM22_2 (by simp (disch := omega) [g1', gv, hlf', h1]; exact rfl) ?_
        exact WDO.nil ⟨false, _, rfl, by simp, by simp [], by simp⟩
    · have h1 := of_decide_eq_true h1
      have h2' := of_decide_eq_true h2
      refine lkD 9 qM22_2 (by simp (disch := omega) [g1', gv, hlf', h1, h2]; exact rfl) ?_
      exact WDO.nil ⟨true, _, rfl, by simp, by simp [], fun _ => h1⟩
  · rintro o' ⟨t, l', rfl, hs, ht, hti⟩
    refine ⟨t, l', rfl, ht, fun hc => ?_, fun hc => ?_⟩
    · refine WD.keep ?_ hs
      refine WD.seqR ?_
      by_cases hg : 1000 ≤ x.fs.length
      · have hgd : decide ((1000 : Int) ≤ (x.fs.length : Int)) = true := decide_eq_true (by omega)
        have hgd2 : decide (((x.fs.length : Nat) : Int) < 1000) = false := decide_eq_false (by omega)
        refine lkD 6 [xF 1 4 28, xL 28 29, xN 29 30, xC akGeq 30 1000 31, xM 31 32, yM 3 33 32 false] (by simp (disch := omega) [g1', gv, hlf', hgd2]; exact rfl) ?_
        refine WDO.skipG (g := some (32, false)) (by kernel_rfl) (by simp [wantA, wantG, get_tl]) (by kernel_rfl) ?_
        refine leD 2 [xP 32 34 35 true, xM 35 2] ?_
        exact WDO.nilS (WD.ret (endR _ (by simp; rfl) ⟨⟨true, rfl⟩, hk⟩))
      · have hgd : decide ((1000 : Int) ≤ (x.fs.length : Int)) = false := decide_eq_false (by omega)
        have hgd2 : decide (((x.fs.length : Nat) : Int) < 1000) = true := decide_eq_true (by omega)
        refine lkD 6 [xF 1 4 28, xL 28 29, xN 29 30, xC akGeq 30 1000 31, xM 31 32, yM 3 33 32 false] (by simp (disch := omega) [g1', gv, hlf', hgd2]; exact rfl) ?_
        refine WDO.callG (g := 32) rfl rfl (gd := some (32, false)) (by kernel_rfl) (by simp [wantA, wantG, get_tl]) (by kernel_rfl) (l := .cons c .nil) (by simp) (Great02_ok (ho.says (by omega)) (Nat.le_refl _) (by omega)) fun u H5 ⟨⟨bb, hu⟩, k5⟩ => ?_
        subst hu
        refine leD 2 [xP 32 34 35 true, xM 35 2] ?_
        exact WDO.nilS (WD.ret (endR _ (by simp; rfl) ⟨⟨bb, rfl⟩, hk.trans k5⟩))
    · have hil := hti hc
      refine WD.keep ?_ hs
      obtain ⟨f, hf⟩ := getS hil
      obtain ⟨b', off', cap', o', u', e1', _, e3', e4', e5', e6', e7', e8', e9', e10', e11', e12'⟩ := hfs'.at hf
      refine WD.region ?_
      refine lkD 7 [xM 3 19, xF 1 4 20, xL 20 21, xM 4 22, xI 5 21 22 23, xF 23 1 24, xD 4 24 25] (by simp (disch := omega) [g1', gv, e1', e4', e11']; exact rfl) ?_
      refine WDO.slice1 (enc := encI) (a := ⟨f.it.k, f.it.n, f.it.t, u', e10'.cell⟩) tyOk encI_len (by kernel_rfl : freshK E _ = some ⟨frSlice 1 (zerosA (.cons (.int .i64 0) (.cons (.int .i64 0) (.cons (.str 0 0) (.cons .snil .nil)))) 1) ⟨fill1 (.tmp 25) 0 4 flEnd⟩ ⟨mkCs 27 4 (.cons (.int .i64 0) (.cons (.int .i64 0) (.cons (.str 0 0) (.cons .snil .nil))))⟩⟩) rfl (by kernel_rfl) (by simp; rfl) (by rfl) (by rfl) (by rfl) fun o4 b4 => ?_
      have k6 : Keep noB H' (H'.new o4) := Keep.new _ _ _
      have g6 : (H'.new o4).get H'.next = some o4 := get_new_same _ _
      have n6 : H'.next + 1 = (H'.new o4).next := by simp
      obtain ⟨c', Ha, a1, a2, a5⟩ := (ho.keep k6 (by omega) (by omega)).app (x := .sl H'.next 0 1 (some 1)) (a := ⟨f.it.k, f.it.n, f.it.t, u', e10'.cell⟩) (y := f.it) (by omega) (by omega) (One.of g6 b4) rfl rfl rfl (e10'.keep0 k6 (by omega)) (by simp; omega)
      refine WDO.heavy1 tyOk extOk (k := ⟨hvAppend ⟨grownCs 4 ⟨mkCs 27 4 (.cons (.int .i64 0) (.cons (.int .i64 0) (.cons (.str 0 0) (.cons .snil .nil))))⟩⟩ 4 (.tmp 19) (.tmp 26)⟩) (by kernel_rfl) rfl (by kernel_rfl) (by simp; exact a1) ?_
      refine leD 1 [xM 27 3] ?_
      have kl : ∀ b, blk c = some b → n1 + 1 ≤ b := fun b e => (ho.low e).1
      refine WDO.nil ?_
      refine leD 3 [xM 4 17, xC akAdd 17 1 18, xM 18 4] ?_
      have ht := take_snoc hf
      exact WDO.nil ⟨rfl, (i + 1, c'), _, rfl, by simp, ⟨by simp only; omega, .inl (by simp only [ht, List.map_append]; exact a2), (hk.trans k6).trans' a5 fun b hb e => by have := kl b e; omega, (hk2.trans' k6 fun b hb e => e.elim).trans' a5 fun b hb e => by have := kl b e; omega⟩, by simp only; omega⟩
end
end Go.Proofs.YtfgipbjaapkdlaaGreatDoor
