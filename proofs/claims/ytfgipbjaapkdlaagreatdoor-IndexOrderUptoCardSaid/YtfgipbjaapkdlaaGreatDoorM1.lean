/- A part of the proof of this seat's statement. Conditions: in each theorem. -/
import Derived.Test.YtfgipbjaapkdlaaGreatDoorS4
import Derived.Test.YtfgipbjaapkdlaaGreatDoorN3
namespace Go.Proofs.YtfgipbjaapkdlaaGreatDoor
open Go.Xq
noncomputable section
theorem st_kept {m : Ren} {H : AH} {w w' : World} (hr : Rel m H w) (h : KeptAll w w') : St m H w m H w' := by
  refine ⟨⟨fun b o hb i hi => ?_, hr.inj, fun b i hi => ⟨(hr.bnd b i hi).1, Nat.lt_of_lt_of_le (hr.bnd b i hi).2 h.size⟩, hr.glob⟩, Ext.refl _ _, Nat.le_refl _, h.os, h.output, h.size, fun k hk _ => h.block k hk, fun b i hi hl => .inr ⟨b, i, hi, hl, rfl⟩⟩
  obtain ⟨x, h1, h2⟩ := hr.live b o hb i hi
  exact ⟨x, by rw [h.block _ (hr.bnd b i hi).2]; exact h1, h2⟩
theorem awake_ok (H : AH) : DC Tryz.prog .normal 5 .nil H fun v H2 => v = .bool true ∧ H2 = H := by
  refine ⟨.bool true, H, ⟨rfl, rfl⟩, ⟨_, Tryz.func5, by kernel_rfl, by kernel_rfl⟩, fun m w vs hr hl => ?_⟩
  cases hl
  have hG : GlobsAt (m0of []) gl w := fun p hp => by simp [gl] at hp
  have hsz : ngl ≤ w.heap.size := by
    have h4 : 2 < ngl := by decide
    obtain ⟨i, hi, ib, _⟩ := hr.glob 2 h4
    have := (hr.bnd _ _ hi).2
    rw [ib] at this
    exact this
  have hrel : Rel (m0of []) (H0of nx gl) w := by
    refine rel_glob rfl hsz ?_ hG
    intro a ha
    simp at ha
  refine XC.of_calls ((walk hrel hG).mono fun e w' ⟨he, hk⟩ => ⟨.bool true, he, .bool true, H, ⟨rfl, rfl⟩, m, st_kept hr hk, .bool true⟩)
abbrev qN10_1 : List Lk := [xM 11 43, xC akNeq 43 0 44, xM 44 45, yM 13 46 45 false, yC akNeq 46 0 47 45 false, xP 45 47 48 true]
abbrev qN10_2 : List Lk := [xM 11 49, xC akEql 49 0 50, xM 50 51, yM 10 52 51 false, yN 52 53 51 false, yC akEql 53 0 54 51 false, xP 51 54 55 true, xM 55 56, yM 13 57 56 true, yC akEql 57 0 58 56 true, yM 58 59 56 true, yM 12 60 59 false, yN 60 61 59 false, yC akEql 61 0 62 59 false, yP 59 62 63 true 56 true, xA 56 63 64 false, xM 64 6]
abbrev qN10_3 : List Lk := [xM 18 84, xC akEql 84 0 85, xM 85 86, yM 19 87 86 true, xA 86 87 88 false, xM 88 89, yM 10 90 89 true, ⟨⟨cvStr (.tmp 90)⟩, (some 91), (some (89, true))⟩, yM 12 92 89 true, ⟨⟨cvStr (.tmp 92)⟩, (some 93), (some (89, true))⟩, ⟨⟨binStr skLss (.tmp 91) (.tmp 93)⟩, (some 94), (some (89, true))⟩, yM 16 95 89 true, yC akLss 95 0 96 89 true, ⟨⟨binEq ⟨eqBool⟩ false (.tmp 94) (.tmp 96)⟩, (some 97), (some (89, true))⟩, xA 89 97 98 false, xM 98 99, yM 10 100 99 true, ⟨⟨cvStr (.tmp 100)⟩, (some 101), (some (99, true))⟩, yM 12 102 99 true, ⟨⟨cvStr (.tmp 102)⟩, (some 103), (some (99, true))⟩, ⟨⟨binStr skEql (.tmp 101) (.tmp 103)⟩, (some 104), (some (99, true))⟩, yM 16 105 99 true, yC akEql 105 0 106 99 true, ⟨⟨binEq ⟨eqBool⟩ false (.tmp 104) (.tmp 106)⟩, (some 107), (some (99, true))⟩, xA 99 107 108 false, xM 108 6]
theorem entry_none {ix : Ixd} {x : Rec9} (h : (entryL ix x).2 ≠ 0) : (entryL ix x).1 = [] := by
  revert h
  unfold entryL
  split
  · intro _; rfl
  · split
    · intro _; rfl
    · unfold encode
      split
      · split
        · intro _; rfl
        · intro h; exact absurd rfl h
      · intro _; rfl
theorem entry_some {ix : Ixd} {x : Rec9} (h : (entryL ix x).2 = 0) : ixB ix = true ∧ (Its.ofL (entryI ix x)).check 0 = 0 ∧ (entryL ix x).1 = (Its.ofL (entryI ix x)).enc ∧ (Its.ofL (entryI ix x)).enc.length ≤ 65536 := by
  revert h
  unfold entryL
  split
  · intro h; cases h
  · rename_i h1
    split
    · rename_i h2; intro h; exact absurd h h2
    · unfold encode
      split
      · rename_i h3
        split
        · intro h; cases h
        · rename_i h4; intro _; exact ⟨by simpa using h1, h3, rfl, by omega⟩
      · rename_i h3; intro h; exact absurd h h3
theorem entry_ne (ix : Ixd) (x : Rec9) (h : (Its.ofL (entryI ix x)).check 0 = 0) : (Its.ofL (entryI ix x)).enc ≠ [] := by
  have hl : ∃ k n t s r, Its.ofL (entryI ix x) = .cons k n t s r := by
    unfold entryI
    cases hm : (ix.ks.map fun k => pick k x.fs) with
    | nil => exact ⟨_, _, _, _, _, rfl⟩
    | cons a l => exact ⟨_, _, _, _, _, rfl⟩
  obtain ⟨k, n, t, s, r, e⟩ := hl
  rw [e] at h ⊢
  obtain ⟨a, q, e2, _⟩ := enc_head (r := r) (chk_split (check_chk h)).1
  rw [e2]; simp
set_option maxRecDepth 20000 in
set_option maxHeartbeats 8000000 in
theorem order_ok {H : AH} {rx : Xv} {ix : Ixd} {r1 r2 : Rv} {x1 x2 : Rec9} (hG : GlobU H) (hi : IxAt H H.next rx ix) (h1 : RecAt H H.next r1 x1) (h2 : RecAt H H.next r2 x2) (hik : IxOk ix) (ok1 : RecOk9 x1) (ok2 : RecOk9 x2)
    (hkl : ix.ks.length < 1073741824) (hf1 : x1.fs.length < 1073741824) (hf2 : x2.fs.length < 1073741824) :
    AC Tryz.prog .normal 4 (.cons (xvA rx) (.cons (rvA r1) (.cons (rvA r2) .nil))) H fun v' H2 => v' = .bool true ∧ Keep noB H H2 := by
  refine AC.of_wp (re := reTmp 6 reNil) tyOk Tryz.func4 (by kernel_rfl) rfl (by kernel_rfl) (by kernel_rfl) ?_
  rw [tl_nil, argsT_cons, argsT_cons, argsT_cons, argsT_nil]
  refine WP.seqR ?_
  refine WPO.box1 (enc := encX) (a := rx) tyOk encX_len (by kernel_rfl : freshK E _ = some ⟨frBox ⟨mkCs 24 3 (.cons (.str 0 0) (.cons .snil (.cons (.bool false) .nil)))⟩ (.tmp 0)⟩) rfl (by kernel_rfl) (by simp [xvA]; try rfl) fun o3 b3 => ?_
  have B3 : Bx encX 24 3 zXv (H.new o3) H.next rx := ⟨⟨o3, get_new_same _ _, b3⟩⟩
  have k3 : Keep noB H (H.new o3) := Keep.new _ _ _
  have n3 : H.next < (H.new o3).next := by simp
  clear b3
  generalize H.new o3 = H3 at *
  refine WPO.box1 (enc := encR) (a := r1) tyOk encR_len (by kernel_rfl : freshK E _ = some ⟨frBox ⟨mkCs 30 5 (.cons (.int .i64 0) (.cons (.int .i64 0) (.cons (.str 0 0) (.cons .snil (.cons .snil .nil)))))⟩ (.tmp 1)⟩) rfl (by kernel_rfl) (by simp [rvA]; try rfl) fun o4 b4 => ?_
  have B4 : Bx encR 30 5 zRv (H3.new o4) H3.next r1 := ⟨⟨o4, get_new_same _ _, b4⟩⟩
  have k4' : Keep noB H3 (H3.new o4) := Keep.new _ _ _
  have k4 := k3.trans k4'
  have n4 : H3.next < (H3.new o4).next := by simp
  have B3 := B3.keep k4' n3 id
  clear b4
  generalize H3.new o4 = H4 at *
  refine WPO.box1 (enc := encR) (a := r2) tyOk encR_len (by kernel_rfl : freshK E _ = some ⟨frBox ⟨mkCs 30 5 (.cons (.int .i64 0) (.cons (.int .i64 0) (.cons (.str 0 0) (.cons .snil (.cons .snil .nil)))))⟩ (.tmp 2)⟩) rfl (by kernel_rfl) (by simp [rvA]; try rfl) fun o5 b5 => ?_
  have B5 : Bx encR 30 5 zRv (H4.new o5) H4.next r2 := ⟨⟨o5, get_new_same _ _, b5⟩⟩
  have k5' : Keep noB H4 (H4.new o5) := Keep.new _ _ _
  have kk := k4.trans k5'
  have n5 : H4.next < (H4.new o5).next := by simp
  have B3 := B3.keep k5' (by omega) id
  have B4 := B4.keep k5' (by omega) id
  clear b5
  generalize H4.new o5 = Ha at *
  generalize hp3 : H.next = p3 at *
  generalize hp4 : H3.next = p4 at *
  generalize hp5 : H4.next = p5 at *
  refine WPO.looks1 tyOk extOk 1 (ls := [xZ false 6]) (by kernel_rfl) (by simp (disch := omega) []; exact rfl) ?_
  refine WPO.nilS (WP.seqR ?_)
  refine WPO.callF (g := 5) rfl rfl rfl (by kernel_rfl) (l := .nil) (by simp) (awake_ok Ha).ac fun u Ha' ⟨hu, hHa⟩ => ?_
  subst hu
  subst hHa
  refine WPO.looks1 tyOk extOk 1 (ls := [xM 20 7]) (by kernel_rfl) (by simp (disch := omega) []; exact rfl) ?_
  refine WPO.nilS (WP.seq (WP.seqR ?_))
  refine WPO.looks1 tyOk extOk 2 (ls := [xM 7 21, xU 21 22]) (by kernel_rfl) (by simp (disch := omega) []; exact rfl) ?_
  refine WPO.nilS (WP.cond (t := false) (by simp) (by simp) fun _ => WP.skip (.inl rfl) (WP.seqR ?_))
  -- great or not
  obtain ⟨q4, g4, _, c4⟩ := B4.get encR_len
  refine WPO.looks1 tyOk extOk 1 (ls := [xD 5 4 23]) (by kernel_rfl) (by simp (disch := omega) [g4, c4]; exact rfl) ?_
  refine WPO.callF (g := 6) rfl rfl rfl (by kernel_rfl) (l := .cons (rvA r1) .nil) (by simp [rvA]) (Great_ok (h1.keep0 kk (by omega)) (by omega) ok1).ac fun u Hb ⟨⟨gr1, hu⟩, kb⟩ => ?_
  subst hu
  have kk := kk.trans kb
  have B3 := B3.keep kb (by omega) id
  have B4 := B4.keep kb (by omega) id
  have B5 := B5.keep kb (by omega) id
  have nb := kb.1
  refine WPO.looks1 tyOk extOk 1 (ls := [xM 24 8]) (by kernel_rfl) (by simp (disch := omega) []; exact rfl) ?_
  refine WPO.nilS (WP.seqR ?_)
  obtain ⟨q5, g5, _, c5⟩ := B5.get encR_len
  refine WPO.looks1 tyOk extOk 1 (ls := [xD 5 5 25]) (by kernel_rfl) (by simp (disch := omega) [g5, c5]; exact rfl) ?_
  refine WPO.callF (g := 6) rfl rfl rfl (by kernel_rfl) (l := .cons (rvA r2) .nil) (by simp [rvA]) (Great_ok (h2.keep0 kk (by omega)) (by omega) ok2).ac fun u Hc ⟨⟨gr2, hu⟩, kc⟩ => ?_
  subst hu
  have kk := kk.trans kc
  have B3 := B3.keep kc (by omega) id
  have B4 := B4.keep kc (by omega) id
  have B5 := B5.keep kc (by omega) id
  have nc := kc.1
  refine WPO.looks1 tyOk extOk 1 (ls := [xM 26 9]) (by kernel_rfl) (by simp (disch := omega) []; exact rfl) ?_
  refine WPO.nilS (WP.seq (WP.seqR ?_))
  cases gr1 with
  | true =>
    refine WPO.looks1 tyOk extOk 4 (ls := [xM 8 27, xM 27 28, yM 9 29 28 false, xP 28 29 30 true]) (by kernel_rfl) (by simp (disch := omega) []; exact rfl) ?_
    refine WPO.nilS (WP.cond (t := true) (by simp) (fun _ => WP.seqR ?_) (by simp))
    refine WPO.looks1 tyOk extOk 1 (ls := [xZ true 6]) (by kernel_rfl) (by simp (disch := omega) []; exact rfl) ?_
    exact WPO.nilS (WP.ret (endR _ (by simp; rfl) ⟨rfl, kk⟩))
  | false =>
  cases gr2 with
  | true =>
    refine WPO.looks1 tyOk extOk 4 (ls := [xM 8 27, xM 27 28, yM 9 29 28 false, xP 28 29 30 true]) (by kernel_rfl) (by simp (disch := omega) []; exact rfl) ?_
    refine WPO.nilS (WP.cond (t := true) (by simp) (fun _ => WP.seqR ?_) (by simp))
    refine WPO.looks1 tyOk extOk 1 (ls := [xZ true 6]) (by kernel_rfl) (by simp (disch := omega) []; exact rfl) ?_
    exact WPO.nilS (WP.ret (endR _ (by simp; rfl) ⟨rfl, kk⟩))
  | false =>
  refine WPO.looks1 tyOk extOk 4 (ls := [xM 8 27, xM 27 28, yM 9 29 28 false, xP 28 29 30 true]) (by kernel_rfl) (by simp (disch := omega) []; exact rfl) ?_
  refine WPO.nilS (WP.cond (t := false) (by simp) (by simp) fun _ => WP.skip (.inl rfl) (WP.seqR ?_))
  clear g4 c4 g5 c5
  -- the entries
  obtain ⟨q3, g3, v3, c3⟩ := B3.get encX_len
  obtain ⟨q4, g4, _, c4⟩ := B4.get encR_len
  obtain ⟨q5, g5, _, c5⟩ := B5.get encR_len
  have v3 : rdCell q3 1 = some rx.v := v3 1 _ rfl
  refine WPO.looks1 tyOk extOk 2 (ls := [xD 3 3 32, xD 5 4 33]) (by kernel_rfl) (by simp (disch := omega) [g3, c3, g4, c4]; exact rfl) ?_
  refine WPO.callF (g := 10) rfl rfl rfl (by kernel_rfl) (l := .cons (xvA rx) (.cons (rvA r1) .nil)) (by simp [rvA, xvA]) (Entry10_ok (hi.keep0 kk (by omega)) (h1.keep0 kk (by omega)) (by omega) (hG.keep kk fun _ _ => id) hik ok1).ac fun u Hd ⟨a1, hu, ho1, kd⟩ => ?_
  subst hu
  have kk := kk.trans kd
  have g3 := kd.get (by omega) id g3
  have g4 := kd.get (by omega) id g4
  have g5 := kd.get (by omega) id g5
  have nd := kd.1
  refine WPO.looks1 tyOk extOk 5 (ls := [xM 34 31, xE 31 0 35, xE 31 1 36, xM 35 10, xM 36 11]) (by kernel_rfl) (by simp (disch := omega) []; exact rfl) ?_
  refine WPO.nilS (WP.seqR ?_)
  refine WPO.looks1 tyOk extOk 2 (ls := [xD 3 3 38, xD 5 5 39]) (by kernel_rfl) (by simp (disch := omega) [g3, c3, g5, c5]; exact rfl) ?_
  refine WPO.callF (g := 10) rfl rfl rfl (by kernel_rfl) (l := .cons (xvA rx) (.cons (rvA r2) .nil)) (by simp [rvA, xvA]) (Entry10_ok (hi.keep0 kk (by omega)) (h2.keep0 kk (by omega)) (by omega) (hG.keep kk fun _ _ => id) hik ok2).ac fun u He ⟨a2, hu, ho2, ke⟩ => ?_
  subst hu
  have kk := kk.trans ke
  have g3 := ke.get (by omega) id g3
  have g4 := ke.get (by omega) id g4
  have g5 := ke.get (by omega) id g5
  have ho1 := ho1.keep ke fun _ _ => id
  have ne := ke.1
  refine WPO.looks1 tyOk extOk 5 (ls := [xM 40 37, xE 37 0 41, xE 37 1 42, xM 41 12, xM 42 13]) (by kernel_rfl) (by simp (disch := omega) []; exact rfl) ?_
  have hn1 := entry_none (ix := ix) (x := x1)
  have hn2 := entry_none (ix := ix) (x := x2)
  have hs1 := entry_some (ix := ix) (x := x1)
  have hs2 := entry_some (ix := ix) (x := x2)
  have hl1 := ho1.rd.len
  have hl2 := ho2.rd.len
  generalize (entryL ix x1).2 = e1 at *
  generalize (entryL ix x2).2 = e2 at *
  generalize (entryL ix x1).1 = b1 at *
  generalize (entryL ix x2).1 = b2 at *
  refine WPO.nilS (WP.seq (WP.seqR ?_))
  by_cases z1 : e1 = 0
  rotate_left
  · have hb1 := hn1 z1
    subst hb1
    refine WPO.looks1 tyOk extOk 6 (ls := qN10_1) (by kernel_rfl) (by simp (disch := omega) [z1]; exact rfl) ?_
    refine WPO.nilS (WP.cond (t := true) (by simp) (fun _ => WP.seqR ?_) (by simp))
    by_cases z2 : e2 = 0
    · refine WPO.looks1 tyOk extOk 17 (ls := qN10_2) (by kernel_rfl) (by simp (disch := omega) [z1, z2, hl1]; exact rfl) ?_
      exact WPO.nilS (WP.ret (endR _ (by simp; rfl) ⟨rfl, kk⟩))
    · have hb2 := hn2 z2
      subst hb2
      refine WPO.looks1 tyOk extOk 17 (ls := qN10_2) (by kernel_rfl) (by simp (disch := omega) [z1, z2, hl1, hl2]; exact rfl) ?_
      exact WPO.nilS (WP.ret (endR _ (by simp; rfl) ⟨rfl, kk⟩))
  by_cases z2 : e2 = 0
  rotate_left
  · have hb2 := hn2 z2
    subst hb2
    refine WPO.looks1 tyOk extOk 6 (ls := qN10_1) (by kernel_rfl) (by simp (disch := omega) [z1, z2]; exact rfl) ?_
    refine WPO.nilS (WP.cond (t := true) (by simp) (fun _ => WP.seqR ?_) (by simp))
    refine WPO.looks1 tyOk extOk 17 (ls := qN10_2) (by kernel_rfl) (by simp (disch := omega) [z2, hl2]; exact rfl) ?_
    exact WPO.nilS (WP.ret (endR _ (by simp; rfl) ⟨rfl, kk⟩))
  refine WPO.looks1 tyOk extOk 6 (ls := qN10_1) (by kernel_rfl) (by simp (disch := omega) [z1, z2]; exact rfl) ?_
  refine WPO.nilS (WP.cond (t := false) (by simp) (by simp) fun _ => WP.skip (.inl rfl) (WP.seqR ?_))
  obtain ⟨hib, hc1, hb1, hm1⟩ := hs1 z1
  obtain ⟨_, hc2, hb2, hm2⟩ := hs2 z2
  have hne1 := entry_ne ix x1 hc1
  have hz1 := entry_size ok1 (ixB_len hib)
  have hz2 := entry_size ok2 (ixB_len hib)
  have hr1 := entry_rng (ix := ix) ok1
  have hr2 := entry_rng (ix := ix) ok2
  have hi1 : (ix.ks.map fun k => pick k x1.fs) ++ [x1.key] = entryI ix x1 := rfl
  have hi2 : (ix.ks.map fun k => pick k x2.fs) ++ [x2.key] = entryI ix x2 := rfl
  clear hn1 hn2 hs1 hs2 z1 z2
  -- the items
  refine WPO.looks1 tyOk extOk 3 (ls := [xF 3 1 65, xL 65 66, xD 5 4 67]) (by kernel_rfl) (by simp (disch := omega) [g3, v3, g4, c4]; exact rfl) ?_
  refine WPO.callF (g := 15) rfl rfl rfl (by kernel_rfl) (l := .cons rx.v (.cons (rvA r1) .nil)) (by simp [rvA]) (row_ok (hi.k.keep0 kk (by omega)) (h1.keep0 kk (by omega)) (by omega) hik.n ok1.n).ac fun w1 Hf ⟨hw1, kf⟩ => ?_
  rw [hi1] at hw1
  have kk := kk.trans kf
  have g3 := kf.get (by omega) id g3
  have g5 := kf.get (by omega) id g5
  have ho1 := ho1.keep kf fun _ _ => id
  have ho2 := ho2.keep kf fun _ _ => id
  have nf := kf.1
  refine WPO.looks1 tyOk extOk 1 (ls := [xM 68 14]) (by kernel_rfl) (by simp (disch := omega) []; exact rfl) ?_
  refine WPO.nilS (WP.seqR ?_)
  refine WPO.looks1 tyOk extOk 3 (ls := [xF 3 1 69, xL 69 70, xD 5 5 71]) (by kernel_rfl) (by simp (disch := omega) [g3, v3, g5, c5]; exact rfl) ?_
  refine WPO.callF (g := 15) rfl rfl rfl (by kernel_rfl) (l := .cons rx.v (.cons (rvA r2) .nil)) (by simp [rvA]) (row_ok (hi.k.keep0 kk (by omega)) (h2.keep0 kk (by omega)) (by omega) hik.n ok2.n).ac fun w2 Hg ⟨hw2, kg⟩ => ?_
  rw [hi2] at hw2
  generalize Its.ofL (entryI ix x1) = l1 at *
  generalize Its.ofL (entryI ix x2) = l2 at *
  clear hi1 hi2
  have kk := kk.trans kg
  have ho1 := ho1.keep kg fun _ _ => id
  have ho2 := ho2.keep kg fun _ _ => id
  have ng := kg.1
  have hw1 : SaysI Hg Hg.next w1 l1 := hw1.keep kg (Nat.le_refl _) (fun _ _ => id) ng
  refine WPO.looks1 tyOk extOk 1 (ls := [xM 72 15]) (by kernel_rfl) (by simp (disch := omega) []; exact rfl) ?_
  refine WPO.nilS (WP.seqR ?_)
  refine WPO.looks1 tyOk extOk 2 (ls := [xM 14 73, xM 15 74]) (by kernel_rfl) (by simp (disch := omega) []; exact rfl) ?_
  refine WPO.callF (g := 16) rfl rfl rfl (by kernel_rfl) (l := .cons w1 (.cons w2 .nil)) (by simp) (Compare_ok l1.size (Nat.le_refl _) (by omega) (by omega) hr1 hr2 hw1 hw2 (Nat.le_refl _)).ac fun u Hh ⟨hu, kh⟩ => ?_
  subst hu
  have kk := kk.trans kh
  have ho1 := ho1.keep kh fun _ _ => id
  have ho2 := ho2.keep kh fun _ _ => id
  have hw1 := hw1.keep0 kh (Nat.le_refl _)
  have nh := kh.1
  refine WPO.looks1 tyOk extOk 1 (ls := [xM 75 16]) (by kernel_rfl) (by simp (disch := omega) []; exact rfl) ?_
  refine WPO.nilS (WP.seqR ?_)
  refine WPO.looks1 tyOk extOk 1 (ls := [xM 10 77]) (by kernel_rfl) (by simp (disch := omega) []; exact rfl) ?_
  have hsl : Sl8 Hh a1 b1 := ⟨ho1.rd, fun hb => by
    rcases ho1 with ⟨_, e⟩ | ⟨b', e, _, _, _, hg⟩
    · exact absurd e hb
    · exact .inr (.inr ⟨b', 0, _, 5, b1, e, hg⟩)⟩
  refine WPO.callF (g := 17) rfl rfl rfl (by kernel_rfl) (l := .cons a1 .nil) (by simp) (Decode_ok hsl hb1 (by rw [hb1]; exact hne1) (fun x hx => (ho1.low hx).2) ho1.cell hc1 hr1 (by rw [hb1]; exact hm1) (hG.keep kk fun _ _ => id)).ac fun u Hi ⟨u1, hu, hu1, ki⟩ => ?_
  subst hu
  have kk := kk.trans ki
  have ho1 := ho1.keep ki fun _ _ => id
  have ho2 := ho2.keep ki fun _ _ => id
  have hw1 := hw1.keep0 ki (by omega)
  refine WPO.looks1 tyOk extOk 5 (ls := [xM 78 76, xE 76 0 79, xE 76 1 80, xM 79 17, xM 80 18]) (by kernel_rfl) (by simp (disch := omega) []; exact rfl) ?_
  refine WPO.nilS (WP.seqR ?_)
  refine WPO.looks1 tyOk extOk 2 (ls := [xM 17 81, xM 14 82]) (by kernel_rfl) (by simp (disch := omega) []; exact rfl) ?_
  refine WPO.callF (g := 18) rfl rfl rfl (by kernel_rfl) (l := .cons u1 (.cons w1 .nil)) (by simp) (same02_ok l1.size (Nat.le_refl _) (by omega) hu1 hw1).ac fun u Hj ⟨hu, hj⟩ => ?_
  subst hu
  subst hj
  refine WPO.looks1 tyOk extOk 1 (ls := [xM 83 19]) (by kernel_rfl) (by simp (disch := omega) []; exact rfl) ?_
  have ht1 := ho1.rd.str
  have ht2 := ho2.rd.str
  obtain ⟨hless, heq⟩ := less_cmp (check_chk hc1) (check_chk hc2) hr1 hr2
  rw [← hb1, ← hb2] at hless heq
  generalize l1.cmp l2 = c at hless heq ⊢
  refine WPO.nilS (WP.seqR ?_)
  clear hb1 hb2 hm1 hm2 hsl
  rcases Int.lt_trichotomy c 0 with h | h | h
  · have q1 : Op.bytesLess b1 b2 = true := by rw [hless]; exact decide_eq_true h
    have q2 : ¬ b1 = b2 := fun e => by rw [decide_eq_true e] at heq; have := of_decide_eq_true heq.symm; omega
    have q3 : ¬ c = 0 := by omega
    refine WPO.looks1 tyOk extOk 26 (ls := qN10_3) (by kernel_rfl) (by simp (disch := omega) [ht1, ht2, q1, q2, q3, h]; exact rfl) ?_
    exact WPO.nilS (WP.ret (endR _ (by simp; rfl) ⟨rfl, kk⟩))
  · subst h
    have q1 : Op.bytesLess b1 b2 = false := by rw [hless]; rfl
    have q2 : b1 = b2 := of_decide_eq_true (by rw [heq]; rfl)
    subst q2
    refine WPO.looks1 tyOk extOk 26 (ls := qN10_3) (by kernel_rfl) (by simp (disch := omega) [ht1, ht2, q1]; exact rfl) ?_
    exact WPO.nilS (WP.ret (endR _ (by simp; rfl) ⟨rfl, kk⟩))
  · have q0 : ¬ c < 0 := by omega
    have q1 : Op.bytesLess b1 b2 = false := by rw [hless]; exact decide_eq_false q0
    have q2 : ¬ b1 = b2 := fun e => by rw [decide_eq_true e] at heq; have := of_decide_eq_true heq.symm; omega
    have q3 : ¬ c = 0 := by omega
    refine WPO.looks1 tyOk extOk 26 (ls := qN10_3) (by kernel_rfl) (by simp (disch := omega) [ht1, ht2, q0, q1, q2, q3]; exact rfl) ?_
    exact WPO.nilS (WP.ret (endR _ (by simp; rfl) ⟨rfl, kk⟩))
end
end Go.Proofs.YtfgipbjaapkdlaaGreatDoor
