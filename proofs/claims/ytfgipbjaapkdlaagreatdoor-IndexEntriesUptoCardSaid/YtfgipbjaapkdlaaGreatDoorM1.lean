/- A part of the proof of this seat's statement. Conditions: in each theorem. -/
import Derived.Test.YtfgipbjaapkdlaaGreatDoorN1
import Derived.Test.YtfgipbjaapkdlaaGreatDoorS4
namespace Go.Proofs.YtfgipbjaapkdlaaGreatDoor
open Go.Xq
noncomputable section
theorem st_kept {m : Ren} {H : AH} {w w' : World} (hr : Rel m H w) (h : KeptAll w w') : St m H w m H w' := by
 refine ⟨⟨fun b o hb i hi => ?_, hr.inj, fun b i hi => ⟨(hr.bnd b i hi).1, Nat.lt_of_lt_of_le (hr.bnd b i hi).2 h.size⟩, hr.glob⟩, Ext.refl _ _, Nat.le_refl _, h.os, h.output, h.size, fun k hk _ => h.block k hk, fun b i hi hl => .inr ⟨b, i, hi, hl, rfl⟩⟩
 obtain ⟨x, h1, h2⟩ := hr.live b o hb i hi
 exact ⟨x, by rw [h.block _ (hr.bnd b i hi).2]; exact h1, h2⟩
theorem awake_ok (H : AH) : DC Tryz.prog .normal 5 .nil H fun v H2 => v = .bool true ∧ H2 = H := by
 refine ⟨.bool true, H, ⟨rfl, rfl⟩, ⟨_, Tryz.func5, by kernel_rfl, by kernel_rfl⟩, fun m w vs hr hl => ?_⟩
 cases hl
 have hG : GlobsAt (m0of []) gl w := fun p hp => by simp [gl] at hp
 have hsz : ngl ≤ w.heap.size := by
  have h4 : 2 < ngl := by decide
  obtain ⟨i, hi, ib, _⟩ := hr.glob 2 h4
  have := (hr.bnd _ _ hi).2
  rw [ib] at this
  exact this
 have hrel : Rel (m0of []) (H0of nx gl) w := by
  refine rel_glob rfl hsz ?_ hG
  intro a ha
  simp at ha
 refine XC.of_calls ((walk hrel hG).mono fun e w' ⟨he, hk⟩ => ⟨.bool true, he, .bool true, H, ⟨rfl, rfl⟩, m, st_kept hr hk, .bool true⟩)
theorem ownB_own {H : AH} {lo hi lo2 : Nat} {v : AV} {l : List UInt8} (h : OwnB 5 H lo v l) (hn : H.next ≤ hi) (hl : lo2 ≤ lo) : Own H lo2 hi v l := by
 rcases h with h | ⟨b, h1, h2, h3, h4, h5⟩
 ·exact .inl h
 ·exact .inr (.inr ⟨b, h1, h2, by omega, by omega, h5⟩)
theorem sblk_blk {v : AV} {b : Nat} (h : sblk v = some b) : blk v = some b := by
 unfold sblk at h
 split at h
 ·exact h
 ·cases h
theorem enc_entry (ix : Ixd) (x : Rec9) : (entryL ix x).1.length ≤ 65536 := by
 unfold entryL
 split
 ·simp
 ·split
  ·simp
  ·unfold encode
   split
   ·split
    ·simp
    ·simp only; omega
   ·simp
set_option maxRecDepth 20000 in
set_option maxHeartbeats 8000000 in
theorem main_ok {H : AH} {rx : Xv} {ix : Ixd} {r1 r2 : Rv} {x1 x2 : Rec9} (hG : GlobU H) (hi : IxAt H H.next rx ix) (h1 : RecAt H H.next r1 x1) (h2 : RecAt H H.next r2 x2) (hik : IxOk ix) (ok1 : RecOk9 x1) (ok2 : RecOk9 x2)
  (hkl : ix.ks.length < 1073741824) (hf1 : x1.fs.length < 1073741824) (hf2 : x2.fs.length < 1073741824) :
  AC Tryz.prog .normal 3 (.cons (xvA rx) (.cons (rvA r1) (.cons (rvA r2) .nil))) H fun v' H2 => v' = .bool true ∧ Keep noB H H2 := by
 refine AC.of_wp (re := reTmp 6 reNil) tyOk Tryz.func3 (by kernel_rfl) rfl (by kernel_rfl) (by kernel_rfl) ?_
 rw [tl_nil, argsT_cons, argsT_cons, argsT_cons, argsT_nil]
 refine WP.seqR ?_
 refine WPO.box1 (enc := encX) (a := rx) tyOk encX_len (by kernel_rfl : freshK E _ = some ⟨frBox ⟨mkCs 24 3 zXv⟩ (.tmp 0)⟩) rfl (by kernel_rfl) (by simp [xvA]; try rfl) fun o3 b3 => ?_
 have B3 : Bx encX 24 3 zXv (H.new o3) H.next rx := ⟨⟨o3, get_new_same _ _, b3⟩⟩
 have k3 : Keep noB H (H.new o3) := Keep.new _ _ _
 have n3 : H.next < (H.new o3).next := by simp
 clear b3
 generalize H.new o3 = H3 at *
 refine WPO.box1 (enc := encR) (a := r1) tyOk encR_len (by kernel_rfl : freshK E _ = some ⟨frBox ⟨mkCs 30 5 zRv⟩ (.tmp 1)⟩) rfl (by kernel_rfl) (by simp [rvA]; try rfl) fun o4 b4 => ?_
 have B4 : Bx encR 30 5 zRv (H3.new o4) H3.next r1 := ⟨⟨o4, get_new_same _ _, b4⟩⟩
 have k4' : Keep noB H3 (H3.new o4) := Keep.new _ _ _
 have k4 := k3.trans k4'
 have n4 : H3.next < (H3.new o4).next := by simp
 have B3 := B3.keep k4' n3 id
 clear b4
 generalize H3.new o4 = H4 at *
 refine WPO.box1 (enc := encR) (a := r2) tyOk encR_len (by kernel_rfl : freshK E _ = some ⟨frBox ⟨mkCs 30 5 zRv⟩ (.tmp 2)⟩) rfl (by kernel_rfl) (by simp [rvA]; try rfl) fun o5 b5 => ?_
 have B5 : Bx encR 30 5 zRv (H4.new o5) H4.next r2 := ⟨⟨o5, get_new_same _ _, b5⟩⟩
 have k5' : Keep noB H4 (H4.new o5) := Keep.new _ _ _
 have kk := k4.trans k5'
 have n5 : H4.next < (H4.new o5).next := by simp
 have B3 := B3.keep k5' (by omega) id
 have B4 := B4.keep k5' (by omega) id
 clear b5
 generalize H4.new o5 = Ha at *
 generalize hp3 : H.next = p3 at *
 generalize hp4 : H3.next = p4 at *
 generalize hp5 : H4.next = p5 at *
 refine leP 1 [xZ false 6] ?_
 refine WPO.nilS (WP.seqR ?_)
 refine WPO.callF (g := 5) rfl rfl rfl (by kernel_rfl) (l := .nil) (by simp) (awake_ok Ha).ac fun u Ha' ⟨hu, hHa⟩ => ?_
 subst hu
 subst hHa
 refine leP 1 [xM 30 7] ?_
 refine WPO.nilS (WP.seq (WP.seqR ?_))
 refine leP 2 [xM 7 31, xU 31 32] ?_
 refine WPO.nilS (WP.cond (t := false) (by simp) (by simp) fun _ => WP.skip (.inl rfl) (WP.seqR ?_))
 -- great or not
 obtain ⟨q4, g4, _, c4⟩ := B4.get encR_len
 refine lkP 1 [xD 5 4 33] (by simp (disch := omega) [g4, c4]; exact rfl) ?_
 refine WPO.callF (g := 6) rfl rfl rfl (by kernel_rfl) (l := .cons (rvA r1) .nil) (by simp [rvA]) (Great_ok (h1.keep0 kk (by omega)) (by omega) ok1).ac fun u Hb ⟨⟨gr1, hu⟩, kb⟩ => ?_
 subst hu
 have kk := kk.trans kb
 have B3 := B3.keep kb (by omega) id
 have B4 := B4.keep kb (by omega) id
 have B5 := B5.keep kb (by omega) id
 have nb := kb.1
 refine leP 1 [xM 34 8] ?_
 refine WPO.nilS (WP.seqR ?_)
 obtain ⟨q5, g5, _, c5⟩ := B5.get encR_len
 refine lkP 1 [xD 5 5 35] (by simp (disch := omega) [g5, c5]; exact rfl) ?_
 refine WPO.callF (g := 6) rfl rfl rfl (by kernel_rfl) (l := .cons (rvA r2) .nil) (by simp [rvA]) (Great_ok (h2.keep0 kk (by omega)) (by omega) ok2).ac fun u Hc ⟨⟨gr2, hu⟩, kc⟩ => ?_
 subst hu
 have kk := kk.trans kc
 have B3 := B3.keep kc (by omega) id
 have B4 := B4.keep kc (by omega) id
 have B5 := B5.keep kc (by omega) id
 have nc := kc.1
 refine leP 1 [xM 36 9] ?_
 refine WPO.nilS (WP.seq (WP.seqR ?_))
 have done : ∀ l', lsub [(3, .ptr p3 0)] l' → True := fun _ _ => trivial
 clear done
 cases gr1 with
 | true =>
  refine leP 4 [xM 8 37, xM 37 38, yM 9 39 38 false, xP 38 39 40 true] ?_
  refine WPO.nilS (WP.cond (t := true) (by simp) (fun _ => WP.seqR ?_) (by simp))
  refine leP 1 [xZ true 6] ?_
  exact WPO.nilS (WP.ret (endR _ (by simp; rfl) ⟨rfl, kk⟩))
 | false =>
 cases gr2 with
 | true =>
  refine leP 4 [xM 8 37, xM 37 38, yM 9 39 38 false, xP 38 39 40 true] ?_
  refine WPO.nilS (WP.cond (t := true) (by simp) (fun _ => WP.seqR ?_) (by simp))
  refine leP 1 [xZ true 6] ?_
  exact WPO.nilS (WP.ret (endR _ (by simp; rfl) ⟨rfl, kk⟩))
 | false =>
 refine leP 4 [xM 8 37, xM 37 38, yM 9 39 38 false, xP 38 39 40 true] ?_
 refine WPO.nilS (WP.cond (t := false) (by simp) (by simp) fun _ => WP.skip (.inl rfl) (WP.seqR ?_))
 clear g4 c4 g5 c5
 -- the reference's entries
 obtain ⟨q3, g3, _, c3⟩ := B3.get encX_len
 obtain ⟨q4, g4, _, c4⟩ := B4.get encR_len
 refine lkP 2 [xD 3 3 42, xD 5 4 43] (by simp (disch := omega) [g3, c3, g4, c4]; exact rfl) ?_
 refine WPO.callF (g := 7) rfl rfl rfl (by kernel_rfl) (l := .cons (xvA rx) (.cons (rvA r1) .nil)) (by simp [rvA, xvA]) (Entry07_ok (hi.keep0 kk (by omega)) (h1.keep0 kk (by omega)) (by omega) hik ok1).ac fun u Hd ⟨u10, hu, ho10, kd⟩ => ?_
 subst hu
 have kk := kk.trans kd
 have B3 := B3.keep kd (by omega) id
 have B4 := B4.keep kd (by omega) id
 have B5 := B5.keep kd (by omega) id
 have nd := kd.1
 have hb10 : ∀ b, blk u10 = some b → b < Hd.next := fun b e => (ho10.low e).2
 have hl1 := enc_entry ix x1
 obtain ⟨E1, hE1⟩ : ∃ z, z = entryL ix x1 := ⟨_, rfl⟩
 rw [← hE1] at ho10 hl1
 have e11 : (entryL ix x1).2 = E1.2 := by rw [hE1]
 rw [e11]
 refine leP 5 [xM 44 41, xE 41 0 45, xE 41 1 46, xM 45 10, xM 46 11] ?_
 refine WPO.nilS (WP.seqR ?_)
 clear g3 c3 g4 c4
 obtain ⟨q3, g3, _, c3⟩ := B3.get encX_len
 obtain ⟨q5, g5, _, c5⟩ := B5.get encR_len
 refine lkP 2 [xD 3 3 48, xD 5 5 49] (by simp (disch := omega) [g3, c3, g5, c5]; exact rfl) ?_
 refine WPO.callF (g := 7) rfl rfl rfl (by kernel_rfl) (l := .cons (xvA rx) (.cons (rvA r2) .nil)) (by simp [rvA, xvA]) (Entry07_ok (hi.keep0 kk (by omega)) (h2.keep0 kk (by omega)) (by omega) hik ok2).ac fun u He ⟨u12, hu, ho12, ke⟩ => ?_
 subst hu
 have kk := kk.trans ke
 have B3 := B3.keep ke (by omega) id
 have B4 := B4.keep ke (by omega) id
 have B5 := B5.keep ke (by omega) id
 have ne := ke.1
 have hb12 : ∀ b, blk u12 = some b → b < He.next := fun b e => (ho12.low e).2
 have ho10 := ho10.keep ke fun _ _ => id
 have hl2 := enc_entry ix x2
 obtain ⟨E2, hE2⟩ : ∃ z, z = entryL ix x2 := ⟨_, rfl⟩
 rw [← hE2] at ho12 hl2
 have e22 : (entryL ix x2).2 = E2.2 := by rw [hE2]
 rw [e22]
 refine leP 5 [xM 50 47, xE 47 0 51, xE 47 1 52, xM 51 12, xM 52 13] ?_
 refine WPO.nilS (WP.keep (l := [(3, .ptr p3 0), (4, .ptr p4 0), (5, .ptr p5 0), (10, u10), (11, .int .i64 (E1.2 : Int)), (12, u12), (13, .int .i64 (E2.2 : Int))]) (WP.seqR ?_) (by simp))
 clear g3 c3 g5 c5
 -- lent
 obtain ⟨q3, g3, _, c3⟩ := B3.get encX_len
 refine lkP 1 [xD 3 3 53] (by simp (disch := omega) [g3, c3]; exact rfl) ?_
 refine WPO.slice1 (enc := encX) (a := rx) tyOk encX_len (by kernel_rfl : freshK E _ = some ⟨frSlice 1 (zerosA zXv 1) ⟨fill1 (.tmp 53) 0 3 flEnd⟩ ⟨mkCs 24 3 zXv⟩⟩) rfl (by kernel_rfl) (by simp; rfl) (by rfl) (by rfl) (by rfl) fun os bs => ?_
 have ks : Keep noB He (He.new os) := Keep.new _ _ _
 have gs : (He.new os).get He.next = some os := get_new_same _ _
 have ns : (He.new os).next = He.next + 1 := by simp
 have hsS : SaysE encX 3 (He.new os) (He.new os).next (.sl He.next 0 1 (some 1)) [rx] := .of gs bs (by omega)
 have kk := kk.trans ks
 have B3 := B3.keep ks (by omega) id
 have B4 := B4.keep ks (by omega) id
 have B5 := B5.keep ks (by omega) id
 have ho10 := ho10.keep ks fun _ _ => id
 have ho12 := ho12.keep ks fun _ _ => id
 clear g3 c3 gs bs
 generalize He.new os = Hf at *
 refine WPO.callF (g := 8) rfl rfl rfl (by kernel_rfl) (l := .cons (.sl He.next 0 1 (some 1)) .nil) (by simp) (LentIndexes_ok hsS (hi.keep kk (by omega) (fun _ _ => id) (by omega)) (Nat.le_refl _) hkl).ac fun v14 Hg ⟨lo14, hlo14, hX, kg⟩ => ?_
 have kk := kk.trans kg
 have B3 := B3.keep kg (by omega) id
 have B4 := B4.keep kg (by omega) id
 have B5 := B5.keep kg (by omega) id
 have ho10 := ho10.keep kg fun _ _ => id
 have ho12 := ho12.keep kg fun _ _ => id
 have ng := kg.1
 refine leP 1 [xM 55 14] ?_
 refine WPO.nilS (WP.seqR ?_)
 have hvX := hX.v
 subst hvX
 obtain ⟨rx', oX, gX, cX, hiX⟩ := hX.one (N := Hg.next) (Nat.le_refl _)
 have hXlt := hX.lt
 refine lkP 3 [xM 14 56, ⟨⟨ixSl 3 (.tmp 56) (.const (.int .i64 0))⟩, (some 57), none⟩, xD 3 57 58] (by simp (disch := omega) [gX, cX]; exact rfl) ?_
 refine WPO.fresh1 tyOk (k := ⟨frAlloc (.cs 24 3 3 false zXv .e)⟩) (by kernel_rfl) rfl (by kernel_rfl) (v := .ptr Hg.next 0) (x := .cs 24 3 3 false zXv .e) ?_ ?_
 ·simp [zXv]
 have A15 := Bx.new (enc := encX) (e := 24) (es := 3) (z := zXv) (a := zeroXv) encX_len rfl Hg (n := 3) rfl
 obtain ⟨Hh, s1, s2, B15, s4⟩ := A15.store encX_len rx' (cells_x _)
 have kh : Keep noB Hg Hh := (Keep.new _ _ _).trans' s4 fun b hb e => by omega
 have nh : Hh.next = Hg.next + 1 := by rw [s2]; simp
 refine WPO.heavy1 tyOk extOk (k := ⟨hvStore ⟨stN 3⟩ (.tmp 15) (.tmp 58)⟩) (by kernel_rfl) rfl (by kernel_rfl) (by simp [s1]; exact ⟨rfl, rfl⟩) ?_
 clear A15 s1 s4 gX cX
 have kk := kk.trans kh
 have B3 := B3.keep kh (by omega) id
 have B4 := B4.keep kh (by omega) id
 have B5 := B5.keep kh (by omega) id
 have ho10 := ho10.keep kh fun _ _ => id
 have ho12 := ho12.keep kh fun _ _ => id
 have hX := hX.keep kh (Nat.le_refl _) fun _ _ _ => id
 have hiX := hiX.keep0 kh (Nat.le_refl _)
 generalize hp15 : Hg.next = p15 at *
 refine WPO.nilS (WP.seqR ?_)
 obtain ⟨q4, g4, _, c4⟩ := B4.get encR_len
 refine lkP 1 [xD 5 4 59] (by simp (disch := omega) [g4, c4]; exact rfl) ?_
 refine WPO.callF (g := 9) rfl rfl rfl (by kernel_rfl) (l := .cons (rvA r1) .nil) (by simp [rvA]) (Lent_ok (h1.keep0 kk (by omega)) (by omega) ok1 hf1).ac fun u Hi ⟨r16, lo16, hu, hlo16, hR16, ki⟩ => ?_
 subst hu
 have ni := ki.1
 have A16 := Bx.new (enc := encR) (e := 30) (es := 5) (z := zRv) (a := zeroRv) encR_len rfl Hi (n := 5) rfl
 obtain ⟨Hj, s1, s2, B16, s4⟩ := A16.store encR_len r16 (cells_r _)
 have kj : Keep noB Hi Hj := (Keep.new _ _ _).trans' s4 fun b hb e => by omega
 have nj : Hj.next = Hi.next + 1 := by rw [s2]; simp
 have s1' : stN 5 (Hi.new (.cs 30 5 5 false zRv .e)) (rvA r16) (.ptr Hi.next 0) = some Hj := s1
 refine WPO.fresh1 tyOk (k := ⟨frAlloc (.cs 30 5 5 false zRv .e)⟩) (by kernel_rfl) rfl (by kernel_rfl) (v := .ptr Hi.next 0) (x := .cs 30 5 5 false zRv .e) ?_ ?_
 ·simp [zRv]
 refine WPO.heavy1 tyOk extOk (k := ⟨hvStore ⟨stN 5⟩ (.tmp 16) (.tmp 60)⟩) (by kernel_rfl) rfl (by kernel_rfl) (by simp [s1']; exact ⟨rfl, rfl⟩) ?_
 clear A16 s1 s1' s4 g4 c4
 have kij := ki.trans kj
 have kk := kk.trans kij
 have B3 := B3.keep kij (by omega) id
 have B4 := B4.keep kij (by omega) id
 have B5 := B5.keep kij (by omega) id
 have B15 := B15.keep kij (by omega) id
 have ho10 := ho10.keep kij fun _ _ => id
 have ho12 := ho12.keep kij fun _ _ => id
 have hX := hX.keep kij (by omega) fun _ _ _ => id
 have hiX := hiX.keep0 kij (by omega)
 have hR16 := hR16.keep kj (Nat.le_refl _) fun _ _ _ => id
 have hlt16 := hR16.lt
 generalize hp16 : Hi.next = p16 at *
 generalize Hj = Hk at *
 refine WPO.nilS (WP.seqR ?_)
 obtain ⟨q4, g4, _, c4⟩ := B5.get encR_len
 refine lkP 1 [xD 5 5 61] (by simp (disch := omega) [g4, c4]; exact rfl) ?_
 refine WPO.callF (g := 9) rfl rfl rfl (by kernel_rfl) (l := .cons (rvA r2) .nil) (by simp [rvA]) (Lent_ok (h2.keep0 kk (by omega)) (by omega) ok2 hf2).ac fun u Hi ⟨r17, lo17, hu, hlo17, hR17, ki⟩ => ?_
 subst hu
 have ni := ki.1
 have A17 := Bx.new (enc := encR) (e := 30) (es := 5) (z := zRv) (a := zeroRv) encR_len rfl Hi (n := 5) rfl
 obtain ⟨Hj, s1, s2, B17, s4⟩ := A17.store encR_len r17 (cells_r _)
 have kj : Keep noB Hi Hj := (Keep.new _ _ _).trans' s4 fun b hb e => by omega
 have nj : Hj.next = Hi.next + 1 := by rw [s2]; simp
 have s1' : stN 5 (Hi.new (.cs 30 5 5 false zRv .e)) (rvA r17) (.ptr Hi.next 0) = some Hj := s1
 refine WPO.fresh1 tyOk (k := ⟨frAlloc (.cs 30 5 5 false zRv .e)⟩) (by kernel_rfl) rfl (by kernel_rfl) (v := .ptr Hi.next 0) (x := .cs 30 5 5 false zRv .e) ?_ ?_
 ·simp [zRv]
 refine WPO.heavy1 tyOk extOk (k := ⟨hvStore ⟨stN 5⟩ (.tmp 17) (.tmp 62)⟩) (by kernel_rfl) rfl (by kernel_rfl) (by simp [s1']; exact ⟨rfl, rfl⟩) ?_
 clear A17 s1 s1' s4 g4 c4
 have kij := ki.trans kj
 have kk := kk.trans kij
 have B3 := B3.keep kij (by omega) id
 have B4 := B4.keep kij (by omega) id
 have B5 := B5.keep kij (by omega) id
 have B15 := B15.keep kij (by omega) id
 have ho10 := ho10.keep kij fun _ _ => id
 have ho12 := ho12.keep kij fun _ _ => id
 have hX := hX.keep kij (by omega) fun _ _ _ => id
 have hiX := hiX.keep0 kij (by omega)
 have B16 := B16.keep kij (by omega) id
 have hR16 := hR16.keep kij (by omega) fun _ _ _ => id
 have hR17 := hR17.keep kj (Nat.le_refl _) fun _ _ _ => id
 have hlt17 := hR17.lt
 generalize hp17 : Hi.next = p17 at *
 generalize Hj = Hl at *
 refine WPO.nilS ?_
 simp only [putA_none, putA_some]
 refine WP.keep (l := [(3, .ptr p3 0), (4, .ptr p4 0), (5, .ptr p5 0), (10, u10), (11, .int .i64 (E1.2 : Int)), (12, u12), (13, .int .i64 (E2.2 : Int)), (14, .sl lo14 0 1 (some 4)), (15, .ptr p15 0), (16, .ptr p16 0), (17, .ptr p17 0)]) (WP.seqR ?_) (by simp)
 have hN0 : Hl = Hl := rfl
 obtain ⟨q15, g15, _, c15⟩ := B15.get encX_len
 obtain ⟨qr, gr, _, cr⟩ := B16.get encR_len
 refine lkP 2 [xD 3 15 64, xD 5 16 65] (by simp (disch := omega) [g15, c15, gr, cr]; exact rfl) ?_
 refine WPO.callF (g := 10) rfl rfl rfl (by kernel_rfl) (l := .cons (xvA rx') (.cons (rvA r16) .nil)) (by simp [rvA, xvA]) (Entry10_ok (N := Hl.next) (hiX.keep (Keep.refl noB _) (by omega) (fun _ _ => id) (by omega)) (hR16.at (by omega)) (Nat.le_refl _) (hG.keep kk fun _ _ => id) hik ok1).ac fun u H101 ⟨u18, hu, ho18, kx⟩ => ?_
 subst hu
 have hb18 : ∀ b, blk u18 = some b → b < H101.next := fun b e => (ho18.low e).2
 have kk := kk.trans kx
 have B3 := B3.keep kx (by omega) id
 have B4 := B4.keep kx (by omega) id
 have B5 := B5.keep kx (by omega) id
 have B15 := B15.keep kx (by omega) id
 have B16 := B16.keep kx (by omega) id
 have B17 := B17.keep kx (by omega) id
 have ho10 := ho10.keep kx fun _ _ => id
 have ho12 := ho12.keep kx fun _ _ => id
 have hX := hX.keep kx (by omega) fun _ _ _ => id
 have hiX := hiX.keep0 kx (by omega)
 have hR16 := hR16.keep kx (by omega) fun _ _ _ => id
 have hR17 := hR17.keep kx (by omega) fun _ _ _ => id
 have nx101 := kx.1
 rw [← hE1] at ho18
 have ee101 : (entryL ix x1).2 = E1.2 := by rw [hE1]
 rw [ee101]
 clear g15 c15 gr cr ee101
 refine leP 5 [xM 66 63, xE 63 0 67, xE 63 1 68, xM 67 18, xM 68 19] ?_
 refine WPO.nilS (WP.seqR ?_)
 obtain ⟨q15, g15, _, c15⟩ := B15.get encX_len
 obtain ⟨qr, gr, _, cr⟩ := B16.get encR_len
 refine lkP 2 [xD 3 15 70, xD 5 16 71] (by simp (disch := omega) [g15, c15, gr, cr]; exact rfl) ?_
 refine WPO.callF (g := 10) rfl rfl rfl (by kernel_rfl) (l := .cons (xvA rx') (.cons (rvA r16) .nil)) (by simp [rvA, xvA]) (Entry10_ok (N := H101.next) (hiX.keep (Keep.refl noB _) (by omega) (fun _ _ => id) (by omega)) (hR16.at (by omega)) (Nat.le_refl _) (hG.keep kk fun _ _ => id) hik ok1).ac fun u H102 ⟨u20, hu, ho20, kx⟩ => ?_
 subst hu
 have hb20 : ∀ b, blk u20 = some b → b < H102.next := fun b e => (ho20.low e).2
 have kk := kk.trans kx
 have B3 := B3.keep kx (by omega) id
 have B4 := B4.keep kx (by omega) id
 have B5 := B5.keep kx (by omega) id
 have B15 := B15.keep kx (by omega) id
 have B16 := B16.keep kx (by omega) id
 have B17 := B17.keep kx (by omega) id
 have ho10 := ho10.keep kx fun _ _ => id
 have ho12 := ho12.keep kx fun _ _ => id
 have ho18 := ho18.keep kx fun _ _ => id
 have hX := hX.keep kx (by omega) fun _ _ _ => id
 have hiX := hiX.keep0 kx (by omega)
 have hR16 := hR16.keep kx (by omega) fun _ _ _ => id
 have hR17 := hR17.keep kx (by omega) fun _ _ _ => id
 have nx102 := kx.1
 rw [← hE1] at ho20
 have ee102 : (entryL ix x1).2 = E1.2 := by rw [hE1]
 rw [ee102]
 clear g15 c15 gr cr ee102
 refine leP 5 [xM 72 69, xE 69 0 73, xE 69 1 74, xM 73 20, xM 74 21] ?_
 refine WPO.nilS (WP.seqR ?_)
 obtain ⟨q15, g15, _, c15⟩ := B15.get encX_len
 obtain ⟨qr, gr, _, cr⟩ := B17.get encR_len
 refine lkP 2 [xD 3 15 76, xD 5 17 77] (by simp (disch := omega) [g15, c15, gr, cr]; exact rfl) ?_
 refine WPO.callF (g := 10) rfl rfl rfl (by kernel_rfl) (l := .cons (xvA rx') (.cons (rvA r17) .nil)) (by simp [rvA, xvA]) (Entry10_ok (N := H102.next) (hiX.keep (Keep.refl noB _) (by omega) (fun _ _ => id) (by omega)) (hR17.at (by omega)) (Nat.le_refl _) (hG.keep kk fun _ _ => id) hik ok2).ac fun u H103 ⟨u22, hu, ho22, kx⟩ => ?_
 subst hu
 have hb22 : ∀ b, blk u22 = some b → b < H103.next := fun b e => (ho22.low e).2
 have kk := kk.trans kx
 have B3 := B3.keep kx (by omega) id
 have B4 := B4.keep kx (by omega) id
 have B5 := B5.keep kx (by omega) id
 have B15 := B15.keep kx (by omega) id
 have B16 := B16.keep kx (by omega) id
 have B17 := B17.keep kx (by omega) id
 have ho10 := ho10.keep kx fun _ _ => id
 have ho12 := ho12.keep kx fun _ _ => id
 have ho18 := ho18.keep kx fun _ _ => id
 have ho20 := ho20.keep kx fun _ _ => id
 have hX := hX.keep kx (by omega) fun _ _ _ => id
 have hiX := hiX.keep0 kx (by omega)
 have hR16 := hR16.keep kx (by omega) fun _ _ _ => id
 have hR17 := hR17.keep kx (by omega) fun _ _ _ => id
 have nx103 := kx.1
 rw [← hE2] at ho22
 have ee103 : (entryL ix x2).2 = E2.2 := by rw [hE2]
 rw [ee103]
 clear g15 c15 gr cr ee103
 refine leP 5 [xM 78 75, xE 75 0 79, xE 75 1 80, xM 79 22, xM 80 23] ?_
 refine WPO.nilS (WP.seqR ?_)
 obtain ⟨q15, g15, _, c15⟩ := B15.get encX_len
 obtain ⟨qr, gr, _, cr⟩ := B16.get encR_len
 refine lkP 2 [xD 3 15 82, xD 5 16 83] (by simp (disch := omega) [g15, c15, gr, cr]; exact rfl) ?_
 refine WPO.callF (g := 10) rfl rfl rfl (by kernel_rfl) (l := .cons (xvA rx') (.cons (rvA r16) .nil)) (by simp [rvA, xvA]) (Entry10_ok (N := H103.next) (hiX.keep (Keep.refl noB _) (by omega) (fun _ _ => id) (by omega)) (hR16.at (by omega)) (Nat.le_refl _) (hG.keep kk fun _ _ => id) hik ok1).ac fun u H104 ⟨u24, hu, ho24, kx⟩ => ?_
 subst hu
 have hb24 : ∀ b, blk u24 = some b → b < H104.next := fun b e => (ho24.low e).2
 have kk := kk.trans kx
 have B3 := B3.keep kx (by omega) id
 have B4 := B4.keep kx (by omega) id
 have B5 := B5.keep kx (by omega) id
 have B15 := B15.keep kx (by omega) id
 have B16 := B16.keep kx (by omega) id
 have B17 := B17.keep kx (by omega) id
 have ho10 := ho10.keep kx fun _ _ => id
 have ho12 := ho12.keep kx fun _ _ => id
 have ho18 := ho18.keep kx fun _ _ => id
 have ho20 := ho20.keep kx fun _ _ => id
 have ho22 := ho22.keep kx fun _ _ => id
 have hX := hX.keep kx (by omega) fun _ _ _ => id
 have hiX := hiX.keep0 kx (by omega)
 have hR16 := hR16.keep kx (by omega) fun _ _ _ => id
 have hR17 := hR17.keep kx (by omega) fun _ _ _ => id
 have nx104 := kx.1
 rw [← hE1] at ho24
 have ee104 : (entryL ix x1).2 = E1.2 := by rw [hE1]
 rw [ee104]
 clear g15 c15 gr cr ee104
 refine leP 5 [xM 84 81, xE 81 0 85, xE 81 1 86, xM 85 24, xM 86 25] ?_
 refine WPO.nilS (WP.keep (l := [(3, .ptr p3 0), (4, .ptr p4 0), (5, .ptr p5 0), (10, u10), (11, .int .i64 (E1.2 : Int)), (12, u12), (13, .int .i64 (E2.2 : Int)), (14, .sl lo14 0 1 (some 4)), (16, .ptr p16 0), (17, .ptr p17 0), (18, u18), (19, .int .i64 (E1.2 : Int)), (20, u20), (21, .int .i64 (E1.2 : Int)), (22, u22), (23, .int .i64 (E2.2 : Int)), (24, u24), (25, .int .i64 (E1.2 : Int))]) (WP.seqR ?_) (by simp))
 obtain ⟨qr, gr, _, cr⟩ := B16.get encR_len
 obtain ⟨q4, g4, _, c4⟩ := B4.get encR_len
 refine lkP 2 [xD 5 16 87, xD 5 4 88] (by simp (disch := omega) [gr, cr, g4, c4]; exact rfl) ?_
 refine WPO.callF (g := 11) rfl rfl rfl (by kernel_rfl) (l := .cons (rvA r16) (.cons (rvA r1) .nil)) (by simp [rvA]) (AsLent_ok hR16 (by omega) (h1.keep0 kk (by omega)) (by omega) ok1 hf1).ac fun u H105 ⟨hu, ky⟩ => ?_
 subst hu
 have ny := ky.1
 have kk : Keep noB H H105 := kk.trans' ky fun b hb e => by omega
 have B3 := B3.keep ky (by omega) (by omega)
 have B5 := B5.keep ky (by omega) (by omega)
 have B17 := B17.keep ky (by omega) (by omega)
 have hX := hX.keep ky (by omega) fun b h1 h2 e => by omega
 have hR17 := hR17.keep ky (by omega) fun b h1 h2 e => by omega
 have ho10 := ho10.keep ky fun b e e2 => by have := hb10 b e; omega
 have ho12 := ho12.keep ky fun b e e2 => by have := hb12 b e; omega
 have ho18 := ho18.keep ky fun b e e2 => by have := (ho18.low e).1; omega
 have ho20 := ho20.keep ky fun b e e2 => by have := (ho20.low e).1; omega
 have ho22 := ho22.keep ky fun b e e2 => by have := (ho22.low e).1; omega
 have ho24 := ho24.keep ky fun b e e2 => by have := (ho24.low e).1; omega
 clear gr cr g4 c4
 refine leP 1 [xM 89 26] ?_
 refine WPO.nilS (WP.seqR ?_)
 obtain ⟨qr, gr, _, cr⟩ := B17.get encR_len
 obtain ⟨q5, g5, _, c5⟩ := B5.get encR_len
 refine lkP 2 [xD 5 17 90, xD 5 5 91] (by simp (disch := omega) [gr, cr, g5, c5]; exact rfl) ?_
 refine WPO.callF (g := 11) rfl rfl rfl (by kernel_rfl) (l := .cons (rvA r17) (.cons (rvA r2) .nil)) (by simp [rvA]) (AsLent_ok hR17 (by omega) (h2.keep0 kk (by omega)) (by omega) ok2 hf2).ac fun u H106 ⟨hu, kz⟩ => ?_
 subst hu
 have nz := kz.1
 have kk : Keep noB H H106 := kk.trans' kz fun b hb e => by omega
 have B3 := B3.keep kz (by omega) (by omega)
 have hX := hX.keep kz (by omega) fun b h1 h2 e => by omega
 have ho10 := ho10.keep kz fun b e e2 => by have := hb10 b e; omega
 have ho12 := ho12.keep kz fun b e e2 => by have := hb12 b e; omega
 have ho18 := ho18.keep kz fun b e e2 => by have := (ho18.low e).1; omega
 have ho20 := ho20.keep kz fun b e e2 => by have := (ho20.low e).1; omega
 have ho22 := ho22.keep kz fun b e e2 => by have := (ho22.low e).1; omega
 have ho24 := ho24.keep kz fun b e e2 => by have := (ho24.low e).1; omega
 clear gr cr g5 c5
 refine leP 1 [xM 92 27] ?_
 refine WPO.nilS (WP.seqR ?_)
 obtain ⟨q3, g3, _, c3⟩ := B3.get encX_len
 refine lkP 2 [xM 14 93, xD 3 3 94] (by simp (disch := omega) [g3, c3]; exact rfl) ?_
 refine WPO.slice1 (enc := encX) (a := rx) tyOk encX_len (by kernel_rfl : freshK E _ = some ⟨frSlice 1 (zerosA zXv 1) ⟨fill1 (.tmp 94) 0 3 flEnd⟩ ⟨mkCs 24 3 zXv⟩⟩) rfl (by kernel_rfl) (by simp; rfl) (by rfl) (by rfl) (by rfl) fun os2 bs2 => ?_
 have ks2 : Keep noB H106 (H106.new os2) := Keep.new _ _ _
 have gs2 : (H106.new os2).get H106.next = some os2 := get_new_same _ _
 have ns2 : (H106.new os2).next = H106.next + 1 := by simp
 have hsS2 : SaysE encX 3 (H106.new os2) (H106.new os2).next (.sl H106.next 0 1 (some 1)) [rx] := .of gs2 bs2 (by omega)
 have kk := kk.trans ks2
 have hX := hX.keep ks2 (by omega) fun _ _ _ => id
 have ho10 := ho10.keep ks2 fun _ _ => id
 have ho12 := ho12.keep ks2 fun _ _ => id
 have ho18 := ho18.keep ks2 fun _ _ => id
 have ho20 := ho20.keep ks2 fun _ _ => id
 have ho22 := ho22.keep ks2 fun _ _ => id
 have ho24 := ho24.keep ks2 fun _ _ => id
 clear g3 c3 gs2 bs2
 generalize H106.new os2 = H107 at *
 refine WPO.callF (g := 12) rfl rfl rfl (by kernel_rfl) (l := .cons (.sl lo14 0 1 (some 4)) (.cons (.sl H106.next 0 1 (some 1)) .nil)) (by simp) (AsLentIndexes_ok hX (by omega) hsS2 (fun b e => by cases e; omega) (hi.keep0 kk (by omega)) (by omega) hkl).ac fun u H108 ⟨hu, kw⟩ => ?_
 subst hu
 have nw := kw.1
 have kk : Keep noB H H108 := kk.trans' kw fun b hb e => by omega
 have ho10 := ho10.keep kw fun b e e2 => by have := hb10 b e; omega
 have ho12 := ho12.keep kw fun b e e2 => by have := hb12 b e; omega
 have ho18 := ho18.keep kw fun b e e2 => by have := (ho18.low e).1; omega
 have ho20 := ho20.keep kw fun b e e2 => by have := (ho20.low e).1; omega
 have ho22 := ho22.keep kw fun b e e2 => by have := (ho22.low e).1; omega
 have ho24 := ho24.keep kw fun b e e2 => by have := (ho24.low e).1; omega
 refine leP 1 [xM 96 28] ?_
 refine WPO.nilS (WP.keep (l := [(10, u10), (11, .int .i64 (E1.2 : Int)), (12, u12), (13, .int .i64 (E2.2 : Int)), (18, u18), (19, .int .i64 (E1.2 : Int)), (20, u20), (21, .int .i64 (E1.2 : Int)), (22, u22), (23, .int .i64 (E2.2 : Int)), (24, u24), (25, .int .i64 (E1.2 : Int)), (26, .bool true), (27, .bool true), (28, .bool true)]) (WP.seq (WP.seqR ?_)) (by simp))
 refine leP 30 [xM 26 97, xU 97 98, xM 98 99, yM 27 100 99 false, ⟨lkUn ukNot (.tmp 100), (some 101), (some (99, false))⟩, xP 99 101 102 true, xM 102 103, yM 28 104 103 false, ⟨lkUn ukNot (.tmp 104), (some 105), (some (103, false))⟩, xP 103 105 106 true, xM 106 107, yM 19 108 107 false, yM 11 109 107 false, yB akNeq 108 109 110 107 false, xP 107 110 111 true, xM 111 112, yM 21 113 112 false, yM 11 114 112 false, yB akNeq 113 114 115 112 false, xP 112 115 116 true, xM 116 117, yM 23 118 117 false, yM 13 119 117 false, yB akNeq 118 119 120 117 false, xP 117 120 121 true, xM 121 122, yM 25 123 122 false, yM 11 124 122 false, yB akNeq 123 124 125 122 false, xP 122 125 126 true] ?_
 refine WPO.nilS (WP.cond (t := false) (by simp) (by simp) fun _ => WP.skip (.inl rfl) (WP.seq (WP.seqR ?_)))
 have z10 := ho10.rd.str
 have z12 := ho12.rd.str
 have z18 := ho18.rd.str
 have z20 := ho20.rd.str
 have z22 := ho22.rd.str
 have z24 := ho24.rd.str
 refine lkP 26 [xM 18 127, ⟨⟨cvStr (.tmp 127)⟩, (some 128), none⟩, xM 10 129, ⟨⟨cvStr (.tmp 129)⟩, (some 130), none⟩, ⟨⟨binStr skNeq (.tmp 128) (.tmp 130)⟩, (some 131), none⟩, xM 131 132, yM 20 133 132 false, ⟨⟨cvStr (.tmp 133)⟩, (some 134), (some (132, false))⟩, yM 10 135 132 false, ⟨⟨cvStr (.tmp 135)⟩, (some 136), (some (132, false))⟩, ⟨⟨binStr skNeq (.tmp 134) (.tmp 136)⟩, (some 137), (some (132, false))⟩, xP 132 137 138 true, xM 138 139, yM 22 140 139 false, ⟨⟨cvStr (.tmp 140)⟩, (some 141), (some (139, false))⟩, yM 12 142 139 false, ⟨⟨cvStr (.tmp 142)⟩, (some 143), (some (139, false))⟩, ⟨⟨binStr skNeq (.tmp 141) (.tmp 143)⟩, (some 144), (some (139, false))⟩, xP 139 144 145 true, xM 145 146, yM 24 147 146 false, ⟨⟨cvStr (.tmp 147)⟩, (some 148), (some (146, false))⟩, yM 10 149 146 false, ⟨⟨cvStr (.tmp 149)⟩, (some 150), (some (146, false))⟩, ⟨⟨binStr skNeq (.tmp 148) (.tmp 150)⟩, (some 151), (some (146, false))⟩, xP 146 151 152 true] (by simp (disch := omega) [z10, z12, z18, z20, z22, z24]; exact rfl) ?_
 refine WPO.nilS (WP.cond (t := false) (by simp) (by simp) fun _ => WP.skip (.inl rfl) (WP.seqR ?_))
 refine WPO.keep (l := [(18, u18), (20, u20), (22, u22), (24, u24)]) ?_ (by simp)
 refine leP 1 [⟨⟨buildA (.cons .snil .nil) flEnd⟩, (some 153), none⟩] ?_
 refine WPO.box1 (enc := enc1) (a := AV.snil) tyOk enc1_len (by kernel_rfl : freshK E _ = some ⟨frBox ⟨mkCs 45 1 (.cons .snil .nil)⟩ (.tmp 153)⟩) rfl (by kernel_rfl) (by simp; try rfl) fun o1 b1 => ?_
 have bk0 : BookAt (H108.new o1) H108.next H108.next [] := ⟨.snil, o1, Nat.le_refl _, by simp, get_new_same _ _, b1, .inl ⟨rfl, rfl⟩, fun b e => (by cases e)⟩
 have kb0 : Keep (fun b => H108.next ≤ b) H108 (H108.new o1) := Keep.new _ _ _
 refine leP 1 [xM 154 29] ?_
 refine WPO.nilS (WP.seqR ?_)
 refine leP 2 [xM 29 155, xM 18 156] ?_
 refine WPO.callF (g := 13) rfl rfl rfl (by kernel_rfl) (l := .cons (.ptr H108.next 0) (.cons u18 .nil)) (by simp) (take03_ok bk0 ho18.cell (by simp)).ac fun _ Hf1 ⟨bk1, kf1⟩ => ?_
 have kb1 := kb0.trans kf1
 refine WPO.nilS (WP.seqR ?_)
 refine leP 2 [xM 29 158, xM 20 159] ?_
 refine WPO.callF (g := 13) rfl rfl rfl (by kernel_rfl) (l := .cons (.ptr H108.next 0) (.cons u20 .nil)) (by simp) (take03_ok bk1 ho20.cell (by simp)).ac fun _ Hf2 ⟨bk2, kf2⟩ => ?_
 have kb2 := kb1.trans kf2
 refine WPO.nilS (WP.seqR ?_)
 refine leP 2 [xM 29 161, xM 22 162] ?_
 refine WPO.callF (g := 13) rfl rfl rfl (by kernel_rfl) (l := .cons (.ptr H108.next 0) (.cons u22 .nil)) (by simp) (take03_ok bk2 ho22.cell (by simp)).ac fun _ Hf3 ⟨bk3, kf3⟩ => ?_
 have kb3 := kb2.trans kf3
 refine WPO.nilS (WP.seqR ?_)
 refine leP 2 [xM 29 164, xM 24 165] ?_
 refine WPO.callF (g := 13) rfl rfl rfl (by kernel_rfl) (l := .cons (.ptr H108.next 0) (.cons u24 .nil)) (by simp) (take03_ok bk3 ho24.cell (by simp)).ac fun _ Hf4 ⟨bk4, kf4⟩ => ?_
 have kb4 := kb3.trans kf4
 have xh := kb4.1
 refine WPO.nilS (WP.seqR ?_)
 refine leP 1 [xM 29 167] ?_
 have lw18 := fun b e => (ho18.low (b := b) e).1
 have lw20 := fun b e => (ho20.low (b := b) e).1
 have lw22 := fun b e => (ho22.low (b := b) e).1
 have lw24 := fun b e => (ho24.low (b := b) e).1
 refine WPO.callF (g := 14) rfl rfl rfl (by kernel_rfl) (l := .cons (.ptr H108.next 0) .nil) (by simp) (owned03_ok (Bs := [E1.1, E1.1, E2.1, E1.1]) bk4 bk4.next rfl (by simp) (by simp; omega) (fun i v l g1 g2 => ?_) ?_) fun u Hi9 ⟨hu, ko⟩ => ?_
 ·have hb : ∀ (v : AV) (l : List UInt8) (lo : Nat), OwnB 5 H108 lo v l → Own Hf4 0 H108.next v l := fun v l lo ho => by
   have h1 := ownB_own (hi := H108.next) (lo2 := 0) ho (Nat.le_refl _) (by omega)
   exact h1.keep kb4 (fun b _ hb _ e => absurd e (by omega)) (Nat.le_refl _) (Nat.le_refl _) (Nat.le_refl _)
  match i, g1, g2 with
  | 0, g1, g2 => simp at g1 g2; subst g1 g2; exact hb _ _ _ ho18
  | 1, g1, g2 => simp at g1 g2; subst g1 g2; exact hb _ _ _ ho20
  | 2, g1, g2 => simp at g1 g2; subst g1 g2; exact hb _ _ _ ho22
  | 3, g1, g2 => simp at g1 g2; subst g1 g2; exact hb _ _ _ ho24
  | i + 4, g1, g2 => simp at g1
 ·have d1 : ∀ b, sblk u18 = some b → ¬ sblk u20 = some b := fun b e e2 => by
   have := hb18 b (sblk_blk e)
   have := lw20 b (sblk_blk e2)
   omega
  have d2 : ∀ b, sblk u18 = some b → ¬ sblk u22 = some b := fun b e e2 => by
   have := hb18 b (sblk_blk e)
   have := lw22 b (sblk_blk e2)
   omega
  have d3 : ∀ b, sblk u18 = some b → ¬ sblk u24 = some b := fun b e e2 => by
   have := hb18 b (sblk_blk e)
   have := lw24 b (sblk_blk e2)
   omega
  have d4 : ∀ b, sblk u20 = some b → ¬ sblk u22 = some b := fun b e e2 => by
   have := hb20 b (sblk_blk e)
   have := lw22 b (sblk_blk e2)
   omega
  have d5 : ∀ b, sblk u20 = some b → ¬ sblk u24 = some b := fun b e e2 => by
   have := hb20 b (sblk_blk e)
   have := lw24 b (sblk_blk e2)
   omega
  have d6 : ∀ b, sblk u22 = some b → ¬ sblk u24 = some b := fun b e e2 => by
   have := hb22 b (sblk_blk e)
   have := lw24 b (sblk_blk e2)
   omega
  unfold Apart
  simp
  exact ⟨⟨d1, d2, d3⟩, ⟨d4, d5⟩, d6⟩
 subst hu
 refine leP 1 [xM 168 6] ?_
 refine WPO.nilS (WP.ret (endR _ (by simp; rfl) ⟨rfl, ?_⟩))
 refine (kk.trans' kb4 fun b hb e => by omega).trans' ko fun b hb e => ?_
 obtain ⟨w, hw, e⟩ := e
 simp at hw
 rcases hw with rfl | rfl | rfl | rfl
 ·have := lw18 b (sblk_blk e); omega
 ·have := lw20 b (sblk_blk e); omega
 ·have := lw22 b (sblk_blk e); omega
 ·have := lw24 b (sblk_blk e); omega
end
end Go.Proofs.YtfgipbjaapkdlaaGreatDoor
