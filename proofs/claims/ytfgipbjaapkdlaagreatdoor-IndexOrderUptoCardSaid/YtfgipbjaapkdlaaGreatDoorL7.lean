/- A part of the proof of this seat's statement. Conditions: in each theorem. -/
import Derived.Test.YtfgipbjaapkdlaaGreatDoorL6
namespace Go.Proofs.YtfgipbjaapkdlaaGreatDoor
open Go.Xq
noncomputable section
theorem pairs_snoc (fs : List Fld) (f : Fld) : pairs (fs ++ [f]) = pairs fs ++ [⟨6, 0, f.nm, .nil⟩, f.it] := by simp [pairs]
theorem pairs_len (fs : List Fld) : (pairs fs).length = 2 * fs.length := by
  induction fs with
  | nil => rfl
  | cons f r ih => simp only [pairs, List.flatMap_cons, List.length_append, List.length_cons, List.length_nil] at ih ⊢; omega
structure RecOk9 (x : Rec9) : Prop where
  key : (Its.ofL [x.key]).size < 2097152
  keyr : (-9223372036854775808 ≤ x.key.n ∧ x.key.n < 9223372036854775808) ∧ x.key.s.rng
  fs : ∀ f ∈ x.fs, f.nm.length < 17179869184 ∧ 1 + f.it.t.length + f.it.s.size < 2097152 ∧ (-9223372036854775808 ≤ f.it.n ∧ f.it.n < 9223372036854775808) ∧ f.it.s.rng
  n : x.fs.length < 8589934592
theorem size_append : ∀ (a b : List It), (Its.ofL (a ++ b)).size = (Its.ofL a).size + (Its.ofL b).size
  | [], b => by simp [Its.ofL, Its.size]
  | x :: a, b => by
    have := size_append a b
    simp only [List.cons_append, Its.ofL, Its.size] at this ⊢
    omega
theorem fieldB_len {l : List UInt8} (h : fieldB l = true) : l.length ≤ 64 := by
  unfold fieldB nameB at h
  simp only [Bool.and_eq_true, decide_eq_true_eq] at h
  omega
theorem pairs_size : ∀ (fs : List Fld), (∀ f ∈ fs, f.nm.length ≤ 64 ∧ 1 + f.it.t.length + f.it.s.size < 2097152) → (Its.ofL (pairs fs)).size ≤ fs.length * 2097248
  | [], _ => by simp [pairs, Its.ofL, Its.size]
  | f :: r, h => by
    have h1 := h f (by simp)
    have h2 := pairs_size r fun g hg => h g (List.mem_cons_of_mem _ hg)
    have : pairs (f :: r) = [⟨6, 0, f.nm, .nil⟩, f.it] ++ pairs r := by simp [pairs]
    rw [this, size_append]
    simp only [Its.ofL, Its.size, List.length_cons, Nat.succ_mul]
    omega
theorem pairs_rng : ∀ (fs : List Fld), (∀ f ∈ fs, (-9223372036854775808 ≤ f.it.n ∧ f.it.n < 9223372036854775808) ∧ f.it.s.rng) → (Its.ofL (pairs fs)).rng := by
  intro fs h
  refine Its.rng_ofL fun x hx => ?_
  obtain ⟨f, hf, hx⟩ := List.mem_flatMap.1 hx
  simp only [List.mem_cons, List.not_mem_nil, or_false] at hx
  rcases hx with rfl | rfl
  · exact ⟨by simp, trivial⟩
  · exact h f hf
theorem namesTo_field {fs : List Fld} (h : namesTo fs fs.length) : ∀ f ∈ fs, fieldB f.nm = true := by
  intro f hf
  obtain ⟨j, hj⟩ := List.mem_iff_getElem?.1 hf
  have hjl : j < fs.length := by
    rcases Nat.lt_or_ge j fs.length with h | h
    · exact h
    · rw [List.getElem?_eq_none h] at hj; cases hj
  exact (h j f hjl hj).1
abbrev qM19_1 : List Lk := [⟨lkMove (.const (.slice none 0 0)), (some 2), none⟩, ⟨lkMove (.const (.slice none 0 0)), (some 3), none⟩, xK 192 4]
abbrev qM19_2 : List DI := [zF 7 0 30 0 1, zL 30 31 0 1, ⟨[31], .heavy ⟨hvCallF E 88 (opnds [(.tmp 31)])⟩, (some 32), none, 0, 2, false, true⟩, ⟨[32], .look (lkUn ukNot (.tmp 32)), (some 33), none, 1, 1, true, false⟩, zM 33 34 1 1, ⟨[6, 34], .look (lkMove (.tmp 6)), (some 35), (some (34, false)), 1, 1, true, false⟩, ⟨[35, 34], .look (⟨binInt akGtr (.tmp 35) (.const (.int .i64 0))⟩), (some 36), (some (34, false)), 1, 1, false, false⟩, ⟨[36, 34], .look (lkMove (.tmp 36)), (some 37), (some (34, false)), 1, 1, true, false⟩, ⟨[1, 37], .look (⟨fAddr (.tmp 1) 4⟩), (some 38), (some (37, true)), 1, 1, true, false⟩, ⟨[38, 37], .look (⟨ldA ⟨ld1⟩ (.tmp 38)⟩), (some 39), (some (37, true)), 1, 1, false, false⟩, ⟨[6, 37], .look (lkMove (.tmp 6)), (some 40), (some (37, true)), 1, 1, true, false⟩, ⟨[40, 37], .look (⟨binInt akSub (.tmp 40) (.const (.int .i64 1))⟩), (some 41), (some (37, true)), 1, 1, false, false⟩, ⟨[39, 41, 37], .look (⟨ixSl 5 (.tmp 39) (.tmp 41)⟩), (some 42), (some (37, true)), 1, 1, true, false⟩, ⟨[42, 37], .look (⟨fAddr (.tmp 42) 0⟩), (some 43), (some (37, true)), 1, 1, true, false⟩, ⟨[43, 37], .look (⟨ldA ⟨ld1⟩ (.tmp 43)⟩), (some 44), (some (37, true)), 1, 1, false, false⟩, ⟨[7, 37], .look (⟨fAddr (.tmp 7) 0⟩), (some 45), (some (37, true)), 1, 1, true, false⟩, ⟨[45, 37], .look (⟨ldA ⟨ld1⟩ (.tmp 45)⟩), (some 46), (some (37, true)), 1, 1, false, false⟩, ⟨[44, 46, 37], .look (⟨binStr skGeq (.tmp 44) (.tmp 46)⟩), (some 47), (some (37, true)), 1, 1, false, false⟩, ⟨[37, 47, 34], .look (⟨pickA (.tmp 37) (.tmp 47) (.const (.bool false))⟩), (some 48), (some (34, false)), 1, 1, true, false⟩, ⟨[34, 48], .look (⟨pickA (.tmp 34) (.const (.bool true)) (.tmp 48)⟩), (some 49), none, 1, 1, true, false⟩]
set_option maxHeartbeats 2000000 in
theorem laid_ok {H : AH} {N : Nat} {r : Rv} {x : Rec9} (hx : RecAt H N r x) (hN : N ≤ H.next) (hG : GlobU H) (hok : RecOk9 x) :
    DC Tryz.prog .normal 39 (.cons (rvA r) .nil) H fun v' H2 => ∃ u1 u2, v' = .tup (.cons u1 (.cons u2 (.cons (.int .i64 ((laidE x : Nat) : Int)) .nil))) ∧ Keep noB H H2 := by
  refine DC.of_wd (re := reTmp 2 (reTmp 3 (reTmp 4 reNil))) tyOk Tryz.func39 (by kernel_rfl) rfl (by kernel_rfl) (by kernel_rfl) ?_
  rw [tl_nil, argsT_cons, argsT_nil]
  refine WD.seqR ?_
  refine WDO.box1 (enc := encR) (a := r) tyOk encR_len (by kernel_rfl : freshK E _ = some ⟨frBox ⟨mkCs 30 5 (.cons (.int .i64 0) (.cons (.int .i64 0) (.cons (.str 0 0) (.cons .snil (.cons .snil .nil)))))⟩ (.tmp 0)⟩) rfl (by kernel_rfl) (by simp [rvA]; try rfl) fun o1 b1 => ?_
  have k1 : Keep noB H (H.new o1) := Keep.new _ _ _
  obtain ⟨g2, g3⟩ := box_rd encR_len b1
  have g1 : (H.new o1).get H.next = some o1 := get_new_same _ _
  have gv : rdCell o1 4 = some r.w := g2 4 _ rfl
  have gk : rdCells o1 4 0 = some (avl (encI ⟨r.k, r.n, r.t, r.v, r.c⟩)) := rdCells_of (encI ⟨r.k, r.n, r.t, r.v, r.c⟩) _ fun j w hj => by
    rw [Nat.zero_add]
    refine g2 j w ?_
    match j, hj with
    | 0, hj => exact hj
    | 1, hj => exact hj
    | 2, hj => exact hj
    | 3, hj => exact hj
    | j + 4, hj => simp [encI] at hj
  have hn1 : H.next < (H.new o1).next := by simp
  clear b1 g2 g3
  generalize hH1 : H.new o1 = H1 at *
  generalize hn1' : H.next = n1 at *
  clear hH1
  refine leD 3 [⟨lkMove (.const (.slice none 0 0)), (some 2), none⟩, ⟨lkMove (.const (.slice none 0 0)), (some 3), none⟩, xK 0 4] ?_
  refine WDO.nilS (WD.seq (WD.seqR ?_))
  refine lkD 2 [xF 1 0 9, xD 4 9 10] (by simp (disch := omega) [g1, gk]; exact rfl) ?_
  refine WDO.slice1 (enc := encI) (a := ⟨r.k, r.n, r.t, r.v, r.c⟩) tyOk encI_len (by kernel_rfl : freshK E _ = some ⟨frSlice 1 (zerosA (.cons (.int .i64 0) (.cons (.int .i64 0) (.cons (.str 0 0) (.cons .snil .nil)))) 1) ⟨fill1 (.tmp 10) 0 4 flEnd⟩ ⟨mkCs 27 4 (.cons (.int .i64 0) (.cons (.int .i64 0) (.cons (.str 0 0) (.cons .snil .nil))))⟩⟩) rfl (by kernel_rfl) (by simp; rfl) (by rfl) (by rfl) (by rfl) fun o2 b2 => ?_
  have kb : Keep noB H1 (H1.new o2) := Keep.new _ _ _
  have k2 : Keep noB H (H1.new o2) := k1.trans kb
  have f1 : (H1.new o2).get H1.next = some o2 := get_new_same _ _
  have g1 := kb.get hn1 id g1
  have hS : SaysI (H1.new o2) (H1.new o2).next (.sl H1.next 0 1 (some 1)) (Its.ofL [x.key]) := saysI_of (cs := [⟨r.k, r.n, r.t, r.v, r.c⟩]) (.of f1 b2 (N := (H1.new o2).next) (by simp)) ((AsIts.nil _ _).snoc (c := ⟨r.k, r.n, r.t, r.v, r.c⟩) (x := x.key) hx.k hx.n hx.t (hx.s.keep k2 (by omega) (fun _ _ => id) (by have := k2.1; omega))) (Nat.le_refl _)
  have n2 := kb.1
  generalize H1.new o2 = H2 at *
  clear f1
  have hG2 := hG.keep k2 fun _ _ => id
  refine WDO.callF (g := 41) rfl rfl rfl (by kernel_rfl) (l := .cons (.sl H1.next 0 1 (some 1)) .nil) (by simp) (Encode_ok hS (Nat.le_refl _) hG2 (by have := hok.key; omega) (Its.rng_ofL (l := [x.key]) fun y hy => by simp at hy; subst hy; exact hok.keyr)) fun u H3 ⟨q1, hu, ho1, k3⟩ => ?_
  subst hu
  clear ho1 hS
  generalize he1 : (encode (Its.ofL [x.key])).2 = e1
  have k30 := k2.trans k3
  have g13 := k3.get (by omega) id g1
  have n3 := k3.1
  have hG3 := hG2.keep k3 fun _ _ => id
  refine leD 5 [xM 12 8, xE 8 0 13, xE 8 1 14, xM 13 2, xM 14 4] ?_
  refine WDO.nilS (WD.seqR ?_)
  have hfs := hx.f.keep0 k30 (by omega)
  have hlf := hfs.len
  by_cases c1 : e1 = 0
  rotate_left
  · refine lkD 2 [xM 4 15, xC akNeq 15 0 16] (by simp (disch := omega) [c1]; exact rfl) ?_
    refine cdT ?_
    refine leD 4 [xM 4 17, ⟨lkMove (.const (.slice none 0 0)), (some 2), none⟩, ⟨lkMove (.const (.slice none 0 0)), (some 3), none⟩, xM 17 4] ?_
    refine WDO.nilS (WD.ret (endR _ (by simp; rfl) ⟨.snil, .snil, ?_, k30⟩))
    have : laidE x = e1 := by unfold laidE; rw [he1, if_pos c1]
    rw [this]; rfl
  · refine lkD 2 [xM 4 15, xC akNeq 15 0 16] (by simp (disch := omega) [c1]; exact rfl) ?_
    refine cdF ?_
    have hlaid : laidE x = laidE x ∧ (encode (Its.ofL [x.key])).2 = 0 := ⟨rfl, by rw [he1, c1]⟩
    refine WD.seq (WD.seqR ?_)
    by_cases c2 : 32 < x.fs.length
    · refine lkD 4 [xF 1 4 18, xL 18 19, xN 19 20, xC akGtr 20 32 21] (by simp (disch := omega) [g13, gv, hlf, decT]; exact rfl) ?_
      refine cdT ?_
      refine leD 3 qM19_1 ?_
      refine WDO.nilS (WD.ret (endR _ (by simp; rfl) ⟨.snil, .snil, ?_, k30⟩))
      have : laidE x = 192 := by unfold laidE; rw [if_neg (by rw [hlaid.2]; simp), if_pos (.inl c2)]
      rw [this]; rfl
    · refine lkD 4 [xF 1 4 18, xL 18 19, xN 19 20, xC akGtr 20 32 21] (by simp (disch := omega) [g13, gv, hlf, decF]; exact rfl) ?_
      refine cdF ?_
      refine WD.seqR ?_
      refine leD 1 [⟨lkMove (.const (.slice none 0 0)), (some 5), none⟩] ?_
      refine WDO.nilS (WD.seq (WD.seqR ?_))
      refine lkD 4 [xF 1 4 22, xL 22 23, xN 23 24, xK 0 25] (by simp (disch := omega) [g13, gv, hlf]; exact rfl) ?_
      refine WDO.nilS ?_
      refine WD.forR (σ := Nat × AV) (fun s => [(1, .ptr n1 0), (2, q1), (4, .int .i64 0), (5, s.2), (23, r.w), (24, .int .i64 (x.fs.length : Int)), (25, .int .i64 (s.1 : Int))]) (fun s H' => s.1 ≤ x.fs.length ∧ namesTo x.fs s.1 ∧ OwnI H' H3.next n1 s.2 (pairs (x.fs.take s.1)) ∧ Keep noB H3 H') (fun s => x.fs.length - s.1) (0, .snil) ⟨Nat.zero_le _, namesTo_zero _, OwnI.nil _ _ _, Keep.refl _ _⟩ (by simp []) ?_
      rintro ⟨i, c⟩ H' ⟨hi, hto, ho, hk⟩
      simp only at hi hto ho
      have n4 := hk.1
      have kk := k30.trans hk
      have g14 := hk.get (by omega) id g13
      refine leD 1 [xB akLss 25 24 26] ?_
      refine WDO.nil ⟨decide (i < x.fs.length), _, rfl, by simp, fun hc => ?_, fun hc => ?_⟩
      · have hc : i = x.fs.length := by have := of_decide_eq_false hc; omega
        subst hc
        rw [List.take_length] at ho
        have hps := pairs_size x.fs fun g hg => ⟨fieldB_len (namesTo_field hto g hg), (hok.fs g hg).2.1⟩
        have hpr := pairs_rng x.fs fun g hg => (hok.fs g hg).2.2
        have hmul : x.fs.length * 2097248 ≤ 32 * 2097248 := Nat.mul_le_mul_right _ (by omega)
        refine WD.seq (WD.seqR ?_)
        refine leD 1 [xM 5 60] ?_
        refine WDO.callF (g := 41) rfl rfl rfl (by kernel_rfl) (l := .cons c .nil) (by simp) (Encode_ok (ho.says (by omega)) (Nat.le_refl _) (hG3.keep hk fun _ _ => id) (by omega) hpr) fun u H5 ⟨q2, hu, ho5, k5⟩ => ?_
        subst hu
        have kk5 := kk.trans k5
        have hl : laidE x = (encode (Its.ofL (pairs x.fs))).2 := by unfold laidE; rw [if_neg (by rw [hlaid.2]; simp), if_neg (by simp only [not_or, Classical.not_not]; exact ⟨c2, hto⟩)]
        clear ho5 hps
        generalize (encode (Its.ofL (pairs x.fs))).2 = e2 at hl ⊢
        refine leD 5 [xM 61 59, xE 59 0 62, xE 59 1 63, xM 62 3, xM 63 4] ?_
        refine WDO.nilS (WD.seqR ?_)
        by_cases c5 : e2 = 0
        · refine lkD 2 [xM 4 64, xC akNeq 64 0 65] (by simp (disch := omega) [c5]; exact rfl) ?_
          refine cdF ?_
          refine WD.seqR ?_
          refine leD 5 [xM 2 67, xM 3 68, xM 67 2, xM 68 3, xK 0 4] ?_
          exact WDO.nilS (WD.ret (endR _ (by simp; rfl) ⟨_, _, by rw [hl, c5]; rfl, kk5⟩))
        · refine lkD 2 [xM 4 64, xC akNeq 64 0 65] (by simp (disch := omega) [c5]; exact rfl) ?_
          refine cdT ?_
          refine leD 4 [xM 4 66, ⟨lkMove (.const (.slice none 0 0)), (some 2), none⟩, ⟨lkMove (.const (.slice none 0 0)), (some 3), none⟩, xM 66 4] ?_
          exact WDO.nilS (WD.ret (endR _ (by simp; rfl) ⟨.snil, .snil, by rw [hl]; rfl, kk5⟩))
      · have hc : i < x.fs.length := of_decide_eq_true hc
        obtain ⟨f, hf⟩ := getS hc
        have hfm := List.mem_of_getElem? hf
        have hfs' := hx.f.keep0 kk (by omega)
        obtain ⟨b', off', cap', o', u', e1', _, e3', e4', e5', e6', e7', e8', e9', e10', e11', e12'⟩ := hfs'.at hf
        have badE : ¬ namesTo x.fs x.fs.length → laidE x = 192 := fun h => by unfold laidE; rw [if_neg (by rw [hlaid.2]; simp), if_pos (.inr h)]
        refine WD.seqR ?_
        refine lkD 3 [xM 25 27, xI 5 23 25 28, xD 5 28 29] (by simp (disch := omega) [e1', e4', e12', hc]; exact rfl) ?_
        refine WDO.fresh1 tyOk (k := ⟨frAlloc (.cs 76 5 5 false (.cons (.str 0 0) (.cons (.int .i64 0) (.cons (.int .i64 0) (.cons (.str 0 0) (.cons .snil .nil))))) .e)⟩) (by kernel_rfl) rfl (by kernel_rfl) (v := .ptr H'.next 0) (x := .cs 76 5 5 false zFv .e) ?_ ?_
        · simp [zFv]
        have b5 := Bx.new (enc := encF) (e := 76) (es := 5) (z := zFv) (a := zeroFv) encF_len rfl H' (n := 5) rfl
        obtain ⟨G2, s1, s2, s3, s4⟩ := b5.store encF_len ⟨f.nm, f.it.k, f.it.n, f.it.t, u', e10'.cell⟩ (cells_f _)
        have kG : Keep noB H' G2 := (Keep.new _ _ _).trans' s4 fun b hb e => by omega
        refine leD 1 [xM 27 6] ?_
        refine WDO.heavy1 tyOk extOk (k := ⟨hvStore ⟨stN 5⟩ (.tmp 7) (.tmp 29)⟩) (by kernel_rfl) rfl (by kernel_rfl) (by simp only [encF, avl_cons, avl_nil] at s1; simp [s1]; exact ⟨rfl, rfl⟩) ?_
        obtain ⟨o5, p1, p2, p3⟩ := s3.get encF_len
        have p0 : rdCell o5 0 = some (sb f.nm) := p2 0 _ rfl
        have p4 : rdCells o5 4 1 = some (avl [.int .i64 f.it.k, .int .i64 f.it.n, sb f.it.t, u']) := rdCells_of _ _ fun j w hj => by
          have := p2 (j + 1) w (by simpa [encF] using hj)
          rwa [Nat.add_comm] at this
        have hnG : H'.next < G2.next := by rw [s2]; simp
        have ho2 := ho.keep kG (by omega) (by omega) (fun b h => h.elim) fun _ _ => id
        have hfsG := hfs'.keep0 kG (by omega)
        have g14G := kG.get (by omega) id g14
        have e4G := kG.get (by omega) id e4'
        have e10G := e10'.keep0 kG (by omega)
        have kkG := kk.trans kG
        generalize hn5 : H'.next = n5 at *
        clear b5 s1 s3 s4 p2 p3
        refine WDO.nilS (WD.seq (WD.seq ?_))
        refine WD.mono (Q := fun o => ∃ l' bad, o = .nor (tl l') [] G2 ∧ lsub [(1, .ptr n1 0), (2, q1), (4, .int .i64 0), (5, c), (7, .ptr n5 0), (23, r.w), (24, .int .i64 (x.fs.length : Int)), (25, .int .i64 (i : Int)), (49, .bool bad)] l' ∧ (bad = false → fieldB f.nm = true ∧ namesTo x.fs (i + 1)) ∧ (bad = true → laidE x = 192)) ?_ ?_
        · cases hfb : fieldB f.nm with
          | false =>
            refine WD.keep (l := [(1, .ptr n1 0), (2, q1), (4, .int .i64 0), (5, c), (6, .int .i64 (i : Int)), (7, .ptr n5 0), (23, r.w), (24, .int .i64 (x.fs.length : Int)), (25, .int .i64 (i : Int))]) ?_ (by simp [e1'])
            obtain ⟨R, hR, hRc⟩ := specR_ex Tryz.prog (fun _ _ Hx u H2 => u = .bool (fieldB f.nm) ∧ H2 = Hx)
            refine WD.drawnK tyOk extOk (by kernel_rfl) (ls := qM19_2) (by kernel_rfl) hR fun K hK => ?_
            simp (disch := omega) [p1, p0]
            obtain ⟨u, Hx, q2, rfl, rfl⟩ := hRc 88 _ _ (isField_ok (H := G2) (hok.fs f hfm).1)
            refine diCall (by simp) (extFree _ _ _ rfl rfl rfl) q2 (Nat.le_refl _) ?_
            rw [hfb]
            have hw : (some (oc (onBool undefA some) false fun b => b)) = some false := rfl
            simp (disch := omega) [p1, p0, hw]
            refine hK _ _ ?_
            exact ⟨_, true, rfl, by simp [e1'], by simp, fun _ => badE (namesTo_bad hf (.inl hfb))⟩
          | true =>
            have step : (∀ (m : Nat) (g : Fld), m + 1 = i → x.fs[m]? = some g → Op.bytesLess g.nm f.nm = true) → namesTo x.fs (i + 1) := fun h => namesTo_succ hto hf hfb h
            cases i with
            | zero =>
              refine WD.keep (l := [(1, .ptr n1 0), (2, q1), (4, .int .i64 0), (5, c), (6, .int .i64 ((0 : Nat) : Int)), (7, .ptr n5 0), (23, r.w), (24, .int .i64 (x.fs.length : Int)), (25, .int .i64 ((0 : Nat) : Int))]) ?_ (by simp [e1'])
              obtain ⟨R, hR, hRc⟩ := specR_ex Tryz.prog (fun _ _ Hx u H2 => u = .bool (fieldB f.nm) ∧ H2 = Hx)
              refine WD.drawnK tyOk extOk (by kernel_rfl) (ls := qM19_2) (by kernel_rfl) hR fun K hK => ?_
              simp (disch := omega) [p1, p0]
              obtain ⟨u, Hx, q2, rfl, rfl⟩ := hRc 88 _ _ (isField_ok (H := G2) (hok.fs f hfm).1)
              refine diCall (by simp) (extFree _ _ _ rfl rfl rfl) q2 (Nat.le_refl _) ?_
              rw [hfb]
              simp (disch := omega) [p1, p0]
              refine hK _ _ ⟨_, false, rfl, by simp [e1'], fun _ => ⟨rfl, step fun m g h => by omega⟩, by simp⟩
            | succ j =>
              have hj : j < x.fs.length := by omega
              obtain ⟨g, hg⟩ := getS hj
              obtain ⟨b2, off2, cap2, o2', u2, q1', _, q3', q4', q5', _⟩ := hfsG.at hg
              rw [e1'] at q1'
              cases q1'
              rw [e4G] at q4'
              cases q4'
              have gI : ((j + 1 : Nat) : Int) - 1 = (j : Int) := by omega
              have gP : decide ((0 : Int) < ((j + 1 : Nat) : Int)) = true := decide_eq_true (by omega)
              have gJ : ((j + 1 : Nat) : Int) < 9223372036854775808 := by have := hok.n; omega
              have gJ0 : (0 : Int) < ((j + 1 : Nat) : Int) := by omega
              refine WD.keep (l := [(1, .ptr n1 0), (2, q1), (4, .int .i64 0), (5, c), (6, .int .i64 ((j + 1 : Nat) : Int)), (7, .ptr n5 0), (23, r.w), (24, .int .i64 (x.fs.length : Int)), (25, .int .i64 ((j + 1 : Nat) : Int))]) ?_ (by simp [e1'])
              generalize ((j + 1 : Nat) : Int) = J at gI gP gJ gJ0 ⊢
              obtain ⟨R, hR, hRc⟩ := specR_ex Tryz.prog (fun _ _ Hx u H2 => u = .bool (fieldB f.nm) ∧ H2 = Hx)
              refine WD.drawnK tyOk extOk (by kernel_rfl) (ls := qM19_2) (by kernel_rfl) hR fun K hK => ?_
              simp (disch := omega) [p1, p0]
              obtain ⟨u, Hx, q2, rfl, rfl⟩ := hRc 88 _ _ (isField_ok (H := G2) (hok.fs f hfm).1)
              refine diCall (by simp) (extFree _ _ _ rfl rfl rfl) q2 (Nat.le_refl _) ?_
              rw [hfb]
              simp (disch := omega) [p1, p0, gP, g14G, gv, e1', e4G, q5', gI]
              refine hK _ _ ⟨_, !Op.bytesLess g.nm f.nm, rfl, by simp [e1'], fun h => ⟨rfl, step fun m g' hm hg' => by
                obtain rfl : m = j := by omega
                rw [hg] at hg'; cases hg'; simpa using h⟩, fun h => badE (namesTo_bad hf (.inr ⟨j, g, rfl, hg, by simpa using h⟩))⟩
        · rintro o5' ⟨l', bad, rfl, hs, hgood, hbad⟩
          refine WD.keep ?_ hs
          cases bad with
          | true =>
            refine WD.cond (t := true) (by simp) (fun _ => WD.seqR ?_) (by simp)
            refine leD 3 qM19_1 ?_
            exact WDO.nilS (WD.ret (endR _ (by simp; rfl) ⟨.snil, .snil, by rw [hbad rfl]; rfl, kkG⟩))
          | false =>
            refine WD.cond (t := false) (by simp) (by simp) fun _ => WD.skip (.inl rfl) ?_
            obtain ⟨hfb, hto2⟩ := hgood rfl
            have ht := take_snoc hf
            clear hgood hbad badE
            obtain ⟨R, hR, hRc⟩ := specR_ex Tryz.prog (fun _ _ Hx u H2 => u = itA 6 0 f.nm .snil ∧ Keep noB Hx H2)
            refine WD.drawnK tyOk extOk (by kernel_rfl) (ls := [zM 5 50 0 2, zF 7 0 51 0 1, zL 51 52 0 1, zF 7 1 54 0 2, ⟨[54], .look (⟨ldA ⟨ldN 4⟩ (.tmp 54)⟩), (some 55), none, 0, 2, false, false⟩, ⟨[52], .heavy ⟨hvCallF E 89 (opnds [(.tmp 52)])⟩, (some 53), none, 0, 2, false, true⟩, ⟨[53, 55], .fresh ⟨frSlice 2 (zerosA (.cons (.int .i64 0) (.cons (.int .i64 0) (.cons (.str 0 0) (.cons .snil .nil)))) 2) ⟨fill1 (.tmp 53) 0 4 ⟨fill1 (.tmp 55) 4 4 flEnd⟩⟩ ⟨mkCs 27 4 (.cons (.int .i64 0) (.cons (.int .i64 0) (.cons (.str 0 0) (.cons .snil .nil))))⟩⟩, (some 56), none, 1, 1, false, false⟩, ⟨[50, 56], .heavy ⟨hvAppend ⟨grownCs 4 ⟨mkCs 27 4 (.cons (.int .i64 0) (.cons (.int .i64 0) (.cons (.str 0 0) (.cons .snil .nil))))⟩⟩ 4 (.tmp 50) (.tmp 56)⟩, (some 57), none, 1, 2, false, true⟩, zM 57 5 2 1]) (by kernel_rfl) hR fun K hK => ?_
            iterate 2 (refine diLookP (by simp [-resL_cons, resL_cc]; exact rfl) (by simp (disch := omega) []; exact rfl) ?_)
            refine diLookC (by simp [-resL_cons, resL_cc]; exact rfl) (by simp (disch := omega) [p1, p0]; exact rfl) ?_
            refine diLookP (by simp [-resL_cons, resL_cc]; exact rfl) (by simp (disch := omega) []; exact rfl) ?_
            refine diLookC (by simp [-resL_cons, resL_cc]; exact rfl) (by simp (disch := omega) [p1, p4]; exact rfl) ?_
            obtain ⟨uw, Hc, q2, rfl, kc⟩ := hRc 89 _ _ (word89_ok (H := G2) (t := f.nm))
            refine diCallF (by simp [-resL_cons, resL_cc]; exact rfl) (by simp) (extFree _ _ _ rfl rfl rfl) q2 kc.1 ?_
            have nc := kc.1
            obtain ⟨ox, fx, bx⟩ := frSlice_els (enc := encI) (e := 27) (es := 4) (z := zIv) (els := [⟨6, 0, f.nm, .snil, rfl⟩, ⟨f.it.k, f.it.n, f.it.t, u', e10'.cell⟩]) encI_len (n := 2) (z0 := zerosA zIv 2) (g := ⟨fill1 (.tmp 53) 0 4 ⟨fill1 (.tmp 55) 4 4 flEnd⟩⟩) (T := tl [(53, itA 6 0 f.nm .snil), (55, itA f.it.k f.it.n f.it.t u')]) (b0 := Hc.next) (by rfl) rfl
            refine diFresh (by first | (simp [-resL_cons, resL_cc]; done) | (simp [-resL_cons, resL_cc]; exact rfl)) (l2 := [(53, itA 6 0 f.nm .snil), (55, itA f.it.k f.it.n f.it.t u')]) (o := ox) (v := .sl Hc.next 0 2 (some 2)) (by exact fx) ?_
            have kn : Keep noB Hc (Hc.new ox) := Keep.new _ _ _
            have gn : (Hc.new ox).get Hc.next = some ox := get_new_same _ _
            have nn : (Hc.new ox).next = Hc.next + 1 := by simp
            have kcn := kc.trans kn
            have nG := kG.1
            have hyi : AsIts (Hc.new ox) n1 [⟨6, 0, f.nm, .snil, rfl⟩, ⟨f.it.k, f.it.n, f.it.t, u', e10'.cell⟩] [⟨6, 0, f.nm, .nil⟩, f.it] := ((AsIts.nil _ _).snoc (c := ⟨6, 0, f.nm, .snil, rfl⟩) (x := ⟨6, 0, f.nm, .nil⟩) rfl rfl rfl (.inl ⟨rfl, rfl⟩)).snoc (c := ⟨f.it.k, f.it.n, f.it.t, u', e10'.cell⟩) (x := f.it) rfl rfl rfl (e10G.keep kcn (by omega) (fun _ _ => id) hN)
            have hpl := pairs_len (x.fs.take i)
            have hon := hok.n
            obtain ⟨c', Ha, a1, a2, a3, a4, a5⟩ := (ho2.keep kcn (by omega) (by omega) (fun b h => h.elim) fun _ _ => id).appN (x := .sl Hc.next 0 2 (some 2)) (by omega) (by omega) (SaysE.of gn bx (N := Hc.next + 1) (by omega)) (by simp) hyi (by rw [hpl]; simp; omega)
            refine diHeavy (by simp [-resL_cons, resL_cc]; exact rfl) (v := c') (H2 := Ha) (by simp; exact a1) (by omega) ?_
            simp only [putA_some]
            refine diLookP (by simp [-resL_cons, resL_cc]; exact rfl) (by simp (disch := omega) []; exact rfl) ?_
            have p1c := kc.get (by omega) id p1
            have p1n := kn.get (by omega) id p1c
            simp only [diRun_nil, List.reverse_cons, List.reverse_nil, List.nil_append, List.cons_append, chkAdd_f, chkBlk_f, atAll_s, atAll_z, and_true, true_and]
            refine ⟨by simp (disch := omega) [p1, p1n, p0, p4]; obtain ⟨t, rfl⟩ := bx.opn; trivial, hK _ _ ?_⟩
            clear hK hRc hR q2
            have kf : Keep noB H3 Ha := ((hk.trans kG).trans kcn).trans' a5 fun b hb e => by have := (ho.low e).1; omega
            refine leD 2 [xC akAdd 25 1 58, xM 58 25] ?_
            exact WDO.nil ⟨rfl, (i + 1, c'), _, rfl, by simp, ⟨by simp only; omega, hto2, by simp only; rw [ht, pairs_snoc]; exact a2, kf⟩, by simp only; omega⟩
end
end Go.Proofs.YtfgipbjaapkdlaaGreatDoor
