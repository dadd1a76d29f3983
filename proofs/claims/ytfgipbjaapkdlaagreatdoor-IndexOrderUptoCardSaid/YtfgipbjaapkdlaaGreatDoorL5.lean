/- A part of the proof of this seat's statement. Conditions: in each theorem. -/
import Derived.Test.YtfgipbjaapkdlaaGreatDoorL4
namespace Go.Proofs.YtfgipbjaapkdlaaGreatDoor
open Go.Xq
noncomputable section
theorem frStr_new {H : AH} (t : List UInt8) : RdS (H.new (bb 5 true t)) (.sl H.next 0 t.length none) t := .bb' rfl (by simp) (get_new_same _ _)
set_option maxHeartbeats 2000000 in
theorem encode_ok : ∀ (z : Nat) {l : Its} {H : AH} {N d lo : Nat} {v w : AV} {k : List UInt8}, l.size ≤ z → SaysI H N v l → OwnB 5 H lo w k → N ≤ lo → lo ≤ H.next → l.size < 134217728 → k.length + l.enc.length < 4294967296 → l.rng → l.chk d = 0 →
    DC Tryz.prog .normal 91 (.cons w (.cons v .nil)) H fun v' H2 => OwnB 5 H2 lo v' (k ++ l.enc) ∧ Keep (fun b => blk w = some b) H H2 ∧ ∀ b, blk v' = some b → blk w = some b ∨ H.next ≤ b
  | z, l, H, N, d, lo, v, w, k, hz, hv, hw, hNlo, hlo, hsz, hkl, hrng, hchk => by
    refine DC.of_wd (re := reTmp 4 reNil) tyOk Tryz.func91 (by kernel_rfl) rfl (by kernel_rfl) (by kernel_rfl) ?_
    rw [tl_nil, argsT_cons, argsT_cons, argsT_nil]
    have hlen := hv.len
    have hls := l.len_le
    have hel := l.enc_len
    refine WD.seqR ?_
    refine leD 1 [⟨lkMove (.const (.slice none 0 0)), (some 4), none⟩] ?_
    refine WDO.nilS (WD.seq (WD.seqR ?_))
    refine lkD 3 [xM 1 7, xN 7 8, xK 0 9] (by simp (disch := omega) [hlen]; exact rfl) ?_
    refine WDO.nilS ?_
    refine WD.forR (σ := Nat × AV) (fun s => [(7, v), (8, .int .i64 (l.len : Int)), (0, s.2), (9, .int .i64 (s.1 : Int))]) (fun s H' => s.1 ≤ l.len ∧ OwnB 5 H' lo s.2 (k ++ l.encTo s.1) ∧ Keep (fun b => blk w = some b) H H' ∧ ∀ b, blk s.2 = some b → blk w = some b ∨ H.next ≤ b) (fun s => l.len - s.1) (0, w) ⟨Nat.zero_le _, by rw [Its.encTo_zero, List.append_nil]; exact hw, Keep.refl _ _, fun b h => .inl h⟩ (by simp) ?_
    rintro ⟨i, c⟩ H' ⟨hi, ho, hk, hb⟩
    simp only at hi ho hb
    have hel1 := l.encTo_le i
    refine leD 1 [xB akLss 9 8 10] ?_
    refine WDO.nil ⟨decide (i < l.len), _, rfl, by simp, fun hc => ?_, fun hc => ?_⟩
    · have hc : i = l.len := by have := of_decide_eq_false hc; omega
      subst hc
      rw [Its.encTo_all] at ho
      refine WD.seqR ?_
      refine leD 2 [xM 0 54, xM 54 4] ?_
      refine WDO.nilS (WD.ret (endR _ (by simp; rfl) ?_))
      exact ⟨ho, hk, hb⟩
    · have hc : i < l.len := of_decide_eq_true hc
      obtain ⟨x, hx⟩ := l.get_some i hc
      obtain ⟨hib, hsub⟩ := Its.chk_item hchk hx
      have hkd := itemB_kind hib
      have hsx := Its.size_get hx
      obtain ⟨hxn, hxr⟩ := Its.rng_get hrng hx
      have hes := Its.encTo_succ hx
      have hel2 := l.encTo_le (i + 1)
      have hes2 := congrArg List.length hes
      rw [List.length_append] at hes2
      obtain ⟨b, off, cap, o, u, e1, _, e3, e4, e5, e6, e7, e8, e9, e10⟩ := hv.at hx
      have hNw : ∀ b, b < N → ¬ (blk w = some b) := fun b h e => by have := (hw.low e).1; omega
      have old : ∀ {H2 : AH}, Keep (fun b => blk w = some b) H H2 → H2.get b = some o := fun hkk => hkk.get (by omega) (hNw _ e3) e4
      have n0 := hk.1
      obtain ⟨y, hy⟩ : ∃ y, y = UInt8.ofNat (16 + x.k.toNat) := ⟨_, rfl⟩
      have gy : (16 + x.k) % 256 = (y.toNat : Int) := by
        rw [hy, u8_of]
        congr 1
        omega
      have hE1 : ∀ e, Its.enc1 x.k x.n x.t e = y :: (if x.k = 3 then intB x.n else if x.k = 4 then fixedL (turned x.n) 8 else if x.k = 5 ∨ x.k = 6 then ordB x.t else if x.k = 7 then e ++ [0] else []) := fun e => by rw [hy]; rfl
      rw [hE1] at hes hes2
      clear hE1 hy
      have g0 := old hk
      refine WD.seqR ?_
      refine lkD 2 [xI 4 7 9 11, xD 4 11 12] (by simp (disch := omega) [e1, g0, e10, hc]; exact rfl) ?_
      refine WDO.fresh1 tyOk (k := ⟨frAlloc (.cs 27 4 4 false (.cons (.int .i64 0) (.cons (.int .i64 0) (.cons (.str 0 0) (.cons .snil .nil)))) .e)⟩) (by kernel_rfl) rfl (by kernel_rfl) (v := .ptr H'.next 0) (x := .cs 27 4 4 false zIv .e) ?_ ?_
      · simp [zIv]
      have b1 := Bx.new (enc := encI) (e := 27) (es := 4) (z := zIv) (a := zeroIv) encI_len rfl H' (n := 4) rfl
      obtain ⟨H1, s1, s2, s3, s4⟩ := b1.store encI_len ⟨x.k, x.n, x.t, u, e9.cell⟩ (cells_iv _)
      have k1' : Keep noB H' H1 := (Keep.new _ _ _).trans' s4 fun b hb e => by omega
      refine WDO.heavy1 tyOk extOk (k := ⟨hvStore ⟨stN 4⟩ (.tmp 6) (.tmp 12)⟩) (by kernel_rfl) rfl (by kernel_rfl) (by simp only [encI, avl_cons, avl_nil] at s1; simp [s1]; exact ⟨rfl, rfl⟩) ?_
      obtain ⟨o1, g1, g2, g3⟩ := s3.get encI_len
      have gk : rdCell o1 0 = some (.int .i64 x.k) := g2 0 _ rfl
      have gn : rdCell o1 1 = some (.int .i64 x.n) := g2 1 _ rfl
      have gt : rdCell o1 2 = some (sb x.t) := g2 2 _ rfl
      have gu : rdCell o1 3 = some u := g2 3 _ rfl
      have k1 : Keep (fun b => blk w = some b) H H1 := hk.trans' k1' fun b hb e => e.elim
      have hn1 : H'.next < H1.next := by rw [s2]; simp
      have ho1 := ho.keep k1' fun _ _ => id
      have hc1 : ∀ b, blk c = some b → b < H'.next := fun b e => (ho.low e).2
      clear b1 s1 s2 s3 s4 g2 g3
      generalize H'.next = n1 at g1 hn1 n0 hc1 ⊢
      clear ho hk k1' hi
      clear g0
      obtain ⟨v1, H2, a1, a2, a3, a4⟩ := ho1.push (by omega) y (by simp; omega)
      have k2 : Keep (fun b => blk w = some b) H H2 := k1.own a3 fun b e => (hb b e)
      have g1' := a3.get hn1 (fun e => by have := hc1 _ e; omega) g1
      have n2 := a3.1
      have hb1 : ∀ b, blk v1 = some b → blk w = some b ∨ H.next ≤ b := fun b e => by
        rcases a4 b e with h | h
        · exact hb b h
        · exact .inr (by omega)
      refine WDO.nilS (WD.seqR ?_)
      refine lkD 5 [xM 0 13, xF 6 0 14, xL 14 15, ⟨⟨binInt akAdd (.const (.int .i64 16)) (.tmp 15)⟩, (some 16), none⟩, ⟨⟨cvInt .u8 (.tmp 16)⟩, (some 17), none⟩] (by simp (disch := omega) [g1, gk, gy]; exact rfl) ?_
      refine WDO.fresh1 tyOk (k := ⟨frSlice 1 (zerosA (.cons (.int .u8 0) .nil) 1) ⟨fill1 (.tmp 17) 0 1 flEnd⟩ ⟨mkBy 5⟩⟩) (by kernel_rfl) rfl (by kernel_rfl) (v := .sl H1.next 0 1 (some 1)) (x := bb 5 false [y]) ?_ ?_
      · simp [mkBy, leA_1, bb]
      refine WDO.heavy1 tyOk extOk (k := ⟨hvAppend ⟨grownBy 5⟩ 1 (.tmp 13) (.tmp 18)⟩) (by kernel_rfl) rfl (by kernel_rfl) (by simp; exact a1) ?_
      refine leD 1 [xM 19 0] ?_
      refine WDO.nilS (WD.seqR ?_)
      refine lkD 2 [xF 6 0 20, xL 20 21] (by simp (disch := omega) [g1', gk]; exact rfl) ?_
      refine WDO.nilS ?_
      refine WD.mono (Q := fun o => ∃ (l' : List (Nat × AV)) (c' : AV) (H5 : AH), o = .nor (tl l') [] H5 ∧ lsub [(7, v), (8, .int .i64 (l.len : Int)), (0, c'), (9, .int .i64 (i : Int))] l' ∧ OwnB 5 H5 lo c' (k ++ l.encTo (i + 1)) ∧ Keep (fun b => blk w = some b) H H5 ∧ ∀ b, blk c' = some b → blk w = some b ∨ H.next ≤ b) (WD.block ?_) ?_
      · rw [hes]
        have hlen1 : (k ++ l.encTo i ++ [y]).length = k.length + (l.encTo i).length + 1 := by simp; omega
        have app : ∀ {H3 : AH} {r : AV} {m : List UInt8}, Keep noB H2 H3 → RdS H3 r m → m.length < 4294967296 → ∃ v2 H4, appendA ⟨grownBy 5⟩ 1 H3 v1 r = some (v2, H4) ∧ OwnB 5 H4 lo v2 (k ++ (l.encTo i ++ y :: m)) ∧ Keep (fun b => blk w = some b) H H4 ∧ ∀ b, blk v2 = some b → blk w = some b ∨ H.next ≤ b := by
          intro H3 r m kk hr hm
          have n3 := kk.1
          obtain ⟨v2, H4, b1, b2, b3, b4⟩ := (a2.keep kk fun _ _ => id).more (by omega) hr (by rw [hlen1]; omega)
          refine ⟨v2, H4, b1, ?_, (k2.trans' kk fun b hb e => e.elim).own b3 fun b e => hb1 b e, fun b e => ?_⟩
          · simp only [List.append_assoc, List.singleton_append] at b2 ⊢
            exact b2
          · rcases b4 b e with h | h
            · exact hb1 b h
            · exact .inr (by omega)
        by_cases k3 : x.k = 3
        · rw [k3] at gk hes2 ⊢
          simp only [if_true, List.length_cons] at hes2
          rw [if_pos rfl]
          refine WD.seqR ?_
          refine leD 2 [xC akEql 21 3 23, xM 23 22] ?_
          refine WDO.nilS (WD.cond (t := true) (by simp) (fun _ => WD.region ?_) (by simp))
          refine lkD 3 [xM 0 24, xF 6 1 25, xL 25 26] (by simp (disch := omega) [g1', gn]; exact rfl) ?_
          refine WDO.callF (g := 129) rfl rfl rfl (by kernel_rfl) (l := .cons v1 (.cons (.int .i64 x.n) .nil)) (by simp) (integer_ok hxn.1 hxn.2 a2 (by omega) (by rw [hlen1]; omega)) fun r H3 ⟨hr, kr, br⟩ => ?_
          refine leD 1 [xM 27 0] ?_
          exact WDO.nil ⟨_, r, H3, rfl, by simp [e1], by simp only [List.append_assoc, List.singleton_append] at hr ⊢; exact hr, k2.own kr fun b e => hb1 b e, fun b e => by
            rcases br b e with h | h
            · exact hb1 b h
            · exact .inr (by omega)⟩
        · rw [if_neg k3] at hes2 ⊢
          refine WD.seqR ?_
          refine lkD 2 [xC akEql 21 3 23, xM 23 22] (by simp (disch := omega) [k3]; exact rfl) ?_
          refine WDO.nilS (WD.cond (t := false) (by simp) (by simp) fun _ => WD.seqR ?_)
          by_cases k4 : x.k = 4
          · rw [k4] at gk hes2 ⊢
            simp only [if_true, List.length_cons] at hes2
            rw [if_pos rfl]
            refine leD 2 [xC akEql 21 4 29, xM 29 28] ?_
            refine WDO.nilS (WD.cond (t := true) (by simp) (fun _ => WD.region ?_) (by simp))
            refine lkD 3 [xM 0 30, xF 6 1 31, xL 31 32] (by simp (disch := omega) [g1', gn]; exact rfl) ?_
            refine WDO.callF (g := 95) rfl rfl rfl (by kernel_rfl) (l := .cons (.int .i64 x.n) .nil) (by simp) (sorted_ok hxn.1 hxn.2) fun r H3 ⟨hr, hH⟩ => ?_
            subst hr
            subst hH
            refine WDO.callF (g := 130) rfl rfl rfl (by kernel_rfl) (l := .cons (.int .u64 ((turned x.n : Nat) : Int)) (.cons (.int .i64 8) .nil)) (by simp) (fixedInk_ok (turned_lt hxn.1 (by omega)) (w := 8) (by omega) (by omega)) fun r H3 ⟨hr, hn, hg, kr⟩ => ?_
            subst hr
            obtain ⟨v2, H4, b1, b2, b3, b4⟩ := app kr (.bb' (fixedL_len _ _).symm (by omega) hg) (by rw [fixedL_len]; omega)
            refine WDO.heavy1 tyOk extOk (k := ⟨hvAppend ⟨grownBy 5⟩ 1 (.tmp 30) (.tmp 34)⟩) (by kernel_rfl) rfl (by kernel_rfl) (by simp; exact b1) ?_
            refine leD 1 [xM 35 0] ?_
            exact WDO.nil ⟨_, v2, H4, rfl, by simp [e1], b2, b3, b4⟩
          · rw [if_neg k4] at hes2 ⊢
            refine lkD 2 [xC akEql 21 4 29, xM 29 28] (by simp (disch := omega) [k4]; exact rfl) ?_
            refine WDO.nilS (WD.cond (t := false) (by simp) (by simp) fun _ => ?_)
            by_cases k56 : x.k = 5 ∨ x.k = 6
            · rw [if_pos k56] at hes2 ⊢
              simp only [List.length_cons] at hes2
              refine WD.seq (WD.mono (Q := fun o => ∃ l', o = .nor (tl l') [] H2 ∧ lsub [(7, v), (8, .int .i64 (l.len : Int)), (0, v1), (9, .int .i64 (i : Int)), (6, .ptr n1 0), (36, .bool true)] l') (WD.seqR ?_) ?_)
              · rcases k56 with k5 | k5
                · refine lkD 2 [xC akEql 21 5 37, xM 37 36] (by simp (disch := omega) [k5]; exact rfl) ?_
                  refine WDO.nilS (WD.cond (t := true) (by simp) (fun _ => WD.skip (.inl rfl) ?_) (by simp))
                  exact ⟨_, rfl, by simp [e1]⟩
                · refine lkD 2 [xC akEql 21 5 37, xM 37 36] (by simp (disch := omega) [k5]; exact rfl) ?_
                  refine WDO.nilS (WD.cond (t := false) (by simp) (by simp) fun _ => WD.region ?_)
                  refine leD 2 [xC akEql 21 6 38, xM 38 36] ?_
                  exact WDO.nil ⟨_, rfl, by simp [e1]⟩
              · rintro o' ⟨l', rfl, hs⟩
                refine WD.keep ?_ hs
                refine (WD.cond (t := true) (by simp) (fun _ => WD.region ?_) (by simp))
                refine lkD 3 [xM 0 39, xF 6 2 40, xL 40 41] (by simp (disch := omega) [g1', gt]; exact rfl) ?_
                refine WDO.fresh1 tyOk (k := ⟨frStr 5 (.tmp 41)⟩) (by kernel_rfl) rfl (by kernel_rfl) (v := .sl H2.next 0 x.t.length none) (x := bb 5 true x.t) ?_ ?_
                · simp [bb]
                have kf : Keep noB H2 (H2.new (bb 5 true x.t)) := Keep.new _ _ _
                refine WDO.callF (g := 131) rfl rfl rfl (by kernel_rfl) (l := .cons (.sl H2.next 0 x.t.length none) .nil) (by simp) (ordered_ok (frStr_new x.t) (by omega)) fun r H3 ⟨hr, kr⟩ => ?_
                obtain ⟨v2, H4, b1, b2, b3, b4⟩ := app (kf.trans kr) hr.rd (by omega)
                refine WDO.heavy1 tyOk extOk (k := ⟨hvAppend ⟨grownBy 5⟩ 1 (.tmp 39) (.tmp 43)⟩) (by kernel_rfl) rfl (by kernel_rfl) (by simp; exact b1) ?_
                refine leD 1 [xM 44 0] ?_
                exact WDO.nil ⟨_, v2, H4, rfl, by simp [e1], b2, b3, b4⟩
            · rw [if_neg k56] at hes2 ⊢
              have k5 : x.k ≠ 5 := fun h => k56 (.inl h)
              have k6 : x.k ≠ 6 := fun h => k56 (.inr h)
              refine WD.seq (WD.seqR ?_)
              refine lkD 2 [xC akEql 21 5 37, xM 37 36] (by simp (disch := omega) [k5]; exact rfl) ?_
              refine WDO.nilS (WD.cond (t := false) (by simp) (by simp) fun _ => WD.region ?_)
              refine lkD 2 [xC akEql 21 6 38, xM 38 36] (by simp (disch := omega) [k6]; exact rfl) ?_
              refine WDO.nilS (WD.cond (t := false) (by simp) (by simp) fun _ => WD.seqR ?_)
              by_cases k7 : x.k = 7
              · rw [if_pos k7] at hes2 ⊢
                simp only [List.length_cons, List.length_append] at hes2
                have hck : x.s.chk (d + 1) = 0 := by
                  have := hsub k7
                  unfold Its.check at this
                  split at this
                  · omega
                  · exact this
                refine lkD 2 [xC akEql 21 7 46, xM 46 45] (by simp (disch := omega) [k7]; exact rfl) ?_
                refine WDO.nilS (WD.cond (t := true) (by simp) (fun _ => WD.region ?_) (by simp))
                refine lkD 3 [xM 0 47, xF 6 3 48, xL 48 49] (by simp (disch := omega) [g1', gu]; exact rfl) ?_
                refine WDO.callF (g := 91) rfl rfl rfl (by kernel_rfl) (l := .cons v1 (.cons u .nil)) (by simp) (encode_ok (z - 1) (l := x.s) (H := H2) (N := N) (d := d + 1) (v := u) (by omega) (e9.keep k2 (by omega) hNw (Nat.le_refl _)) a2 hNlo (by omega) (by omega) (by rw [hlen1]; omega) hxr hck) fun r H3 ⟨hr, kr, br⟩ => ?_
                have n3 := kr.1
                obtain ⟨v3, H4, c1, c2, c3, c4⟩ := hr.push (by omega) 0 (by rw [List.length_append, hlen1]; omega)
                refine WDO.fresh1 tyOk (k := ⟨frSlice 1 (zerosA (.cons (.int .u8 0) .nil) 1) ⟨fill1 (.const (.int .u8 0)) 0 1 flEnd⟩ ⟨mkBy 5⟩⟩) (by kernel_rfl) rfl (by kernel_rfl) (v := .sl H3.next 0 1 (some 1)) (x := bb 5 false [0]) ?_ ?_
                · have := leA_1 0
                  simp at this
                  simp [mkBy, this, bb]
                have hbr : ∀ b, blk r = some b → blk w = some b ∨ H.next ≤ b := fun b e => by
                  rcases br b e with h | h
                  · exact hb1 b h
                  · exact .inr (by omega)
                refine WDO.heavy1 tyOk extOk (k := ⟨hvAppend ⟨grownBy 5⟩ 1 (.tmp 50) (.tmp 51)⟩) (by kernel_rfl) rfl (by kernel_rfl) (by simp; exact c1) ?_
                refine leD 1 [xM 52 0] ?_
                exact WDO.nil ⟨_, v3, H4, rfl, by simp [e1], by simp only [List.append_assoc, List.singleton_append] at c2 ⊢; exact c2, (k2.own kr fun b e => hb1 b e).own c3 fun b e => hbr b e, fun b e => by
                  rcases c4 b e with h | h
                  · exact hbr b h
                  · exact .inr (by omega)⟩
              · rw [if_neg k7] at hes2 ⊢
                refine lkD 2 [xC akEql 21 7 46, xM 46 45] (by simp (disch := omega) [k7]; exact rfl) ?_
                refine cdF ?_
                exact ⟨_, v1, H2, rfl, by simp [e1], by simp only [List.append_assoc] at a2 ⊢; exact a2, k2, hb1⟩
      · rintro o' ⟨l', c', H5, rfl, hs, ho5, hk5, hb5⟩
        refine WDO.keep ?_ hs
        refine leD 2 [xC akAdd 9 1 53, xM 53 9] ?_
        exact WDO.nil ⟨rfl, (i + 1, c'), _, rfl, by simp, ⟨by simp only; omega, ho5, hk5, hb5⟩, by simp only; omega⟩
termination_by z => z
decreasing_by omega
theorem ownB_wide {H : AH} {e lo lo2 : Nat} {v : AV} {l : List UInt8} (h : OwnB e H lo v l) (hl : lo2 ≤ lo) : OwnB e H lo2 v l := by
  rcases h with h | ⟨b, h1, h2, h3, h4⟩
  · exact .inl h
  · exact .inr ⟨b, h1, h2, by omega, h4⟩
def EncQ (H : AH) (l : Its) (v' : AV) (H2 : AH) : Prop := ∃ u, v' = .tup (.cons u (.cons (.int .i64 (((encode l).2 : Nat) : Int)) .nil)) ∧ OwnB 5 H2 H.next u (encode l).1 ∧ Keep noB H H2
set_option maxHeartbeats 1000000
theorem Encode_ok {l : Its} {H : AH} {N : Nat} {v : AV} (hv : SaysI H N v l) (hN : N ≤ H.next) (hG : GlobU H) (hsz : l.size < 134217728) (hr : l.rng) :
    DC Tryz.prog .normal 41 (.cons v .nil) H fun v' H2 => EncQ H l v' H2 := by
  refine DC.of_wd (re := reTmp 2 (reTmp 3 reNil)) tyOk Tryz.func41 (by kernel_rfl) rfl (by kernel_rfl) (by kernel_rfl) ?_
  rw [tl_nil, argsT_cons, argsT_nil]
  have hel := l.enc_len
  refine WD.seqR ?_
  refine leD 2 [⟨lkMove (.const (.slice none 0 0)), (some 2), none⟩, xK 0 3] ?_
  refine WDO.nilS (WD.seq (WD.seqR ?_))
  refine leD 1 [xM 0 6] ?_
  refine WDO.callF (g := 90) rfl rfl rfl (by kernel_rfl) (l := .cons v .nil) (by simp) (Check_ok hv hN hG (by omega)) fun r H2 ⟨hr0, k2⟩ => ?_
  subst hr0
  refine leD 1 [xM 7 4] ?_
  refine WDO.nilS (WD.seqR ?_)
  have n2 := k2.1
  by_cases hc : l.check 0 = 0
  · refine lkD 2 [xM 4 8, xC akNeq 8 0 9] (by simp (disch := omega) [hc]; exact rfl) ?_
    refine cdF ?_
    refine WD.seqR ?_
    refine leD 1 [xM 0 11] ?_
    have hchk : l.chk 0 = 0 := by
      have := hc
      unfold Its.check at this
      split at this
      · omega
      · exact this
    refine WDO.callF (g := 91) rfl rfl rfl (by kernel_rfl) (l := .cons .snil (.cons v .nil)) (by simp) (encode_ok l.size (d := 0) (w := .snil) (k := []) (lo := H.next) (Nat.le_refl _) (hv.keep0 k2 hN) (.inl ⟨rfl, rfl⟩) hN n2 hsz (by simp; omega) hr hchk) fun r H3 ⟨ho, k3, _⟩ => ?_
    replace k3 : Keep noB H2 H3 := k3.mono fun b _ h => by cases h
    rw [List.nil_append] at ho
    have hk := k2.trans k3
    have hlen := ho.rd.len
    refine leD 1 [xM 12 5] ?_
    refine WDO.nilS (WD.seq (WD.seqR ?_))
    by_cases hb : 65536 < l.enc.length
    · refine lkD 3 [xM 5 13, xN 13 14, xC akGtr 14 65536 15] (by simp (disch := omega) [hlen, decT]; exact rfl) ?_
      refine cdT ?_
      refine leD 2 [⟨lkMove (.const (.slice none 0 0)), (some 2), none⟩, xK 2 3] ?_
      refine WDO.nilS (WD.ret (endR _ (by simp; rfl) ⟨.snil, ?_, ?_, hk⟩))
      · unfold encode; rw [if_pos hc, if_pos hb]; rfl
      · unfold encode; rw [if_pos hc, if_pos hb]; exact .inl ⟨rfl, rfl⟩
    · refine lkD 3 [xM 5 13, xN 13 14, xC akGtr 14 65536 15] (by simp (disch := omega) [hlen, decF]; exact rfl) ?_
      refine cdF ?_
      refine WD.seqR ?_
      refine leD 3 [xM 5 16, xM 16 2, xK 0 3] ?_
      refine WDO.nilS (WD.ret (endR _ (by simp; rfl) ⟨r, ?_, ?_, hk⟩))
      · unfold encode; rw [if_pos hc, if_neg hb]; rfl
      · unfold encode; rw [if_pos hc, if_neg hb]; exact ho
  · refine lkD 2 [xM 4 8, xC akNeq 8 0 9] (by simp (disch := omega) [hc]; exact rfl) ?_
    refine cdT ?_
    refine leD 3 [xM 4 10, ⟨lkMove (.const (.slice none 0 0)), (some 2), none⟩, xM 10 3] ?_
    refine WDO.nilS (WD.ret (endR _ (by simp; rfl) ⟨.snil, ?_, ?_, k2⟩))
    · unfold encode; rw [if_neg hc]; rfl
    · unfold encode; rw [if_neg hc]; exact .inl ⟨rfl, rfl⟩
end
end Go.Proofs.YtfgipbjaapkdlaaGreatDoor
