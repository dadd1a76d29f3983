/- A part of the proof of this seat's statement: what is particular to its program. Its conditions stand in each theorem. -/
import Derived.Test.YtcfpppleiikjhaaGreatDoorL1
namespace Go.Proofs.YtcfpppleiikjhaaGreatDoor
open Go.Xq
noncomputable section
theorem add1_ex (c : Int) : ∃ c', akAdd.f .i64 c 1 = some (.int .i64 c') := ⟨_, mkInt_eq ..⟩
set_option maxRecDepth 20000 in
theorem act_ok {H : AH} {b : Nat} {p : PlV} (h : PlB H b p) (ha : p.acts = -1) (hb : b < H.next) :
    DC Tryz.prog .normal 21 (.cons (.ptr b 0) (.cons (.int .i64 1) .nil)) H fun v' H2 => v' = .bool false ∧ H2.next = H.next ∧ Keep (fun x => x = b) H H2 ∧ ∃ c, PlB H2 b { p with c1 := c } := by
  refine DC.of_wd (re := reTmp 4 reNil) tyOk Tryz.func21 (by kernel_rfl) rfl (by kernel_rfl) (by kernel_rfl) ?_
  rw [tl_nil, argsT_cons, argsT_cons, argsT_nil]
  obtain ⟨o, g, r0, r1, r2, r3, r4, r5, r9, r10, r11⟩ := PlB.rd h
  obtain ⟨c', hc⟩ := add1_ex p.c1
  refine WD.seqR ?_
  refine WDO.looks1 tyOk extOk 1 (ls := [⟨lkMove (.const (.bool false)), (some 4), none⟩]) (by kernel_rfl) (by simp (disch := omega) []; exact rfl) ?_
  refine WDO.nilS (WD.seq ?_)
  obtain ⟨R, hR, hRc⟩ := specR_ex Tryz.prog (fun _ _ _ _ _ => True)
  refine WD.drawnK tyOk extOk (by kernel_rfl) (ls := [⟨[0], .look (lkMove (.tmp 0)), (some 5), none, 0, 1, true, false⟩, ⟨[1], .look (lkMove (.tmp 1)), (some 6), none, 0, 1, true, false⟩, ⟨[5], .look (⟨nilChk E (.tmp 5)⟩), (some 7), none, 0, 1, true, false⟩, ⟨[7], .look (⟨fAddr (.tmp 7) 9⟩), (some 8), none, 0, 1, true, false⟩, ⟨[8, 6], .look (⟨ixArr 3 1 (.tmp 8) (.tmp 6)⟩), (some 9), none, 0, 1, true, false⟩, ⟨[9], .look (⟨ldA ⟨ld1⟩ (.tmp 9)⟩), (some 10), none, 0, 1, false, false⟩, ⟨[10], .look (⟨binInt akAdd (.tmp 10) (.const (.int .i64 1))⟩), (some 11), none, 0, 1, false, false⟩, ⟨[5], .look (⟨nilChk E (.tmp 5)⟩), (some 12), none, 0, 1, true, false⟩, ⟨[12], .look (⟨fAddr (.tmp 12) 9⟩), (some 13), none, 0, 1, true, false⟩, ⟨[13, 6], .look (⟨ixArr 3 1 (.tmp 13) (.tmp 6)⟩), (some 14), none, 0, 1, true, false⟩, ⟨[14, 11], .heavy ⟨hvStore ⟨st1'⟩ (.tmp 14) (.tmp 11)⟩, none, none, 0, 2, false, true⟩]) (by kernel_rfl) hR fun K hK => ?_
  simp (disch := omega) [g, r10, hc]
  obtain ⟨H2, s1, s2, s3, s4⟩ := h.store1 encPl_len { p with c1 := c' } (f := 10) (v := .int .i64 c') (by omega) rfl rfl
  refine diHv_in (v := undefA) (by simp; exact st1_ob s1) (by omega) ?_
  simp [g, r10, hc]
  refine hK _ _ (WD.seq (WD.seqR ?_))
  obtain ⟨o2, g2, q0, q1, q2, q3, q4, q5, _⟩ := PlB.rd s3
  rw [show ({ p with c1 := c' } : PlV).acts = -1 from ha] at q5
  refine WDO.looks1 tyOk extOk 5 (ls := [xM 0 15, ⟨⟨nilChk E (.tmp 15)⟩, (some 16), none⟩, xF 16 5 17, xL 17 18, xC akEql 18 0 19]) (by kernel_rfl) (by simp (disch := omega) [g2, q5]; exact rfl) ?_
  refine WDO.nilS (WD.cond (t := false) (by simp) (by simp) fun _ => WD.skip (.inl rfl) (WD.seqR ?_))
  have hs1 : akSub.f .i64 (-1) 1 = some (.int .i64 (-2)) := rfl
  have hmm : mmA true (.cons (.int .i64 (-1)) .nil) (.int .i64 (-2)) = some (.int .i64 (-1)) := rfl
  refine WDO.looks1 tyOk extOk 9 (ls := [xM 0 20, xM 0 21, ⟨⟨nilChk E (.tmp 21)⟩, (some 22), none⟩, xF 22 5 23, xL 23 24, xC akSub 24 1 25, ⟨⟨mmK true (.tmp 25) [(.const (.int .i64 (-1)))]⟩, (some 26), none⟩, ⟨⟨nilChk E (.tmp 20)⟩, (some 27), none⟩, xF 27 5 28]) (by kernel_rfl) (by simp (disch := omega) [g2, q5, hs1, hmm]; exact rfl) ?_
  obtain ⟨H3, t1, t2, t3, t4⟩ := s3.store1 encPl_len { p with c1 := c' } (f := 5) (v := .int .i64 (-1)) (by omega) (by rw [← ha]; rfl) rfl
  refine WDO.heavy1 tyOk extOk (k := ⟨hvStore ⟨st1'⟩ (.tmp 28) (.tmp 26)⟩) (by kernel_rfl) rfl (by kernel_rfl) (by simp; exact st1_ob t1) ?_
  refine WDO.nilS (WD.seqR ?_)
  refine WDO.looks1 tyOk extOk 1 (ls := [⟨lkMove (.const (.bool false)), (some 4), none⟩]) (by kernel_rfl) (by simp (disch := omega) []; exact rfl) ?_
  exact WDO.nilS (WD.ret (endR _ (by simp; rfl) ⟨rfl, by omega, s4.trans t4, c', t3⟩))
def refN (d : Dev) (n : Int) : Int := if 0 ≤ n ∧ n < ((d.safe.length / d.P : Nat) : Int) then 0 else 30
set_option maxRecDepth 20000 in
theorem refused_ok {H : AH} {O : Nat → Prop} {b : Nat} {d : Dev} {n : Int} (h : PlAt H O b d) (hd : d.Ok) :
    DC Tryz.prog .normal 20 (.cons (.ptr b 0) (.cons (.int .i64 n) .nil)) H fun v' H2 => v' = .int .i64 (refN d n) ∧ H2 = H := by
  obtain ⟨p, sb, els, h1, _⟩ := h.ex
  obtain ⟨o, g, r0, r1, r2, r3, r4, _⟩ := PlB.rd h1
  refine DC.of_wd (re := reTmp 4 reNil) tyOk Tryz.func20 (by kernel_rfl) rfl (by kernel_rfl) (by kernel_rfl) ?_
  rw [tl_nil, argsT_cons, argsT_cons, argsT_nil]
  refine WD.seqR ?_
  refine WDO.looks1 tyOk extOk 1 (ls := [⟨lkMove (.const (.int .i64 0)), (some 4), none⟩]) (by kernel_rfl) (by simp (disch := omega) []; exact rfl) ?_
  refine WDO.nilS (WD.seq (WD.block (WD.seqR ?_)))
  refine WDO.looks1 tyOk extOk 5 (ls := [xM 0 6, ⟨⟨nilChk E (.tmp 6)⟩, (some 7), none⟩, xF 7 4 8, xL 8 9, xM 9 5]) (by kernel_rfl) (by simp (disch := omega) [g, r4]; exact rfl) ?_
  refine WDO.nilS (WD.cond (t := false) (by simp) (by simp) fun _ => WD.seqR ?_)
  by_cases h0 : n < 0
  · have hr : refN d n = 30 := by unfold refN; rw [if_neg (by omega)]
    rw [hr]
    refine WDO.looks1 tyOk extOk 5 (ls := [xM 1 11, xC akLss 11 0 12, xM 12 13, yM 1 14 13 false, yM 0 15 13 false]) (by kernel_rfl) (by simp (disch := omega) [h0]; exact rfl) ?_
    refine WDO.skipG (g := some (13, false)) (by kernel_rfl) (by simp [wantA, wantG, get_tl]) (by kernel_rfl) ?_
    refine WDO.looks1 tyOk extOk 3 (ls := [yB akGeq 14 16 17 13 false, xP 13 17 18 true, xM 18 10]) (by kernel_rfl) (by simp (disch := omega) []; exact rfl) ?_
    refine WDO.nilS (WD.cond (t := true) (by simp) (fun _ => WD.seqR ?_) (by simp))
    refine WDO.looks1 tyOk extOk 1 (ls := [⟨lkMove (.const (.int .i64 30)), (some 4), none⟩]) (by kernel_rfl) (by simp (disch := omega) []; exact rfl) ?_
    exact WDO.nilS (WD.ret (endR _ (by simp; rfl) ⟨rfl, rfl⟩))
  · refine WDO.looks1 tyOk extOk 5 (ls := [xM 1 11, xC akLss 11 0 12, xM 12 13, yM 1 14 13 false, yM 0 15 13 false]) (by kernel_rfl) (by simp (disch := omega) [h0]; exact rfl) ?_
    refine WDO.callG (g := 26) rfl rfl (gd := some (13, false)) (by kernel_rfl) (by simp [wantA, wantG, get_tl]) (by kernel_rfl) (l := .cons (.ptr b 0) .nil) (by simp) (pages_ok h hd) fun u Hx ⟨hu, hHx⟩ => ?_
    subst hu
    subst hHx
    generalize hK : d.safe.length / d.P = K
    by_cases h1 : n < (K : Int)
    rotate_left
    · have hr : refN d n = 30 := by unfold refN; rw [if_neg (by rw [hK]; omega)]
      rw [hr]
      refine WDO.looks1 tyOk extOk 3 (ls := [yB akGeq 14 16 17 13 false, xP 13 17 18 true, xM 18 10]) (by kernel_rfl) (by simp (disch := omega) [h1]; exact rfl) ?_
      refine WDO.nilS (WD.cond (t := true) (by simp) (fun _ => WD.seqR ?_) (by simp))
      refine WDO.looks1 tyOk extOk 1 (ls := [⟨lkMove (.const (.int .i64 30)), (some 4), none⟩]) (by kernel_rfl) (by simp (disch := omega) []; exact rfl) ?_
      exact WDO.nilS (WD.ret (endR _ (by simp; rfl) ⟨rfl, rfl⟩))
    · have hr : refN d n = 0 := by unfold refN; rw [if_pos (by rw [hK]; omega)]
      rw [hr]
      refine WDO.looks1 tyOk extOk 3 (ls := [yB akGeq 14 16 17 13 false, xP 13 17 18 true, xM 18 10]) (by kernel_rfl) (by simp (disch := omega) [h1]; exact rfl) ?_
      refine WDO.nilS (WD.cond (t := false) (by simp) (by simp) fun _ => WD.skip (.inl rfl) (WD.seqR ?_))
      refine WDO.looks1 tyOk extOk 1 (ls := [⟨lkMove (.const (.int .i64 0)), (some 4), none⟩]) (by kernel_rfl) (by simp (disch := omega) []; exact rfl) ?_
      exact WDO.nilS (WD.ret (endR _ (by simp; rfl) ⟨rfl, rfl⟩))
def Dev.wr (d : Dev) (k : Nat) (l : List UInt8) : Dev := { d with wl := d.wl ++ [(k, l)], l := layN d.l k d.wl.length }
theorem Dev.Ok.wr {d : Dev} (h : d.Ok) {k : Nat} {l : List UInt8} (hl : l.length = d.P) (hk : k < d.safe.length / d.P) : (d.wr k l).Ok := by
  have hp := h.pos
  refine ⟨h.pos, h.le, h.good.lay (k, l), fun i w hw => ?_, h.four, h.whole, h.most⟩
  have hw' : (d.wl ++ [(k, l)])[i]? = some w := hw
  rcases Nat.lt_or_ge i d.wl.length with hi | hi
  · rw [List.getElem?_append_left hi] at hw'
    exact h.long i w hw'
  · have hl2 := get_lt hw'
    simp at hl2
    have : i = d.wl.length := by omega
    subst this
    simp at hw'
    subst hw'
    refine ⟨hl, ?_⟩
    show k * d.P + d.P ≤ d.safe.length
    have h2 : (k + 1) * d.P ≤ d.safe.length := (Nat.le_div_iff_mul_le (by omega)).1 hk
    rw [Nat.succ_mul] at h2
    exact h2
end
end Go.Proofs.YtcfpppleiikjhaaGreatDoor
namespace Go.Proofs.YtcfpppleiikjhaaGreatDoor
open Go.Xq
noncomputable section
def Dev.wrOk (d : Dev) (n : Int) (l : List UInt8) : Prop := refN d n = 0 ∧ l.length = d.P
instance (d : Dev) (n : Int) (l : List UInt8) : Decidable (d.wrOk n l) := inferInstanceAs (Decidable (_ ∧ _))
def Dev.wrI (d : Dev) (n : Int) (l : List UInt8) : Dev := if d.wrOk n l then d.wr n.toNat l else d
theorem refN_zero {d : Dev} {n : Int} (h : refN d n = 0) : 0 ≤ n ∧ n.toNat < d.safe.length / d.P := by
  unfold refN at h
  split at h
  · omega
  · cases h
theorem Dev.Ok.wrI {d : Dev} (h : d.Ok) (n : Int) (l : List UInt8) : (d.wrI n l).Ok := by
  unfold Dev.wrI
  split
  · rename_i hw
    exact h.wr hw.2 (refN_zero hw.1).2
  · exact h
set_option maxRecDepth 20000 in
set_option maxHeartbeats 4000000 in
theorem write_ok {H : AH} {O : Nat → Prop} {b : Nat} {d : Dev} {n : Int} {v : AV} {l : List UInt8} (h : PlAt H O b d) (hd : d.Ok) (hv : RdS H v l) (hl : l.length ≤ 17179869184) (hvO : l ≠ [] → ∀ x, blk v = some x → ¬ O x) (hO : ∀ x, H.next ≤ x → O x) (hmax : d.wl.length < 8589934592) :
    DC Tryz.prog .normal 7 (.cons (.ptr b 0) (.cons (.int .i64 n) (.cons v .nil))) H fun _ H2 => PlAt H2 O b (d.wrI n l) ∧ Keep O H H2 := by
  have hpos := hd.pos
  obtain ⟨p, sb, els, a1, a2, a3, a4, a5, a6, a7, a8, a9, a10, a11, a12, a13⟩ := h.ex
  obtain ⟨o, g, r0, r1, r2, r3, _⟩ := PlB.rd a1
  rw [a2] at r0
  have hlen := hv.len
  refine DC.of_wd (re := reTmp 6 reNil) tyOk Tryz.func7 (by kernel_rfl) rfl (by kernel_rfl) (by kernel_rfl) ?_
  rw [tl_nil, argsT_cons, argsT_cons, argsT_cons, argsT_nil]
  refine WD.seqR ?_
  refine WDO.looks1 tyOk extOk 1 (ls := [⟨lkMove (.const (.int .i64 0)), (some 6), none⟩]) (by kernel_rfl) (by simp (disch := omega) []; exact rfl) ?_
  refine WDO.nilS (WD.seq (WD.seqR ?_))
  refine WDO.looks1 tyOk extOk 2 (ls := [xM 0 9, xM 1 10]) (by kernel_rfl) (by simp (disch := omega) []; exact rfl) ?_
  refine WDO.callF (g := 20) rfl rfl rfl (by kernel_rfl) (l := .cons (.ptr b 0) (.cons (.int .i64 n) .nil)) (by simp) (refused_ok h hd) fun u Hx ⟨hu, hHx⟩ => ?_
  subst hu
  subst hHx
  refine WDO.looks1 tyOk extOk 1 (ls := [xM 11 7]) (by kernel_rfl) (by simp (disch := omega) []; exact rfl) ?_
  refine WDO.nilS (WD.seqR ?_)
  by_cases h0 : refN d n = 0
  · rw [h0]
    refine WDO.looks1 tyOk extOk 2 (ls := [xM 7 12, xC akNeq 12 0 13]) (by kernel_rfl) (by simp (disch := omega) []; exact rfl) ?_
    refine WDO.nilS (WD.cond (t := false) (by simp) (by simp) fun _ => WD.skip (.inl rfl) (WD.seq (WD.seqR ?_)))
    by_cases h1 : l.length = d.P
    · have hwi : d.wrI n l = d.wr n.toNat l := if_pos ⟨h0, h1⟩
      rw [hwi]
      have h1' : (l.length : Int) = (d.P : Int) := by omega
      refine WDO.looks1 tyOk extOk 7 (ls := [xM 2 15, xN 15 16, xM 0 17, ⟨⟨nilChk E (.tmp 17)⟩, (some 18), none⟩, xF 18 0 19, xL 19 20, xB akNeq 16 20 21]) (by kernel_rfl) (by simp (disch := omega) [g, r0, hlen, h1']; exact rfl) ?_
      refine WDO.nilS (WD.cond (t := false) (by simp) (by simp) fun _ => WD.skip (.inl rfl) (WD.seqR ?_))
      refine WDO.looks1 tyOk extOk 1 (ls := [xM 0 22]) (by kernel_rfl) (by simp (disch := omega) []; exact rfl) ?_
      refine WDO.callF (g := 21) rfl rfl rfl (by kernel_rfl) (l := .cons (.ptr b 0) (.cons (.int .i64 1) .nil)) (by simp) (act_ok a1 a4 a6) fun u H1 ⟨hu, hn1, k1, c, b1⟩ => ?_
      subst hu
      refine WDO.looks1 tyOk extOk 1 (ls := [xM 23 8]) (by kernel_rfl) (by simp (disch := omega) []; exact rfl) ?_
      have hns := refN_zero h0
      obtain ⟨k, rfl⟩ : ∃ k : Nat, n = (k : Int) := ⟨n.toNat, by omega⟩
      rw [Int.toNat_natCast] at hns ⊢
      obtain ⟨o1, g1, q0, q1, q2, q3, _⟩ := PlB.rd b1
      have hmb : p.mb ≠ b := a1.ne_mp a13
      have m1 := k1.get a12 hmb a13
      have hll := a10.lst.len
      refine WDO.nilS (WD.seq ?_)
      obtain ⟨R, hR, hRc⟩ := specR_ex Tryz.prog (fun _ _ _ _ _ => True)
      refine WD.drawnK tyOk extOk (by kernel_rfl) (ls := [⟨[0], .look (lkMove (.tmp 0)), (some 24), none, 0, 1, true, false⟩, ⟨[24], .look (⟨nilChk E (.tmp 24)⟩), (some 25), none, 0, 1, true, false⟩, ⟨[25], .look (⟨fAddr (.tmp 25) 3⟩), (some 26), none, 0, 1, true, false⟩, ⟨[26], .look (⟨ldA ⟨ld1⟩ (.tmp 26)⟩), (some 27), none, 0, 1, false, false⟩, ⟨[1], .look (lkMove (.tmp 1)), (some 28), none, 0, 1, true, false⟩, ⟨[0], .look (lkMove (.tmp 0)), (some 29), none, 0, 1, true, false⟩, ⟨[29], .look (⟨nilChk E (.tmp 29)⟩), (some 30), none, 0, 1, true, false⟩, ⟨[30], .look (⟨fAddr (.tmp 30) 2⟩), (some 31), none, 0, 1, true, false⟩, ⟨[31], .look (⟨ldA ⟨ld1⟩ (.tmp 31)⟩), (some 32), none, 0, 1, false, false⟩, ⟨[32], .look (⟨lenSl (.tmp 32)⟩), (some 33), none, 0, 1, false, false⟩, ⟨[27, 28, 33], .heavy ⟨mapSetA kyI (.tmp 27) (.tmp 28) (.tmp 33)⟩, none, none, 0, 2, false, true⟩]) (by kernel_rfl) hR fun K hK => ?_
      iterate 3 (refine diLookP (by simp [-resL_cons, resL_cc]; exact rfl) (by simp (disch := omega) []; exact rfl) ?_)
      refine diLookC (by simp [-resL_cons, resL_cc]; exact rfl) (by simp (disch := omega) [g1, q3]; exact rfl) ?_
      iterate 4 (refine diLookP (by simp [-resL_cons, resL_cc]; exact rfl) (by simp (disch := omega) []; exact rfl) ?_)
      iterate 2 (refine diLookC (by simp [-resL_cons, resL_cc]; exact rfl) (by simp (disch := omega) [g1, q2, hll]; exact rfl) ?_)
      refine diHeavy (by simp [-resL_cons, resL_cc]; exact rfl) (v := undefA) (H2 := H1.set p.mb (mpN (layN d.l k d.wl.length))) (mapSet_ok (R := R) (by simp) (by simp) (by simp [a10.len]) m1) (by simp) ?_
      simp only [diRun_nil, putA_none, List.reverse_cons, List.reverse_nil, List.nil_append, List.cons_append, chkAdd_f, atAll_s, atAll_z, and_true, true_and]
      have kM : Keep (fun x => x = p.mb) H1 (H1.set p.mb (mpN (layN d.l k d.wl.length))) := Keep.set _ fun _ => rfl
      have gM : (H1.set p.mb (mpN (layN d.l k d.wl.length))).get p.mb = some (mpN (layN d.l k d.wl.length)) := get_set_same _ _ _
      have nM : (H1.set p.mb (mpN (layN d.l k d.wl.length))).next = H1.next := by simp
      generalize H1.set p.mb (mpN (layN d.l k d.wl.length)) = H2 at kM gM nM ⊢
      refine ⟨by simp (disch := omega) [g1, q2, q3, hll], hK _ _ (WD.keep (l := [(0, .ptr b 0), (1, .int .i64 (k : Int)), (2, v), (6, .int .i64 0), (8, .bool false)]) (WD.seq ?_) (by simp))⟩
      clear hK hRc hR R
      have b2 := b1.keep kM (by omega) (fun e => hmb e.symm)
      have kk2 : Keep O Hx H2 := (k1.mono fun x _ e => by rw [e]; exact a5).trans (kM.mono fun x _ e => by rw [e]; exact a11)
      have hv2 : RdS H2 v l := hv.keep kk2 (hvO (by intro e; rw [e] at h1; simp at h1; omega))
      obtain ⟨o2, g2, _, _, t2, _⟩ := PlB.rd b2
      obtain ⟨R, hR, hRc⟩ := specR_ex Tryz.prog (fun _ _ H v' H2 => OwnZ H2 H.next v' l ∧ Keep noB H H2)
      refine WD.drawnK tyOk extOk (by kernel_rfl) (ls := [⟨[0], .look (lkMove (.tmp 0)), (some 34), none, 0, 3, true, false⟩, ⟨[0], .look (lkMove (.tmp 0)), (some 35), none, 0, 2, true, false⟩, ⟨[35], .look (⟨nilChk E (.tmp 35)⟩), (some 36), none, 0, 2, true, false⟩, ⟨[36], .look (⟨fAddr (.tmp 36) 2⟩), (some 37), none, 0, 2, true, false⟩, ⟨[37], .look (⟨ldA ⟨ld1⟩ (.tmp 37)⟩), (some 38), none, 0, 2, false, false⟩, ⟨[1], .look (lkMove (.tmp 1)), (some 39), none, 0, 2, true, false⟩, ⟨[2], .look (lkMove (.tmp 2)), (some 40), none, 0, 1, true, false⟩, ⟨[40], .heavy ⟨hvCallF E 22 (opnds [(.tmp 40)])⟩, (some 41), none, 0, 2, false, true⟩, ⟨[39, 41], .look (⟨buildA (.cons (.int .i64 0) (.cons .snil .nil)) ⟨fill1 (.tmp 39) 0 1 ⟨fill1 (.tmp 41) 1 1 flEnd⟩⟩⟩), (some 42), none, 1, 1, true, false⟩, ⟨[42], .fresh ⟨frSlice 1 (zerosA (.cons (.int .i64 0) (.cons .snil .nil)) 1) ⟨fill1 (.tmp 42) 0 2 flEnd⟩ ⟨mkCs 71 2 (.cons (.int .i64 0) (.cons .snil .nil))⟩⟩, (some 43), none, 1, 1, false, false⟩, ⟨[38, 43], .heavy ⟨hvAppend ⟨grownCs 2 ⟨mkCs 71 2 (.cons (.int .i64 0) (.cons .snil .nil))⟩⟩ 2 (.tmp 38) (.tmp 43)⟩, (some 44), none, 1, 2, false, true⟩, ⟨[34], .look (⟨nilChk E (.tmp 34)⟩), (some 45), none, 2, 1, true, false⟩, ⟨[45], .look (⟨fAddr (.tmp 45) 2⟩), (some 46), none, 2, 1, true, false⟩, ⟨[46, 44], .heavy ⟨hvStore ⟨st1'⟩ (.tmp 46) (.tmp 44)⟩, none, none, 2, 2, false, true⟩]) (by kernel_rfl) hR fun K hK => ?_
      iterate 4 (refine diLookP (by simp [-resL_cons, resL_cc]; exact rfl) (by simp (disch := omega) []; exact rfl) ?_)
      refine diLookC (by simp [-resL_cons, resL_cc]; exact rfl) (by simp (disch := omega) [g2, t2]; exact rfl) ?_
      iterate 2 (refine diLookP (by simp [-resL_cons, resL_cc]; exact rfl) (by simp (disch := omega) []; exact rfl) ?_)
      obtain ⟨u, Hy, c1, hu, ky⟩ := hRc 22 _ _ (cloneS_ok hv2 hl)
      obtain ⟨ub, rfl, u1, u2, u3⟩ : ∃ ub, u = .sl ub 0 l.length none ∧ H2.next ≤ ub ∧ ub < Hy.next ∧ Hy.get ub = some (bb 5 true l) := by
        have hne : l ≠ [] := by intro e; rw [e] at h1; simp at h1; omega
        rcases hu with hu | ⟨_, _, _, _, e⟩
        · rcases hu with ⟨_, e⟩ | ⟨ub, e, _, x1, x2, x3⟩
          · exact absurd e hne
          · exact ⟨ub, e, x1, x2, x3⟩
        · exact absurd e hne
      refine diCallF (by simp [-resL_cons, resL_cc]; exact rfl) (by simp) (extFree _ _ _ rfl rfl rfl) c1 (by have := ky.1; omega) ?_
      refine diLookP (by simp [-resL_cons, resL_cc]; exact rfl) (by simp (disch := omega) []; exact rfl) ?_
      obtain ⟨o5, e5, el5⟩ := frSlice_el (enc := encPv) (e := 71) (es := 2) (z := zPv) (z0 := zPv) encPv_len (x := .tmp 42) (T := tl [(42, .agg (avl (encPv ⟨(k : Int), .sl ub 0 l.length none, rfl⟩)))]) (b0 := Hy.next) (a := ⟨(k : Int), .sl ub 0 l.length none, rfl⟩) (by simp; rfl) rfl (by rfl) rfl
      have e5' : frSlice 1 (zerosA (.cons (.int .i64 0) (.cons .snil .nil)) 1) ⟨fill1 (.tmp 42) 0 2 flEnd⟩ ⟨mkCs 71 2 (.cons (.int .i64 0) (.cons .snil .nil))⟩ (tl [(42, .agg (.cons (.int .i64 (k : Int)) (.cons (.sl ub 0 l.length none) .nil)))]) Hy.next = some (.sl Hy.next 0 1 (some 1), o5) := e5
      refine diFresh (by first | (simp [-resL_cons, resL_cc]; done) | (simp [-resL_cons, resL_cc]; exact rfl)) (o := o5) (v := .sl Hy.next 0 1 (some 1)) e5' ?_
      have k5 : Keep noB Hy (Hy.new o5) := Keep.new _ _ _
      have g5 : (Hy.new o5).get Hy.next = some o5 := get_new_same _ _
      have n5 : (Hy.new o5).next = Hy.next + 1 := by simp
      generalize Hy.new o5 = H5 at k5 g5 n5 ⊢
      have kk5 : Keep O Hx H5 := (kk2.trans (ky.mono fun _ _ => False.elim)).trans (k5.mono fun _ _ => False.elim)
      have kq : Keep (fun x => x = b ∨ x = p.mb) Hx H5 := (((k1.mono fun x _ e => Or.inl e).trans (kM.mono fun x _ e => Or.inr e)).trans (ky.mono fun _ _ => False.elim)).trans (k5.mono fun _ _ => False.elim)
      have hlb : ∀ x, blk p.lv = some x → x ≠ b ∧ x ≠ p.mb := fun x hx => by
        rcases a10.lst with ⟨e, _⟩ | ⟨lb, ol, e, _, _, _, gl, t, he, _⟩
        · rw [e] at hx; cases hx
        · rw [e] at hx
          cases hx
          refine ⟨?_, ?_⟩
          · rintro rfl
            obtain ⟨o', y1, t', y2, _⟩ := a1.ex
            rw [gl, he, y2] at y1
            cases y1
          · rintro rfl
            rw [gl, he] at a13
            cases a13
      have a10'' := a10.lst.keep kq fun x hx => by have := hlb x hx; simp [this]
      obtain ⟨v', H6, c6, l6, l7, n6, k6⟩ := LstAt.app encPv_len (by omega) a10'' (by omega) (cells_pv _) (One.of g5 el5) (by rw [a10.len]; omega)
      refine diHeavy (by simp [-resL_cons, resL_cc]; exact rfl) (v := v') (H2 := H6) (by simp; exact c6) (by omega) ?_
      simp only [putA_some]
      iterate 2 (refine diLookP (by simp [-resL_cons, resL_cc]; exact rfl) (by simp (disch := omega) []; exact rfl) ?_)
      have b5 := (b2.keep ky (by omega) id).keep k5 (by have := ky.1; omega) id
      have hb6 : ¬ blk p.lv = some b := fun e => (hlb b e).1 rfl
      have b6 := b5.keep k6 (by have := ky.1; omega) hb6
      obtain ⟨H7, s1, s2, s3, s4⟩ := b6.store1 encPl_len { p with c1 := c, lv := v', ok2 := l6.cell } (f := 2) (v := v') (by omega) rfl l6.cell
      refine diHeavy (by simp [-resL_cons, resL_cc]; exact rfl) (v := undefA) (H2 := H7) (by simp; exact st1_ob s1) (by omega) ?_
      simp only [diRun_nil, putA_none, List.reverse_cons, List.reverse_nil, List.nil_append, List.cons_append, chkAdd_f, chkBlk_f, atAll_s, atAll_d, atAll_z, and_true, true_and]
      obtain ⟨o8, g8, _, _, t8, _⟩ := PlB.rd b5
      have hpb : plainB o5 := by obtain ⟨t, e⟩ := el5.opn; rw [e]; trivial
      refine ⟨⟨⟨by simp [g2, t2], by simp [g8, t8]⟩, hpb, g5⟩, hK _ _ (WD.keep (l := [(0, .ptr b 0), (1, .int .i64 (k : Int)), (2, v), (6, .int .i64 0), (8, .bool false)]) (WD.seq (WD.seqR ?_)) (by simp))⟩
      clear hK hRc hR R c1 e5 e5' c6
      have hle : Hx.next ≤ H2.next := kk2.1
      have hle2 : H2.next ≤ Hy.next := ky.1
      have k7 : Keep O Hx H7 := (kk5.trans' k6 fun x _ e => a10.own x e).trans' s4 fun x _ e => by rw [e]; exact a5
      have kall : Keep (fun x => x = b ∨ x = p.mb ∨ blk p.lv = some x) Hx H7 := ((kq.mono fun x _ e => by rcases e with e | e; exact .inl e; exact .inr (.inl e)).trans' k6 fun x _ e => .inr (.inr e)).trans' s4 fun x _ e => .inl e
      have hby : ∀ (x e : Nat) (q : Bool) (kl : List UInt8), x < Hx.next → Hx.get x = some (bb e q kl) → H7.get x = some (bb e q kl) := fun x e q kl hx hg => by
        refine kall.get hx ?_ hg
        rintro (e1 | e1 | e1)
        · exact a1.ne_bb hg e1
        · exact bb_ne_mp hg a13 e1
        · rcases a10.lst with ⟨e2, _⟩ | ⟨lb, ol, e2, _, _, _, gl, t, he, _⟩
          · rw [e2] at e1; cases e1
          · rw [e2] at e1
            cases e1
            rw [gl, he] at hg
            cases hg
      have hmb6 : ¬ blk p.lv = some p.mb := fun e => (hlb _ e).2 rfl
      have gM7 : H7.get p.mb = some (mpN (layN d.l k d.wl.length)) := s4.get (by omega) hmb (k6.get (by omega) hmb6 (k5.get (by omega) id (ky.get (by omega) id gM)))
      have hub : ¬ blk p.lv = some ub := fun e => by have := (a10.lst.low e).2; omega
      have gu7 : H7.get ub = some (bb 5 true l) := s4.get (by omega) (by omega) (k6.get (by omega) hub (k5.get (by omega) id u3))
      refine WDO.looks1 tyOk extOk 1 (ls := [xM 8 47]) (by kernel_rfl) (by simp (disch := omega) []; exact rfl) ?_
      refine WDO.nilS (WD.cond (t := false) (by simp) (by simp) fun _ => WD.skip (.inl rfl) (WD.seqR ?_))
      refine WDO.looks1 tyOk extOk 1 (ls := [⟨lkMove (.const (.int .i64 0)), (some 6), none⟩]) (by kernel_rfl) (by simp (disch := omega) []; exact rfl) ?_
      refine WDO.nilS (WD.ret (endR _ (by simp; rfl) ⟨⟨_, sb, els ++ [⟨(k : Int), .sl ub 0 l.length none, rfl⟩], s3, a2, a3, a4, a5, by omega, a7, by omega, hby _ _ _ _ a8 a9, ⟨?_, ?_, ?_, ?_⟩, a11, by show p.mb < H7.next; omega, gM7⟩, k7⟩))
      · exact l6.keep s4 fun x hx e => by rw [l7] at hx; cases hx; omega
      · intro x hx
        have hx : blk v' = some x := hx
        rw [l7] at hx
        cases hx
        exact hO _ (by omega)
      · show (els ++ [_]).length = (d.wl ++ [(k, l)]).length
        simp [a10.len]
      · intro j a w ha hw
        have hw : (d.wl ++ [(k, l)])[j]? = some w := hw
        have hel := a10.len
        rcases Nat.lt_or_ge j els.length with hj | hj
        · rw [List.getElem?_append_left hj] at ha
          rw [List.getElem?_append_left (by omega)] at hw
          obtain ⟨z1, z2, z3⟩ := a10.at_ _ _ _ ha hw
          refine ⟨z1, ?_, z3⟩
          rcases z2 with z2 | ⟨y, y1, y2, y3, y4, y5⟩
          · exact .inl z2
          · exact .inr ⟨y, y1, y2, y3, by omega, hby _ _ _ _ y4 y5⟩
        · have hj2 := get_lt ha
          simp at hj2
          have : j = els.length := by omega
          subst this
          simp at ha
          rw [hel] at hw
          simp at hw
          subst ha
          subst hw
          refine ⟨rfl, .inr ⟨ub, rfl, ?_, Nat.zero_le _, by omega, gu7⟩, fun x hx => ?_⟩
          · intro e; have e : l = [] := e; rw [e] at h1; simp at h1; omega
          · cases hx; exact hO _ (by omega)
    · have hwi : d.wrI n l = d := if_neg fun e => h1 e.2
      have h1' : ¬ (l.length : Int) = (d.P : Int) := by omega
      rw [hwi]
      refine WDO.looks1 tyOk extOk 7 (ls := [xM 2 15, xN 15 16, xM 0 17, ⟨⟨nilChk E (.tmp 17)⟩, (some 18), none⟩, xF 18 0 19, xL 19 20, xB akNeq 16 20 21]) (by kernel_rfl) (by simp (disch := omega) [g, r0, hlen, h1']; exact rfl) ?_
      refine WDO.nilS (WD.cond (t := true) (by simp) (fun _ => WD.seqR ?_) (by simp))
      refine WDO.looks1 tyOk extOk 1 (ls := [⟨lkMove (.const (.int .i64 31)), (some 6), none⟩]) (by kernel_rfl) (by simp (disch := omega) []; exact rfl) ?_
      exact WDO.nilS (WD.ret (endR _ (by simp; rfl) ⟨h, Keep.refl _ _⟩))
  · have hwi : d.wrI n l = d := if_neg fun e => h0 e.1
    rw [hwi]
    refine WDO.looks1 tyOk extOk 2 (ls := [xM 7 12, xC akNeq 12 0 13]) (by kernel_rfl) (by simp (disch := omega) [h0]; exact rfl) ?_
    refine WDO.nilS (WD.cond (t := true) (by simp) (fun _ => WD.seqR ?_) (by simp))
    refine WDO.looks1 tyOk extOk 2 (ls := [xM 7 14, xM 14 6]) (by kernel_rfl) (by simp (disch := omega) []; exact rfl) ?_
    exact WDO.nilS (WD.ret (endR _ (by simp; rfl) ⟨h, Keep.refl _ _⟩))
end
end Go.Proofs.YtcfpppleiikjhaaGreatDoor
namespace Go.Proofs.YtcfpppleiikjhaaGreatDoor
open Go.Xq
noncomputable section
theorem slot_ok {H : AH} {n : Nat} (hn : n < 4611686018427387904) : DC Tryz.prog .normal 48 (.cons (.int .i64 (n : Int)) .nil) H fun v' H2 => v' = .int .i64 ((n % 2 : Nat) : Int) ∧ H2 = H := by
  refine DC.of_wd (re := reTmp 2 reNil) tyOk Tryz.func48 (by kernel_rfl) rfl (by kernel_rfl) (by kernel_rfl) ?_
  rw [tl_nil, argsT_cons, argsT_nil]
  obtain ⟨q, hq⟩ : ∃ q, q = Nat.land n 1 := ⟨_, rfl⟩
  have g1 : akAnd.f .i64 (n : Int) ((1 : Nat) : Int) = some (.int .i64 (q : Int)) := akAnd_i64 (by omega) (by omega) hq
  have g1 : akAnd.f .i64 (n : Int) 1 = some (.int .i64 (q : Int)) := g1
  have hq2 : q = n % 2 := by rw [hq]; exact Nat.and_one_is_mod n
  rw [← hq2]
  refine WD.seqR ?_
  refine WDO.looks1 tyOk extOk 1 (ls := [⟨lkMove (.const (.int .i64 0)), (some 2), none⟩]) (by kernel_rfl) (by simp (disch := omega) []; exact rfl) ?_
  refine WDO.nilS (WD.seqR ?_)
  refine WDO.looks1 tyOk extOk 3 (ls := [xM 0 3, xC akAnd 3 1 4, xM 4 2]) (by kernel_rfl) (by simp (disch := omega) [g1]; exact rfl) ?_
  exact WDO.nilS (WD.ret (endR _ (by simp; rfl) ⟨rfl, rfl⟩))
theorem eqM_z (H : AH) : eqAgg [0, 0, 0, 0, 0, 0, 0, 0] H (mA zeroM) (mA zeroM) = some true := by kernel_rfl
theorem eqM_n (H : AH) {m : Mt} (h : 0 < m.engine) : eqAgg [0, 0, 0, 0, 0, 0, 0, 0] H (mA m) (mA zeroM) = some false := by
  show ob (atomEq 0 (.int .i64 m.engine) (.int .i64 0)) (fun q => bt q _ (some false)) = _
  have : atomEq 0 (.int .i64 m.engine) (.int .i64 0) = some false := by
    show bt (kEq .i64 .i64) (some (eqI m.engine 0)) none = _
    have h1 : kEq .i64 .i64 = true := rfl
    rw [h1, bt_true, eqI_dec, decide_eq_false (by omega)]
  rw [this]
  rfl
open Classical in
def bstS (b : Mt × Int) (i : Nat) (l : List UInt8) : Mt × Int := if saysM l ∧ (fldsM l).txn.toNat % 2 = i ∧ (b.1 = zeroM ∨ b.1.txn < (fldsM l).txn) then (fldsM l, (i : Int)) else b
def bst (la lb : List UInt8) : Nat → Mt × Int
  | 0 => (zeroM, 0)
  | 1 => bstS (zeroM, 0) 0 la
  | _ => bstS (bstS (zeroM, 0) 0 la) 1 lb
theorem bstS_or {b : Mt × Int} {i : Nat} {l : List UInt8} (h : b.1 = zeroM ∨ okM b.1) : (bstS b i l).1 = zeroM ∨ okM (bstS b i l).1 := by
  unfold bstS
  split
  · rename_i hc; exact .inr hc.1.2.1
  · exact h
theorem bst_or (la lb : List UInt8) : ∀ i, (bst la lb i).1 = zeroM ∨ okM (bst la lb i).1
  | 0 => .inl rfl
  | 1 => bstS_or (.inl rfl)
  | _ + 2 => bstS_or (bstS_or (.inl rfl))
def chM (la lb : List UInt8) : Option Mt := if (bst la lb 2).1.engine = 0 then none else some (bst la lb 2).1
set_option maxRecDepth 20000 in
set_option maxHeartbeats 4000000 in
theorem choose_ok {H : AH} {va vb : AV} {la lb : List UInt8} (ha : RdS H va la) (hsa : la ≠ [] → SlOk H va) (hb : RdS H vb lb) (hsb : lb ≠ [] → SlOk H vb) (hla : la.length < 4611686018427387904) (hlb : lb.length < 4611686018427387904) :
    DC Tryz.prog .normal 25 (.cons va (.cons vb .nil)) H fun v' H2 => (∀ m, chM la lb = some m → ∃ w, v' = .tup (.cons (mA m) (.cons (.int .i64 w) (.cons (.int .i64 0) .nil)))) ∧ (chM la lb = none → v' = .tup (.cons (mA zeroM) (.cons (.int .i64 0) (.cons (.int .i64 51) .nil)))) ∧ Keep noB H H2 := by
  refine DC.of_wd (re := reCell ⟨ldN 8⟩ 4 (reTmp 5 (reTmp 6 reNil))) tyOk Tryz.func25 (by kernel_rfl) rfl (by kernel_rfl) (by kernel_rfl) ?_
  rw [tl_nil, argsT_cons, argsT_cons, argsT_nil]
  refine WD.seqR ?_
  refine WDO.fresh1 tyOk (k := ⟨frAlloc (.cs 75 8 8 false (.cons (.int .i64 0) (.cons (.int .i64 0) (.cons (.int .i64 0) (.cons (.int .i64 0) (.cons (.int .i64 0) (.cons (.int .i64 0) (.cons (.int .i64 0) (.cons (.int .i64 0) .nil)))))))) .e)⟩) (by kernel_rfl) rfl (by kernel_rfl) (v := .ptr H.next 0) (x := .cs 75 8 8 false zMt .e) ?_ ?_
  · exact rfl
  have hR := newM H
  have hk1 : Keep noB H (H.new (.cs 75 8 8 false zMt .e)) := Keep.new _ _ _
  have n1 : (H.new (.cs 75 8 8 false zMt .e)).next = H.next + 1 := by simp
  generalize H.new (.cs 75 8 8 false zMt .e) = H1 at hR hk1 n1 ⊢
  refine WDO.looks1 tyOk extOk 2 (ls := [⟨lkMove (.const (.int .i64 0)), (some 5), none⟩, ⟨lkMove (.const (.int .i64 0)), (some 6), none⟩]) (by kernel_rfl) (by simp (disch := omega) []; exact rfl) ?_
  refine WDO.nilS (WD.seqR ?_)
  refine WDO.fresh1 tyOk (k := ⟨frAlloc (.cs 75 8 8 false (.cons (.int .i64 0) (.cons (.int .i64 0) (.cons (.int .i64 0) (.cons (.int .i64 0) (.cons (.int .i64 0) (.cons (.int .i64 0) (.cons (.int .i64 0) (.cons (.int .i64 0) .nil)))))))) .e)⟩) (by kernel_rfl) rfl (by kernel_rfl) (v := .ptr H1.next 0) (x := .cs 75 8 8 false zMt .e) ?_ ?_
  · exact rfl
  have hB := newM H1
  have hk2 : Keep noB H1 (H1.new (.cs 75 8 8 false zMt .e)) := Keep.new _ _ _
  have n2 : (H1.new (.cs 75 8 8 false zMt .e)).next = H1.next + 1 := by simp
  have hR2 := hR.keep hk2 (by omega) id
  generalize H1.new (.cs 75 8 8 false zMt .e) = H2 at hB hk2 n2 hR2 ⊢
  rw [n1] at hB n2 ⊢
  have kk2 := hk1.trans hk2
  refine WDO.nilS (WD.seqR ?_)
  refine WDO.looks1 tyOk extOk 1 (ls := [⟨lkMove (.const (.int .i64 0)), (some 8), none⟩]) (by kernel_rfl) (by simp (disch := omega) []; exact rfl) ?_
  refine WDO.nilS (WD.seq (WD.seqR ?_))
  have hca := cellsA_cell ha.cell
  have hcb := cellsA_cell hb.cell
  refine WDO.looks1 tyOk extOk 4 (ls := [xM 0 13, xM 1 14, ⟨⟨buildA (.cons .snil (.cons .snil .nil)) ⟨fill1 (.tmp 13) 0 1 ⟨fill1 (.tmp 14) 1 1 flEnd⟩⟩⟩, (some 15), none⟩, ⟨lkMove (.const (.int .i64 0)), (some 16), none⟩]) (by kernel_rfl) (by simp (disch := omega) [hca, hcb]; exact rfl) ?_
  refine WDO.nilS (WD.forR (σ := Nat) (fun i => [(4, .ptr H.next 0), (5, .int .i64 0), (6, .int .i64 0), (7, .ptr (H.next + 1) 0), (8, .int .i64 (bst la lb i).2), (15, .agg (.cons va (.cons vb .nil))), (16, .int .i64 (i : Int))])
    (fun i H' => i ≤ 2 ∧ RdM H' (H.next + 1) (bst la lb i).1 ∧ RdM H' H.next zeroM ∧ Keep noB H H' ∧ H2.next ≤ H'.next) (fun i => 2 - i) 0 ⟨by omega, hB, hR2, kk2, Nat.le_refl _⟩ (by simp [bst]) ?_)
  rintro i H' ⟨hi, hB', hR', kk', hnx⟩
  refine WDO.looks1 tyOk extOk 1 (ls := [xC akLss 16 2 17]) (by kernel_rfl) (by simp (disch := omega) []; exact rfl) ?_
  refine WDO.nil ⟨decide ((i : Int) < 2), _, rfl, by simp, fun hc => ?_, fun hc => ?_⟩
  · have hc : i = 2 := by have := of_decide_eq_false hc; omega
    subst hc
    have hor := bst_or la lb 2
    have hch : chM la lb = if (bst la lb 2).1.engine = 0 then none else some (bst la lb 2).1 := rfl
    generalize bst la lb 2 = bb0 at hB' hor hch ⊢
    obtain ⟨mb, wb⟩ := bb0
    dsimp only at hB' hor hch ⊢
    obtain ⟨oB, gB, _, _, _, _, _, _, _, _, bc⟩ := hB'.all
    refine WD.seq (WD.seqR ?_)
    rcases hor with rfl | hor
    · have hz : eqAgg [0, 0, 0, 0, 0, 0, 0, 0] H' (.agg (avl (encMt zeroM))) (.agg zMt) = some true := eqM_z H'
      simp only [zMt] at hz
      have hch : chM la lb = none := hch
      refine WDO.looks1 tyOk extOk 3 (ls := [⟨⟨ldA ⟨ldN 8⟩ (.tmp 7)⟩, (some 49), none⟩, ⟨⟨buildA (.cons (.int .i64 0) (.cons (.int .i64 0) (.cons (.int .i64 0) (.cons (.int .i64 0) (.cons (.int .i64 0) (.cons (.int .i64 0) (.cons (.int .i64 0) (.cons (.int .i64 0) .nil)))))))) flEnd⟩, (some 50), none⟩, ⟨⟨binEq ⟨eqAgg [0, 0, 0, 0, 0, 0, 0, 0]⟩ false (.tmp 49) (.tmp 50)⟩, (some 51), none⟩]) (by kernel_rfl) (by simp (disch := omega) [gB, bc, hz]; exact rfl) ?_
      refine WDO.nilS (WD.cond (t := true) (by simp) (fun _ => WD.seqR ?_) (by simp))
      refine WDO.looks1 tyOk extOk 1 (ls := [⟨⟨buildA (.cons (.int .i64 0) (.cons (.int .i64 0) (.cons (.int .i64 0) (.cons (.int .i64 0) (.cons (.int .i64 0) (.cons (.int .i64 0) (.cons (.int .i64 0) (.cons (.int .i64 0) .nil)))))))) flEnd⟩, (some 52), none⟩]) (by kernel_rfl) (by simp (disch := omega) []; exact rfl) ?_
      obtain ⟨H6, t1, t2, t3, t4⟩ := storeM zeroM hR'
      refine WDO.heavy1 tyOk extOk (k := ⟨hvStore ⟨stN 8⟩ (.tmp 4) (.tmp 52)⟩) (by kernel_rfl) rfl (by kernel_rfl) (by simp; exact st_ob t1) ?_
      refine WDO.looks1 tyOk extOk 2 (ls := [⟨lkMove (.const (.int .i64 0)), (some 5), none⟩, ⟨lkMove (.const (.int .i64 51)), (some 6), none⟩]) (by kernel_rfl) (by simp (disch := omega) []; exact rfl) ?_
      obtain ⟨o6, g6, _, _, _, _, _, _, _, _, c6⟩ := t3.all
      exact WDO.nilS (WD.ret (endR _ (by simp [g6, c6]; rfl) ⟨fun m e => (by rw [hch] at e; cases e), fun _ => rfl, kk'.trans' t4 fun x hx e => by omega⟩))
    · have he0 : 0 < mb.engine := by rcases hor.1 with e | e <;> omega
      have hz : eqAgg [0, 0, 0, 0, 0, 0, 0, 0] H' (.agg (avl (encMt mb))) (.agg zMt) = some false := eqM_n H' he0
      simp only [zMt] at hz
      have hch : chM la lb = some mb := by rw [hch, if_neg (by omega)]
      refine WDO.looks1 tyOk extOk 3 (ls := [⟨⟨ldA ⟨ldN 8⟩ (.tmp 7)⟩, (some 49), none⟩, ⟨⟨buildA (.cons (.int .i64 0) (.cons (.int .i64 0) (.cons (.int .i64 0) (.cons (.int .i64 0) (.cons (.int .i64 0) (.cons (.int .i64 0) (.cons (.int .i64 0) (.cons (.int .i64 0) .nil)))))))) flEnd⟩, (some 50), none⟩, ⟨⟨binEq ⟨eqAgg [0, 0, 0, 0, 0, 0, 0, 0]⟩ false (.tmp 49) (.tmp 50)⟩, (some 51), none⟩]) (by kernel_rfl) (by simp (disch := omega) [gB, bc, hz]; exact rfl) ?_
      refine WDO.nilS (WD.cond (t := false) (by simp) (by simp) fun _ => WD.skip (.inl rfl) (WD.seqR ?_))
      refine WDO.looks1 tyOk extOk 2 (ls := [⟨⟨ldA ⟨ldN 8⟩ (.tmp 7)⟩, (some 53), none⟩, xM 8 54]) (by kernel_rfl) (by simp (disch := omega) [gB, bc]; exact rfl) ?_
      obtain ⟨H6, t1, t2, t3, t4⟩ := storeM mb hR'
      refine WDO.heavy1 tyOk extOk (k := ⟨hvStore ⟨stN 8⟩ (.tmp 4) (.tmp 53)⟩) (by kernel_rfl) rfl (by kernel_rfl) (by simp; exact st_ob t1) ?_
      refine WDO.looks1 tyOk extOk 2 (ls := [xM 54 5, ⟨lkMove (.const (.int .i64 0)), (some 6), none⟩]) (by kernel_rfl) (by simp (disch := omega) []; exact rfl) ?_
      obtain ⟨o6, g6, _, _, _, _, _, _, _, _, c6⟩ := t3.all
      exact WDO.nilS (WD.ret (endR _ (by simp [g6, c6]; rfl) ⟨fun m e => (by rw [hch] at e; cases e; exact ⟨_, rfl⟩), fun e => (by rw [hch] at e; cases e), kk'.trans' t4 fun x hx e => by omega⟩))
  · have hc : i < 2 := by have := of_decide_eq_true hc; omega
    obtain ⟨v, l, l', hrun, hsub, hv, hs, hll, hst⟩ : ∃ v l l', runLk [xM 16 18, ⟨⟨ixAgg 2 1 ⟨part1⟩ (.tmp 15) (.tmp 16)⟩, (some 19), none⟩, xM 18 9, xM 19 10] (tl [(4, .ptr H.next 0), (5, .int .i64 0), (6, .int .i64 0), (7, .ptr (H.next + 1) 0), (8, .int .i64 (bst la lb i).2), (15, .agg (.cons va (.cons vb .nil))), (16, .int .i64 (i : Int))]) H' = some (tl l') ∧ lsub [(4, .ptr H.next 0), (5, .int .i64 0), (6, .int .i64 0), (7, .ptr (H.next + 1) 0), (8, .int .i64 (bst la lb i).2), (15, .agg (.cons va (.cons vb .nil))), (16, .int .i64 (i : Int)), (9, .int .i64 (i : Int)), (10, v)] l' ∧ RdS H' v l ∧ (l ≠ [] → SlOk H' v) ∧ l.length < 4611686018427387904 ∧ bst la lb (i + 1) = bstS (bst la lb i) i l := by
      rcases Nat.lt_or_ge i 1 with h0 | h0
      · have : i = 0 := by omega
        subst this
        have hp : part1 0 (.cons va (.cons vb .nil)) = some va := rfl
        exact ⟨va, la, _, by simp (disch := omega) [hp]; exact rfl, by simp, ha.keep kk' fun _ _ => id, fun hn => (hsa hn).keep ha hn kk' fun _ _ => id, hla, rfl⟩
      · have : i = 1 := by omega
        subst this
        have hp : part1 1 (.cons va (.cons vb .nil)) = some vb := rfl
        exact ⟨vb, lb, _, by simp (disch := omega) [hp]; exact rfl, by simp, hb.keep kk' fun _ _ => id, fun hn => (hsb hn).keep hb hn kk' fun _ _ => id, hlb, rfl⟩
    have hor := bst_or la lb i
    generalize hbb : bst la lb i = bb0 at hB' hrun hsub hst hor ⊢
    obtain ⟨mb, wb⟩ := bb0
    dsimp only at hB' hrun hsub hor ⊢
    refine WD.keep (l := [(4, .ptr H.next 0), (5, .int .i64 0), (6, .int .i64 0), (7, .ptr (H.next + 1) 0), (8, .int .i64 wb), (15, .agg (.cons va (.cons vb .nil))), (16, .int .i64 (i : Int))]) (WD.seqR ?_) (by simp)
    refine WDO.looks1 tyOk extOk 4 (ls := [xM 16 18, ⟨⟨ixAgg 2 1 ⟨part1⟩ (.tmp 15) (.tmp 16)⟩, (some 19), none⟩, xM 18 9, xM 19 10]) (by kernel_rfl) hrun ?_
    clear hrun
    refine WDO.nilS (WD.keep (WD.seqR ?_) hsub)
    refine WDO.looks1 tyOk extOk 1 (ls := [xM 10 21]) (by kernel_rfl) (by simp (disch := omega) []; exact rfl) ?_
    refine WDO.callF (g := 47) rfl rfl rfl (by kernel_rfl) (l := .cons v .nil) (by simp) (decodeE_ok hv hs hll) fun u H3 ⟨hu1, hu2, k3⟩ => ?_
    have hB3 := hB'.keep k3 (by omega) id
    have hR3 := hR'.keep k3 (by omega) id
    have kk3 := kk'.trans k3
    have hn3 := k3.1
    by_cases hsay : saysM l
    · have hu := hu1 hsay
      subst hu
      have hst1 : ∀ (p : Prop) [Decidable p], ((fldsM l).txn.toNat % 2 = i ∧ (mb = zeroM ∨ mb.txn < (fldsM l).txn) ↔ p) → bst la lb (i + 1) = if p then (fldsM l, (i : Int)) else (mb, wb) := fun p _ hp => by
        rw [hst]
        unfold bstS
        by_cases h : p
        · rw [if_pos ⟨hsay, hp.2 h⟩, if_pos h]
        · rw [if_neg fun q => h (hp.1 q.2), if_neg h]
      have hok := hsay.2.1
      have heng : 0 < (fldsM l).engine := by rcases hok.1 with e | e <;> omega
      have htx := hok.2.2.1
      generalize fldsM l = m at hst1 hok heng htx ⊢
      refine WDO.looks1 tyOk extOk 3 (ls := [xM 22 20, ⟨⟨exA (.tmp 20) 0⟩, (some 23), none⟩, ⟨⟨exA (.tmp 20) 1⟩, (some 24), none⟩]) (by kernel_rfl) (by simp (disch := omega) []; exact rfl) ?_
      refine WDO.fresh1 tyOk (k := ⟨frAlloc (.cs 75 8 8 false (.cons (.int .i64 0) (.cons (.int .i64 0) (.cons (.int .i64 0) (.cons (.int .i64 0) (.cons (.int .i64 0) (.cons (.int .i64 0) (.cons (.int .i64 0) (.cons (.int .i64 0) .nil)))))))) .e)⟩) (by kernel_rfl) rfl (by kernel_rfl) (v := .ptr H3.next 0) (x := .cs 75 8 8 false zMt .e) ?_ ?_
      · exact rfl
      have hC := newM H3
      have hk4 : Keep noB H3 (H3.new (.cs 75 8 8 false zMt .e)) := Keep.new _ _ _
      have n4 : (H3.new (.cs 75 8 8 false zMt .e)).next = H3.next + 1 := by simp
      have hB4 := hB3.keep hk4 (by omega) id
      have hR4 := hR3.keep hk4 (by omega) id
      generalize H3.new (.cs 75 8 8 false zMt .e) = H4 at hC hk4 n4 hB4 hR4 ⊢
      obtain ⟨H5, s1, s2, s3, s4⟩ := storeM m hC
      refine WDO.heavy1 tyOk extOk (k := ⟨hvStore ⟨stN 8⟩ (.tmp 11) (.tmp 23)⟩) (by kernel_rfl) rfl (by kernel_rfl) (by simp; exact st_ob s1) ?_
      have hB5 := hB4.keep s4 (by omega) (by omega)
      have hR5 := hR4.keep s4 (by omega) (by omega)
      have kk5 : Keep noB H H5 := (kk3.trans hk4).trans' s4 fun x hx e => by have := kk3.1; omega
      obtain ⟨o5, g5, _, _, m2, _, _, _, _, _, mc⟩ := s3.all
      refine WDO.looks1 tyOk extOk 1 (ls := [xM 24 12]) (by kernel_rfl) (by simp (disch := omega) []; exact rfl) ?_
      refine WDO.nilS (WD.seqR ?_)
      obtain ⟨tx, htxn⟩ : ∃ tx : Nat, m.txn = (tx : Int) := ⟨m.txn.toNat, by omega⟩
      have hsl := slot_ok (H := H5) (n := tx) (by omega)
      rw [htxn] at m2 hst1 htx
      rw [Int.toNat_natCast] at hst1
      obtain ⟨oB, gB, _, _, b2, _, _, _, _, _, bc⟩ := hB5.all
      refine WDO.looks1 tyOk extOk 5 (ls := [xM 12 25, xC akEql 25 0 26, xM 26 27, yF 11 2 28 27 true, yL 28 29 27 true]) (by kernel_rfl) (by simp (disch := omega) [g5, m2]; exact rfl) ?_
      refine WDO.callG (g := 48) rfl rfl (gd := some (27, true)) (by kernel_rfl) (by simp [wantA, wantG, get_tl]) (by kernel_rfl) (l := .cons (.int .i64 (tx : Int)) .nil) (by simp) hsl fun u Hx ⟨hu, hHx⟩ => ?_
      subst hu
      subst hHx
      obtain ⟨r, hr⟩ : ∃ r, r = tx % 2 := ⟨_, rfl⟩
      rw [← hr] at hst1 ⊢
      simp only [putA_some]
      refine WDO.keep (l := [(4, .ptr H.next 0), (5, .int .i64 0), (6, .int .i64 0), (7, .ptr (H.next + 1) 0), (8, .int .i64 wb), (9, .int .i64 (i : Int)), (11, .ptr H3.next 0), (15, .agg (.cons va (.cons vb .nil))), (16, .int .i64 (i : Int)), (27, .bool true), (30, .int .i64 (r : Int))]) ?_ (by simp)
      obtain ⟨c, l', hrun, hsub, hst2⟩ : ∃ (c : Bool) (l' : List (Nat × AV)), runLk [yM 9 31 27 true, yB akEql 30 31 32 27 true, ⟨⟨pickA (.tmp 27) (.tmp 32) (.const (.bool false))⟩, (some 33), none⟩, xM 33 34, ⟨⟨ldA ⟨ldN 8⟩ (.tmp 7)⟩, (some 35), (some (34, true))⟩, ⟨⟨buildA (.cons (.int .i64 0) (.cons (.int .i64 0) (.cons (.int .i64 0) (.cons (.int .i64 0) (.cons (.int .i64 0) (.cons (.int .i64 0) (.cons (.int .i64 0) (.cons (.int .i64 0) .nil)))))))) flEnd⟩, (some 36), (some (34, true))⟩, ⟨⟨binEq ⟨eqAgg [0, 0, 0, 0, 0, 0, 0, 0]⟩ false (.tmp 35) (.tmp 36)⟩, (some 37), (some (34, true))⟩, yM 37 38 34 true, yF 11 2 39 38 false, yL 39 40 38 false, yF 7 2 41 38 false, yL 41 42 38 false, yB akGtr 40 42 43 38 false, yP 38 43 44 true 34 true, ⟨⟨pickA (.tmp 34) (.tmp 44) (.const (.bool false))⟩, (some 45), none⟩] (tl [(4, .ptr H.next 0), (5, .int .i64 0), (6, .int .i64 0), (7, .ptr (H.next + 1) 0), (8, .int .i64 wb), (9, .int .i64 (i : Int)), (11, .ptr H3.next 0), (15, .agg (.cons va (.cons vb .nil))), (16, .int .i64 (i : Int)), (27, .bool true), (30, .int .i64 (r : Int))]) Hx = some (tl l') ∧ lsub [(4, .ptr H.next 0), (5, .int .i64 0), (6, .int .i64 0), (7, .ptr (H.next + 1) 0), (8, .int .i64 wb), (9, .int .i64 (i : Int)), (11, .ptr H3.next 0), (15, .agg (.cons va (.cons vb .nil))), (16, .int .i64 (i : Int)), (45, .bool c)] l' ∧ bst la lb (i + 1) = if c = true then (m, (i : Int)) else (mb, wb) := by
        by_cases hri : r = i
        · subst hri
          rcases hor with rfl | hor
          · have hz : eqAgg [0, 0, 0, 0, 0, 0, 0, 0] Hx (.agg (avl (encMt zeroM))) (.agg zMt) = some true := eqM_z Hx
            simp only [zMt] at hz
            exact ⟨true, _, by simp (disch := omega) [gB, bc, hz]; exact rfl, by simp, hst1 _ (by simp)⟩
          · have he0 : 0 < mb.engine := by rcases hor.1 with e | e <;> omega
            have hz : eqAgg [0, 0, 0, 0, 0, 0, 0, 0] Hx (.agg (avl (encMt mb))) (.agg zMt) = some false := eqM_n Hx he0
            simp only [zMt] at hz
            have hnz : mb ≠ zeroM := by intro e; rw [e] at he0; exact absurd he0 (by decide)
            by_cases hlt : mb.txn < (tx : Int)
            · exact ⟨true, _, by simp (disch := omega) [gB, bc, hz, b2, g5, m2, hlt]; exact rfl, by simp, hst1 _ (by simp [hlt])⟩
            · exact ⟨false, _, by simp (disch := omega) [gB, bc, hz, b2, g5, m2, hlt]; exact rfl, by simp, hst1 _ (by simp [hlt, hnz])⟩
        · have hri' : ¬ (r : Int) = (i : Int) := by omega
          exact ⟨false, _, by simp (disch := omega) [hri']; exact rfl, by simp, hst1 _ (by simp [hri])⟩
      refine WDO.looks1 tyOk extOk 15 (ls := [yM 9 31 27 true, yB akEql 30 31 32 27 true, ⟨⟨pickA (.tmp 27) (.tmp 32) (.const (.bool false))⟩, (some 33), none⟩, xM 33 34, ⟨⟨ldA ⟨ldN 8⟩ (.tmp 7)⟩, (some 35), (some (34, true))⟩, ⟨⟨buildA (.cons (.int .i64 0) (.cons (.int .i64 0) (.cons (.int .i64 0) (.cons (.int .i64 0) (.cons (.int .i64 0) (.cons (.int .i64 0) (.cons (.int .i64 0) (.cons (.int .i64 0) .nil)))))))) flEnd⟩, (some 36), (some (34, true))⟩, ⟨⟨binEq ⟨eqAgg [0, 0, 0, 0, 0, 0, 0, 0]⟩ false (.tmp 35) (.tmp 36)⟩, (some 37), (some (34, true))⟩, yM 37 38 34 true, yF 11 2 39 38 false, yL 39 40 38 false, yF 7 2 41 38 false, yL 41 42 38 false, yB akGtr 40 42 43 38 false, yP 38 43 44 true 34 true, ⟨⟨pickA (.tmp 34) (.tmp 44) (.const (.bool false))⟩, (some 45), none⟩]) (by kernel_rfl) hrun ?_
      clear hrun
      cases c with
      | true =>
        rw [if_pos rfl] at hst2
        refine WDO.nilS (WD.keep (WD.cond (t := true) (by simp) (fun _ => WD.region ?_) (by simp)) hsub)
        refine WDO.looks1 tyOk extOk 2 (ls := [⟨⟨ldA ⟨ldN 8⟩ (.tmp 11)⟩, (some 46), none⟩, xM 9 47]) (by kernel_rfl) (by simp (disch := omega) [g5, mc]; exact rfl) ?_
        obtain ⟨H6, t1, t2, t3, t4⟩ := storeM m hB5
        refine WDO.heavy1 tyOk extOk (k := ⟨hvStore ⟨stN 8⟩ (.tmp 7) (.tmp 46)⟩) (by kernel_rfl) rfl (by kernel_rfl) (by simp; exact st_ob t1) ?_
        refine WDO.looks1 tyOk extOk 1 (ls := [xM 47 8]) (by kernel_rfl) (by simp (disch := omega) []; exact rfl) ?_
        refine WDO.nil ?_
        refine WDO.looks1 tyOk extOk 2 (ls := [xC akAdd 16 1 48, xM 48 16]) (by kernel_rfl) (by simp (disch := omega) []; exact rfl) ?_
        refine WDO.nil ⟨rfl, i + 1, _, rfl, by rw [hst2]; simp, ⟨by omega, by rw [hst2]; exact t3, hR5.keep t4 (by omega) (by omega), kk5.trans' t4 fun x hx e => by omega, by omega⟩, by omega⟩
      | false =>
        rw [if_neg (by simp)] at hst2
        refine WDO.nilS (WD.keep (WD.cond (t := false) (by simp) (by simp) fun _ => WD.skip (.inl rfl) ?_) hsub)
        refine WDO.looks1 tyOk extOk 2 (ls := [xC akAdd 16 1 48, xM 48 16]) (by kernel_rfl) (by simp (disch := omega) []; exact rfl) ?_
        refine WDO.nil ⟨rfl, i + 1, _, rfl, by rw [hst2]; simp, ⟨by omega, by rw [hst2]; exact hB5, hR5, kk5, by omega⟩, by omega⟩
    · have hu := hu2 hsay
      subst hu
      have hst1 : bst la lb (i + 1) = (mb, wb) := by rw [hst]; unfold bstS; rw [if_neg fun q => hsay q.1]
      refine WDO.looks1 tyOk extOk 3 (ls := [xM 22 20, ⟨⟨exA (.tmp 20) 0⟩, (some 23), none⟩, ⟨⟨exA (.tmp 20) 1⟩, (some 24), none⟩]) (by kernel_rfl) (by simp (disch := omega) []; exact rfl) ?_
      refine WDO.fresh1 tyOk (k := ⟨frAlloc (.cs 75 8 8 false (.cons (.int .i64 0) (.cons (.int .i64 0) (.cons (.int .i64 0) (.cons (.int .i64 0) (.cons (.int .i64 0) (.cons (.int .i64 0) (.cons (.int .i64 0) (.cons (.int .i64 0) .nil)))))))) .e)⟩) (by kernel_rfl) rfl (by kernel_rfl) (v := .ptr H3.next 0) (x := .cs 75 8 8 false zMt .e) ?_ ?_
      · exact rfl
      have hC := newM H3
      have hk4 : Keep noB H3 (H3.new (.cs 75 8 8 false zMt .e)) := Keep.new _ _ _
      have n4 : (H3.new (.cs 75 8 8 false zMt .e)).next = H3.next + 1 := by simp
      have hB4 := hB3.keep hk4 (by omega) id
      have hR4 := hR3.keep hk4 (by omega) id
      generalize H3.new (.cs 75 8 8 false zMt .e) = H4 at hC hk4 n4 hB4 hR4 ⊢
      obtain ⟨H5, s1, s2, s3, s4⟩ := storeM zeroM hC
      refine WDO.heavy1 tyOk extOk (k := ⟨hvStore ⟨stN 8⟩ (.tmp 11) (.tmp 23)⟩) (by kernel_rfl) rfl (by kernel_rfl) (by simp; exact st_ob s1) ?_
      have hB5 := hB4.keep s4 (by omega) (by omega)
      have hR5 := hR4.keep s4 (by omega) (by omega)
      have kk5 : Keep noB H H5 := (kk3.trans hk4).trans' s4 fun x hx e => by have := kk3.1; omega
      refine WDO.looks1 tyOk extOk 1 (ls := [xM 24 12]) (by kernel_rfl) (by simp (disch := omega) []; exact rfl) ?_
      refine WDO.nilS (WD.seqR ?_)
      refine WDO.looks1 tyOk extOk 5 (ls := [xM 12 25, xC akEql 25 0 26, xM 26 27, yF 11 2 28 27 true, yL 28 29 27 true]) (by kernel_rfl) (by simp (disch := omega) []; exact rfl) ?_
      refine WDO.skipG (g := some (27, true)) (by kernel_rfl) (by simp [wantA, wantG, get_tl]) (by kernel_rfl) ?_
      refine WDO.looks1 tyOk extOk 15 (ls := [yM 9 31 27 true, yB akEql 30 31 32 27 true, ⟨⟨pickA (.tmp 27) (.tmp 32) (.const (.bool false))⟩, (some 33), none⟩, xM 33 34, ⟨⟨ldA ⟨ldN 8⟩ (.tmp 7)⟩, (some 35), (some (34, true))⟩, ⟨⟨buildA (.cons (.int .i64 0) (.cons (.int .i64 0) (.cons (.int .i64 0) (.cons (.int .i64 0) (.cons (.int .i64 0) (.cons (.int .i64 0) (.cons (.int .i64 0) (.cons (.int .i64 0) .nil)))))))) flEnd⟩, (some 36), (some (34, true))⟩, ⟨⟨binEq ⟨eqAgg [0, 0, 0, 0, 0, 0, 0, 0]⟩ false (.tmp 35) (.tmp 36)⟩, (some 37), (some (34, true))⟩, yM 37 38 34 true, yF 11 2 39 38 false, yL 39 40 38 false, yF 7 2 41 38 false, yL 41 42 38 false, yB akGtr 40 42 43 38 false, yP 38 43 44 true 34 true, ⟨⟨pickA (.tmp 34) (.tmp 44) (.const (.bool false))⟩, (some 45), none⟩]) (by kernel_rfl) (by simp (disch := omega) []; exact rfl) ?_
      refine WDO.nilS (WD.cond (t := false) (by simp) (by simp) fun _ => WD.skip (.inl rfl) ?_)
      refine WDO.looks1 tyOk extOk 2 (ls := [xC akAdd 16 1 48, xM 48 16]) (by kernel_rfl) (by simp (disch := omega) []; exact rfl) ?_
      refine WDO.nil ⟨rfl, i + 1, _, rfl, by rw [hst1]; simp, ⟨by omega, by rw [hst1]; exact hB5, hR5, kk5, by omega⟩, by omega⟩
end
end Go.Proofs.YtcfpppleiikjhaaGreatDoor
