/- A part of the proof of this seat's statement: what is particular to its program. Its conditions stand in each theorem. -/
import Derived.Test.YtcfpppleiikjhaaGreatDoorL3
namespace Go.Proofs.YtcfpppleiikjhaaGreatDoor
open Go.Xq
noncomputable section
def truncL (P : Nat) (l : List UInt8) : Option (List UInt8) := match chM (l.take P) (sub l P (2 * P - P)) with
  | none => none
  | some m => if m.high ≤ ((l.length / P : Nat) : Int) then some (l.take ((max 4 m.high).toNat * P)) else none
theorem chM_ok {la lb : List UInt8} {m : Mt} (h : chM la lb = some m) : okM m := by
  unfold chM at h
  split at h
  · cases h
  · rename_i hc
    cases h
    rcases bst_or la lb 2 with e | e
    · rw [e] at hc; exact absurd rfl hc
    · exact e
theorem mmA_max (x : Int) : mmA true (.cons (.int .i64 x) .nil) (.int .i64 4) = some (.int .i64 (max 4 x)) := by
  show some (AV.int .i64 (bt (bt true (ltI 4 x) (ltI x 4)) x 4)) = _
  rw [bt_true]
  by_cases h : (4 : Int) < x
  · rw [ltI_dec, decide_eq_true h, bt_true]
    congr 2
    omega
  · rw [ltI_dec, decide_eq_false h, bt_false]
    congr 2
    omega
theorem room_same {H H1 : AH} (hk : Keep noB H H1) {b : Nat} (hb : b < H.next) (off len es : Nat) : roomOf H1 b off len es = roomOf H b off len es := by
  unfold roomOf
  rw [hk.2 b hb id]
theorem slA_same {H H1 : AH} {v : AV} {n : Nat} (hk : Keep noB H H1) (hb : ∀ b, blk v = some b → b < H.next) : slA 1 n v H1 = slA 1 n v H := by
  cases v with
  | sl b off len cap =>
    unfold slA
    rw [onSl_sl, onSl_sl, room_same hk (hb b rfl)]
  | _ => rfl
theorem slC_same {H H1 : AH} {v : AV} {lo hi : Option Nat} (hk : Keep noB H H1) (hb : ∀ b, blk v = some b → b < H.next) : slC 1 lo hi v H1 = slC 1 lo hi v H := by
  cases v with
  | sl b off len cap =>
    unfold slC
    rw [onSl_sl, onSl_sl, room_same hk (hb b rfl)]
  | _ => rfl
theorem rdS_low {H : AH} {v : AV} {l : List UInt8} (h : RdS H v l) (hn : l ≠ []) : ∀ b, blk v = some b → b < H.next := fun b hb => by
  rcases h with ⟨_, e⟩ | ⟨b', off, cap, rfl, h⟩
  · exact absurd e hn
  · cases hb
    exact (h hn).1
structure TrP (P : Nat) (l : List UInt8) : Prop where
  p1 : 512 ≤ P
  p2 : P ≤ 65536
  p3 : 4 * P ≤ l.length
  p4 : l.length ≤ 67108864
def TrQ (H : AH) (P : Nat) (l : List UInt8) (v' : AV) (H2 : AH) : Prop :=
  (∀ t, truncL P l = some t → ∃ u, v' = .tup (.cons u (.cons (.int .i64 0) .nil)) ∧ OwnB 5 H2 H.next u t) ∧ (truncL P l = none → v' = .tup (.cons .snil (.cons (.int .i64 51) .nil))) ∧ Keep noB H H2
set_option maxRecDepth 20000 in
set_option maxHeartbeats 4000000 in
theorem trunc24_ok {H : AH} {v : AV} {l : List UInt8} {P : Nat} (h : RdS H v l) (hs : SlOk H v) (hp : TrP P l) :
    DC Tryz.prog .normal 10 (.cons v (.cons (.int .i64 (P : Int)) .nil)) H (TrQ H P l) := by
  obtain ⟨p1, p2, p3, p4⟩ := hp
  have hne : l ≠ [] := by rintro rfl; simp at p3; omega
  refine DC.of_wd (re := reTmp 4 (reTmp 5 reNil)) tyOk Tryz.func10 (by kernel_rfl) rfl (by kernel_rfl) (by kernel_rfl) ?_
  rw [tl_nil, argsT_cons, argsT_cons, argsT_nil]
  have hlen := h.len
  obtain ⟨va, a1, a2, a3, _⟩ := slA_gen (n := P) h hs hne (by omega)
  obtain ⟨vb, b1, b2, b3⟩ : ∃ vb, slC 1 (some P) (some (2 * P)) v H = some vb ∧ RdS H vb (sub l P (2 * P - P)) ∧ SlOk H vb := by
    obtain ⟨vb, b1, b2, b3, _⟩ := slC_gen (lo := P) (some (2 * P)) (n := 2 * P) rfl h hs hne (by omega) (by omega)
    exact ⟨vb, b1, b2, b3⟩
  have la : (l.take P).length < 4611686018427387904 := by rw [List.length_take]; omega
  have lb : (sub l P (2 * P - P)).length < 4611686018427387904 := by rw [sub_len (by omega)]; omega
  have gm : akMul.f .i64 2 (P : Int) = some (.int .i64 ((2 * P : Nat) : Int)) := by
    have e : (2 : Int) * (P : Int) = ((2 * P : Nat) : Int) := by omega
    rw [akMul_i64 (by omega) (by omega), e]
  obtain ⟨PP, hPP⟩ : ∃ PP, PP = 2 * P := ⟨_, rfl⟩
  rw [← hPP] at gm b1
  refine WD.seqR ?_
  refine WDO.looks1 tyOk extOk 2 (ls := [⟨lkMove (.const (.slice none 0 0)), (some 4), none⟩, ⟨lkMove (.const (.int .i64 0)), (some 5), none⟩]) (by kernel_rfl) (by simp (disch := omega) []; exact rfl) ?_
  refine WDO.nilS (WD.seq ?_)
  have hCD := choose05_ok (H := H.new (.cs 75 8 8 false zMt .e)) (a2.keep (Keep.new noB _ _) fun _ _ => id) (b2.keep (Keep.new noB _ _) fun _ _ => id) la lb
  obtain ⟨R, hR, hRc⟩ := specR_ex Tryz.prog (fun _ _ H v' H2 => (∀ m, chM (l.take P) (sub l P (2 * P - P)) = some m → ∃ w, v' = .tup (.cons (mA m) (.cons (.int .i64 w) (.cons (.int .i64 0) .nil)))) ∧ (chM (l.take P) (sub l P (2 * P - P)) = none → v' = .tup (.cons (mA zeroM) (.cons (.int .i64 0) (.cons (.int .i64 51) .nil)))) ∧ Keep noB H H2)
  refine WD.drawnK tyOk extOk (by kernel_rfl) (ls := [⟨[0], .look (lkMove (.tmp 0)), (some 10), none, 0, 1, true, false⟩, ⟨[1], .look (lkMove (.tmp 1)), (some 11), none, 0, 1, true, false⟩, ⟨[10, 11], .look (⟨slSl 1 (.tmp 10) none (some (.tmp 11)) none⟩), (some 12), none, 0, 1, false, false⟩, ⟨[0], .look (lkMove (.tmp 0)), (some 13), none, 0, 1, true, false⟩, ⟨[1], .look (lkMove (.tmp 1)), (some 14), none, 0, 1, true, false⟩, ⟨[1], .look (lkMove (.tmp 1)), (some 15), none, 0, 1, true, false⟩, ⟨[15], .look (⟨binInt akMul (.const (.int .i64 2)) (.tmp 15)⟩), (some 16), none, 0, 1, false, false⟩, ⟨[13, 14, 16], .look (⟨slSl 1 (.tmp 13) (some (.tmp 14)) (some (.tmp 16)) none⟩), (some 17), none, 0, 1, false, false⟩, ⟨[], .fresh ⟨frAlloc (.cs 75 8 8 false (.cons (.int .i64 0) (.cons (.int .i64 0) (.cons (.int .i64 0) (.cons (.int .i64 0) (.cons (.int .i64 0) (.cons (.int .i64 0) (.cons (.int .i64 0) (.cons (.int .i64 0) .nil)))))))) .e)⟩, (some 6), none, 0, 2, false, false⟩, ⟨[12, 17], .heavy ⟨hvCallF E 27 (opnds [(.tmp 12), (.tmp 17)])⟩, (some 18), none, 0, 2, false, true⟩, ⟨[18], .look (lkMove (.tmp 18)), (some 9), none, 1, 1, true, false⟩, ⟨[9], .look (⟨exA (.tmp 9) 0⟩), (some 19), none, 1, 1, true, false⟩, ⟨[9], .look (⟨exA (.tmp 9) 1⟩), (some 20), none, 1, 2, true, false⟩, ⟨[9], .look (⟨exA (.tmp 9) 2⟩), (some 21), none, 1, 2, true, false⟩, ⟨[6, 19], .heavy ⟨hvStore ⟨stN 8⟩ (.tmp 6) (.tmp 19)⟩, none, none, 1, 2, false, true⟩, ⟨[20], .look (lkMove (.tmp 20)), (some 7), none, 2, 1, true, false⟩, ⟨[21], .look (lkMove (.tmp 21)), (some 8), none, 2, 1, true, false⟩]) (by kernel_rfl) hR fun K hK => ?_
  iterate 2 (refine diLookP (by simp [-resL_cons, resL_cc]; exact rfl) (by simp (disch := omega) []; exact rfl) ?_)
  refine diLookC (by simp [-resL_cons, resL_cc]; exact rfl) (by simp (disch := omega) [a1]; exact rfl) ?_
  iterate 3 (refine diLookP (by simp [-resL_cons, resL_cc]; exact rfl) (by simp (disch := omega) []; exact rfl) ?_)
  iterate 2 (refine diLookC (by simp [-resL_cons, resL_cc]; exact rfl) (by simp (disch := omega) [b1, gm]; exact rfl) ?_)
  refine diFresh rfl (o := .cs 75 8 8 false zMt .e) (v := .ptr H.next 0) rfl ?_
  have k1 : Keep noB H (H.new (.cs 75 8 8 false zMt .e)) := Keep.new _ _ _
  have hM := newM H
  have n1 : (H.new (.cs 75 8 8 false zMt .e)).next = H.next + 1 := by simp
  have g1 : (H.new (.cs 75 8 8 false zMt .e)).get H.next = some (.cs 75 8 8 false zMt .e) := get_new_same _ _
  generalize H.new (.cs 75 8 8 false zMt .e) = H1 at k1 hM n1 hCD g1 ⊢
  obtain ⟨u, H2, c1, hu1, hu2, k2⟩ := hRc 27 _ _ hCD
  obtain ⟨m, w, e, rfl, hm⟩ : ∃ (m : Mt) (w e : Int), u = .tup (.cons (mA m) (.cons (.int .i64 w) (.cons (.int .i64 e) .nil))) ∧ ((e = 0 ∧ chM (l.take P) (sub l P (2 * P - P)) = some m) ∨ (e = 51 ∧ chM (l.take P) (sub l P (2 * P - P)) = none)) := by
    cases hc : chM (l.take P) (sub l P (2 * P - P)) with
    | none => exact ⟨zeroM, 0, 51, hu2 hc, .inr ⟨rfl, rfl⟩⟩
    | some m =>
      obtain ⟨w, hw⟩ := hu1 m hc
      exact ⟨m, w, 0, hw, .inl ⟨rfl, rfl⟩⟩
  refine diCallF (by simp [-resL_cons, resL_cc]; exact rfl) (by simp) (extFree _ _ _ rfl rfl rfl) c1 (by have := k2.1; omega) ?_
  iterate 4 (refine diLookP (by simp [-resL_cons, resL_cc]; exact rfl) (by simp (disch := omega) []; exact rfl) ?_)
  have hM2 := hM.keep k2 (by omega) id
  obtain ⟨H3, s1, s2, s3, s4⟩ := storeM m hM2
  refine diHeavy (by simp [-resL_cons, resL_cc]; exact rfl) (v := undefA) (H2 := H3) (by simp; exact st_ob s1) (by omega) ?_
  simp only [putA_none]
  iterate 2 (refine diLookP (by simp [-resL_cons, resL_cc]; exact rfl) (by simp (disch := omega) []; exact rfl) ?_)
  simp only [diRun_nil, List.reverse_cons, List.reverse_nil, List.nil_append, List.cons_append, chkAdd_f, chkBlk_f, atAll_s, atAll_z, and_true, true_and]
  have a1' := (slA_same (n := P) k1 (rdS_low h hne)).trans a1
  have b1' := (slC_same (lo := some P) (hi := some PP) k1 (rdS_low h hne)).trans b1
  have g2 := k2.get (by omega) id g1
  refine ⟨⟨by simp [a1', b1', gm], trivial, g1, g2⟩, hK _ _ (WD.keep (l := [(0, v), (1, .int .i64 (P : Int)), (4, .snil), (5, .int .i64 0), (6, .ptr H.next 0), (8, .int .i64 e)]) (WD.seq (WD.seq ?_)) (by simp))⟩
  clear hK hRc hR c1 hu1 hu2
  have k3 : Keep noB H H3 := (k1.trans k2).trans' s4 fun x hx e => by omega
  obtain ⟨oM, gM, _, _, _, _, _, _, _, m7, _⟩ := s3.all
  obtain ⟨N, hN⟩ : ∃ N, N = l.length / P := ⟨_, rfl⟩
  have hquo := quoA_i64n (m := l.length) (d := P) (q := N) (by omega) hN (by omega)
  have hN4 : N * P ≤ l.length := by rw [hN]; exact Nat.div_mul_le_self _ _
  have h4N : 4 ≤ N := by rw [hN]; exact (Nat.le_div_iff_mul_le (by omega)).2 p3
  rcases hm with ⟨rfl, hm⟩ | ⟨rfl, hm⟩
  · have hok := chM_ok hm
    obtain ⟨hi, hhi⟩ : ∃ hi : Nat, m.high = (hi : Int) := ⟨m.high.toNat, by have := hok.2.2.2.1; omega⟩
    have hh2 := hok.2.2.2.1
    rw [hhi] at m7 hh2
    by_cases hc : hi ≤ N
    · have hc' : ¬ (N : Int) < (hi : Int) := by omega
      refine WD.drawLooks tyOk extOk (by kernel_rfl) (ls := [⟨[8], lkMove (.tmp 8), (some 22), none⟩, ⟨[22], ⟨binInt akNeq (.tmp 22) (.const (.int .i64 0))⟩, (some 23), none⟩, ⟨[23], lkMove (.tmp 23), (some 24), none⟩, ⟨[6, 24], ⟨fAddr (.tmp 6) 7⟩, (some 25), (some (24, false))⟩, ⟨[25, 24], ⟨ldA ⟨ld1⟩ (.tmp 25)⟩, (some 26), (some (24, false))⟩, ⟨[0, 24], lkMove (.tmp 0), (some 27), (some (24, false))⟩, ⟨[27, 24], ⟨lenSl (.tmp 27)⟩, (some 28), (some (24, false))⟩, ⟨[1, 24], lkMove (.tmp 1), (some 29), (some (24, false))⟩, ⟨[28, 29, 24], ⟨binInt ⟨quoA⟩ (.tmp 28) (.tmp 29)⟩, (some 30), (some (24, false))⟩, ⟨[26, 30, 24], ⟨binInt akGtr (.tmp 26) (.tmp 30)⟩, (some 31), (some (24, false))⟩, ⟨[24, 31], ⟨pickA (.tmp 24) (.const (.bool true)) (.tmp 31)⟩, (some 32), none⟩]) (by kernel_rfl) (by simp (disch := omega) [gM, m7, hlen, hquo, hc']; exact rfl) ?_
      refine WD.cond (t := false) (by simp) (by simp) fun _ => WD.skip (.inl rfl) (WD.seqR ?_)
      obtain ⟨M, hM⟩ : ∃ M : Nat, M = (max 4 (hi : Int)).toNat := ⟨_, rfl⟩
      have hM' : max 4 (hi : Int) = (M : Int) := by omega
      have hMN : M * P ≤ N * P := Nat.mul_le_mul_right _ (by omega)
      obtain ⟨S, hS⟩ : ∃ S, S = M * P := ⟨_, rfl⟩
      have hS' : (M : Int) * (P : Int) = (S : Int) := by rw [hS, Int.natCast_mul]
      rw [← hS] at hMN
      have gm2 : akMul.f .i64 (M : Int) (P : Int) = some (.int .i64 (S : Int)) := by rw [akMul_i64 (by rw [hS']; omega) (by rw [hS']; omega), hS']
      have hmm := mmA_max (hi : Int)
      rw [hM'] at hmm
      obtain ⟨vt, t1, t2, _⟩ := slA_gen (n := S) h hs hne (by omega)
      have t1' := (slA_same (n := S) k3 (rdS_low h hne)).trans t1
      have htr : truncL P l = some (l.take S) := by
        unfold truncL
        rw [hm]
        dsimp only
        rw [← hN, hhi, if_pos (by omega), ← hM, ← hS]
      have t2' := t2.keep k3 fun _ _ => id
      have ho : OwnB 5 H3 H.next .snil [] := .inl ⟨rfl, rfl⟩
      obtain ⟨v', H4, d1, d2, d3, _⟩ := ho.app k3.1 t2' (by rw [List.length_take]; simp; omega)
      rw [List.nil_append] at d2
      have k4 : Keep noB H H4 := k3.trans' d3 fun x hx e => by cases e
      refine WDO.looks1 tyOk extOk 7 (ls := [xM 0 33, xF 6 7 34, xL 34 35, ⟨⟨mmK true (.const (.int .i64 4)) [(.tmp 35)]⟩, (some 36), none⟩, xM 1 37, xB akMul 36 37 38, ⟨⟨slSl 1 (.tmp 33) none (some (.tmp 38)) none⟩, (some 39), none⟩]) (by kernel_rfl) (by simp (disch := omega) [gM, m7, hmm, gm2, t1']; exact rfl) ?_
      refine WDO.heavy1 tyOk extOk (k := ⟨hvAppend ⟨grownBy 5⟩ 1 (.const (.slice none 0 0)) (.tmp 39)⟩) (by kernel_rfl) rfl (by kernel_rfl) (by simp; exact d1) ?_
      refine WDO.looks1 tyOk extOk 2 (ls := [xM 40 4, ⟨lkMove (.const (.int .i64 0)), (some 5), none⟩]) (by kernel_rfl) (by simp (disch := omega) []; exact rfl) ?_
      exact WDO.nilS (WD.ret (endR _ (by simp; rfl) ⟨fun t e => (by rw [htr] at e; cases e; exact ⟨_, rfl, d2⟩), fun e => (by rw [htr] at e; cases e), k4⟩))
    · have hc' : (N : Int) < (hi : Int) := by omega
      have htr : truncL P l = none := by
        unfold truncL
        rw [hm]
        dsimp only
        rw [← hN, hhi, if_neg (by omega)]
      refine WD.drawLooks tyOk extOk (by kernel_rfl) (ls := [⟨[8], lkMove (.tmp 8), (some 22), none⟩, ⟨[22], ⟨binInt akNeq (.tmp 22) (.const (.int .i64 0))⟩, (some 23), none⟩, ⟨[23], lkMove (.tmp 23), (some 24), none⟩, ⟨[6, 24], ⟨fAddr (.tmp 6) 7⟩, (some 25), (some (24, false))⟩, ⟨[25, 24], ⟨ldA ⟨ld1⟩ (.tmp 25)⟩, (some 26), (some (24, false))⟩, ⟨[0, 24], lkMove (.tmp 0), (some 27), (some (24, false))⟩, ⟨[27, 24], ⟨lenSl (.tmp 27)⟩, (some 28), (some (24, false))⟩, ⟨[1, 24], lkMove (.tmp 1), (some 29), (some (24, false))⟩, ⟨[28, 29, 24], ⟨binInt ⟨quoA⟩ (.tmp 28) (.tmp 29)⟩, (some 30), (some (24, false))⟩, ⟨[26, 30, 24], ⟨binInt akGtr (.tmp 26) (.tmp 30)⟩, (some 31), (some (24, false))⟩, ⟨[24, 31], ⟨pickA (.tmp 24) (.const (.bool true)) (.tmp 31)⟩, (some 32), none⟩]) (by kernel_rfl) (by simp (disch := omega) [gM, m7, hlen, hquo, hc']; exact rfl) ?_
      refine WD.cond (t := true) (by simp) (fun _ => WD.seqR ?_) (by simp)
      refine WDO.looks1 tyOk extOk 2 (ls := [⟨lkMove (.const (.slice none 0 0)), (some 4), none⟩, ⟨lkMove (.const (.int .i64 51)), (some 5), none⟩]) (by kernel_rfl) (by simp (disch := omega) []; exact rfl) ?_
      exact WDO.nilS (WD.ret (endR _ (by simp; rfl) ⟨fun t e => (by rw [htr] at e; cases e), fun _ => rfl, k3⟩))
  · have htr : truncL P l = none := by unfold truncL; rw [hm]
    refine WD.drawLooks tyOk extOk (by kernel_rfl) (ls := [⟨[8], lkMove (.tmp 8), (some 22), none⟩, ⟨[22], ⟨binInt akNeq (.tmp 22) (.const (.int .i64 0))⟩, (some 23), none⟩, ⟨[23], lkMove (.tmp 23), (some 24), none⟩, ⟨[6, 24], ⟨fAddr (.tmp 6) 7⟩, (some 25), (some (24, false))⟩, ⟨[25, 24], ⟨ldA ⟨ld1⟩ (.tmp 25)⟩, (some 26), (some (24, false))⟩, ⟨[0, 24], lkMove (.tmp 0), (some 27), (some (24, false))⟩, ⟨[27, 24], ⟨lenSl (.tmp 27)⟩, (some 28), (some (24, false))⟩, ⟨[1, 24], lkMove (.tmp 1), (some 29), (some (24, false))⟩, ⟨[28, 29, 24], ⟨binInt ⟨quoA⟩ (.tmp 28) (.tmp 29)⟩, (some 30), (some (24, false))⟩, ⟨[26, 30, 24], ⟨binInt akGtr (.tmp 26) (.tmp 30)⟩, (some 31), (some (24, false))⟩, ⟨[24, 31], ⟨pickA (.tmp 24) (.const (.bool true)) (.tmp 31)⟩, (some 32), none⟩]) (by kernel_rfl) (by simp (disch := omega) []; exact rfl) ?_
    refine WD.cond (t := true) (by simp) (fun _ => WD.seqR ?_) (by simp)
    refine WDO.looks1 tyOk extOk 2 (ls := [⟨lkMove (.const (.slice none 0 0)), (some 4), none⟩, ⟨lkMove (.const (.int .i64 51)), (some 5), none⟩]) (by kernel_rfl) (by simp (disch := omega) []; exact rfl) ?_
    exact WDO.nilS (WD.ret (endR _ (by simp; rfl) ⟨fun t e => (by rw [htr] at e; cases e), fun _ => rfl, k3⟩))
end
end Go.Proofs.YtcfpppleiikjhaaGreatDoor
namespace Go.Proofs.YtcfpppleiikjhaaGreatDoor
open Go.Xq
noncomputable section
theorem ownB_ok {H : AH} {lo : Nat} {v : AV} {l : List UInt8} (h : OwnB 5 H lo v l) : SlOk H v := by
  rcases h with ⟨rfl, _⟩ | ⟨b, rfl, _, _, _, g⟩
  · exact .inl rfl
  · exact .inr (.inr ⟨b, 0, _, 5, l, rfl, g⟩)
theorem Dev.Ok.tr {d : Dev} (h : d.Ok) : TrP d.P d.img := by
  have hil : d.img.length = d.safe.length := imgL_len _ _ _ _
  exact ⟨h.pos, h.le, by rw [hil]; exact h.four, by rw [hil]; exact h.most⟩
set_option maxRecDepth 20000 in
set_option maxHeartbeats 4000000 in
theorem truncP_ok {H0 : AH} {O : Nat → Prop} {b : Nat} {d : Dev} (hA : PlAt H0 O b d) (hd : d.Ok) :
    DC Tryz.prog .normal 9 (.cons (.ptr b 0) .nil) H0 (TrQ H0 d.P d.img) := by
  obtain ⟨p1, p2, p3, p4⟩ := hd.tr
  have hil : d.img.length = d.safe.length := imgL_len _ _ _ _
  refine DC.of_wd (re := reTmp 2 (reTmp 3 reNil)) tyOk Tryz.func9 (by kernel_rfl) rfl (by kernel_rfl) (by kernel_rfl) ?_
  rw [tl_nil, argsT_cons, argsT_nil]
  refine WD.seqR ?_
  refine WDO.looks1 tyOk extOk 2 (ls := [⟨lkMove (.const (.slice none 0 0)), (some 2), none⟩, ⟨lkMove (.const (.int .i64 0)), (some 3), none⟩]) (by kernel_rfl) (by simp (disch := omega) []; exact rfl) ?_
  refine WDO.nilS (WD.seq (WD.seqR ?_))
  refine WDO.looks1 tyOk extOk 2 (ls := [xM 0 9, ⟨⟨binEq ⟨eqPtr 12⟩ false (.tmp 9) (.const (.pointer none))⟩, (some 10), none⟩]) (by kernel_rfl) (by simp (disch := omega) []; exact rfl) ?_
  refine WDO.nilS (WD.cond (t := false) (by simp) (by simp) fun _ => WD.skip (.inl rfl) (WD.seqR ?_))
  refine WDO.looks1 tyOk extOk 1 (ls := [xM 0 11]) (by kernel_rfl) (by simp (disch := omega) []; exact rfl) ?_
  refine WDO.callF (g := 8) rfl rfl rfl (by kernel_rfl) (l := .cons (.ptr b 0) .nil) (by simp) (image_ok hA hd) fun v H ⟨ho, k0⟩ => ?_
  have hA1 := hA.keep k0 fun _ _ _ => id
  refine WDO.looks1 tyOk extOk 1 (ls := [xM 0 13]) (by kernel_rfl) (by simp (disch := omega) []; exact rfl) ?_
  refine WDO.callF (g := 24) rfl rfl rfl (by kernel_rfl) (l := .cons (.ptr b 0) .nil) (by simp) (page_ok hA1) fun u Hx ⟨hu, hHx⟩ => ?_
  subst hu
  subst hHx
  refine WDO.looks1 tyOk extOk 2 (ls := [xM 12 4, xM 14 5]) (by kernel_rfl) (by simp (disch := omega) []; exact rfl) ?_
  have h := ho.rd
  have hs := ownB_ok ho
  generalize d.img = l at p3 p4 hil h hs ho ⊢
  have hpg : d.safe.length / d.P = l.length / d.P := by rw [hil]
  have hpages : DC Tryz.prog .normal 26 (.cons (.ptr b 0) .nil) Hx fun v' H2 => v' = .int .i64 ((l.length / d.P : Nat) : Int) ∧ H2 = Hx := by rw [← hpg]; exact pages_ok hA1 hd
  generalize hPP0 : d.P = P at p1 p2 p3 hpages ⊢
  have hne : l ≠ [] := by rintro rfl; simp at p3; omega
  have hlen := h.len
  obtain ⟨va, a1, a2, a3, _⟩ := slA_gen (n := P) h hs hne (by omega)
  obtain ⟨vb, b1, b2, b3⟩ : ∃ vb, slC 1 (some P) (some (2 * P)) v Hx = some vb ∧ RdS Hx vb (sub l P (2 * P - P)) ∧ SlOk Hx vb := by
    obtain ⟨vb, b1, b2, b3, _⟩ := slC_gen (lo := P) (some (2 * P)) (n := 2 * P) rfl h hs hne (by omega) (by omega)
    exact ⟨vb, b1, b2, b3⟩
  have la : (l.take P).length < 4611686018427387904 := by rw [List.length_take]; omega
  have lb : (sub l P (2 * P - P)).length < 4611686018427387904 := by rw [sub_len (by omega)]; omega
  have la0 : l.take P ≠ [] := by intro e; have e2 := congrArg List.length e; rw [List.length_take, List.length_nil] at e2; omega
  have lb0 : sub l P (2 * P - P) ≠ [] := by intro e; have e2 := sub_len (b := l) (at_ := P) (w := 2 * P - P) (by omega); rw [e, List.length_nil] at e2; omega
  have gm : akMul.f .i64 2 (P : Int) = some (.int .i64 ((2 * P : Nat) : Int)) := by
    have e : (2 : Int) * (P : Int) = ((2 * P : Nat) : Int) := by omega
    rw [akMul_i64 (by omega) (by omega), e]
  obtain ⟨PP, hPP⟩ : ∃ PP, PP = 2 * P := ⟨_, rfl⟩
  rw [← hPP] at gm b1
  refine WDO.nilS (WD.keep (l := [(0, .ptr b 0), (2, .snil), (3, .int .i64 0), (4, v), (5, .int .i64 (P : Int))]) (WD.seq ?_) (by simp))
  have hkn : Keep noB Hx (Hx.new (.cs 75 8 8 false zMt .e)) := Keep.new _ _ _
  have hCD := choose_ok (H := Hx.new (.cs 75 8 8 false zMt .e)) (a2.keep hkn fun _ _ => id) (fun _ => a3.keep a2 la0 hkn fun _ _ => id) (b2.keep hkn fun _ _ => id) (fun _ => b3.keep b2 lb0 hkn fun _ _ => id) la lb
  obtain ⟨R, hR, hRc⟩ := specR_ex Tryz.prog (fun _ _ H v' H2 => (∀ m, chM (l.take P) (sub l P (2 * P - P)) = some m → ∃ w, v' = .tup (.cons (mA m) (.cons (.int .i64 w) (.cons (.int .i64 0) .nil)))) ∧ (chM (l.take P) (sub l P (2 * P - P)) = none → v' = .tup (.cons (mA zeroM) (.cons (.int .i64 0) (.cons (.int .i64 51) .nil)))) ∧ Keep noB H H2)
  refine WD.drawnK tyOk extOk (by kernel_rfl) (ls := [⟨[4], .look (lkMove (.tmp 4)), (some 16), none, 0, 1, true, false⟩, ⟨[5], .look (lkMove (.tmp 5)), (some 17), none, 0, 1, true, false⟩, ⟨[16, 17], .look (⟨slSl 1 (.tmp 16) none (some (.tmp 17)) none⟩), (some 18), none, 0, 1, false, false⟩, ⟨[4], .look (lkMove (.tmp 4)), (some 19), none, 0, 1, true, false⟩, ⟨[5], .look (lkMove (.tmp 5)), (some 20), none, 0, 1, true, false⟩, ⟨[5], .look (lkMove (.tmp 5)), (some 21), none, 0, 1, true, false⟩, ⟨[21], .look (⟨binInt akMul (.const (.int .i64 2)) (.tmp 21)⟩), (some 22), none, 0, 1, false, false⟩, ⟨[19, 20, 22], .look (⟨slSl 1 (.tmp 19) (some (.tmp 20)) (some (.tmp 22)) none⟩), (some 23), none, 0, 1, false, false⟩, ⟨[], .fresh ⟨frAlloc (.cs 75 8 8 false (.cons (.int .i64 0) (.cons (.int .i64 0) (.cons (.int .i64 0) (.cons (.int .i64 0) (.cons (.int .i64 0) (.cons (.int .i64 0) (.cons (.int .i64 0) (.cons (.int .i64 0) .nil)))))))) .e)⟩, (some 6), none, 0, 2, false, false⟩, ⟨[18, 23], .heavy ⟨hvCallF E 25 (opnds [(.tmp 18), (.tmp 23)])⟩, (some 24), none, 0, 2, false, true⟩, ⟨[24], .look (lkMove (.tmp 24)), (some 15), none, 1, 1, true, false⟩, ⟨[15], .look (⟨exA (.tmp 15) 0⟩), (some 25), none, 1, 1, true, false⟩, ⟨[15], .look (⟨exA (.tmp 15) 1⟩), (some 26), none, 1, 2, true, false⟩, ⟨[15], .look (⟨exA (.tmp 15) 2⟩), (some 27), none, 1, 2, true, false⟩, ⟨[6, 25], .heavy ⟨hvStore ⟨stN 8⟩ (.tmp 6) (.tmp 25)⟩, none, none, 1, 2, false, true⟩, ⟨[26], .look (lkMove (.tmp 26)), (some 7), none, 2, 1, true, false⟩, ⟨[27], .look (lkMove (.tmp 27)), (some 8), none, 2, 1, true, false⟩]) (by kernel_rfl) hR fun K hK => ?_
  iterate 2 (refine diLookP (by simp [-resL_cons, resL_cc]; exact rfl) (by simp (disch := omega) []; exact rfl) ?_)
  refine diLookC (by simp [-resL_cons, resL_cc]; exact rfl) (by simp (disch := omega) [a1]; exact rfl) ?_
  iterate 3 (refine diLookP (by simp [-resL_cons, resL_cc]; exact rfl) (by simp (disch := omega) []; exact rfl) ?_)
  iterate 2 (refine diLookC (by simp [-resL_cons, resL_cc]; exact rfl) (by simp (disch := omega) [b1, gm]; exact rfl) ?_)
  refine diFresh rfl (o := .cs 75 8 8 false zMt .e) (v := .ptr Hx.next 0) rfl ?_
  have hM := newM Hx
  have n1 : (Hx.new (.cs 75 8 8 false zMt .e)).next = Hx.next + 1 := by simp
  have g1 : (Hx.new (.cs 75 8 8 false zMt .e)).get Hx.next = some (.cs 75 8 8 false zMt .e) := get_new_same _ _
  generalize Hx.new (.cs 75 8 8 false zMt .e) = H1 at hkn hM n1 hCD g1 ⊢
  obtain ⟨u, H2, c1, hu1, hu2, k2⟩ := hRc 25 _ _ hCD
  obtain ⟨m, w, e, rfl, hm⟩ : ∃ (m : Mt) (w e : Int), u = .tup (.cons (mA m) (.cons (.int .i64 w) (.cons (.int .i64 e) .nil))) ∧ ((e = 0 ∧ chM (l.take P) (sub l P (2 * P - P)) = some m) ∨ (e = 51 ∧ chM (l.take P) (sub l P (2 * P - P)) = none)) := by
    cases hc : chM (l.take P) (sub l P (2 * P - P)) with
    | none => exact ⟨zeroM, 0, 51, hu2 hc, .inr ⟨rfl, rfl⟩⟩
    | some m =>
      obtain ⟨w, hw⟩ := hu1 m hc
      exact ⟨m, w, 0, hw, .inl ⟨rfl, rfl⟩⟩
  refine diCallF (by simp [-resL_cons, resL_cc]; exact rfl) (by simp) (extFree _ _ _ rfl rfl rfl) c1 (by have := k2.1; omega) ?_
  iterate 4 (refine diLookP (by simp [-resL_cons, resL_cc]; exact rfl) (by simp (disch := omega) []; exact rfl) ?_)
  have hM2 := hM.keep k2 (by omega) id
  obtain ⟨H3, s1, s2, s3, s4⟩ := storeM m hM2
  refine diHeavy (by simp [-resL_cons, resL_cc]; exact rfl) (v := undefA) (H2 := H3) (by simp; exact st_ob s1) (by omega) ?_
  simp only [putA_none]
  iterate 2 (refine diLookP (by simp [-resL_cons, resL_cc]; exact rfl) (by simp (disch := omega) []; exact rfl) ?_)
  simp only [diRun_nil, List.reverse_cons, List.reverse_nil, List.nil_append, List.cons_append, chkAdd_f, chkBlk_f, atAll_s, atAll_z, and_true, true_and]
  have a1' := (slA_same (n := P) hkn (rdS_low h hne)).trans a1
  have b1' := (slC_same (lo := some P) (hi := some PP) hkn (rdS_low h hne)).trans b1
  have g2 := k2.get (by omega) id g1
  refine ⟨⟨by simp [a1', b1', gm], trivial, g1, g2⟩, hK _ _ (WD.keep (l := [(0, .ptr b 0), (2, .snil), (3, .int .i64 0), (4, v), (5, .int .i64 (P : Int)), (6, .ptr Hx.next 0), (8, .int .i64 e)]) (WD.seq (WD.seq ?_)) (by simp))⟩
  clear hK hRc hR c1 hu1 hu2
  have k3 : Keep noB Hx H3 := (hkn.trans k2).trans' s4 fun x hx e => by omega
  obtain ⟨oM, gM, _, _, _, _, _, _, _, m7, _⟩ := s3.all
  obtain ⟨N, hN⟩ : ∃ N, N = l.length / P := ⟨_, rfl⟩
  rw [← hN] at hpages
  have hN4 : N * P ≤ l.length := by rw [hN]; exact Nat.div_mul_le_self _ _
  have h4N : 4 ≤ N := by rw [hN]; exact (Nat.le_div_iff_mul_le (by omega)).2 p3
  have hk03 : Keep noB H0 H3 := k0.trans k3
  have hpg3 : DC Tryz.prog .normal 26 (.cons (.ptr b 0) .nil) H3 fun v' H2 => v' = .int .i64 (N : Int) ∧ H2 = H3 := by rw [hN, ← hPP0, ← hpg]; exact pages_ok (hA.keep hk03 fun _ _ _ => id) hd
  rcases hm with ⟨rfl, hm⟩ | ⟨rfl, hm⟩
  · have hok := chM_ok hm
    obtain ⟨hi, hhi⟩ : ∃ hi : Nat, m.high = (hi : Int) := ⟨m.high.toNat, by have := hok.2.2.2.1; omega⟩
    have hh2 := hok.2.2.2.1
    rw [hhi] at m7 hh2
    obtain ⟨R, hR, hRc⟩ := specR_ex Tryz.prog (fun _ _ H u H2 => u = .int .i64 (N : Int) ∧ H2 = H)
    refine WD.drawnK tyOk extOk (by kernel_rfl) (ls := [⟨[8], .look (lkMove (.tmp 8)), (some 28), none, 0, 1, true, false⟩, ⟨[28], .look (⟨binInt akNeq (.tmp 28) (.const (.int .i64 0))⟩), (some 29), none, 0, 1, false, false⟩, ⟨[29], .look (lkMove (.tmp 29)), (some 30), none, 0, 1, true, false⟩, ⟨[6, 30], .look (⟨fAddr (.tmp 6) 7⟩), (some 31), (some (30, false)), 0, 2, true, false⟩, ⟨[31, 30], .look (⟨ldA ⟨ld1⟩ (.tmp 31)⟩), (some 32), (some (30, false)), 0, 2, false, false⟩, ⟨[0, 30], .look (lkMove (.tmp 0)), (some 33), (some (30, false)), 0, 1, true, false⟩, ⟨[33, 30], .heavy ⟨hvCallF E 26 (opnds [(.tmp 33)])⟩, (some 34), (some (30, false)), 0, 2, false, true⟩, ⟨[32, 34, 30], .look (⟨binInt akGtr (.tmp 32) (.tmp 34)⟩), (some 35), (some (30, false)), 1, 1, false, false⟩, ⟨[30, 35], .look (⟨pickA (.tmp 30) (.const (.bool true)) (.tmp 35)⟩), (some 36), none, 1, 1, true, false⟩]) (by kernel_rfl) hR fun K hK => ?_
    simp (disch := omega) [gM, m7]
    obtain ⟨u1, Hz, c1, hu1, rfl⟩ := hRc 26 _ _ hpg3
    subst hu1
    refine diCall (by simp) (extFree _ _ _ rfl rfl rfl) c1 (Nat.le_refl _) ?_
    have hno : Keep noB H0 Hz := hk03
    by_cases hc : hi ≤ N
    · have hc' : ¬ (N : Int) < (hi : Int) := by omega
      obtain ⟨M, hM⟩ : ∃ M : Nat, M = (max 4 (hi : Int)).toNat := ⟨_, rfl⟩
      have hM' : max 4 (hi : Int) = (M : Int) := by omega
      have hMN : M * P ≤ N * P := Nat.mul_le_mul_right _ (by omega)
      obtain ⟨S, hS⟩ : ∃ S, S = M * P := ⟨_, rfl⟩
      have hS' : (M : Int) * (P : Int) = (S : Int) := by rw [hS, Int.natCast_mul]
      rw [← hS] at hMN
      have gm2 : akMul.f .i64 (M : Int) (P : Int) = some (.int .i64 (S : Int)) := by rw [akMul_i64 (by rw [hS']; omega) (by rw [hS']; omega), hS']
      have hmm := mmA_max (hi : Int)
      rw [hM'] at hmm
      obtain ⟨vt, t1, t2, _⟩ := slA_gen (n := S) h hs hne (by omega)
      have t1' := (slA_same (n := S) k3 (rdS_low h hne)).trans t1
      have htr : truncL P l = some (l.take S) := by
        unfold truncL
        rw [hm]
        dsimp only
        rw [← hN, hhi, if_pos (by omega), ← hM, ← hS]
      have t2' := t2.keep k3 fun _ _ => id
      have ho2 : OwnB 5 Hz H0.next .snil [] := .inl ⟨rfl, rfl⟩
      obtain ⟨v', H4, d1, d2, d3, _⟩ := ho2.app hk03.1 t2' (by rw [List.length_take]; simp; omega)
      rw [List.nil_append] at d2
      have k4 : Keep noB H0 H4 := hk03.trans' d3 fun x hx e => by cases e
      simp [gM, m7, hc']
      refine hK _ _ (WD.cond (t := false) (by simp) (by simp) fun _ => WD.skip (.inl rfl) (WD.seqR ?_))
      clear hK hRc hR c1
      refine WDO.looks1 tyOk extOk 7 (ls := [xM 4 37, xF 6 7 38, xL 38 39, ⟨⟨mmK true (.const (.int .i64 4)) [(.tmp 39)]⟩, (some 40), none⟩, xM 5 41, xB akMul 40 41 42, ⟨⟨slSl 1 (.tmp 37) none (some (.tmp 42)) none⟩, (some 43), none⟩]) (by kernel_rfl) (by simp (disch := omega) [gM, m7, hmm, gm2, t1']; exact rfl) ?_
      refine WDO.heavy1 tyOk extOk (k := ⟨hvAppend ⟨grownBy 5⟩ 1 (.const (.slice none 0 0)) (.tmp 43)⟩) (by kernel_rfl) rfl (by kernel_rfl) (by simp; exact d1) ?_
      refine WDO.looks1 tyOk extOk 2 (ls := [xM 44 2, ⟨lkMove (.const (.int .i64 0)), (some 3), none⟩]) (by kernel_rfl) (by simp (disch := omega) []; exact rfl) ?_
      exact WDO.nilS (WD.ret (endR _ (by simp; rfl) ⟨fun t e => (by rw [htr] at e; cases e; exact ⟨_, rfl, d2⟩), fun e => (by rw [htr] at e; cases e), k4⟩))
    · have hc' : (N : Int) < (hi : Int) := by omega
      have htr : truncL P l = none := by
        unfold truncL
        rw [hm]
        dsimp only
        rw [← hN, hhi, if_neg (by omega)]
      simp [gM, m7, hc']
      refine hK _ _ (WD.cond (t := true) (by simp) (fun _ => WD.seqR ?_) (by simp))
      refine WDO.looks1 tyOk extOk 2 (ls := [⟨lkMove (.const (.slice none 0 0)), (some 2), none⟩, ⟨lkMove (.const (.int .i64 51)), (some 3), none⟩]) (by kernel_rfl) (by simp (disch := omega) []; exact rfl) ?_
      exact WDO.nilS (WD.ret (endR _ (by simp; rfl) ⟨fun t e => (by rw [htr] at e; cases e), fun _ => rfl, hk03⟩))
  · have htr : truncL P l = none := by unfold truncL; rw [hm]
    obtain ⟨R, hR, hRc⟩ := specR_ex Tryz.prog (fun _ _ H u H2 => u = .int .i64 (N : Int) ∧ H2 = H)
    refine WD.drawnK tyOk extOk (by kernel_rfl) (ls := [⟨[8], .look (lkMove (.tmp 8)), (some 28), none, 0, 1, true, false⟩, ⟨[28], .look (⟨binInt akNeq (.tmp 28) (.const (.int .i64 0))⟩), (some 29), none, 0, 1, false, false⟩, ⟨[29], .look (lkMove (.tmp 29)), (some 30), none, 0, 1, true, false⟩, ⟨[6, 30], .look (⟨fAddr (.tmp 6) 7⟩), (some 31), (some (30, false)), 0, 2, true, false⟩, ⟨[31, 30], .look (⟨ldA ⟨ld1⟩ (.tmp 31)⟩), (some 32), (some (30, false)), 0, 2, false, false⟩, ⟨[0, 30], .look (lkMove (.tmp 0)), (some 33), (some (30, false)), 0, 1, true, false⟩, ⟨[33, 30], .heavy ⟨hvCallF E 26 (opnds [(.tmp 33)])⟩, (some 34), (some (30, false)), 0, 2, false, true⟩, ⟨[32, 34, 30], .look (⟨binInt akGtr (.tmp 32) (.tmp 34)⟩), (some 35), (some (30, false)), 1, 1, false, false⟩, ⟨[30, 35], .look (⟨pickA (.tmp 30) (.const (.bool true)) (.tmp 35)⟩), (some 36), none, 1, 1, true, false⟩]) (by kernel_rfl) hR fun K hK => ?_
    simp (disch := omega) []
    refine hK _ _ (WD.cond (t := true) (by simp) (fun _ => WD.seqR ?_) (by simp))
    refine WDO.looks1 tyOk extOk 2 (ls := [⟨lkMove (.const (.slice none 0 0)), (some 2), none⟩, ⟨lkMove (.const (.int .i64 51)), (some 3), none⟩]) (by kernel_rfl) (by simp (disch := omega) []; exact rfl) ?_
    exact WDO.nilS (WD.ret (endR _ (by simp; rfl) ⟨fun t e => (by rw [htr] at e; cases e), fun _ => rfl, hk03⟩))
end
end Go.Proofs.YtcfpppleiikjhaaGreatDoor
