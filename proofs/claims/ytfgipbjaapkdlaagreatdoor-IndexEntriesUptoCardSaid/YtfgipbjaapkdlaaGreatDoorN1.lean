/- A part of the proof of this seat's statement. Conditions: in each theorem. -/
import Derived.Test.YtfgipbjaapkdlaaGreatDoorL9
namespace Go.Proofs.YtfgipbjaapkdlaaGreatDoor
open Go.Xq
noncomputable section
abbrev qM26_1 : List Lk := [xM 7 73, xM 8 74, ⟨⟨buildA (.cons (.str 0 0) (.cons (.int .i64 0) (.cons (.int .i64 0) (.cons (.str 0 0) (.cons .snil .nil))))) ⟨fill1 (.const (.string ⟨#[111, 118, 101, 114]⟩)) 0 1 flEnd⟩⟩, (some 75), none⟩, xI 5 73 74 76]
abbrev qM26_2 : List Lk := [xM 7 34, xM 8 35, xI 5 34 35 36, xF 36 0 37, xL 37 38, ⟨⟨binStr skEql (.tmp 38) (.const (.string ⟨#[98, 101, 104, 105, 110, 100]⟩))⟩, (some 39), none⟩, xM 39 9]
set_option maxHeartbeats 4000000 in
theorem AsLent_ok {H : AH} {N lo hi : Nat} {r r0 : Rv} {x : Rec9} (hr : LentR H lo hi r x) (hhi : hi ≤ H.next) (hx : RecAt H N r0 x) (hNlo : N ≤ lo) (hok : RecOk9 x) (hn32 : x.fs.length < 1073741824) :
  DC Tryz.prog .normal 11 (.cons (rvA r) (.cons (rvA r0) .nil)) H fun v' H2 => v' = .bool true ∧ Keep (fun b => lo ≤ b ∧ b < hi) H H2 := by
 refine DC.of_wd (re := reTmp 4 reNil) tyOk Tryz.func11 (by kernel_rfl) rfl (by kernel_rfl) (by kernel_rfl) ?_
 rw [tl_nil, argsT_cons, argsT_cons, argsT_nil]
 have hkey : ∀ (q : Rv) (o : AObj), (∀ (j : Nat) (w : AV), (encR q)[j]? = some w → rdCell o j = some w) → rdCells o 4 0 = some (avl (encI ⟨q.k, q.n, q.t, q.v, q.c⟩)) := fun q o p2 => rdCells_of (encI ⟨q.k, q.n, q.t, q.v, q.c⟩) _ fun j w hj => by
  rw [Nat.zero_add]
  refine p2 j w ?_
  match j, hj with
  | 0, hj => exact hj
  | 1, hj => exact hj
  | 2, hj => exact hj
  | 3, hj => exact hj
  | j + 4, hj => simp [encI] at hj
 have hlt := hr.lt
 refine WD.seqR ?_
 refine WDO.box1 (enc := encR) (a := r) tyOk encR_len (by kernel_rfl : freshK E _ = some ⟨frBox ⟨mkCs 30 5 zRv⟩ (.tmp 0)⟩) rfl (by kernel_rfl) (by simp [rvA]; try rfl) fun o1 b1 => ?_
 have k1 : Keep noB H (H.new o1) := Keep.new _ _ _
 obtain ⟨p2, p3⟩ := box_rd encR_len b1
 have p1 : (H.new o1).get H.next = some o1 := get_new_same _ _
 have pv : rdCell o1 4 = some r.w := p2 4 _ rfl
 have pk := hkey r o1 p2
 have hn1 : H.next < (H.new o1).next := by simp
 clear b1 p2 p3
 generalize H.new o1 = H1 at *
 generalize hn1' : H.next = n1 at *
 refine WDO.box1 (enc := encR) (a := r0) tyOk encR_len (by kernel_rfl : freshK E _ = some ⟨frBox ⟨mkCs 30 5 zRv⟩ (.tmp 1)⟩) rfl (by kernel_rfl) (by simp [rvA]; try rfl) fun o2 b2 => ?_
 have kn : Keep noB H1 (H1.new o2) := Keep.new _ _ _
 have k2 : Keep noB H (H1.new o2) := k1.trans kn
 obtain ⟨q2, q3⟩ := box_rd encR_len b2
 have q1 : (H1.new o2).get H1.next = some o2 := get_new_same _ _
 have qv : rdCell o2 4 = some r0.w := q2 4 _ rfl
 have qk := hkey r0 o2 q2
 have p1 := kn.get hn1 id p1
 have hn2 : H1.next < (H1.new o2).next := by simp
 clear b2 q2 q3
 generalize H1.new o2 = H2 at *
 generalize hn2' : H1.next = n2 at *
 have hr2 := hr.keep k2 (by omega) fun _ _ _ => id
 have hx2 := hx.keep0 k2 (by omega)
 have hlf := hx2.f.len
 obtain ⟨mid, a, hF, hma, hS⟩ := hr2.ex
 have hFlt := hF.lt
 have hSlt := hS.lt
 obtain ⟨cs, mids, los, hA, hP, hm1⟩ := hF.ex
 have hwv := hF.v
 have hlw : onSl r.w (some (AV.int .i64 0)) (fun _ _ n _ => some (.int .i64 (n : Int))) = some (.int .i64 (x.fs.length : Int)) := by rw [hwv]; rfl
 refine leD 1 [xZ false 4] ?_
 refine WDO.nilS (WD.seqR ?_)
 refine lkD 4 [xF 3 4 10, xL 10 11, xN 11 12, xM 12 5] (by simp (disch := omega) [q1, qv, hlf]; exact rfl) ?_
 refine WDO.nilS (WD.seq (WD.seqR ?_))
 refine lkD 5 [xF 2 4 13, xL 13 14, xN 14 15, xM 5 16, xB akNeq 15 16 17] (by simp (disch := omega) [p1, pv, hlw]; exact rfl) ?_
 refine cdF ?_
 refine WD.seqR ?_
 refine lkD 4 [xF 2 0 18, xD 4 18 19, xF 3 0 20, xD 4 20 21] (by simp (disch := omega) [p1, q1, pk, qk]; exact rfl) ?_
 have hks : x.key.s.size < 1073741824 := by have := hok.key; simp only [Its.ofL, Its.size] at this; omega
 have hcall := AsLentItem_ok (k := x.key.k) (n := x.key.n) (t := x.key.t) hS (by omega) hx2.s (by omega) hks
 rw [← hr2.k, ← hr2.n, ← hr2.t] at hcall
 have er0 : itA r.k r.n r.t r0.v = .agg (avl (encI ⟨r0.k, r0.n, r0.t, r0.v, r0.c⟩)) := by rw [hr2.k, hr2.n, hr2.t, ← hx2.k, ← hx2.n, ← hx2.t]; rfl
 have er : itA r.k r.n r.t r.v = .agg (avl (encI ⟨r.k, r.n, r.t, r.v, r.c⟩)) := rfl
 rw [er0, er] at hcall
 refine WDO.callF (g := 42) rfl rfl rfl (by kernel_rfl) (l := .cons (.agg (avl (encI ⟨r.k, r.n, r.t, r.v, r.c⟩))) (.cons (.agg (avl (encI ⟨r0.k, r0.n, r0.t, r0.v, r0.c⟩))) .nil)) (by simp) hcall fun u H3 ⟨hu, k3⟩ => ?_
 subst hu
 have n3 := k3.1
 have kk3 : Keep (fun b => lo ≤ b ∧ b < hi) H H3 := (k2.mono fun _ _ e => e.elim).trans (k3.mono fun b _ e => by omega)
 have p1 := k3.get (by omega) (by omega) p1
 have q1 := k3.get (by omega) (by omega) q1
 have hA := hA.keep k3 (by omega) (by omega)
 have hP := hP.keep k3 fun b hb1 hb2 e => by rw [Nat.min_eq_right (by omega)] at hb2; omega
 have hx3 := hx2.keep k3 (by omega) (fun b hb e => by omega) (Nat.le_refl _)
 have gm : (x.fs.length : Int) + 3 = ((x.fs.length + 3 : Nat) : Int) := by omega
 generalize hm : x.fs.length + 3 = m at *
 have hsl : slA 5 m r.w H3 = some (.sl lo 0 m (some m)) := by rw [hwv]; exact slA_some (Nat.le_refl _)
 refine leD 1 [xM 22 6] ?_
 refine WDO.nilS (WD.seqR ?_)
 refine lkD 6 [xF 2 4 23, xL 23 24, xM 5 25, xC akAdd 25 3 26, ⟨⟨slSl 5 (.tmp 24) none (some (.tmp 26)) none⟩, (some 27), none⟩, xM 27 7] (by simp (disch := omega) [p1, pv, gm, hsl]; exact rfl) ?_
 refine WDO.nilS (WD.seq (WD.seqR ?_))
 refine leD 1 [xK 0 8] ?_
 refine WDO.nilS ?_
 have hcl := hP.len
 refine WD.forE (σ := Nat) (fun i => [(2, .ptr n1 0), (3, .ptr n2 0), (5, .int .i64 (x.fs.length : Int)), (6, .bool true), (7, .sl lo 0 m (some m)), (8, .int .i64 (i : Int))]) (fun i H' => i ≤ m ∧ Keep (fun b => lo ≤ b ∧ b < mid) H3 H' ∧ (∃ ds, Ax encF 76 5 zFv H' lo ds ∧ ds.length = m ∧ ∀ j, i ≤ j → ds[j]? = cs[j]?) ∧ ∀ (j : Nat) (c : Fv), i ≤ j → j < x.fs.length → cs[j]? = some c → LentS H' (los j) (mids (j + 1)) c.v (fsIts x.fs j)) (fun i => m - i) 0 ⟨Nat.zero_le _, Keep.refl _ _, ⟨cs, hA, by omega, fun _ _ => rfl⟩, fun j c _ hj hc => hP.s j c (by omega) hj hc⟩ (by simp) ?_
 rintro i H' ⟨hi', hk, ⟨ds, hD, hdl, hde⟩, hch⟩
 have n4 := hk.1
 have p1' := hk.get (by omega) (by omega) p1
 have q1' := hk.get (by omega) (by omega) q1
 refine leD 4 [xM 8 28, xM 7 29, xN 29 30, xB akLss 28 30 31] ?_
 refine WDO.nil ⟨decide (i < m), _, rfl, by simp, fun hc => ?_, fun hc => ?_⟩
 ·refine WD.seqR ?_
  refine leD 2 [xM 6 77, xM 77 4] ?_
  exact WDO.nilS (WD.ret (endR _ (by simp; rfl) ⟨rfl, kk3.trans (hk.mono fun b _ e => by omega)⟩))
 ·have hc : i < m := of_decide_eq_true hc
  obtain ⟨c, hcc⟩ := getS (l := cs) (i := i) (by omega)
  have hdc : ds[i]? = some c := by rw [hde i (Nat.le_refl _), hcc]
  obtain ⟨o, g1, g2, g3⟩ := hD.get encF_len hdc
  have gn : rdCell o (i * 5) = some (sb c.nm) := g2 0 _ rfl
  have hq := hP.q i c (by omega) hcc
  have hmn : ∀ j, j < x.fs.length → mids j ≤ los j ∧ los j ≤ mids (j + 1) := fun j hj => hP.mn j (by omega) hj
  have after : ∀ (H5 : AH), Keep (fun b => lo ≤ b ∧ b < mid) H3 H5 → Ax encF 76 5 zFv H5 lo ds → (∀ (j : Nat) (c : Fv), i + 1 ≤ j → j < x.fs.length → cs[j]? = some c → LentS H5 (los j) (mids (j + 1)) c.v (fsIts x.fs j)) → ∃ H6, stN 5 H5 (.agg (.cons (sb [111, 118, 101, 114]) (.cons (.int .i64 0) (.cons (.int .i64 0) (.cons (.str 0 0) (.cons .snil .nil)))))) (.ptr lo (i * 5)) = some H6 ∧ (i + 1 ≤ m ∧ Keep (fun b => lo ≤ b ∧ b < mid) H3 H6 ∧ (∃ ds, Ax encF 76 5 zFv H6 lo ds ∧ ds.length = m ∧ ∀ j, i + 1 ≤ j → ds[j]? = cs[j]?) ∧ ∀ (j : Nat) (c : Fv), i + 1 ≤ j → j < x.fs.length → cs[j]? = some c → LentS H6 (los j) (mids (j + 1)) c.v (fsIts x.fs j)) := by
   intro H5 kk5 hD5 hch5
   obtain ⟨H6, s1, s2, s3, s4⟩ := hD5.store encF_len (i := i) (by omega) ⟨[111, 118, 101, 114], 0, 0, [], .snil, rfl⟩ (cells_f _)
   have n5 := kk5.1
   refine ⟨H6, s1, by omega, kk5.trans' s4 fun b hb e => by omega, ⟨_, s3, by simp [hdl], fun j hj => by rw [List.getElem?_set_ne (by omega)]; exact hde j (by omega)⟩, fun j y hj hjl hy => ?_⟩
   obtain ⟨r1, r2⟩ := mids_in hmn hP.m0 hm1 hjl
   exact (hch5 j y hj hjl hy).keep s4 (by omega) fun b hb1 hb2 e => by omega
  refine WD.seqR ?_
  by_cases h : i < x.fs.length
  ·obtain ⟨f, hf⟩ := getS h
   have hfm := List.mem_of_getElem? hf
   obtain ⟨a0, a1, a2, a3⟩ := hq.1 f hf
   have hx' := hx3.keep hk (by omega) (fun b hb e => by omega) (Nat.le_refl _)
   obtain ⟨b', off', cap', o', u', e1', _, e3', e4', e5', e6', e7', e8', e9', e10', e11', e12'⟩ := hx'.f.at hf
   rw [a0] at gn
   have g4 : rdCells o 4 (i * 5 + 1) = some (avl [.int .i64 f.it.k, .int .i64 f.it.n, sb f.it.t, c.v]) := rdCells_of [.int .i64 f.it.k, .int .i64 f.it.n, sb f.it.t, c.v] _ fun j w hj => by
    have := g2 (j + 1) w (by rw [← a1, ← a2, ← a3] at hj; simpa [encF] using hj)
    rwa [show i * 5 + (j + 1) = i * 5 + 1 + j by omega] at this
   obtain ⟨q1i, q2i⟩ := mids_in hmn hP.m0 hm1 h
   have hli := hch i c (Nat.le_refl _) h hcc
   rw [fsIts_at hf] at hli
   have hlil := hli.lt
   refine lkD 7 qM26_2 (by simp (disch := omega) [g1, gn, hc]; exact rfl) ?_
   refine WDO.nilS (WD.seq (WD.seqR ?_))
   refine leD 3 [xM 8 40, xM 5 41, xB akLss 40 41 42] ?_
   refine WDO.nilS (WD.cond (t := true) (by simp [h]) (fun _ => ?_) (by simp [h]))
   have hcall := AsLentItem_ok (k := f.it.k) (n := f.it.n) (t := f.it.t) hli (by omega) e10' (by omega) (by have := (hok.fs f hfm).2.1; omega)
   obtain ⟨R, hR, hRc⟩ := specR_ex Tryz.prog (fun _ _ Hx u H2 => u = .bool true ∧ Keep (fun b => los i ≤ b ∧ b < mids (i + 1)) Hx H2)
   refine WD.drawnK tyOk extOk (by kernel_rfl) (ls := [zM 7 43 0 1, zM 8 44 0 1, zI 5 43 44 45 0 1, zF 45 1 46 0 1, ⟨[46], .look (⟨ldA ⟨ldN 4⟩ (.tmp 46)⟩), (some 47), none, 0, 1, false, false⟩, zF 3 4 48 0 1, zL 48 49 0 1, zM 8 50 0 1, zI 5 49 50 51 0 1, zF 51 1 52 0 1, ⟨[52], .look (⟨ldA ⟨ldN 4⟩ (.tmp 52)⟩), (some 53), none, 0, 1, false, false⟩, ⟨[47, 53], .heavy ⟨hvCallF E 42 (opnds [(.tmp 47), (.tmp 53)])⟩, (some 54), none, 0, 2, false, true⟩, zM 54 55 1 1, ⟨[7, 55], .look (lkMove (.tmp 7)), (some 56), (some (55, true)), 1, 1, true, false⟩, ⟨[8, 55], .look (lkMove (.tmp 8)), (some 57), (some (55, true)), 1, 1, true, false⟩, ⟨[56, 57, 55], .look (⟨ixSl 5 (.tmp 56) (.tmp 57)⟩), (some 58), (some (55, true)), 1, 1, true, false⟩, ⟨[58, 55], .look (⟨fAddr (.tmp 58) 0⟩), (some 59), (some (55, true)), 1, 1, true, false⟩, ⟨[59, 55], .look (⟨ldA ⟨ld1⟩ (.tmp 59)⟩), (some 60), (some (55, true)), 1, 1, false, false⟩, ⟨[3, 55], .look (⟨fAddr (.tmp 3) 4⟩), (some 61), (some (55, true)), 1, 1, true, false⟩, ⟨[61, 55], .look (⟨ldA ⟨ld1⟩ (.tmp 61)⟩), (some 62), (some (55, true)), 1, 1, false, false⟩, ⟨[8, 55], .look (lkMove (.tmp 8)), (some 63), (some (55, true)), 1, 1, true, false⟩, ⟨[62, 63, 55], .look (⟨ixSl 5 (.tmp 62) (.tmp 63)⟩), (some 64), (some (55, true)), 1, 1, true, false⟩, ⟨[64, 55], .look (⟨fAddr (.tmp 64) 0⟩), (some 65), (some (55, true)), 1, 1, true, false⟩, ⟨[65, 55], .look (⟨ldA ⟨ld1⟩ (.tmp 65)⟩), (some 66), (some (55, true)), 1, 1, false, false⟩, ⟨[60, 66, 55], .look (⟨binStr skEql (.tmp 60) (.tmp 66)⟩), (some 67), (some (55, true)), 1, 1, false, false⟩, ⟨[55, 67], .look (⟨pickA (.tmp 55) (.tmp 67) (.const (.bool false))⟩), (some 68), none, 1, 1, true, false⟩, zM 68 9 1 1]) (by kernel_rfl) hR fun K hK => ?_
   iterate 4 (refine diLookP (by simp [-resL_cons, resL_cc]; exact rfl) (by simp (disch := omega) []; exact rfl) ?_)
   refine diLookC (by simp [-resL_cons, resL_cc]; exact rfl) (by simp (disch := omega) [g1, g4]; exact rfl) ?_
   refine diLookP (by simp [-resL_cons, resL_cc]; exact rfl) (by simp (disch := omega) []; exact rfl) ?_
   refine diLookC (by simp [-resL_cons, resL_cc]; exact rfl) (by simp (disch := omega) [q1', qv, e1']; exact rfl) ?_
   iterate 3 (refine diLookP (by simp [-resL_cons, resL_cc]; exact rfl) (by simp (disch := omega) []; exact rfl) ?_)
   refine diLookC (by simp [-resL_cons, resL_cc]; exact rfl) (by simp (disch := omega) [e4', e11']; exact rfl) ?_
   obtain ⟨uw, H2', q3, rfl, k5⟩ := hRc 42 _ _ hcall
   have q3 : R.call 42 (.cons (.agg (avl [.int .i64 f.it.k, .int .i64 f.it.n, sb f.it.t, c.v])) (.cons (.agg (avl [.int .i64 f.it.k, .int .i64 f.it.n, sb f.it.t, u'])) .nil)) H' = some (_, H2') := q3
   refine diCallF (by simp [-resL_cons, resL_cc]; exact rfl) (by simp) (extFree _ _ _ rfl rfl rfl) q3 k5.1 ?_
   have n5 := k5.1
   have kk5 : Keep (fun b => lo ≤ b ∧ b < mid) H3 H2' := hk.trans' k5 fun b hb e => by omega
   have hD5 := hD.keep k5 (by omega) (by omega)
   have g15 := k5.get (by omega) (by omega) g1
   have e45 := k5.get (by omega) (by omega) e4'
   have q15 := k5.get (by omega) (by omega) q1'
   have p15 := k5.get (by omega) (by omega) p1'
   simp (disch := omega) [g1, g4, g15, gn, q1', q15, qv, e1', e4', e45, e5', e11', h]
   refine hK _ _ ?_
   clear hK hRc hR q3 hcall
   obtain ⟨H6, s1, hI⟩ := after H2' kk5 hD5 fun j y hj hjl hy => by
    obtain ⟨r1, r2⟩ := mids_in hmn hP.m0 hm1 hjl
    refine (hch j y (by omega) hjl hy).keep k5 (by omega) fun b hb1 hb2 e => ?_
    have r3 := mids_le hmn (j - (i + 1)) (i + 1) (by omega)
    rw [show i + 1 + (j - (i + 1)) = j by omega] at r3
    have := hmn j hjl
    omega
   refine WD.seqR ?_
   refine leD 5 [xM 6 69, xM 69 70, yM 9 71 70 true, xA 70 71 72 false, xM 72 6] ?_
   refine WDO.nilS (WD.region ?_)
   refine leD 4 qM26_1 ?_
   refine WDO.heavy1 tyOk extOk (k := ⟨hvStore ⟨stN 5⟩ (.tmp 76) (.tmp 75)⟩) (by kernel_rfl) rfl (by kernel_rfl) (by simp [s1]; exact ⟨rfl, rfl⟩) ?_
   refine WDO.nil ?_
   refine leD 3 [xM 8 32, xC akAdd 32 1 33, xM 33 8] ?_
   exact WDO.nil ⟨rfl, i + 1, _, rfl, by simp, hI, by omega⟩
  ·have hck := hq.2 (by omega)
   rw [hck] at gn
   have gn : rdCell o (i * 5) = some (sb [98, 101, 104, 105, 110, 100]) := gn
   have hsE : sEq 6 (leNat [98, 101, 104, 105, 110, 100]) 6 (leNat [98, 101, 104, 105, 110, 100]) = true := by decide
   refine lkD 7 qM26_2 (by simp (disch := omega) [g1, gn, hc]; exact rfl) ?_
   refine WDO.nilS (WD.seq (WD.seqR ?_))
   refine leD 3 [xM 8 40, xM 5 41, xB akLss 40 41 42] ?_
   refine WDO.nilS (WD.cond (t := false) (by simp; omega) (by simp) fun _ => WD.skip (.inl rfl) ?_)
   obtain ⟨H6, s1, hI⟩ := after H' hk hD fun j y hj => hch j y (by omega)
   refine WD.seqR ?_
   refine lkD 5 [xM 6 69, xM 69 70, yM 9 71 70 true, xA 70 71 72 false, xM 72 6] (by simp (disch := omega) [hsE]; exact rfl) ?_
   refine WDO.nilS (WD.region ?_)
   refine leD 4 qM26_1 ?_
   refine WDO.heavy1 tyOk extOk (k := ⟨hvStore ⟨stN 5⟩ (.tmp 76) (.tmp 75)⟩) (by kernel_rfl) rfl (by kernel_rfl) (by simp [s1]; exact ⟨rfl, rfl⟩) ?_
   refine WDO.nil ?_
   refine leD 3 [xM 8 32, xC akAdd 32 1 33, xM 33 8] ?_
   exact WDO.nil ⟨rfl, i + 1, _, rfl, by simp, hI, by omega⟩
theorem mkZero24 (m : Nat) : mkZero E 24 m = some (.cs 24 3 (m * 3) false zXv .e) := by kernel_rfl
def behX : Xv := ⟨behindL, .snil, false, rfl⟩
set_option maxHeartbeats 4000000 in
theorem LentIndexes_ok {H : AH} {N : Nat} {v : AV} {rx : Xv} {ix : Ixd} (hv : SaysE encX 3 H N v [rx]) (hx : IxAt H N rx ix) (hN : N ≤ H.next) (hik : ix.ks.length < 1073741824) :
  DC Tryz.prog .normal 8 (.cons v .nil) H fun v' H2 => ∃ lo, H.next ≤ lo ∧ LentX H2 lo H2.next v' ix ∧ Keep noB H H2 := by
 refine DC.of_wd (re := reTmp 2 reNil) tyOk Tryz.func8 (by kernel_rfl) rfl (by kernel_rfl) (by kernel_rfl) ?_
 rw [tl_nil, argsT_cons, argsT_nil]
 have hlen := hv.len
 have hlen : onSl v (some (AV.int .i64 0)) (fun _ _ n _ => some (.int .i64 (n : Int))) = some (.int .i64 1) := by simpa using hlen
 refine WD.seqR ?_
 refine leD 1 [⟨lkMove (.const (.slice none 0 0)), (some 2), none⟩] ?_
 refine WDO.nilS (WD.seqR ?_)
 refine lkD 3 [xM 0 7, xN 7 8, xM 8 3] (by simp (disch := omega) [hlen]; exact rfl) ?_
 refine WDO.nilS (WD.seqR ?_)
 refine leD 2 [xM 3 9, xC akAdd 9 3 10] ?_
 refine WDO.fresh1 tyOk (k := ⟨frMake E 24 48 (.tmp 10) (.tmp 10)⟩) (by kernel_rfl) rfl (by kernel_rfl) (v := .sl H.next 0 4 (some 4)) (x := .cs 24 3 (4 * 3) false zXv .e) ?_ ?_
 ·dsimp only
  refine frMake_cs (E := E) (e := 24) (bytes := 48) (l := .tmp 10) (c := .tmp 10) (n := 4) (m := 4) (mkZero24 _) ?_ ?_ (Nat.le_refl _) (by omega) (by omega)
  ·simp
  ·simp
 have kb : Keep noB H (H.new (.cs 24 3 (4 * 3) false zXv .e)) := Keep.new _ _ _
 have hA0 := Ax.new (e := 24) (z := zXv) encX_len (a := zeroXv) rfl H 4
 have nb : H.next < (H.new (.cs 24 3 (4 * 3) false zXv .e)).next := by simp
 generalize H.new (.cs 24 3 (4 * 3) false zXv .e) = H1 at *
 generalize hb0 : H.next = b0 at *
 refine leD 1 [xM 11 4] ?_
 refine WDO.nilS (WD.seq (WD.seqR ?_))
 refine leD 1 [xK 0 5] ?_
 refine WDO.nilS ?_
 refine WD.forE (σ := Nat) (fun i => [(0, v), (3, .int .i64 1), (4, .sl b0 0 4 (some 4)), (5, .int .i64 (i : Int))]) (fun i H' => i ≤ 4 ∧ Keep (fun b => b = b0) H1 H' ∧ ∃ cs, Ax encX 24 3 zXv H' b0 cs ∧ cs.length = 4 ∧ (0 < i → ∃ bk o, (∃ c, cs[0]? = some c ∧ c.nm = ix.nm ∧ c.u = ix.u ∧ c.v = .sl bk 0 ix.ks.length none) ∧ b0 < bk ∧ bk < H'.next ∧ H'.get bk = some o ∧ ElB encT 9 1 true zT (ix.ks ++ beh3) o) ∧ ∀ (j : Nat) (c : Xv), 1 ≤ j → j < i → cs[j]? = some c → c.nm = behindL) (fun i => 4 - i) 0 ⟨Nat.zero_le _, Keep.refl _ _, _, hA0, by simp, fun h => absurd h (Nat.lt_irrefl _), fun j c h1 h2 => absurd h2 (Nat.not_lt_zero _)⟩ (by simp) ?_
 rintro i H' ⟨hi, hk, cs, hA, hcl, h0, hbh⟩
 have n1 := hk.1
 have kk : Keep noB H H' := kb.trans' hk fun b hb e => by omega
 refine leD 4 [xM 5 12, xM 4 13, xN 13 14, xB akLss 12 14 15] ?_
 refine WDO.nil ⟨decide (i < 4), _, rfl, by simp; omega, fun hc => ?_, fun hc => ?_⟩
 ·have hc : i = 4 := by have := of_decide_eq_false hc; omega
  subst hc
  have hsl : slA 3 1 (.sl b0 0 4 (some 4)) H' = some (.sl b0 0 1 (some 4)) := slA_some (by omega)
  obtain ⟨bk, o, h1, h2, h3, h4, h5⟩ := h0 (by omega)
  refine WD.seqR ?_
  refine lkD 4 [xM 4 56, xM 3 57, ⟨⟨slSl 3 (.tmp 56) none (some (.tmp 57)) none⟩, (some 58), none⟩, xM 58 2] (by simp (disch := omega) [hsl]; exact rfl) ?_
  refine WDO.nilS (WD.ret (endR _ (by simp; rfl) ?_))
  refine ⟨b0, Nat.le_refl _, ⟨rfl, by omega, cs, bk, o, hA, hcl, h1, h2, h3, h4, h5, fun j c hj hc => hbh j c hj ?_ hc⟩, kk⟩
  rcases Nat.lt_or_ge j 4 with h | h
  ·exact h
  ·rw [List.getElem?_eq_none (by omega)] at hc; cases hc
 ·have hc : i < 4 := of_decide_eq_true hc
  obtain ⟨H5, s1, s2, hA2, s4⟩ := hA.store encX_len (i := i) (by omega) behX (cells_x _)
  have s1' : stN 3 H' (.agg (.cons (sb [98, 101, 104, 105, 110, 100]) (.cons .snil (.cons (.bool false) .nil)))) (.ptr b0 (i * 3)) = some H5 := s1
  have hcI : (i : Int) < 4 := by omega
  refine WD.seqR ?_
  refine leD 4 [xM 4 18, xM 5 19, ⟨⟨buildA (.cons (.str 0 0) (.cons .snil (.cons (.bool false) .nil))) ⟨fill1 (.const (.string ⟨#[98, 101, 104, 105, 110, 100]⟩)) 0 1 flEnd⟩⟩, (some 20), none⟩, xI 3 18 19 21] ?_
  refine WDO.heavy1 tyOk extOk (k := ⟨hvStore ⟨stN 3⟩ (.tmp 21) (.tmp 20)⟩) (by kernel_rfl) rfl (by kernel_rfl) (by simp [s1']; exact ⟨rfl, rfl⟩) ?_
  have kk5 : Keep noB H H5 := kk.trans' s4 fun b hb e => by omega
  have hk2 := hk.trans s4
  refine WDO.nilS (WD.seqR ?_)
  refine leD 3 [xM 5 22, xM 3 23, xB akLss 22 23 24] ?_
  cases i with
  | zero =>
   refine cdT ?_
   obtain ⟨b', off', cap', o', e1, _, e3, e4, e5, e6⟩ := (hv.keep0 kk5 (by omega)).at encX_len (i := 0) (x := rx) rfl
   have f0 : rdCell o' off' = some (sb rx.nm) := by have := e5 0 _ rfl; simpa using this
   have f1 : rdCell o' (off' + 1) = some rx.v := by have := e5 1 _ rfl; simpa using this
   have f2 : rdCell o' (off' + 2) = some (.bool rx.u) := by have := e5 2 _ rfl; simpa using this
   have hx5 := hx.keep0 kk5 (by omega)
   obtain ⟨w1, H6, a1, a2, k6⟩ : ∃ w1 H6, appendA ⟨grownCs 1 ⟨mkCs 9 1 zT⟩⟩ 1 H5 .snil rx.v = some (w1, H6) ∧ LstAt encT 9 1 zT H6 H5.next w1 ix.ks ∧ Keep noB H5 H6 := by
    by_cases hk0 : ix.ks = []
    ·have hs := hx5.k
     rw [hk0] at hs ⊢
     exact ⟨.snil, H5, app_none hs, .inl ⟨rfl, rfl⟩, Keep.refl _ _⟩
    ·obtain ⟨v', H6, a1, a2, a3, a4, a5⟩ := LstAt.appN (e := 9) (z := zT) (H := H5) (lo := H5.next) (els := []) (v := .snil) encT_len (by omega) (.inl ⟨rfl, rfl⟩) (Nat.le_refl _) cells_t hx5.k hk0 (by simp; omega)
     exact ⟨v', H6, a1, by simpa using a2, a5.mono fun b _ e => by cases e⟩
   have n6 := k6.1
   refine lkD 5 [xM 0 25, xM 5 26, xI 3 25 26 27, xF 27 1 28, xL 28 29] (by simp (disch := omega) [e1, e4, f1]; exact rfl) ?_
   refine WDO.heavy1 tyOk extOk (k := ⟨hvAppend ⟨grownCs 1 ⟨mkCs 9 1 zT⟩⟩ 1 (.const (.slice none 0 0)) (.tmp 29)⟩) (by kernel_rfl) rfl (by kernel_rfl) (by simp; exact a1) ?_
   refine leD 1 [xM 30 6] ?_
   refine WDO.nilS (WD.seqR ?_)
   refine leD 1 [xM 6 31] ?_
   obtain ⟨ox, fx, bx⟩ := frSlice_els (enc := encT) (e := 9) (es := 1) (z := zT) (els := beh3) encT_len (n := 3) (z0 := zerosA zT 3) (g := ⟨fill1 (.const (.string ⟨#[98, 101, 104, 105, 110, 100]⟩)) 0 1 ⟨fill1 (.const (.string ⟨#[98, 101, 104, 105, 110, 100]⟩)) 1 1 ⟨fill1 (.const (.string ⟨#[98, 101, 104, 105, 110, 100]⟩)) 2 1 flEnd⟩⟩⟩) (T := tl [(31, w1)]) (b0 := H6.next) (by rfl) rfl
   refine WDO.fresh1 tyOk (k := ⟨frSlice 3 (zerosA zT 3) ⟨fill1 (.const (.string ⟨#[98, 101, 104, 105, 110, 100]⟩)) 0 1 ⟨fill1 (.const (.string ⟨#[98, 101, 104, 105, 110, 100]⟩)) 1 1 ⟨fill1 (.const (.string ⟨#[98, 101, 104, 105, 110, 100]⟩)) 2 1 flEnd⟩⟩⟩ ⟨mkCs 9 1 zT⟩⟩) (by kernel_rfl) rfl (by kernel_rfl) (v := .sl H6.next 0 3 (some 3)) (x := ox) (by exact fx) ?_
   have kn : Keep noB H6 (H6.new ox) := Keep.new _ _ _
   have gn : (H6.new ox).get H6.next = some ox := get_new_same _ _
   have nn : (H6.new ox).next = H6.next + 1 := by simp
   obtain ⟨w2, H7, d1, d2, d3, d4, d5⟩ := (a2.keep kn fun _ _ => id).appN encT_len (by omega) (by omega) cells_t (SaysE.of gn bx (N := H6.next + 1) (by omega)) (by simp [beh3]) (by simp [beh3]; omega)
   refine WDO.heavy1 tyOk extOk (k := ⟨hvAppend ⟨grownCs 1 ⟨mkCs 9 1 zT⟩⟩ 1 (.tmp 31) (.tmp 32)⟩) (by kernel_rfl) rfl (by kernel_rfl) (by simp; exact d1) ?_
   refine leD 1 [xM 33 6] ?_
   have hw2 : w2 = .sl (H6.new ox).next 0 (ix.ks.length + 3) none := by
    rcases d2 with ⟨_, h⟩ | ⟨b, o, rfl, _⟩
    ·simp [beh3] at h
    ·simp only [blk, Option.some.injEq] at d3
     rw [d3]; simp [beh3]
   obtain ⟨o9, g9, el9⟩ : ∃ o, H7.get (H6.new ox).next = some o ∧ ElB encT 9 1 true zT (ix.ks ++ beh3) o := by
    rcases d2 with ⟨_, h⟩ | ⟨b, o, rfl, _, _, _, h1, h2⟩
    ·simp [beh3] at h
    ·simp only [blk, Option.some.injEq] at d3
     rw [d3] at h1
     exact ⟨o, h1, h2⟩
   have k57 : Keep noB H5 H7 := (k6.trans kn).trans' d5 fun b hb e => by have := (a2.low e).1; omega
   generalize hbk : (H6.new ox).next = bk at *
   have e4c := k57.get (by omega) id e4
   have hx7 := hx5.keep0 k57 (by omega)
   have hlk := hx7.k.len
   have hsl : slA 1 ix.ks.length (.sl bk 0 (ix.ks.length + 3) none) H7 = some (.sl bk 0 ix.ks.length none) := by
    obtain ⟨t, ht⟩ := el9.opn
    rw [ht] at g9
    exact slA_none g9 (.inl (by omega))
   obtain ⟨H8, y1, y2, hA8, y4⟩ := (hA2.keep k57 (by omega) id).store encX_len (i := 0) (by simp; omega) ⟨ix.nm, .sl bk 0 ix.ks.length none, ix.u, rfl⟩ (cells_x _)
   have y1' : stN 3 H7 (.agg (.cons (sb ix.nm) (.cons (.sl bk 0 ix.ks.length none) (.cons (.bool ix.u) .nil)))) (.ptr b0 0) = some H8 := by rw [Nat.zero_mul] at y1; exact y1
   rw [hx.nm] at f0
   rw [hx.u] at f2
   refine WDO.nilS ?_
   rw [hw2]
   obtain ⟨R, hR, hRc⟩ := specR_ex Tryz.prog (fun _ _ _ _ _ => False)
   refine WD.drawnK tyOk extOk (by kernel_rfl) (ls := [zM 4 34 0 1, zM 5 35 0 1, zM 0 36 0 1, zM 5 37 0 1, zI 3 36 37 38 0 1, zF 38 0 39 0 1, zL 39 40 0 1, zM 6 41 0 1, zM 0 42 0 1, zM 5 43 0 1, zI 3 42 43 44 0 1, zF 44 1 45 0 1, zL 45 46 0 1, ⟨[46], .look (⟨lenSl (.tmp 46)⟩), (some 47), none, 0, 1, false, false⟩, ⟨[41, 47], .look (⟨slSl 1 (.tmp 41) none (some (.tmp 47)) none⟩), (some 48), none, 0, 1, false, false⟩, zM 0 49 0 1, zM 5 50 0 1, zI 3 49 50 51 0 1, zF 51 2 52 0 1, zL 52 53 0 1, ⟨[40, 48, 53], .look (⟨buildA (.cons (.str 0 0) (.cons .snil (.cons (.bool false) .nil))) ⟨fill1 (.tmp 40) 0 1 ⟨fill1 (.tmp 48) 1 1 ⟨fill1 (.tmp 53) 2 1 flEnd⟩⟩⟩⟩), (some 54), none, 0, 1, true, false⟩, zI 3 34 35 55 0 1, ⟨[55, 54], .heavy ⟨hvStore ⟨stN 3⟩ (.tmp 55) (.tmp 54)⟩, none, none, 0, 2, false, true⟩]) (by kernel_rfl) hR fun K hK => ?_
   iterate 6 (refine diLookP (by simp [-resL_cons, resL_cc]; exact rfl) (by simp (disch := omega) []; exact rfl) ?_)
   refine diLookC (by simp [-resL_cons, resL_cc]; exact rfl) (by simp (disch := omega) [e4c, f0]; exact rfl) ?_
   iterate 5 (refine diLookP (by simp [-resL_cons, resL_cc]; exact rfl) (by simp (disch := omega) []; exact rfl) ?_)
   iterate 3 (refine diLookC (by simp [-resL_cons, resL_cc]; exact rfl) (by simp (disch := omega) [e4c, f1, hlk, hsl]; exact rfl) ?_)
   iterate 4 (refine diLookP (by simp [-resL_cons, resL_cc]; exact rfl) (by simp (disch := omega) []; exact rfl) ?_)
   refine diLookC (by simp [-resL_cons, resL_cc]; exact rfl) (by simp (disch := omega) [e4c, f2]; exact rfl) ?_
   iterate 2 (refine diLookP (by simp [-resL_cons, resL_cc]; exact rfl) (by simp (disch := omega) []; exact rfl) ?_)
   refine diHeavy (by simp [-resL_cons, resL_cc]; exact rfl) (v := undefA) (H2 := H8) (by simp; exact stN_ob y1') (by omega) ?_
   have e4d := y4.get (by omega) (by omega) e4c
   have hlt8 := y4.get (by omega) (by omega) g9
   simp only [diRun_nil, putA_none, List.reverse_cons, List.reverse_nil, List.nil_append, List.cons_append, chkAdd_f, atAll_s, atAll_z, and_true, true_and]
   refine ⟨by simp (disch := omega) [e4c, f0, f1, f2, hlk, hsl], hK _ _ ?_⟩
   clear hK hRc hR
   rw [List.set_set] at hA8
   refine leD 3 [xM 5 16, xC akAdd 16 1 17, xM 17 5] ?_
   exact WDO.nil ⟨rfl, 1, _, rfl, by simp [e1], ⟨by omega, (hk2.trans' k57 fun _ _ e => e.elim).trans y4, _, hA8, by simp [hcl], fun _ => ⟨bk, o9, ⟨⟨ix.nm, .sl bk 0 ix.ks.length none, ix.u, rfl⟩, by rw [List.getElem?_set_self (by omega)], rfl, rfl, rfl⟩, by omega, by omega, hlt8, el9⟩, fun a d ha1 ha2 hd => by omega⟩, by omega⟩
  | succ j =>
   have hj0 : decide (((j + 1 : Nat) : Int) < 1) = false := decide_eq_false (by omega)
   refine WDO.nilS (WD.cond (t := false) (by simp; omega) (by simp) fun _ => WD.skip (.inl rfl) ?_)
   refine leD 3 [xM 5 16, xC akAdd 16 1 17, xM 17 5] ?_
   refine WDO.nil ⟨rfl, j + 2, _, rfl, by simp; omega, ⟨by omega, hk2, _, hA2, by simp [hcl], fun _ => ?_, fun a d ha1 ha2 hd => ?_⟩, by omega⟩
   ·obtain ⟨bk, o, ⟨c, h1, h1'⟩, h2, h3, h4, h5⟩ := h0 (by omega)
    exact ⟨bk, o, ⟨c, by rw [List.getElem?_set_ne (by omega)]; exact h1, h1'⟩, h2, by omega, s4.get h3 (by omega) h4, h5⟩
   ·rcases Nat.lt_or_ge a (j + 1) with h | h
    ·rw [List.getElem?_set_ne (by omega)] at hd
     exact hbh a d ha1 h hd
    ·obtain rfl : a = j + 1 := by omega
     rw [List.getElem?_set_self (by omega)] at hd
     cases hd; rfl
abbrev qM28_1 : List Dk := [⟨[6], lkMove (.tmp 6), (some 51), none⟩, ⟨[8], lkMove (.tmp 8), (some 52), none⟩, ⟨[51, 52], ⟨ixSl 3 (.tmp 51) (.tmp 52)⟩, (some 53), none⟩, ⟨[53], ⟨fAddr (.tmp 53) 1⟩, (some 54), none⟩, ⟨[54], ⟨ldA ⟨ld1⟩ (.tmp 54)⟩, (some 55), none⟩, ⟨[55], ⟨lenSl (.tmp 55)⟩, (some 56), none⟩, ⟨[9], lkMove (.tmp 9), (some 57), none⟩, ⟨[56, 57], ⟨binInt akNeq (.tmp 56) (.tmp 57)⟩, (some 58), none⟩, ⟨[58], lkMove (.tmp 58), (some 59), none⟩, ⟨[6, 59], lkMove (.tmp 6), (some 60), (some (59, false))⟩, ⟨[8, 59], lkMove (.tmp 8), (some 61), (some (59, false))⟩, ⟨[60, 61, 59], ⟨ixSl 3 (.tmp 60) (.tmp 61)⟩, (some 62), (some (59, false))⟩, ⟨[62, 59], ⟨fAddr (.tmp 62) 0⟩, (some 63), (some (59, false))⟩, ⟨[63, 59], ⟨ldA ⟨ld1⟩ (.tmp 63)⟩, (some 64), (some (59, false))⟩, ⟨[1, 59], lkMove (.tmp 1), (some 65), (some (59, false))⟩, ⟨[8, 59], lkMove (.tmp 8), (some 66), (some (59, false))⟩, ⟨[65, 66, 59], ⟨ixSl 3 (.tmp 65) (.tmp 66)⟩, (some 67), (some (59, false))⟩, ⟨[67, 59], ⟨fAddr (.tmp 67) 0⟩, (some 68), (some (59, false))⟩, ⟨[68, 59], ⟨ldA ⟨ld1⟩ (.tmp 68)⟩, (some 69), (some (59, false))⟩, ⟨[64, 69, 59], ⟨binStr skNeq (.tmp 64) (.tmp 69)⟩, (some 70), (some (59, false))⟩, ⟨[59, 70], ⟨pickA (.tmp 59) (.const (.bool true)) (.tmp 70)⟩, (some 71), none⟩, ⟨[71], lkMove (.tmp 71), (some 72), none⟩, ⟨[6, 72], lkMove (.tmp 6), (some 73), (some (72, false))⟩, ⟨[8, 72], lkMove (.tmp 8), (some 74), (some (72, false))⟩, ⟨[73, 74, 72], ⟨ixSl 3 (.tmp 73) (.tmp 74)⟩, (some 75), (some (72, false))⟩, ⟨[75, 72], ⟨fAddr (.tmp 75) 2⟩, (some 76), (some (72, false))⟩, ⟨[76, 72], ⟨ldA ⟨ld1⟩ (.tmp 76)⟩, (some 77), (some (72, false))⟩, ⟨[1, 72], lkMove (.tmp 1), (some 78), (some (72, false))⟩, ⟨[8, 72], lkMove (.tmp 8), (some 79), (some (72, false))⟩, ⟨[78, 79, 72], ⟨ixSl 3 (.tmp 78) (.tmp 79)⟩, (some 80), (some (72, false))⟩, ⟨[80, 72], ⟨fAddr (.tmp 80) 2⟩, (some 81), (some (72, false))⟩, ⟨[81, 72], ⟨ldA ⟨ld1⟩ (.tmp 81)⟩, (some 82), (some (72, false))⟩, ⟨[77, 82, 72], ⟨binEq ⟨eqBool⟩ true (.tmp 77) (.tmp 82)⟩, (some 83), (some (72, false))⟩, ⟨[72, 83], ⟨pickA (.tmp 72) (.const (.bool true)) (.tmp 83)⟩, (some 84), none⟩]
theorem hsBeh : sEq 6 (leNat [98, 101, 104, 105, 110, 100]) 6 (leNat [98, 101, 104, 105, 110, 100]) = true := by decide
set_option maxHeartbeats 4000000 in
theorem AsLentIndexes_ok {H : AH} {N lo hi : Nat} {v w : AV} {r0 : Xv} {ix : Ixd} (hv : LentX H lo hi v ix) (hhi : hi ≤ H.next) (hw : SaysE encX 3 H H.next w [r0]) (hwb : ∀ b, blk w = some b → ¬ (lo ≤ b ∧ b < hi)) (hx : IxAt H N r0 ix) (hNlo : N ≤ lo) (hik : ix.ks.length < 1073741824) :
  DC Tryz.prog .normal 12 (.cons v (.cons w .nil)) H fun v' H2 => v' = .bool true ∧ Keep (fun b => lo ≤ b ∧ b < hi) H H2 := by
 refine DC.of_wd (re := reTmp 4 reNil) tyOk Tryz.func12 (by kernel_rfl) rfl (by kernel_rfl) (by kernel_rfl) ?_
 rw [tl_nil, argsT_cons, argsT_cons, argsT_nil]
 have hlen : onSl w (some (AV.int .i64 0)) (fun _ _ n _ => some (.int .i64 (n : Int))) = some (.int .i64 1) := by simpa using hw.len
 obtain ⟨cs, bk, ob, hA, hcl, ⟨c0, hc0, hcn, hcu, hcv⟩, hb1, hb2, hgb, hel, hbh⟩ := hv.ex
 have hlt := hv.lt
 have hvv := hv.v
 subst hvv
 refine WD.seqR ?_
 refine leD 1 [xZ false 4] ?_
 refine WDO.nilS (WD.seqR ?_)
 refine lkD 3 [xM 1 13, xN 13 14, xM 14 5] (by simp (disch := omega) [hlen]; exact rfl) ?_
 refine WDO.nilS (WD.seq (WD.seqR ?_))
 refine leD 4 [xM 0 15, xN 15 16, xM 5 17, xB akNeq 16 17 18] ?_
 refine cdF ?_
 have hsl : slA 3 4 (.sl lo 0 1 (some 4)) H = some (.sl lo 0 4 (some 4)) := slA_some (Nat.le_refl _)
 refine WD.seqR ?_
 refine lkD 5 [xM 0 19, xM 5 20, xC akAdd 20 3 21, ⟨⟨slSl 3 (.tmp 19) none (some (.tmp 21)) none⟩, (some 22), none⟩, xM 22 6] (by simp (disch := omega) [hsl]; exact rfl) ?_
 refine WDO.nilS (WD.seqR ?_)
 refine leD 1 [xZ true 7] ?_
 refine WDO.nilS (WD.seq (WD.seqR ?_))
 refine leD 1 [xK 0 8] ?_
 refine WDO.nilS ?_
 refine WD.forEC (σ := Nat) (fun i => [(1, w), (5, .int .i64 1), (6, .sl lo 0 4 (some 4)), (7, .bool true), (8, .int .i64 (i : Int))]) (fun i H' => i ≤ 4 ∧ Keep (fun b => lo ≤ b ∧ b < hi) H H' ∧ ∃ ds, Ax encX 24 3 zXv H' lo ds ∧ ds.length = 4 ∧ (∀ j, i ≤ j → ds[j]? = cs[j]?) ∧ (i = 0 → H' = H)) (fun i => 4 - i) 0 ⟨Nat.zero_le _, Keep.refl _ _, cs, hA, hcl, fun _ _ => rfl, fun _ => rfl⟩ (by simp) ?_
 rintro i H' ⟨hi', hk, ds, hD, hdl, hde, hH0⟩
 have n1 := hk.1
 refine leD 4 [xM 8 23, xM 6 24, xN 24 25, xB akLss 23 25 26] ?_
 refine WDO.nil ⟨decide (i < 4), _, rfl, by simp; omega, fun hc => ?_, fun hc => ?_⟩
 ·refine WD.seqR ?_
  refine leD 2 [xM 7 126, xM 126 4] ?_
  exact WDO.nilS (WD.ret (endR _ (by simp; rfl) ⟨rfl, hk⟩))
 ·have hc : i < 4 := of_decide_eq_true hc
  obtain ⟨c, hcc⟩ := getS (l := cs) (i := i) (by omega)
  have hdc : ds[i]? = some c := by rw [hde i (Nat.le_refl _), hcc]
  obtain ⟨o, g1, g2, g3⟩ := hD.get encX_len hdc
  have gn : rdCell o (i * 3) = some (sb c.nm) := g2 0 _ rfl
  refine WD.seq (WD.seqR ?_)
  cases i with
  | succ j =>
   have hcb := hbh (j + 1) c (by omega) hcc
   rw [hcb] at gn
   have gn : rdCell o ((j + 1) * 3) = some (sb [98, 101, 104, 105, 110, 100]) := gn
   obtain ⟨H6, s1, s2, s3, s4⟩ := hD.store encX_len (i := j + 1) (by omega) zeroXv (cells_x _)
   have s1' : stN 3 H' (.agg (.cons (.str 0 0) (.cons .snil (.cons (.bool false) .nil)))) (.ptr lo ((j + 1) * 3)) = some H6 := s1
   have hge : decide ((1 : Int) ≤ ((j + 1 : Nat) : Int)) = true := decide_eq_true (by omega)
   have hlt1 : decide (((j + 1 : Nat) : Int) < 1) = false := decide_eq_false (by omega)
   generalize hjj : j + 1 = q at *
   refine lkD 3 [xM 8 29, xM 5 30, xB akGeq 29 30 31] (by simp (disch := omega) [hlt1]; exact rfl) ?_
   refine WDO.nilS (WD.cond (t := true) (by simp; try omega) (fun _ => WD.seqR ?_) (by simp; try omega))
   refine lkD 10 [xM 7 32, xM 32 33, yM 6 34 33 true, yM 8 35 33 true, yI 3 34 35 36 33 true, yF 36 0 37 33 true, yL 37 38 33 true, ⟨⟨binStr skEql (.tmp 38) (.const (.string ⟨#[98, 101, 104, 105, 110, 100]⟩))⟩, (some 39), (some (33, true))⟩, xA 33 39 40 false, xM 40 7] (by simp (disch := omega) [g1, gn]; exact rfl) ?_
   refine WDO.nilS (WD.seqR ?_)
   refine leD 4 [xM 6 41, xM 8 42, ⟨⟨buildA (.cons (.str 0 0) (.cons .snil (.cons (.bool false) .nil))) flEnd⟩, (some 43), none⟩, xI 3 41 42 44] ?_
   refine WDO.heavy1 tyOk extOk (k := ⟨hvStore ⟨stN 3⟩ (.tmp 44) (.tmp 43)⟩) (by kernel_rfl) rfl (by kernel_rfl) (by simp [s1']; exact ⟨rfl, rfl⟩) ?_
   refine WDO.nilS (WD.exit ?_)
   refine ⟨rfl, ?_⟩
   refine leD 3 [xM 8 27, xC akAdd 27 1 28, xM 28 8] ?_
   exact WDO.nil ⟨rfl, q + 1, _, rfl, by simp [hsBeh], ⟨by omega, hk.trans' s4 fun b hb e => by omega, _, s3, by simp [hdl], fun a ha => by rw [List.getElem?_set_ne (by omega)]; exact hde a (by omega), fun h => by omega⟩, by omega⟩
  | zero =>
   have hH := hH0 rfl
   subst hH
   rw [hc0] at hcc
   cases hcc
   rw [Nat.zero_mul] at gn
   have gv : rdCell o 1 = some (.sl bk 0 ix.ks.length none) := by have := g2 1 _ rfl; rw [hcv] at this; simpa using this
   have gu : rdCell o 2 = some (.bool ix.u) := by have := g2 2 _ rfl; rw [hcu] at this; simpa using this
   rw [hcn] at gn
   obtain ⟨b', off', cap', o', e1, _, e3, e4, e5, e6⟩ := hw.at encX_len (i := 0) (x := r0) rfl
   have f0 : rdCell o' off' = some (sb ix.nm) := by have := e5 0 _ rfl; rw [hx.nm] at this; simpa using this
   have f1 : rdCell o' (off' + 1) = some r0.v := by have := e5 1 _ rfl; simpa using this
   have f2 : rdCell o' (off' + 2) = some (.bool ix.u) := by have := e5 2 _ rfl; rw [hx.u] at this; simpa using this
   have hlk := hx.k.len
   refine leD 3 [xM 8 29, xM 5 30, xB akGeq 29 30 31] ?_
   refine cdF ?_
   refine WD.seqR ?_
   refine lkD 7 [xM 1 45, xM 8 46, xI 3 45 46 47, xF 47 1 48, xL 48 49, xN 49 50, xM 50 9] (by simp (disch := omega) [e1, e4, f1, hlk]; exact rfl) ?_
   refine WDO.nilS (WD.seq (WD.seq ?_))
   have e1 : w = .sl b' off' 1 cap' := by simpa using e1
   have hwb' := hwb b' (by rw [e1]; rfl)
   refine WD.keep (l := [(1, .sl b' off' 1 cap'), (5, .int .i64 1), (6, .sl lo 0 4 (some 4)), (7, .bool true), (8, .int .i64 ((0 : Nat) : Int)), (9, .int .i64 (ix.ks.length : Int))]) ?_ (by simp [])
   obtain ⟨l3, hrun, hsub3⟩ : ∃ (l' : List (Nat × AV)), runDk qM28_1 (tl [(1, .sl b' off' 1 cap'), (5, .int .i64 1), (6, .sl lo 0 4 (some 4)), (7, .bool true), (8, .int .i64 ((0 : Nat) : Int)), (9, .int .i64 (ix.ks.length : Int))]) H' = some (tl l') ∧ lsub [(1, .sl b' off' 1 cap'), (5, .int .i64 1), (6, .sl lo 0 4 (some 4)), (7, .bool true), (8, .int .i64 ((0 : Nat) : Int)), (9, .int .i64 (ix.ks.length : Int)), (84, .bool false)] l' := ⟨_, by
    iterate 34 (first | (refine dkSkip ?_ ?_; focus (simp; done)) | refine dkStep (by first | rfl | (simp [-resL_cons, resL_cc]; exact rfl)) (by simp) (by simp (disch := omega) [g1, gn, gv, gu, e4, f0, f2]; exact rfl) ?_)
    exact rfl, by simp⟩
   refine WD.drawLooks tyOk extOk (by kernel_rfl) (ls := qM28_1) (by kernel_rfl) hrun ?_
   refine WD.keep ?_ hsub3
   refine WD.cond (t := false) (by simp) (by simp) fun _ => WD.skip (.inl rfl) ?_
   have gm : (ix.ks.length : Int) + 3 = ((ix.ks.length + 3 : Nat) : Int) := by omega
   have hbl : (ix.ks ++ beh3).length = ix.ks.length + 3 := by simp [beh3]
   have hslk : slA 1 (ix.ks.length + 3) (.sl bk 0 ix.ks.length none) H' = some (.sl bk 0 (ix.ks.length + 3) none) := by
    obtain ⟨t, ht⟩ := hel.opn
    rw [ht] at hgb
    exact slA_none hgb (.inr ⟨rfl, by rw [hbl]; simp⟩)
   generalize hm : ix.ks.length + 3 = m at *
   refine WD.seqR ?_
   refine lkD 9 [xM 6 85, xM 8 86, xI 3 85 86 87, xF 87 1 88, xL 88 89, xM 9 90, xC akAdd 90 3 91, ⟨⟨slSl 1 (.tmp 89) none (some (.tmp 91)) none⟩, (some 92), none⟩, xM 92 10] (by simp (disch := omega) [g1, gv, gm, hslk]; exact rfl) ?_
   refine WDO.nilS (WD.seq (WD.seqR ?_))
   refine leD 1 [xK 0 11] ?_
   refine WDO.nilS ?_
   refine WD.forE (σ := Nat) (fun i => [(1, .sl b' off' 1 cap'), (5, .int .i64 1), (6, .sl lo 0 4 (some 4)), (7, .bool true), (8, .int .i64 ((0 : Nat) : Int)), (9, .int .i64 (ix.ks.length : Int)), (10, .sl bk 0 m none), (11, .int .i64 (i : Int))]) (fun i G => i ≤ m ∧ Keep (fun b => b = bk) H' G ∧ ∃ oo ks', G.get bk = some oo ∧ ElB encT 9 1 true zT ks' oo ∧ ks'.length = m ∧ ∀ a, i ≤ a → ks'[a]? = (ix.ks ++ beh3)[a]?) (fun i => m - i) 0 ⟨Nat.zero_le _, Keep.refl _ _, ob, _, hgb, hel, hbl, fun _ _ => rfl⟩ (by simp) ?_
   rintro i G ⟨him, hkG, oo, ks', hgo, hEo, hkl, hke⟩
   have nG := hkG.1
   refine leD 4 [xM 11 93, xM 10 94, xN 94 95, xB akLss 93 95 96] ?_
   refine WDO.nil ⟨decide (i < m), _, rfl, by simp, fun hci => ?_, fun hci => ?_⟩
   ·refine WD.region ?_
    obtain ⟨H6, s1, s2, s3, s4⟩ := (hD.keep hkG (by omega) (by omega)).store encX_len (i := 0) (by omega) zeroXv (cells_x _)
    have s1' : stN 3 G (.agg (.cons (.str 0 0) (.cons .snil (.cons (.bool false) .nil)))) (.ptr lo 0) = some H6 := by rw [Nat.zero_mul] at s1; exact s1
    refine leD 4 [xM 6 122, xM 8 123, ⟨⟨buildA (.cons (.str 0 0) (.cons .snil (.cons (.bool false) .nil))) flEnd⟩, (some 124), none⟩, xI 3 122 123 125] ?_
    refine WDO.heavy1 tyOk extOk (k := ⟨hvStore ⟨stN 3⟩ (.tmp 125) (.tmp 124)⟩) (by kernel_rfl) rfl (by kernel_rfl) (by simp [s1']; exact ⟨rfl, rfl⟩) ?_
    refine WDO.nil ?_
    refine leD 3 [xM 8 27, xC akAdd 27 1 28, xM 28 8] ?_
    exact WDO.nil ⟨rfl, 1, _, rfl, by simp [e1], ⟨by omega, (hkG.mono fun b _ e => (by omega : lo ≤ b ∧ b < hi)).trans' s4 fun b hb e => by omega, _, s3, by simp [hdl], fun a ha => by rw [List.getElem?_set_ne (by omega)]; exact hde a (by omega), fun h => by omega⟩, by omega⟩
   ·have hci : i < m := of_decide_eq_true hci
    obtain ⟨y, hy⟩ := getS (l := ix.ks ++ beh3) (i := i) (by omega)
    have hyk : ks'[i]? = some y := by rw [hke i (Nat.le_refl _), hy]
    have hyc : rdCell oo i = some (sb y) := by have := hEo.rd i y hyk 0 _ rfl; simpa using this
    obtain ⟨o6, s1, s2⟩ := st1_el (a' := [111, 118, 101, 114]) (v := sb [111, 118, 101, 114]) (f := 0) encT_len hEo hgo hyk (by omega) rfl rfl
    rw [Nat.mul_one, Nat.add_zero] at s1
    have k6 : Keep (fun b => b = bk) H' (G.set bk o6) := hkG.trans (Keep.set _ fun _ => rfl)
    have hI : i + 1 ≤ m ∧ Keep (fun b => b = bk) H' (G.set bk o6) ∧ ∃ oo ks', (G.set bk o6).get bk = some oo ∧ ElB encT 9 1 true zT ks' oo ∧ ks'.length = m ∧ ∀ a, i + 1 ≤ a → ks'[a]? = (ix.ks ++ beh3)[a]? := ⟨by omega, k6, o6, _, get_set_same _ _ _, s2, by simp [hkl], fun a ha => by rw [List.getElem?_set_ne (by omega)]; exact hke a (by omega)⟩
    have e4G := hkG.get (by omega) (by omega) e4
    refine WD.seqR ?_
    refine leD 1 [⟨lkMove (.const (.string ⟨#[98, 101, 104, 105, 110, 100]⟩)), (some 12), none⟩] ?_
    refine WDO.nilS (WD.seq (WD.mono (Q := fun o => ∃ l', o = .nor (tl l') [] G ∧ lsub [(1, .sl b' off' 1 cap'), (5, .int .i64 1), (6, .sl lo 0 4 (some 4)), (7, .bool true), (8, .int .i64 ((0 : Nat) : Int)), (9, .int .i64 (ix.ks.length : Int)), (10, .sl bk 0 m none), (11, .int .i64 (i : Int)), (12, sb y)] l') (WD.seqR ?_) ?_))
    ·by_cases h : i < ix.ks.length
     ·refine leD 3 [xM 11 99, xM 9 100, xB akLss 99 100 101] ?_
      refine WDO.nilS (WD.cond (t := true) (by simp [h]) (fun _ => WD.region ?_) (by simp [h]))
      rw [List.getElem?_append_left h] at hy
      obtain ⟨b2, off2, cap2, o2, q1, _, q3, q4, q5, q6⟩ := (hx.k.keep hkG (by omega) (fun b hb e => by omega) (Nat.le_refl _)).at encT_len hy
      have q5' : rdCell o2 (off2 + i) = some (sb y) := by have := q5 0 _ rfl; simpa using this
      refine lkD 9 [xM 1 102, xM 8 103, xI 3 102 103 104, xF 104 1 105, xL 105 106, xM 11 107, xI 1 106 107 108, xL 108 109, xM 109 12] (by simp (disch := omega) [e4G, f1, q1, q4, q5', h]; exact rfl) ?_
      exact WDO.nil ⟨_, rfl, by simp []⟩
     ·refine leD 3 [xM 11 99, xM 9 100, xB akLss 99 100 101] ?_
      refine WDO.nilS (WD.cond (t := false) (by simp; omega) (by simp [h]) fun _ => WD.skip (.inl rfl) ?_)
      have hyb : y = behindL := by
       rw [List.getElem?_append_right (by omega)] at hy
       obtain ⟨d, hd⟩ : ∃ d, d = i - ix.ks.length := ⟨_, rfl⟩
       rw [← hd] at hy
       match d, hy with
       | 0, hy => simp [beh3] at hy; exact hy.symm
       | 1, hy => simp [beh3] at hy; exact hy.symm
       | 2, hy => simp [beh3] at hy; exact hy.symm
       | d + 3, hy => simp [beh3] at hy
      subst hyb
      exact ⟨_, rfl, by simp [behindL]⟩
    ·rintro o5 ⟨l5, rfl, hs5⟩
     refine WD.keep (WD.seqR ?_) hs5
     refine lkD 10 [xM 7 110, xM 110 111, yM 10 112 111 true, yM 11 113 111 true, yI 1 112 113 114 111 true, yL 114 115 111 true, yM 12 116 111 true, ⟨⟨binStr skEql (.tmp 115) (.tmp 116)⟩, (some 117), (some (111, true))⟩, xA 111 117 118 false, xM 118 7] (by simp (disch := omega) [hgo, hyc]; exact rfl) ?_
     refine WDO.nilS (WD.region ?_)
     refine leD 3 [xM 10 119, xM 11 120, xI 1 119 120 121] ?_
     refine WDO.heavy1 tyOk extOk (k := ⟨hvStore ⟨st1'⟩ (.tmp 121) (.const (.string ⟨#[111, 118, 101, 114]⟩))⟩) (by kernel_rfl) rfl (by kernel_rfl) (by simp; exact st1_ob s1) ?_
     refine WDO.nil ?_
     refine leD 3 [xM 11 97, xC akAdd 97 1 98, xM 98 11] ?_
     exact WDO.nil ⟨rfl, i + 1, _, rfl, by simp, hI, by omega⟩
end
end Go.Proofs.YtfgipbjaapkdlaaGreatDoor
