/- A part of the proof of this seat's statement: what is particular to its program. Its conditions stand in each theorem. -/
import Derived.Test.YtcfpppleiikjhaaGreatDoorL2
import Derived.Test.YtcfpppleiikjhaaGreatDoorZ8
namespace Go.Proofs.YtcfpppleiikjhaaGreatDoor
open Go.Xq
noncomputable section
def isAt (l : List UInt8) (r : Nat) : Prop := saysM l ∧ (fldsM l).txn.toNat % 2 = r
open Classical in
def chD (la lb : List UInt8) : Option Mt := if isAt la 0 ∧ (¬ isAt lb 1 ∨ (fldsM lb).txn < (fldsM la).txn) then some (fldsM la) else if isAt lb 1 then some (fldsM lb) else none
theorem okM_ne {m : Mt} (h : okM m) : m ≠ zeroM := by
  rintro rfl
  rcases h.1 with e | e <;> exact absurd e (by decide)
open Classical in
theorem ch_eq (la lb : List UInt8) : chM la lb = chD la lb := by
  have one : bst la lb 1 = if isAt la 0 then (fldsM la, 0) else (zeroM, 0) := by
    show bstS (zeroM, 0) 0 la = _
    unfold bstS isAt
    by_cases h : saysM la ∧ (fldsM la).txn.toNat % 2 = 0
    · rw [if_pos ⟨h.1, h.2, .inl rfl⟩, if_pos h]; rfl
    · rw [if_neg fun q => h ⟨q.1, q.2.1⟩, if_neg h]
  have two : bst la lb 2 = bstS (bst la lb 1) 1 lb := rfl
  have hz : zeroM.engine = 0 := rfl
  unfold chM chD
  rw [two, one]
  by_cases h1 : isAt la 0
  · have hok := h1.1.2.1
    have hn := okM_ne hok
    have he : (fldsM la).engine ≠ 0 := by rcases hok.1 with e | e <;> omega
    rw [if_pos h1]
    by_cases h2 : isAt lb 1
    · have hok2 := h2.1.2.1
      have he2 : (fldsM lb).engine ≠ 0 := by rcases hok2.1 with e | e <;> omega
      have hne : (fldsM lb).txn ≠ (fldsM la).txn := by
        intro e
        have a := h1.2
        have b := h2.2
        rw [e] at b
        omega
      by_cases h3 : (fldsM lb).txn < (fldsM la).txn
      · have hs : bstS (fldsM la, 0) 1 lb = (fldsM la, 0) := by
          unfold bstS
          rw [if_neg]
          rintro ⟨_, _, h | h⟩
          · exact hn h
          · dsimp only at h; omega
        rw [hs, if_neg he, if_pos ⟨h1, .inr h3⟩]
      · have hs : bstS (fldsM la, 0) 1 lb = (fldsM lb, ((1 : Nat) : Int)) := by
          unfold bstS
          rw [if_pos ⟨h2.1, h2.2, .inr (by dsimp only; omega)⟩]
        rw [hs, if_neg he2, if_neg (by rintro ⟨_, h | h⟩; exact h h2; exact h3 h), if_pos h2]
    · have hs : bstS (fldsM la, 0) 1 lb = (fldsM la, 0) := by
        unfold bstS
        rw [if_neg fun q => h2 ⟨q.1, q.2.1⟩]
      rw [hs, if_neg he, if_pos ⟨h1, .inl h2⟩]
  · rw [if_neg h1]
    by_cases h2 : isAt lb 1
    · have hok2 := h2.1.2.1
      have he2 : (fldsM lb).engine ≠ 0 := by rcases hok2.1 with e | e <;> omega
      have hs : bstS (zeroM, 0) 1 lb = (fldsM lb, ((1 : Nat) : Int)) := by
        unfold bstS
        rw [if_pos ⟨h2.1, h2.2, .inl rfl⟩]
      rw [hs, if_neg he2, if_neg (fun q => h1 q.1), if_pos h2]
    · have hs : bstS (zeroM, 0) 1 lb = (zeroM, 0) := by
        unfold bstS
        rw [if_neg fun q => h2 ⟨q.1, q.2.1⟩]
      rw [hs, if_pos hz, if_neg (fun q => h1 q.1), if_neg h2]
theorem decD {H : AH} {v : AV} {l : List UInt8} (h : RdS H v l) (hl : l.length < 4611686018427387904) :
    DC Tryz.prog .normal 49 (.cons v .nil) H fun v' H2 => ∃ (m : Mt) (e : Int), v' = .tup (.cons (mA m) (.cons (.int .i64 e) .nil)) ∧ ((saysM l ∧ m = fldsM l ∧ e = 0) ∨ (¬ saysM l ∧ m = zeroM ∧ e = 50)) ∧ Keep noB H H2 :=
  (decode05_ok h hl).mono fun v' H2 ⟨h1, h2, hk⟩ => by
    by_cases hs : saysM l
    · exact ⟨_, _, h1 hs, .inl ⟨hs, rfl, rfl⟩, hk⟩
    · exact ⟨_, _, h2 hs, .inr ⟨hs, rfl, rfl⟩, hk⟩
theorem rem2 (H : AH) {t : Int} (h0 : 0 ≤ t) : remA .i64 t 2 = some (.int .i64 ((t.toNat % 2 : Nat) : Int)) := by
  have := remA_nat (k := .i64) (m := t.toNat) (d := 2) (q := t.toNat % 2) (by omega) rfl
  rwa [Int.toNat_of_nonneg h0] at this
open Classical in
set_option maxRecDepth 20000 in
set_option maxHeartbeats 4000000 in
theorem choose05_ok {H : AH} {va vb : AV} {la lb : List UInt8} (ha : RdS H va la) (hb : RdS H vb lb) (hla : la.length < 4611686018427387904) (hlb : lb.length < 4611686018427387904) :
    DC Tryz.prog .normal 27 (.cons va (.cons vb .nil)) H fun v' H2 => (∀ m, chM la lb = some m → ∃ w, v' = .tup (.cons (mA m) (.cons (.int .i64 w) (.cons (.int .i64 0) .nil)))) ∧ (chM la lb = none → v' = .tup (.cons (mA zeroM) (.cons (.int .i64 0) (.cons (.int .i64 51) .nil)))) ∧ Keep noB H H2 := by
  rw [ch_eq]
  refine DC.of_wd (re := reCell ⟨ldN 8⟩ 4 (reTmp 5 (reTmp 6 reNil))) tyOk Tryz.func27 (by kernel_rfl) rfl (by kernel_rfl) (by kernel_rfl) ?_
  rw [tl_nil, argsT_cons, argsT_cons, argsT_nil]
  refine WD.seqR ?_
  refine WDO.fresh1 tyOk (k := ⟨frAlloc (.cs 75 8 8 false (.cons (.int .i64 0) (.cons (.int .i64 0) (.cons (.int .i64 0) (.cons (.int .i64 0) (.cons (.int .i64 0) (.cons (.int .i64 0) (.cons (.int .i64 0) (.cons (.int .i64 0) .nil)))))))) .e)⟩) (by kernel_rfl) rfl (by kernel_rfl) (v := .ptr H.next 0) (x := .cs 75 8 8 false zMt .e) ?_ ?_
  · exact rfl
  have hR := newM H
  have hk1 : Keep noB H (H.new (.cs 75 8 8 false zMt .e)) := Keep.new _ _ _
  have n1 : (H.new (.cs 75 8 8 false zMt .e)).next = H.next + 1 := by simp
  generalize H.new (.cs 75 8 8 false zMt .e) = H1 at hR hk1 n1 ⊢
  refine WDO.looks1 tyOk extOk 2 (ls := [⟨lkMove (.const (.int .i64 0)), (some 5), none⟩, ⟨lkMove (.const (.int .i64 0)), (some 6), none⟩]) (by kernel_rfl) (by simp (disch := omega) []; exact rfl) ?_
  refine WDO.nilS (WD.seqR ?_)
  refine WDO.looks1 tyOk extOk 1 (ls := [xM 0 14]) (by kernel_rfl) (by simp (disch := omega) []; exact rfl) ?_
  refine WDO.callF (g := 49) rfl rfl rfl (by kernel_rfl) (l := .cons va .nil) (by simp) (decD (ha.keep hk1 fun _ _ => id) hla) fun u H2 ⟨m1, e1, hu, hs1, k2⟩ => ?_
  subst hu
  have hR2 := hR.keep k2 (by omega) id
  have kk2 := hk1.trans k2
  refine WDO.looks1 tyOk extOk 3 (ls := [xM 15 13, ⟨⟨exA (.tmp 13) 0⟩, (some 16), none⟩, ⟨⟨exA (.tmp 13) 1⟩, (some 17), none⟩]) (by kernel_rfl) (by simp (disch := omega) []; exact rfl) ?_
  refine WDO.fresh1 tyOk (k := ⟨frAlloc (.cs 75 8 8 false (.cons (.int .i64 0) (.cons (.int .i64 0) (.cons (.int .i64 0) (.cons (.int .i64 0) (.cons (.int .i64 0) (.cons (.int .i64 0) (.cons (.int .i64 0) (.cons (.int .i64 0) .nil)))))))) .e)⟩) (by kernel_rfl) rfl (by kernel_rfl) (v := .ptr H2.next 0) (x := .cs 75 8 8 false zMt .e) ?_ ?_
  · exact rfl
  have hA := newM H2
  have k3 : Keep noB H2 (H2.new (.cs 75 8 8 false zMt .e)) := Keep.new _ _ _
  have n3 : (H2.new (.cs 75 8 8 false zMt .e)).next = H2.next + 1 := by simp
  have hR3 := hR2.keep k3 (by have := k2.1; omega) id
  generalize H2.new (.cs 75 8 8 false zMt .e) = H3 at hA k3 n3 hR3 ⊢
  obtain ⟨H4, s1, s2, s3, s4⟩ := storeM m1 hA
  refine WDO.heavy1 tyOk extOk (k := ⟨hvStore ⟨stN 8⟩ (.tmp 7) (.tmp 16)⟩) (by kernel_rfl) rfl (by kernel_rfl) (by simp; exact st_ob s1) ?_
  have hR4 := hR3.keep s4 (by have := k2.1; omega) (by have := k2.1; omega)
  have kk4 : Keep noB H H4 := (kk2.trans k3).trans' s4 fun x hx e => by have := kk2.1; omega
  refine WDO.looks1 tyOk extOk 1 (ls := [xM 17 8]) (by kernel_rfl) (by simp (disch := omega) []; exact rfl) ?_
  refine WDO.nilS (WD.seqR ?_)
  refine WDO.looks1 tyOk extOk 1 (ls := [xM 1 19]) (by kernel_rfl) (by simp (disch := omega) []; exact rfl) ?_
  refine WDO.callF (g := 49) rfl rfl rfl (by kernel_rfl) (l := .cons vb .nil) (by simp) (decD (hb.keep kk4 fun _ _ => id) hlb) fun u H5 ⟨m2, e2, hu, hs2, k5⟩ => ?_
  subst hu
  have hR5 := hR4.keep k5 (by have := k2.1; omega) id
  have hA5 := s3.keep k5 (by omega) id
  have kk5 := kk4.trans k5
  have hn5 := k5.1
  have hn2 := k2.1
  refine WDO.looks1 tyOk extOk 3 (ls := [xM 20 18, ⟨⟨exA (.tmp 18) 0⟩, (some 21), none⟩, ⟨⟨exA (.tmp 18) 1⟩, (some 22), none⟩]) (by kernel_rfl) (by simp (disch := omega) []; exact rfl) ?_
  refine WDO.fresh1 tyOk (k := ⟨frAlloc (.cs 75 8 8 false (.cons (.int .i64 0) (.cons (.int .i64 0) (.cons (.int .i64 0) (.cons (.int .i64 0) (.cons (.int .i64 0) (.cons (.int .i64 0) (.cons (.int .i64 0) (.cons (.int .i64 0) .nil)))))))) .e)⟩) (by kernel_rfl) rfl (by kernel_rfl) (v := .ptr H5.next 0) (x := .cs 75 8 8 false zMt .e) ?_ ?_
  · exact rfl
  have hB := newM H5
  have k6 : Keep noB H5 (H5.new (.cs 75 8 8 false zMt .e)) := Keep.new _ _ _
  have n6 : (H5.new (.cs 75 8 8 false zMt .e)).next = H5.next + 1 := by simp
  have hR6 := hR5.keep k6 (by omega) id
  have hA6 := hA5.keep k6 (by omega) id
  generalize H5.new (.cs 75 8 8 false zMt .e) = H6 at hB k6 n6 hR6 hA6 ⊢
  obtain ⟨H7, t1, t2, t3, t4⟩ := storeM m2 hB
  refine WDO.heavy1 tyOk extOk (k := ⟨hvStore ⟨stN 8⟩ (.tmp 9) (.tmp 21)⟩) (by kernel_rfl) rfl (by kernel_rfl) (by simp; exact st_ob t1) ?_
  have hR7 := hR6.keep t4 (by omega) (by omega)
  have hA7 := hA6.keep t4 (by omega) (by omega)
  have kk7 : Keep noB H H7 := (kk5.trans k6).trans' t4 fun x hx e => by have := kk5.1; omega
  refine WDO.looks1 tyOk extOk 1 (ls := [xM 22 10]) (by kernel_rfl) (by simp (disch := omega) []; exact rfl) ?_
  obtain ⟨oA, gA, _, _, xA, _, _, _, _, _, cA⟩ := hA7.all
  obtain ⟨oB, gB, _, _, xB, _, _, _, _, _, cB⟩ := t3.all
  refine WDO.nilS (WD.keep (l := [(4, .ptr H.next 0), (5, .int .i64 0), (6, .int .i64 0), (7, .ptr H2.next 0), (8, .int .i64 e1), (9, .ptr H5.next 0), (10, .int .i64 e2)]) (WD.seqR ?_) (by simp))
  obtain ⟨b1, l', hrun, hsub, hb1⟩ : ∃ (b1 : Bool) (l' : List (Nat × AV)), runLk [xM 8 23, xC akEql 23 0 24, xM 24 25, yF 7 2 26 25 true, yL 26 27 25 true, ⟨⟨binInt ⟨remA⟩ (.tmp 27) (.const (.int .i64 2))⟩, (some 28), (some (25, true))⟩, yC akEql 28 0 29 25 true, ⟨⟨pickA (.tmp 25) (.tmp 29) (.const (.bool false))⟩, (some 30), none⟩, xM 30 11] (tl [(4, .ptr H.next 0), (5, .int .i64 0), (6, .int .i64 0), (7, .ptr H2.next 0), (8, .int .i64 e1), (9, .ptr H5.next 0), (10, .int .i64 e2)]) H7 = some (tl l') ∧ lsub [(4, .ptr H.next 0), (5, .int .i64 0), (6, .int .i64 0), (7, .ptr H2.next 0), (9, .ptr H5.next 0), (10, .int .i64 e2), (11, .bool b1)] l' ∧ ((b1 = true ∧ isAt la 0 ∧ m1 = fldsM la) ∨ (b1 = false ∧ ¬ isAt la 0)) := by
    rcases hs1 with ⟨q1, q2, q3⟩ | ⟨q1, q2, q3⟩
    · subst q3
      have hr := rem2 H7 (t := m1.txn) (by rw [q2]; exact q1.2.1.2.2.1.1)
      obtain ⟨r, hr'⟩ : ∃ r, r = m1.txn.toNat % 2 := ⟨_, rfl⟩
      rw [← hr'] at hr
      by_cases h0 : r = 0
      · subst h0
        exact ⟨true, _, by simp (disch := omega) [gA, xA, hr]; exact rfl, by simp, .inl ⟨rfl, ⟨q1, by rw [← q2]; exact hr'.symm⟩, q2⟩⟩
      · have h0' : ¬ (r : Int) = 0 := by omega
        exact ⟨false, _, by simp (disch := omega) [gA, xA, hr, h0]; exact rfl, by simp, .inr ⟨rfl, fun q => h0 (by rw [hr', q2]; exact q.2)⟩⟩
    · subst q3
      exact ⟨false, _, by simp (disch := omega) []; exact rfl, by simp, .inr ⟨rfl, fun q => q1 q.1⟩⟩
  refine WDO.looks1 tyOk extOk 9 (ls := [xM 8 23, xC akEql 23 0 24, xM 24 25, yF 7 2 26 25 true, yL 26 27 25 true, ⟨⟨binInt ⟨remA⟩ (.tmp 27) (.const (.int .i64 2))⟩, (some 28), (some (25, true))⟩, yC akEql 28 0 29 25 true, ⟨⟨pickA (.tmp 25) (.tmp 29) (.const (.bool false))⟩, (some 30), none⟩, xM 30 11]) (by kernel_rfl) hrun ?_
  clear hrun
  refine WDO.nilS (WD.keep (WD.seqR ?_) hsub)
  clear hsub
  obtain ⟨b2, l', hrun, hsub, hb2⟩ : ∃ (b2 : Bool) (l' : List (Nat × AV)), runLk [xM 10 31, xC akEql 31 0 32, xM 32 33, yF 9 2 34 33 true, yL 34 35 33 true, ⟨⟨binInt ⟨remA⟩ (.tmp 35) (.const (.int .i64 2))⟩, (some 36), (some (33, true))⟩, yC akEql 36 1 37 33 true, ⟨⟨pickA (.tmp 33) (.tmp 37) (.const (.bool false))⟩, (some 38), none⟩, xM 38 12] (tl [(4, .ptr H.next 0), (5, .int .i64 0), (6, .int .i64 0), (7, .ptr H2.next 0), (9, .ptr H5.next 0), (10, .int .i64 e2), (11, .bool b1)]) H7 = some (tl l') ∧ lsub [(4, .ptr H.next 0), (5, .int .i64 0), (6, .int .i64 0), (7, .ptr H2.next 0), (9, .ptr H5.next 0), (11, .bool b1), (12, .bool b2)] l' ∧ ((b2 = true ∧ isAt lb 1 ∧ m2 = fldsM lb) ∨ (b2 = false ∧ ¬ isAt lb 1)) := by
    rcases hs2 with ⟨q1, q2, q3⟩ | ⟨q1, q2, q3⟩
    · subst q3
      have hr := rem2 H7 (t := m2.txn) (by rw [q2]; exact q1.2.1.2.2.1.1)
      obtain ⟨r, hr'⟩ : ∃ r, r = m2.txn.toNat % 2 := ⟨_, rfl⟩
      rw [← hr'] at hr
      by_cases h0 : r = 1
      · subst h0
        exact ⟨true, _, by simp (disch := omega) [gB, xB, hr]; exact rfl, by simp, .inl ⟨rfl, ⟨q1, by rw [← q2]; exact hr'.symm⟩, q2⟩⟩
      · have h0' : ¬ (r : Int) = 1 := by omega
        exact ⟨false, _, by simp (disch := omega) [gB, xB, hr, h0']; exact rfl, by simp, .inr ⟨rfl, fun q => h0 (by rw [hr', q2]; exact q.2)⟩⟩
    · subst q3
      exact ⟨false, _, by simp (disch := omega) []; exact rfl, by simp, .inr ⟨rfl, fun q => q1 q.1⟩⟩
  refine WDO.looks1 tyOk extOk 9 (ls := [xM 10 31, xC akEql 31 0 32, xM 32 33, yF 9 2 34 33 true, yL 34 35 33 true, ⟨⟨binInt ⟨remA⟩ (.tmp 35) (.const (.int .i64 2))⟩, (some 36), (some (33, true))⟩, yC akEql 36 1 37 33 true, ⟨⟨pickA (.tmp 33) (.tmp 37) (.const (.bool false))⟩, (some 38), none⟩, xM 38 12]) (by kernel_rfl) hrun ?_
  clear hrun
  refine WDO.nilS (WD.keep (WD.seq (WD.block (WD.seqR ?_))) hsub)
  clear hsub
  by_cases hp : isAt la 0 ∧ (¬ isAt lb 1 ∨ (fldsM lb).txn < (fldsM la).txn)
  · have hch : chD la lb = some m1 := by
      unfold chD
      rw [if_pos hp]
      rcases hb1 with ⟨_, _, e⟩ | ⟨_, q⟩
      · rw [e]
      · exact absurd hp.1 q
    have hb1' : b1 = true := by
      rcases hb1 with ⟨e, _⟩ | ⟨_, q⟩
      · exact e
      · exact absurd hp.1 q
    subst hb1'
    obtain ⟨l', hrun, hsub⟩ : ∃ (l' : List (Nat × AV)), runLk [xM 11 40, xM 40 41, yM 12 42 41 true, ⟨lkUn ukNot (.tmp 42), (some 43), (some (41, true))⟩, yM 43 44 41 true, yF 7 2 45 44 false, yL 45 46 44 false, yF 9 2 47 44 false, yL 47 48 44 false, yB akGtr 46 48 49 44 false, yP 44 49 50 true 41 true, ⟨⟨pickA (.tmp 41) (.tmp 50) (.const (.bool false))⟩, (some 51), none⟩, xM 51 39] (tl [(4, .ptr H.next 0), (5, .int .i64 0), (6, .int .i64 0), (7, .ptr H2.next 0), (9, .ptr H5.next 0), (11, .bool true), (12, .bool b2)]) H7 = some (tl l') ∧ lsub [(4, .ptr H.next 0), (7, .ptr H2.next 0), (39, .bool true)] l' := by
      rcases hb2 with ⟨e, q1, q2⟩ | ⟨e, _⟩
      · subst e
        have hlt : m2.txn < m1.txn := by
          rcases hp.2 with q | q
          · exact absurd q1 q
          · rcases hb1 with ⟨_, _, e⟩ | ⟨e, _⟩
            · rw [q2, e]; exact q
            · cases e
        exact ⟨_, by simp (disch := omega) [gA, xA, gB, xB, hlt]; exact rfl, by simp⟩
      · subst e
        exact ⟨_, by simp (disch := omega) []; exact rfl, by simp⟩
    refine WDO.looks1 tyOk extOk 13 (ls := [xM 11 40, xM 40 41, yM 12 42 41 true, ⟨lkUn ukNot (.tmp 42), (some 43), (some (41, true))⟩, yM 43 44 41 true, yF 7 2 45 44 false, yL 45 46 44 false, yF 9 2 47 44 false, yL 47 48 44 false, yB akGtr 46 48 49 44 false, yP 44 49 50 true 41 true, ⟨⟨pickA (.tmp 41) (.tmp 50) (.const (.bool false))⟩, (some 51), none⟩, xM 51 39]) (by kernel_rfl) hrun ?_
    clear hrun
    refine WDO.nilS (WD.keep (WD.cond (t := true) (by simp) (fun _ => WD.seqR ?_) (by simp)) hsub)
    refine WDO.looks1 tyOk extOk 1 (ls := [⟨⟨ldA ⟨ldN 8⟩ (.tmp 7)⟩, (some 52), none⟩]) (by kernel_rfl) (by simp (disch := omega) [gA, cA]; exact rfl) ?_
    obtain ⟨H8, w1, w2, w3, w4⟩ := storeM m1 hR7
    refine WDO.heavy1 tyOk extOk (k := ⟨hvStore ⟨stN 8⟩ (.tmp 4) (.tmp 52)⟩) (by kernel_rfl) rfl (by kernel_rfl) (by simp; exact st_ob w1) ?_
    refine WDO.looks1 tyOk extOk 2 (ls := [⟨lkMove (.const (.int .i64 0)), (some 5), none⟩, ⟨lkMove (.const (.int .i64 0)), (some 6), none⟩]) (by kernel_rfl) (by simp (disch := omega) []; exact rfl) ?_
    obtain ⟨o8, g8, _, _, _, _, _, _, _, _, c8⟩ := w3.all
    exact WDO.nilS (WD.ret (endR _ (by simp [g8, c8]; rfl) ⟨fun m e => (by rw [hch] at e; cases e; exact ⟨_, rfl⟩), fun e => (by rw [hch] at e; cases e), kk7.trans' w4 fun x hx e => by omega⟩))
  · have hch0 : chD la lb = if isAt lb 1 then some (fldsM lb) else none := by unfold chD; rw [if_neg hp]
    obtain ⟨l', hrun, hsub⟩ : ∃ (l' : List (Nat × AV)), runLk [xM 11 40, xM 40 41, yM 12 42 41 true, ⟨lkUn ukNot (.tmp 42), (some 43), (some (41, true))⟩, yM 43 44 41 true, yF 7 2 45 44 false, yL 45 46 44 false, yF 9 2 47 44 false, yL 47 48 44 false, yB akGtr 46 48 49 44 false, yP 44 49 50 true 41 true, ⟨⟨pickA (.tmp 41) (.tmp 50) (.const (.bool false))⟩, (some 51), none⟩, xM 51 39] (tl [(4, .ptr H.next 0), (5, .int .i64 0), (6, .int .i64 0), (7, .ptr H2.next 0), (9, .ptr H5.next 0), (11, .bool b1), (12, .bool b2)]) H7 = some (tl l') ∧ lsub [(4, .ptr H.next 0), (9, .ptr H5.next 0), (12, .bool b2), (39, .bool false)] l' := by
      rcases hb1 with ⟨e, q1, q2⟩ | ⟨e, _⟩
      · subst e
        rcases hb2 with ⟨e, q3, q4⟩ | ⟨e, q3⟩
        · subst e
          have hlt : ¬ m2.txn < m1.txn := by
            intro q
            exact hp ⟨q1, .inr (by rw [← q2, ← q4]; exact q)⟩
          exact ⟨_, by simp (disch := omega) [gA, xA, gB, xB, hlt]; exact rfl, by simp⟩
        · exact absurd ⟨q1, .inl q3⟩ hp
      · subst e
        exact ⟨_, by simp (disch := omega) []; exact rfl, by simp⟩
    refine WDO.looks1 tyOk extOk 13 (ls := [xM 11 40, xM 40 41, yM 12 42 41 true, ⟨lkUn ukNot (.tmp 42), (some 43), (some (41, true))⟩, yM 43 44 41 true, yF 7 2 45 44 false, yL 45 46 44 false, yF 9 2 47 44 false, yL 47 48 44 false, yB akGtr 46 48 49 44 false, yP 44 49 50 true 41 true, ⟨⟨pickA (.tmp 41) (.tmp 50) (.const (.bool false))⟩, (some 51), none⟩, xM 51 39]) (by kernel_rfl) hrun ?_
    clear hrun
    refine WDO.nilS (WD.keep (WD.cond (t := false) (by simp) (by simp) fun _ => WD.seqR ?_) hsub)
    refine WDO.looks1 tyOk extOk 2 (ls := [xM 12 54, xM 54 53]) (by kernel_rfl) (by simp (disch := omega) []; exact rfl) ?_
    rcases hb2 with ⟨e, q3, q4⟩ | ⟨e, q3⟩
    · subst e
      have hch : chD la lb = some m2 := by rw [hch0, if_pos q3, q4]
      refine WDO.nilS (WD.cond (t := true) (by simp) (fun _ => WD.seqR ?_) (by simp))
      refine WDO.looks1 tyOk extOk 1 (ls := [⟨⟨ldA ⟨ldN 8⟩ (.tmp 9)⟩, (some 55), none⟩]) (by kernel_rfl) (by simp (disch := omega) [gB, cB]; exact rfl) ?_
      obtain ⟨H8, w1, w2, w3, w4⟩ := storeM m2 hR7
      refine WDO.heavy1 tyOk extOk (k := ⟨hvStore ⟨stN 8⟩ (.tmp 4) (.tmp 55)⟩) (by kernel_rfl) rfl (by kernel_rfl) (by simp; exact st_ob w1) ?_
      refine WDO.looks1 tyOk extOk 2 (ls := [⟨lkMove (.const (.int .i64 1)), (some 5), none⟩, ⟨lkMove (.const (.int .i64 0)), (some 6), none⟩]) (by kernel_rfl) (by simp (disch := omega) []; exact rfl) ?_
      obtain ⟨o8, g8, _, _, _, _, _, _, _, _, c8⟩ := w3.all
      exact WDO.nilS (WD.ret (endR _ (by simp [g8, c8]; rfl) ⟨fun m e => (by rw [hch] at e; cases e; exact ⟨_, rfl⟩), fun e => (by rw [hch] at e; cases e), kk7.trans' w4 fun x hx e => by omega⟩))
    · subst e
      have hch : chD la lb = none := by rw [hch0, if_neg q3]
      refine WDO.nilS (WD.cond (t := false) (by simp) (by simp) fun _ => WD.skip (.inl rfl) (WD.seqR ?_))
      refine WDO.looks1 tyOk extOk 1 (ls := [⟨⟨buildA (.cons (.int .i64 0) (.cons (.int .i64 0) (.cons (.int .i64 0) (.cons (.int .i64 0) (.cons (.int .i64 0) (.cons (.int .i64 0) (.cons (.int .i64 0) (.cons (.int .i64 0) .nil)))))))) flEnd⟩, (some 56), none⟩]) (by kernel_rfl) (by simp (disch := omega) []; exact rfl) ?_
      obtain ⟨H8, w1, w2, w3, w4⟩ := storeM zeroM hR7
      refine WDO.heavy1 tyOk extOk (k := ⟨hvStore ⟨stN 8⟩ (.tmp 4) (.tmp 56)⟩) (by kernel_rfl) rfl (by kernel_rfl) (by simp; exact st_ob w1) ?_
      refine WDO.looks1 tyOk extOk 2 (ls := [⟨lkMove (.const (.int .i64 0)), (some 5), none⟩, ⟨lkMove (.const (.int .i64 51)), (some 6), none⟩]) (by kernel_rfl) (by simp (disch := omega) []; exact rfl) ?_
      obtain ⟨o8, g8, _, _, _, _, _, _, _, _, c8⟩ := w3.all
      exact WDO.nilS (WD.ret (endR _ (by simp [g8, c8]; rfl) ⟨fun m e => (by rw [hch] at e; cases e), fun _ => rfl, kk7.trans' w4 fun x hx e => by omega⟩))
end
end Go.Proofs.YtcfpppleiikjhaaGreatDoor
namespace Go.Proofs.YtcfpppleiikjhaaGreatDoor
open Go.Xq
noncomputable section
set_option maxRecDepth 20000 in
theorem device_ok {H : AH} {pg n : Int} (hn : 0 ≤ n) (hn2 : n < 4611686018427387904) : DC Tryz.prog .normal 43 (.cons (.int .i64 pg) (.cons (.int .i64 n) .nil)) H fun v' H2 => v' = .bool (devOk pg n) ∧ H2 = H := by
  refine DC.of_wd (re := reTmp 4 reNil) tyOk Tryz.func43 (by kernel_rfl) rfl (by kernel_rfl) (by kernel_rfl) ?_
  rw [tl_nil, argsT_cons, argsT_cons, argsT_nil]
  refine WD.seqR ?_
  refine WDO.looks1 tyOk extOk 1 (ls := [⟨lkMove (.const (.bool false)), (some 4), none⟩]) (by kernel_rfl) (by simp (disch := omega) []; exact rfl) ?_
  refine WDO.nilS (WD.seqR ?_)
  refine WDO.looks1 tyOk extOk 1 (ls := [xM 0 6]) (by kernel_rfl) (by simp (disch := omega) []; exact rfl) ?_
  refine WDO.callF (g := 18) rfl rfl rfl (by kernel_rfl) (l := .cons (.int .i64 pg) .nil) (by simp) isPage03_ok fun u H1 ⟨hu, hH⟩ => ?_
  subst hu
  subst hH
  refine WDO.looks1 tyOk extOk 1 (ls := [xM 7 5]) (by kernel_rfl) (by simp (disch := omega) []; exact rfl) ?_
  refine WDO.nilS (WD.keep (l := [(0, .int .i64 pg), (1, .int .i64 n), (5, .bool (isPgI pg))]) (WD.seqR ?_) (by simp))
  obtain ⟨l', hrun, hsub⟩ : ∃ (l' : List (Nat × AV)), runLk [xM 5 8, xM 8 9, yM 1 10 9 true, yC akGeq 10 4 11 9 true, ⟨⟨pickA (.tmp 9) (.tmp 11) (.const (.bool false))⟩, (some 12), none⟩, xM 12 13, yM 1 14 13 true, yC akLeq 14 65536 15 13 true, ⟨⟨pickA (.tmp 13) (.tmp 15) (.const (.bool false))⟩, (some 16), none⟩, xM 16 17, yM 1 18 17 true, yM 0 19 17 true, yB akMul 18 19 20 17 true, yC akLeq 20 67108864 21 17 true, ⟨⟨pickA (.tmp 17) (.tmp 21) (.const (.bool false))⟩, (some 22), none⟩, xM 22 4] (tl [(0, .int .i64 pg), (1, .int .i64 n), (5, .bool (isPgI pg))]) H1 = some (tl l') ∧ lsub [(4, .bool (devOk pg n))] l' := by
    cases hp : isPgI pg with
    | false =>
      have hd : devOk pg n = false := by unfold devOk; rw [hp]; rfl
      rw [hd]
      exact ⟨_, by simp (disch := omega) []; exact rfl, by simp⟩
    | true =>
      have hpc := pgI_cases hp
      by_cases h1 : n < 4
      · have hd : devOk pg n = false := by cases e : devOk pg n with | false => rfl | true => have := (devOk_iff.1 e).2.1; omega
        rw [hd]
        exact ⟨_, by simp (disch := omega) [h1]; exact rfl, by simp⟩
      · by_cases h2 : 65536 < n
        · have hd : devOk pg n = false := by cases e : devOk pg n with | false => rfl | true => have := (devOk_iff.1 e).2.2.1; omega
          rw [hd]
          exact ⟨_, by simp (disch := omega) [h1, h2]; exact rfl, by simp⟩
        · obtain ⟨P, rfl⟩ : ∃ P : Nat, pg = (P : Int) := ⟨pg.toNat, by omega⟩
          obtain ⟨m, rfl⟩ : ∃ m : Nat, n = (m : Int) := ⟨n.toNat, by omega⟩
          have hmp : m * P ≤ 65536 * 65536 := Nat.mul_le_mul (by omega) (by omega)
          obtain ⟨S, hS⟩ : ∃ S, S = m * P := ⟨_, rfl⟩
          have hS' : (m : Int) * (P : Int) = (S : Int) := by rw [hS, Int.natCast_mul]
          rw [← hS] at hmp
          have gm : akMul.f .i64 (m : Int) (P : Int) = some (.int .i64 (S : Int)) := by rw [akMul_i64 (by rw [hS']; omega) (by rw [hS']; omega), hS']
          by_cases h3 : 67108864 < S
          · have hd : devOk P m = false := by cases e : devOk P m with | false => rfl | true => have := (devOk_iff.1 e).2.2.2; rw [hS'] at this; omega
            rw [hd]
            have h3' : (67108864 : Int) < (S : Int) := by omega
            exact ⟨_, by simp (disch := omega) [h1, h2, gm, h3']; exact rfl, by simp⟩
          · have hd : devOk P m = true := devOk_iff.2 ⟨hp, by omega, by omega, by rw [hS']; omega⟩
            rw [hd]
            have h3' : ¬ (67108864 : Int) < (S : Int) := by omega
            exact ⟨_, by simp (disch := omega) [h1, h2, gm, h3']; exact rfl, by simp⟩
  refine WDO.looks1 tyOk extOk 16 (ls := [xM 5 8, xM 8 9, yM 1 10 9 true, yC akGeq 10 4 11 9 true, ⟨⟨pickA (.tmp 9) (.tmp 11) (.const (.bool false))⟩, (some 12), none⟩, xM 12 13, yM 1 14 13 true, yC akLeq 14 65536 15 13 true, ⟨⟨pickA (.tmp 13) (.tmp 15) (.const (.bool false))⟩, (some 16), none⟩, xM 16 17, yM 1 18 17 true, yM 0 19 17 true, yB akMul 18 19 20 17 true, yC akLeq 20 67108864 21 17 true, ⟨⟨pickA (.tmp 17) (.tmp 21) (.const (.bool false))⟩, (some 22), none⟩, xM 22 4]) (by kernel_rfl) hrun ?_
  clear hrun
  exact WDO.nilS (WD.keep (WD.ret (endR _ (by simp; rfl) ⟨rfl, rfl⟩)) hsub)
structure D3V where
  n : Int
  lv : AV
  ok : isCell lv = true
def encD3 (d : D3V) : List AV := [.int .i64 d.n, d.lv, .snil, .bool false, .bool false, .int .i64 0, .snil, .int .i64 0, .int .i64 0, .int .i64 0, .int .i64 0, .int .i64 0]
theorem encD3_len (d : D3V) : (encD3 d).length = 12 := rfl
def zD3 : AV := .cons (.int .i64 0) (.cons .snil (.cons .snil (.cons (.bool false) (.cons (.bool false) (.cons (.int .i64 0) (.cons .snil (.cons (.int .i64 0) (.cons (.int .i64 0) (.cons (.int .i64 0) (.cons (.int .i64 0) (.cons (.int .i64 0) .nil)))))))))))
structure D3At (H : AH) (lo b P N : Nat) : Prop where
  ex : ∃ (d : D3V) (vs : List AV), Bx encD3 67 12 zD3 H b d ∧ lo ≤ b ∧ b < H.next ∧ LstAt enc1 22 1 z1 H lo d.lv vs ∧ vs.length = N ∧
    ∀ (j : Nat) (u : AV), vs[j]? = some u → ∃ pb k, u = .sl pb 0 P (some P) ∧ lo ≤ pb ∧ pb < H.next ∧ H.get pb = some (bb 5 false k) ∧ k.length = P
theorem Bx.d3 {H : AH} {b : Nat} {d : D3V} (h : Bx encD3 67 12 zD3 H b d) : ∃ o, H.get b = some o ∧ rdCell o 1 = some d.lv := by
  obtain ⟨o, h1, h2, _⟩ := h.get encD3_len
  exact ⟨o, h1, h2 1 _ rfl⟩
set_option maxRecDepth 20000 in
set_option maxHeartbeats 4000000 in
theorem new03_ok {H : AH} {pg n : Int} (hn : 0 ≤ n) (hn2 : n < 4611686018427387904) : DC Tryz.prog .normal 19 (.cons (.int .i64 pg) (.cons (.int .i64 n) .nil)) H fun v' H2 =>
    (devOk pg n = true → ∃ b, v' = .ptr b 0 ∧ D3At H2 H.next b pg.toNat n.toNat) ∧ (devOk pg n = false → v' = .pnil) ∧ Keep noB H H2 := by
  refine DC.of_wd (re := reTmp 4 reNil) tyOk Tryz.func19 (by kernel_rfl) rfl (by kernel_rfl) (by kernel_rfl) ?_
  rw [tl_nil, argsT_cons, argsT_cons, argsT_nil]
  refine WD.seqR ?_
  refine WDO.looks1 tyOk extOk 1 (ls := [⟨lkMove (.const (.pointer none)), (some 4), none⟩]) (by kernel_rfl) (by simp (disch := omega) []; exact rfl) ?_
  refine WDO.nilS (WD.seqR ?_)
  refine WDO.looks1 tyOk extOk 2 (ls := [xM 0 8, xM 1 9]) (by kernel_rfl) (by simp (disch := omega) []; exact rfl) ?_
  refine WDO.callF (g := 43) rfl rfl rfl (by kernel_rfl) (l := .cons (.int .i64 pg) (.cons (.int .i64 n) .nil)) (by simp) (device_ok hn hn2) fun u H1 ⟨hu, hH⟩ => ?_
  subst hu
  subst hH
  refine WDO.looks1 tyOk extOk 1 (ls := [xM 10 5]) (by kernel_rfl) (by simp (disch := omega) []; exact rfl) ?_
  refine WDO.nilS (WD.seq (WD.seqR ?_))
  cases hd : devOk pg n with
  | false =>
    refine WDO.looks1 tyOk extOk 2 (ls := [xM 5 11, xU 11 12]) (by kernel_rfl) (by simp (disch := omega) []; exact rfl) ?_
    refine WDO.nilS (WD.cond (t := true) (by simp) (fun _ => WD.seqR ?_) (by simp))
    refine WDO.looks1 tyOk extOk 1 (ls := [⟨lkMove (.const (.pointer none)), (some 4), none⟩]) (by kernel_rfl) (by simp (disch := omega) []; exact rfl) ?_
    exact WDO.nilS (WD.ret (endR _ (by simp; rfl) ⟨fun h => Bool.noConfusion h, fun _ => rfl, Keep.refl _ _⟩))
  | true =>
    obtain ⟨c1, c2, c3, c4⟩ := devOk_iff.1 hd
    have hpc := pgI_cases c1
    obtain ⟨P, rfl⟩ : ∃ P : Nat, pg = (P : Int) := ⟨pg.toNat, by omega⟩
    obtain ⟨m, rfl⟩ : ∃ m : Nat, n = (m : Int) := ⟨n.toNat, by omega⟩
    rw [Int.toNat_natCast, Int.toNat_natCast]
    refine WDO.looks1 tyOk extOk 2 (ls := [xM 5 11, xU 11 12]) (by kernel_rfl) (by simp (disch := omega) []; exact rfl) ?_
    refine WDO.nilS (WD.cond (t := false) (by simp) (by simp) fun _ => WD.skip (.inl rfl) (WD.seqR ?_))
    refine WDO.looks1 tyOk extOk 2 (ls := [xM 0 13, ⟨⟨buildA (.cons (.int .i64 0) (.cons .snil (.cons .snil (.cons (.bool false) (.cons (.bool false) (.cons (.int .i64 0) (.cons .snil (.cons (.int .i64 0) (.cons (.int .i64 0) (.cons (.int .i64 0) (.cons (.int .i64 0) (.cons (.int .i64 0) .nil)))))))))))) ⟨fill1 (.tmp 13) 0 1 flEnd⟩⟩, (some 14), none⟩]) (by kernel_rfl) (by simp (disch := omega) []; exact rfl) ?_
    refine WDO.keep (l := [(0, .int .i64 (P : Int)), (1, .int .i64 (m : Int)), (4, .pnil), (14, .agg (avl (encD3 ⟨(P : Int), .snil, rfl⟩)))]) ?_ (by simp; rfl)
    obtain ⟨o1, e1, hD, k2⟩ := Bx.box (enc := encD3) (e := 67) (es := 12) (z := zD3) encD3_len (H := H1) (a := ⟨(P : Int), .snil, rfl⟩) (x := .tmp 14) (T := tl [(0, .int .i64 (P : Int)), (1, .int .i64 (m : Int)), (4, .pnil), (14, .agg (avl (encD3 ⟨(P : Int), .snil, rfl⟩)))]) (by simp)
    refine WDO.fresh1 tyOk (k := ⟨frBox ⟨mkCs 67 12 (.cons (.int .i64 0) (.cons .snil (.cons .snil (.cons (.bool false) (.cons (.bool false) (.cons (.int .i64 0) (.cons .snil (.cons (.int .i64 0) (.cons (.int .i64 0) (.cons (.int .i64 0) (.cons (.int .i64 0) (.cons (.int .i64 0) .nil))))))))))))⟩ (.tmp 14)⟩) (by kernel_rfl) rfl (by kernel_rfl) e1 ?_
    have n2 : (H1.new o1).next = H1.next + 1 := by simp
    generalize H1.new o1 = H2 at hD k2 n2 ⊢
    refine WDO.looks1 tyOk extOk 1 (ls := [xM 15 6]) (by kernel_rfl) (by simp (disch := omega) []; exact rfl) ?_
    refine WDO.nilS (WD.seq (WD.seqR ?_))
    refine WDO.looks1 tyOk extOk 1 (ls := [⟨lkMove (.const (.int .i64 0)), (some 7), none⟩]) (by kernel_rfl) (by simp (disch := omega) []; exact rfl) ?_
    refine WDO.nilS (WD.forE (σ := Nat) (fun i => [(0, .int .i64 (P : Int)), (1, .int .i64 (m : Int)), (4, .pnil), (6, .ptr H1.next 0), (7, .int .i64 (i : Int))])
      (fun i H' => i ≤ m ∧ D3At H' H1.next H1.next P i ∧ Keep noB H1 H') (fun i => m - i) 0 ⟨by omega, ⟨_, [], hD, Nat.le_refl _, by omega, .inl ⟨rfl, rfl⟩, rfl, fun j u hu => by simp at hu⟩, k2⟩ (by simp) ?_)
    rintro i H' ⟨hi, hD', kk⟩
    refine WDO.looks1 tyOk extOk 3 (ls := [xM 7 16, xM 1 17, xB akLss 16 17 18]) (by kernel_rfl) (by simp (disch := omega) []; exact rfl) ?_
    refine WDO.nil ⟨decide ((i : Int) < (m : Int)), _, rfl, by simp, fun hc => ?_, fun hc => ?_⟩
    · have hc : i = m := by have := of_decide_eq_false hc; omega
      subst hc
      refine WD.seqR ?_
      refine WDO.looks1 tyOk extOk 2 (ls := [xM 6 32, xM 32 4]) (by kernel_rfl) (by simp (disch := omega) []; exact rfl) ?_
      exact WDO.nilS (WD.ret (endR _ (by simp; rfl) ⟨fun _ => ⟨_, rfl, hD'⟩, fun h => Bool.noConfusion h, kk⟩))
    · have hc : i < m := by have := of_decide_eq_true hc; omega
      obtain ⟨d, vs, b1, b2, b3, b4, b5, b6⟩ := hD'.ex
      obtain ⟨oD, gD, rD⟩ := Bx.d3 b1
      obtain ⟨R, hR, hRc⟩ := specR_ex Tryz.prog (fun _ _ _ _ _ => True)
      refine WD.drawnK tyOk extOk (by kernel_rfl) (ls := [⟨[6], .look (lkMove (.tmp 6)), (some 21), none, 0, 2, true, false⟩, ⟨[6], .look (lkMove (.tmp 6)), (some 22), none, 0, 1, true, false⟩, ⟨[22], .look (⟨nilChk E (.tmp 22)⟩), (some 23), none, 0, 1, true, false⟩, ⟨[23], .look (⟨fAddr (.tmp 23) 1⟩), (some 24), none, 0, 1, true, false⟩, ⟨[24], .look (⟨ldA ⟨ld1⟩ (.tmp 24)⟩), (some 25), none, 0, 1, false, false⟩, ⟨[0], .look (lkMove (.tmp 0)), (some 26), none, 0, 1, true, false⟩, ⟨[26, 26], .fresh ⟨frMake E 5 1 (.tmp 26) (.tmp 26)⟩, (some 27), none, 0, 1, false, false⟩, ⟨[27], .fresh ⟨frSlice 1 (zerosA (.cons .snil .nil) 1) ⟨fill1 (.tmp 27) 0 1 flEnd⟩ ⟨mkCs 22 1 (.cons .snil .nil)⟩⟩, (some 28), none, 0, 1, false, false⟩, ⟨[25, 28], .heavy ⟨hvAppend ⟨grownCs 1 ⟨mkCs 22 1 (.cons .snil .nil)⟩⟩ 1 (.tmp 25) (.tmp 28)⟩, (some 29), none, 0, 2, false, true⟩, ⟨[21], .look (⟨nilChk E (.tmp 21)⟩), (some 30), none, 1, 1, true, false⟩, ⟨[30], .look (⟨fAddr (.tmp 30) 1⟩), (some 31), none, 1, 1, true, false⟩, ⟨[31, 29], .heavy ⟨hvStore ⟨st1'⟩ (.tmp 31) (.tmp 29)⟩, none, none, 1, 2, false, true⟩]) (by kernel_rfl) hR fun K hK => ?_
      iterate 4 (refine diLookP (by simp [-resL_cons, resL_cc]; exact rfl) (by simp (disch := omega) []; exact rfl) ?_)
      refine diLookC (by simp [-resL_cons, resL_cc]; exact rfl) (by simp (disch := omega) [gD, rD]; exact rfl) ?_
      refine diLookP (by simp [-resL_cons, resL_cc]; exact rfl) (by simp (disch := omega) []; exact rfl) ?_
      obtain ⟨S, hS⟩ : ∃ S, S = H'.next := ⟨_, rfl⟩
      refine diFresh (by first | (simp [-resL_cons, resL_cc]; done) | (simp [-resL_cons, resL_cc]; exact rfl)) (o := bb 5 false (List.replicate P 0)) (v := .sl H'.next 0 P (some P)) (frMake_u8 (mkZero5 P) rfl rfl (Nat.le_refl _) (by omega) (by omega)) ?_
      have k3 : Keep noB H' (H'.new (bb 5 false (List.replicate P 0))) := Keep.new _ _ _
      have g3 : (H'.new (bb 5 false (List.replicate P 0))).get H'.next = some (bb 5 false (List.replicate P 0)) := get_new_same _ _
      have n3 : (H'.new (bb 5 false (List.replicate P 0))).next = H'.next + 1 := by simp
      have gD3 := k3.get b3 id gD
      generalize H'.new (bb 5 false (List.replicate P 0)) = H3 at k3 g3 n3 gD3 ⊢
      obtain ⟨o5, e5, el5⟩ := frSlice_el (enc := enc1) (e := 22) (es := 1) (z := z1) (z0 := z1) enc1_len (x := .tmp 27) (T := tl [(27, .sl H'.next 0 P (some P))]) (b0 := H3.next) (a := AV.sl H'.next 0 P (some P)) (v := AV.sl H'.next 0 P (some P)) (by simp) rfl (by rfl) rfl
      have e5' : frSlice 1 (zerosA (.cons .snil .nil) 1) ⟨fill1 (.tmp 27) 0 1 flEnd⟩ ⟨mkCs 22 1 (.cons .snil .nil)⟩ (tl [(27, .sl H'.next 0 P (some P))]) H3.next = some (.sl H3.next 0 1 (some 1), o5) := e5
      refine diFresh (by first | (simp [-resL_cons, resL_cc]; done) | (simp [-resL_cons, resL_cc]; exact rfl)) (o := o5) (v := .sl H3.next 0 1 (some 1)) e5' ?_
      have k5 : Keep noB H3 (H3.new o5) := Keep.new _ _ _
      have g5 : (H3.new o5).get H3.next = some o5 := get_new_same _ _
      have n5 : (H3.new o5).next = H3.next + 1 := by simp
      have gD5 := k5.get (by omega) id gD3
      generalize H3.new o5 = H5 at k5 g5 n5 gD5 ⊢
      have kq := k3.trans k5
      have hbl := b4.keep kq fun _ _ => id
      have hlow : H1.next ≤ H'.next := kk.1
      obtain ⟨v', H6, c6, l6, l7, n6, k6⟩ := LstAt.app enc1_len (by omega) hbl (by omega) (cells1 rfl) (One.of g5 el5) (by omega)
      refine diHeavy (by simp [-resL_cons, resL_cc]; exact rfl) (v := v') (H2 := H6) (by simp; exact c6) (by omega) ?_
      simp only [putA_some]
      iterate 2 (refine diLookP (by simp [-resL_cons, resL_cc]; exact rfl) (by simp (disch := omega) []; exact rfl) ?_)
      have hlb : ∀ x, blk d.lv = some x → x ≠ H1.next := fun x hx => by
        rcases b4 with ⟨e, _⟩ | ⟨lb, ol, e, _, _, _, gl, t, he, _⟩
        · rw [e] at hx; cases hx
        · rw [e] at hx
          cases hx
          rintro rfl
          obtain ⟨o', y1, t', y2, _⟩ := b1.ex
          rw [gl, he, y2] at y1
          cases y1
      have b5' := b1.keep kq b3 id
      have b6' := b5'.keep k6 (by omega) (fun e => hlb _ e rfl)
      obtain ⟨H7, s1, s2, s3, s4⟩ := b6'.store1 encD3_len { d with lv := v', ok := l6.cell } (f := 1) (v := v') (by omega) rfl l6.cell
      refine diHeavy (by simp [-resL_cons, resL_cc]; exact rfl) (v := undefA) (H2 := H7) (by simp; exact st1_ob s1) (by omega) ?_
      simp only [diRun_nil, putA_none, List.reverse_cons, List.reverse_nil, List.nil_append, List.cons_append, chkAdd_f, chkBlk_f, atAll_s, atAll_z, and_true, true_and]
      have hpb : plainB o5 := by obtain ⟨t, e⟩ := el5.opn; rw [e]; trivial
      have g35 := k5.get (by omega) id g3
      have k7 : Keep noB H1 H7 := ((kk.trans kq).trans' k6 fun x hx e => by have := (hbl.low e).1; omega).trans' s4 fun x hx e => by omega
      refine ⟨⟨⟨by simp [gD5, rD], trivial, g35⟩, hpb, g5⟩, hK _ _ ?_⟩
      refine WDO.looks1 tyOk extOk 3 (ls := [xM 7 19, xC akAdd 19 1 20, xM 20 7]) (by kernel_rfl) (by simp (disch := omega) []; exact rfl) ?_
      have hold : ∀ (x : Nat) (k : List UInt8), H1.next ≤ x → x < H'.next → H'.get x = some (bb 5 false k) → H7.get x = some (bb 5 false k) := fun x k hx1 hx2 hg => by
        refine s4.get (by have := kq.1; omega) ?_ (k6.get (by have := kq.1; omega) ?_ (kq.get hx2 id hg))
        · rintro rfl
          obtain ⟨o', y1, t', y2, _⟩ := b1.ex
          rw [hg, y2] at y1
          cases y1
        · intro e
          rcases b4 with ⟨e2, _⟩ | ⟨lb, ol, e2, _, _, _, gl, t, he, _⟩
          · rw [e2] at e; cases e
          · rw [e2] at e
            cases e
            rw [gl, he] at hg
            cases hg
      refine WDO.nil ⟨rfl, i + 1, _, rfl, ?_, ⟨by omega, ⟨_, vs ++ [.sl H'.next 0 P (some P)], s3, Nat.le_refl _, by omega, l6.keep s4 fun x hx e => (by rw [l7] at hx; cases hx; omega), by simp [b5], ?_⟩, k7⟩, by omega⟩
      · simp
      · intro j u hu
        rcases Nat.lt_or_ge j vs.length with hj | hj
        · rw [List.getElem?_append_left hj] at hu
          obtain ⟨pb, k, q1, q2, q3, q4, q5⟩ := b6 j u hu
          exact ⟨pb, k, q1, q2, by have := kq.1; omega, hold _ _ q2 q3 q4, q5⟩
        · have hj2 := get_lt hu
          simp at hj2
          have : j = vs.length := by omega
          subst this
          simp at hu
          subst hu
          refine ⟨H'.next, List.replicate P 0, rfl, hlow, by omega, s4.get (by omega) (by omega) (k6.get (by omega) (fun e => by have := (b4.low e).2; omega) g35), by simp⟩
end
end Go.Proofs.YtcfpppleiikjhaaGreatDoor
namespace Go.Proofs.YtcfpppleiikjhaaGreatDoor
open Go.Xq
noncomputable section
set_option maxRecDepth 20000 in
set_option maxHeartbeats 4000000 in
theorem load03_ok {H : AH} {v : AV} {l : List UInt8} {pg : Int} (h : RdS H v l) (hs : l ≠ [] → SlOk H v) (hmx : l.length ≤ 17179869184) :
    DC Tryz.prog .normal 6 (.cons v (.cons (.int .i64 pg) .nil)) H fun v' H2 => (∃ x, v' = .tup (.cons x (.cons (.int .i64 (if ldOk pg l.length = true then 0 else 32)) .nil))) ∧ Keep noB H H2 := by
  refine DC.of_wd (re := reTmp 4 (reTmp 5 reNil)) tyOk Tryz.func6 (by kernel_rfl) rfl (by kernel_rfl) (by kernel_rfl) ?_
  rw [tl_nil, argsT_cons, argsT_cons, argsT_nil]
  have hlen := h.len
  refine WD.seqR ?_
  refine WDO.looks1 tyOk extOk 2 (ls := [⟨lkMove (.const (.pointer none)), (some 4), none⟩, ⟨lkMove (.const (.int .i64 0)), (some 5), none⟩]) (by kernel_rfl) (by simp (disch := omega) []; exact rfl) ?_
  refine WDO.nilS (WD.seqR ?_)
  refine WDO.looks1 tyOk extOk 1 (ls := [xM 1 9]) (by kernel_rfl) (by simp (disch := omega) []; exact rfl) ?_
  refine WDO.callF (g := 18) rfl rfl rfl (by kernel_rfl) (l := .cons (.int .i64 pg) .nil) (by simp) isPage03_ok fun u H1 ⟨hu, hH⟩ => ?_
  subst hu
  subst hH
  refine WDO.looks1 tyOk extOk 1 (ls := [xM 10 6]) (by kernel_rfl) (by simp (disch := omega) []; exact rfl) ?_
  refine WDO.nilS (WD.keep (l := [(0, v), (1, .int .i64 pg), (4, .pnil), (5, .int .i64 0), (6, .bool (isPgI pg))]) (WD.seq (WD.seqR ?_)) (by simp))
  obtain ⟨l', hrun, hsub⟩ : ∃ (l' : List (Nat × AV)), runLk [xM 6 11, xU 11 12, xM 12 13, yM 0 14 13 false, yN 14 15 13 false, yM 1 16 13 false, ⟨⟨binInt ⟨remA⟩ (.tmp 15) (.tmp 16)⟩, (some 17), (some (13, false))⟩, yC akNeq 17 0 18 13 false, xP 13 18 19 true] (tl [(0, v), (1, .int .i64 pg), (4, .pnil), (5, .int .i64 0), (6, .bool (isPgI pg))]) H1 = some (tl l') ∧ lsub [(0, v), (1, .int .i64 pg), (4, .pnil), (5, .int .i64 0), (19, .bool (!(isPgI pg && decide (l.length % pg.toNat = 0))))] l' := by
    cases hp : isPgI pg with
    | false => exact ⟨_, by simp (disch := omega) []; exact rfl, by simp⟩
    | true =>
      have hpc := pgI_cases hp
      obtain ⟨P, rfl⟩ : ∃ P : Nat, pg = (P : Int) := ⟨pg.toNat, by omega⟩
      obtain ⟨r, hr⟩ : ∃ r, r = l.length % P := ⟨_, rfl⟩
      have hrem := remA_nat (k := .i64) (m := l.length) (d := P) (q := r) (by omega) hr
      rw [Int.toNat_natCast, ← hr]
      by_cases h0 : r = 0
      · subst h0
        exact ⟨_, by simp (disch := omega) [hlen, hrem]; exact rfl, by simp⟩
      · have h0' : ¬ (r : Int) = 0 := by omega
        exact ⟨_, by simp (disch := omega) [hlen, hrem, h0']; exact rfl, by simp [h0]⟩
  refine WDO.looks1 tyOk extOk 9 (ls := [xM 6 11, xU 11 12, xM 12 13, yM 0 14 13 false, yN 14 15 13 false, yM 1 16 13 false, ⟨⟨binInt ⟨remA⟩ (.tmp 15) (.tmp 16)⟩, (some 17), (some (13, false))⟩, yC akNeq 17 0 18 13 false, xP 13 18 19 true]) (by kernel_rfl) hrun ?_
  clear hrun
  cases hc : (isPgI pg && decide (l.length % pg.toNat = 0)) with
  | false =>
    have hl0 : ldOk pg l.length = false := by unfold ldOk; rw [← Bool.and_assoc, hc]; rfl
    rw [hc] at hsub
    rw [hl0]
    refine WDO.nilS (WD.keep (WD.cond (t := true) (by simp) (fun _ => WD.seqR ?_) (by simp)) hsub)
    refine WDO.looks1 tyOk extOk 2 (ls := [⟨lkMove (.const (.pointer none)), (some 4), none⟩, ⟨lkMove (.const (.int .i64 32)), (some 5), none⟩]) (by kernel_rfl) (by simp (disch := omega) []; exact rfl) ?_
    exact WDO.nilS (WD.ret (endR _ (by simp; rfl) ⟨⟨_, rfl⟩, Keep.refl _ _⟩))
  | true =>
    rw [hc] at hsub
    rw [Bool.and_eq_true] at hc
    have hpc := pgI_cases hc.1
    have hm0 : l.length % pg.toNat = 0 := of_decide_eq_true hc.2
    obtain ⟨P, rfl⟩ : ∃ P : Nat, pg = (P : Int) := ⟨pg.toNat, by omega⟩
    rw [Int.toNat_natCast] at hm0
    have hld : ldOk (P : Int) l.length = devOk (P : Int) ((l.length / P : Nat) : Int) := by unfold ldOk; rw [hc.1, Int.toNat_natCast, decide_eq_true hm0]; rfl
    rw [hld]
    obtain ⟨N, hN⟩ : ∃ N, N = l.length / P := ⟨_, rfl⟩
    have hquo := quoA_i64n (m := l.length) (d := P) (q := N) (by omega) hN (by omega)
    have hmul : P * N = l.length := by rw [hN]; exact Nat.mul_div_cancel' (Nat.dvd_of_mod_eq_zero hm0)
    rw [← hN]
    have hNl : N ≤ l.length := by rw [hN]; exact Nat.div_le_self _ _
    refine WDO.nilS (WD.keep (WD.cond (t := false) (by simp) (by simp) fun _ => WD.skip (.inl rfl) (WD.seqR ?_)) hsub)
    refine WDO.looks1 tyOk extOk 5 (ls := [xM 1 20, xM 0 21, xN 21 22, xM 1 23, ⟨⟨binInt ⟨quoA⟩ (.tmp 22) (.tmp 23)⟩, (some 24), none⟩]) (by kernel_rfl) (by simp (disch := omega) [hlen, hquo]; exact rfl) ?_
    refine WDO.callF (g := 19) rfl rfl rfl (by kernel_rfl) (l := .cons (.int .i64 (P : Int)) (.cons (.int .i64 (N : Int)) .nil)) (by simp) (new03_ok (by omega) (by omega)) fun u H2 ⟨hu1, hu2, k2⟩ => ?_
    rw [Int.toNat_natCast, Int.toNat_natCast] at hu1
    simp only [putA_some]
    refine WDO.keep (l := [(0, v), (1, .int .i64 (P : Int)), (25, u), (4, .pnil), (5, .int .i64 0)]) ?_ (by simp)
    refine WDO.looks1 tyOk extOk 1 (ls := [xM 25 7]) (by kernel_rfl) (by simp (disch := omega) []; exact rfl) ?_
    refine WDO.nilS (WD.seq (WD.seqR ?_))
    cases hd : devOk (P : Int) (N : Int) with
    | false =>
      have hu := hu2 hd
      subst hu
      refine WDO.looks1 tyOk extOk 2 (ls := [xM 7 26, ⟨⟨binEq ⟨eqPtr 12⟩ false (.tmp 26) (.const (.pointer none))⟩, (some 27), none⟩]) (by kernel_rfl) (by simp (disch := omega) []; exact rfl) ?_
      refine WDO.nilS (WD.cond (t := true) (by simp) (fun _ => WD.seqR ?_) (by simp))
      refine WDO.looks1 tyOk extOk 2 (ls := [⟨lkMove (.const (.pointer none)), (some 4), none⟩, ⟨lkMove (.const (.int .i64 32)), (some 5), none⟩]) (by kernel_rfl) (by simp (disch := omega) []; exact rfl) ?_
      exact WDO.nilS (WD.ret (endR _ (by simp; rfl) ⟨⟨_, rfl⟩, k2⟩))
    | true =>
      obtain ⟨b, rfl, hA⟩ := hu1 hd
      obtain ⟨c1, c2, c3, c4⟩ := devOk_iff.1 hd
      have hne : l ≠ [] := by rintro rfl; have : P * N = 0 := hmul; rcases Nat.mul_eq_zero.1 this with e | e <;> omega
      refine WDO.looks1 tyOk extOk 2 (ls := [xM 7 26, ⟨⟨binEq ⟨eqPtr 12⟩ false (.tmp 26) (.const (.pointer none))⟩, (some 27), none⟩]) (by kernel_rfl) (by simp (disch := omega) []; exact rfl) ?_
      refine WDO.nilS (WD.cond (t := false) (by simp) (by simp) fun _ => WD.skip (.inl rfl) (WD.seq (WD.seqR ?_)))
      refine WDO.looks1 tyOk extOk 1 (ls := [⟨lkMove (.const (.int .i64 0)), (some 8), none⟩]) (by kernel_rfl) (by simp (disch := omega) []; exact rfl) ?_
      refine WDO.nilS (WD.forE (σ := Nat) (fun i => [(0, v), (1, .int .i64 (P : Int)), (4, .pnil), (5, .int .i64 0), (7, .ptr b 0), (8, .int .i64 (i : Int))])
        (fun i H' => i ≤ N ∧ D3At H' H1.next b P N ∧ Keep noB H1 H') (fun i => N - i) 0 ⟨by omega, hA, k2⟩ (by simp) ?_)
      rintro i H' ⟨hi, hD', kk⟩
      obtain ⟨d, vs, b1, b2, b3, b4, b5, b6⟩ := hD'.ex
      obtain ⟨oD, gD, rD⟩ := Bx.d3 b1
      have hll := b4.len
      rw [b5] at hll
      refine WDO.looks1 tyOk extOk 7 (ls := [xM 8 28, xM 7 29, ⟨⟨nilChk E (.tmp 29)⟩, (some 30), none⟩, xF 30 1 31, xL 31 32, xN 32 33, xB akLss 28 33 34]) (by kernel_rfl) (by simp (disch := omega) [gD, rD, hll]; exact rfl) ?_
      refine WDO.nil ⟨decide ((i : Int) < (N : Int)), _, rfl, by simp, fun hc => ?_, fun hc => ?_⟩
      · refine WD.seqR ?_
        refine WDO.looks1 tyOk extOk 3 (ls := [xM 7 50, xM 50 4, ⟨lkMove (.const (.int .i64 0)), (some 5), none⟩]) (by kernel_rfl) (by simp (disch := omega) []; exact rfl) ?_
        exact WDO.nilS (WD.ret (endR _ (by simp; rfl) ⟨⟨_, rfl⟩, kk⟩))
      · have hc : i < N := by have := of_decide_eq_true hc; omega
        obtain ⟨u, hu⟩ : ∃ u, vs[i]? = some u := ⟨_, List.getElem?_eq_getElem (by omega)⟩
        obtain ⟨pb, k, q1, q2, q3, q4, q5⟩ := b6 i u hu
        obtain ⟨lb, ol, hlv, hl1, hl2, gl, el, hlt⟩ := b4.at hu
        have cl := el.cell hu (j := 0) (v := u) rfl
        rw [hlv] at rD
        obtain ⟨a, ha⟩ : ∃ a, a = i * P := ⟨_, rfl⟩
        have hle : i * P + P ≤ N * P := by have := Nat.mul_le_mul_right P (Nat.succ_le_of_lt hc); rw [Nat.succ_mul] at this; exact this
        rw [← ha, Nat.mul_comm N P, hmul] at hle
        have ha' : (i : Int) * (P : Int) = (a : Int) := by rw [ha, Int.natCast_mul]
        have gm : akMul.f .i64 (i : Int) (P : Int) = some (.int .i64 (a : Int)) := by rw [akMul_i64 (by rw [ha']; omega) (by rw [ha']; omega), ha']
        have hrd := h.keep kk fun _ _ => id
        obtain ⟨vt, s1, s2, _, _⟩ := slC_gen (lo := a) none (n := l.length) rfl hrd ((hs hne).keep h hne kk fun _ _ => id) hne (by omega) (Nat.le_refl _)
        rw [sub_drop] at s2
        have cl' : rdCell ol i = some u := by simpa using cl
        have hel : (i : Int) < (vs.length : Int) := by omega
        obtain ⟨R, hR, hRc⟩ := specR_ex Tryz.prog (fun _ _ _ _ _ => True)
        refine WD.drawnK tyOk extOk (by kernel_rfl) (ls := [⟨[7], .look (lkMove (.tmp 7)), (some 37), none, 0, 1, true, false⟩, ⟨[37], .look (⟨nilChk E (.tmp 37)⟩), (some 38), none, 0, 1, true, false⟩, ⟨[38], .look (⟨fAddr (.tmp 38) 1⟩), (some 39), none, 0, 1, true, false⟩, ⟨[39], .look (⟨ldA ⟨ld1⟩ (.tmp 39)⟩), (some 40), none, 0, 1, false, false⟩, ⟨[8], .look (lkMove (.tmp 8)), (some 41), none, 0, 1, true, false⟩, ⟨[40, 41], .look (⟨ixSl 1 (.tmp 40) (.tmp 41)⟩), (some 42), none, 0, 1, true, false⟩, ⟨[42], .look (⟨ldA ⟨ld1⟩ (.tmp 42)⟩), (some 43), none, 0, 1, false, false⟩, ⟨[0], .look (lkMove (.tmp 0)), (some 44), none, 0, 1, true, false⟩, ⟨[8], .look (lkMove (.tmp 8)), (some 45), none, 0, 1, true, false⟩, ⟨[1], .look (lkMove (.tmp 1)), (some 46), none, 0, 1, true, false⟩, ⟨[45, 46], .look (⟨binInt akMul (.tmp 45) (.tmp 46)⟩), (some 47), none, 0, 1, false, false⟩, ⟨[44, 47], .look (⟨slSl 1 (.tmp 44) (some (.tmp 47)) none none⟩), (some 48), none, 0, 1, false, false⟩, ⟨[43, 48], .heavy ⟨hvCopy 1 (.tmp 43) (.tmp 48)⟩, (some 49), none, 0, 2, false, true⟩]) (by kernel_rfl) hR fun K hK => ?_
        simp (disch := omega) [gD, rD, gm, gl, cl', hel, s1]
        subst q1
        have hcp := copyA_most (H := H') (off := 0) (n := P) (cap := some P) q4 (by omega) s2.lengthA s2.bytesA (by rw [List.length_drop]; omega) (by omega)
        refine diHv_in (v := .int .i64 (P : Int)) (by simp; exact hcp) (by simp) ?_
        have kB : Keep (fun x => x = pb) H' (H'.set pb (bb 5 false (putL k 0 ((l.drop a).take P)))) := Keep.set _ fun _ => rfl
        have oB : (H'.set pb (bb 5 false (putL k 0 ((l.drop a).take P)))).get pb = some (bb 5 false (putL k 0 ((l.drop a).take P))) := get_set_same _ _ _
        have nB : (H'.set pb (bb 5 false (putL k 0 ((l.drop a).take P)))).next = H'.next := by simp
        have hpl : (putL k 0 ((l.drop a).take P)).length = P := by rw [putL_len (by rw [List.length_take, List.length_drop]; omega), q5]
        generalize H'.set pb (bb 5 false (putL k 0 ((l.drop a).take P))) = Hz at kB oB nB ⊢
        simp [gD, rD, gm, gl, cl', s1]
        refine hK _ _ ?_
        have hpbb : b ≠ pb := by
          rintro rfl
          obtain ⟨o', y1, t', y2, _⟩ := b1.ex
          rw [q4, y2] at y1
          cases y1
        have hlbp : ∀ x, blk d.lv = some x → ¬ x = pb := fun x hx e => by
          rw [hlv] at hx
          cases hx
          subst e
          obtain ⟨t, he, _⟩ := el
          rw [gl, he] at q4
          cases q4
        refine WDO.looks1 tyOk extOk 3 (ls := [xM 8 35, xC akAdd 35 1 36, xM 36 8]) (by kernel_rfl) (by simp (disch := omega) []; exact rfl) ?_
        refine WDO.nil ⟨rfl, i + 1, _, rfl, ?_, ⟨by omega, ⟨d, vs, b1.keep kB b3 hpbb, b2, by omega, b4.keep kB hlbp, b5, fun j u hu => ?_⟩, kk.trans' kB fun x hx e => by omega⟩, by omega⟩
        · simp
        · obtain ⟨pb2, k2, r1, r2, r3, r4, r5⟩ := b6 j u hu
          by_cases e : pb2 = pb
          · subst e
            exact ⟨pb2, _, r1, r2, by omega, oB, hpl⟩
          · exact ⟨pb2, k2, r1, r2, by omega, kB.get r3 e r4, r5⟩
end
end Go.Proofs.YtcfpppleiikjhaaGreatDoor
