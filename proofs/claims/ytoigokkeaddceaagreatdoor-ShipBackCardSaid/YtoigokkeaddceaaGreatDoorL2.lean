/- A part of the proof of this seat's statement: what is particular to its program. Its conditions stand in each theorem. -/
import Derived.Test.YtoigokkeaddceaaGreatDoorL1
import Derived.Test.YtoigokkeaddceaaGreatDoorZ7
namespace Go.Proofs.YtoigokkeaddceaaGreatDoor
open Go.Xq
noncomputable section
def setN (a : Pv) (z : Int) : Pv := ⟨z, a.v, a.ok⟩
def mixP (els : List Pv) (i : Nat) (z : Int) : List Pv := els.mapIdx fun k a => if k < i then setN a z else a
def PB (H : AH) (v : AV) (els : List Pv) : Prop := (v = .snil ∧ els = []) ∨ ∃ b o, v = .sl b 0 els.length none ∧ b < H.next ∧ H.get b = some o ∧ ElB encPv 67 2 true zPv els o
def GP (H : AH) (v : AV) (len : Nat) (z : Int) : Prop := (v = .snil ∧ len = 0) ∨ ∃ b o, v = .sl b 0 len none ∧ b < H.next ∧ H.get b = some o ∧ ∀ k, k < len → rdCell o (k * 2) = some (.int .i64 z)
def AppP (H : AH) (v : AV) (els : List Pv) (a : Pv) (v' : AV) (H2 : AH) : Prop :=
  (∃ b o o', v = .sl b 0 els.length none ∧ H.get b = some o ∧ ElB encPv 67 2 true zPv els o ∧ ElB encPv 67 2 true zPv (els ++ [a]) o' ∧ v' = .sl b 0 (els.length + 1) none ∧ H2 = H.set b o') ∨
  (∃ o', ElB encPv 67 2 true zPv (els ++ [a]) o' ∧ v' = .sl H.next 0 (els.length + 1) none ∧ H2 = H.new o')
section
variable {b : Frame} {n : Cx} {T : Tr AV} {D : List ADf} {H : AH} {Q : Out → Prop}
end
def BookAt.keep2 {H H2 : AH} {B pb : Nat} {S : List AV} {W : Nat → Prop} (h : BookAt H B pb S) (hk : Keep W H H2) (h1 : ¬ W pb) (h2 : ∀ b, blk h.bl = some b → ¬ W b) : BookAt H2 B pb S :=
  ⟨h.bl, h.o, h.low, Nat.lt_of_lt_of_le h.lt hk.1, hk.get h.lt h1 h.get, h.el, h.bytes.keep hk h2, h.d1⟩
end
end Go.Proofs.YtoigokkeaddceaaGreatDoor
namespace Go.Proofs.YtoigokkeaddceaaGreatDoor
open Go.Xq
noncomputable section
def OwnAll (H : AH) (S : List AV) (Bs : List (List UInt8)) : Prop := S.length = Bs.length ∧ ∀ (i : Nat) (v : AV) (l : List UInt8), S[i]? = some v → Bs[i]? = some l → OwnB 5 H 0 v l
end
end Go.Proofs.YtoigokkeaddceaaGreatDoor
namespace Go.Proofs.YtoigokkeaddceaaGreatDoor
open Go.Xq
noncomputable section
open Classical in
def decD (l : List UInt8) : Dl := if saysD l then fldsD l else zeroDl
open Classical in
def decE (l : List UInt8) : Int := if saysD l then 0 else 230
theorem ownD_zero (H : AH) (lo : Nat) : OwnD H lo zeroDl .snil .snil [] :=
  ⟨⟨⟨.inl ⟨rfl, rfl⟩, rfl, fun j a p ha => by simp at ha⟩, .inl ⟨rfl, rfl⟩⟩, List.Pairwise.cons (by simp) .nil⟩
theorem decodePU_ok {H : AH} {v : AV} {l : List UInt8} (h : OldS H v l) (hl : l.length ≤ 8589934592) :
    AC Tryz.prog .normal 16 (.cons v .nil) H fun v' H2 => (∃ pv mv els, v' = .tup (.cons (dlA (decD l) pv mv) (.cons (.int .i64 (decE l)) .nil)) ∧ OwnD H2 H.next (decD l) pv mv els) ∧ Keep noB H H2 :=
  (decodeP_ok h hl).mono fun v' H2 ⟨h1, h2, h3⟩ => by
    refine ⟨?_, h3⟩
    by_cases hs : saysD l
    · rw [decD, if_pos hs, decE, if_pos hs]; exact h1 hs
    · rw [decD, if_neg hs, decE, if_neg hs]; exact ⟨.snil, .snil, [], h2 hs, ownD_zero _ _⟩
end
end Go.Proofs.YtoigokkeaddceaaGreatDoor
namespace Go.Proofs.YtoigokkeaddceaaGreatDoor
open Go.Xq
noncomputable section
theorem rises_count : ∀ {page high last : Int} {ps : List (Int × List UInt8)}, risesP page high last ps → ps.length = 0 ∨ (ps.length : Int) ≤ high - last - 1
  | _, _, _, [], _ => .inl rfl
  | page, high, last, q :: ps, h => by
    obtain ⟨h1, h2, _, h4⟩ := h
    right
    rw [List.length_cons]
    rcases rises_count h4 with e | e <;> omega
theorem okD_body {d : Dl} (h : okD d) : (bodyD d).length < 8589934592 ∧ d.pages.length < 4294967296 := by
  obtain ⟨hm, hpg, _, hp, _, _, _, _, hr⟩ := h
  have hml := hm.le
  have hh := hm.2.1
  obtain ⟨_, _, _, ⟨m5, m6⟩, _⟩ := hh
  have hc := rises_count hr
  have hpc := pgI_cases hpg
  have hps := risesP_len hr
  have hfl := flat_len (page := d.page.toNat) (ps := d.pages) (fun p hp => by have := (hps p hp).2.2; omega)
  have e : bodyD d = headD d ++ d.pages.flatMap (fun p => fixedL (u64 p.1) 4 ++ p.2) := rfl
  have hn : d.pages.length ≤ 65536 := by omega
  have hb : d.pages.length * (4 + d.page.toNat) ≤ 65536 * 65540 := Nat.mul_le_mul hn (by omega)
  refine ⟨?_, by omega⟩
  rw [e, List.length_append, headD_len, hfl]
  omega
theorem encodeV_ok {H : AH} {d : Dl} {pv mv : AV} {cs : List (Int × AV)} (h : DlAt H d pv mv cs) (hl : d.meta_.length < 4611686018427387904) (hp : d.pages.length < 4611686018427387904) :
    DC Tryz.prog .normal 10 (.cons (dlA d pv mv) .nil) H fun v' H2 => (∃ v, v' = .tup (.cons v (.cons (.int .i64 (resE d)) .nil)) ∧ OwnB 5 H2 H.next v (resL d)) ∧ Keep noB H H2 :=
  (encodeShip_ok h hl hp fun hok => (okD_body hok).1).mono fun v' H2 ⟨h1, h2, h3⟩ => by
    refine ⟨?_, h3⟩
    by_cases hok : okD d
    · obtain ⟨v, e, ho⟩ := h1 hok
      exact ⟨v, by rw [e, resE, if_pos hok], by rw [resL, if_pos hok]; exact ho⟩
    · exact ⟨.snil, by rw [h2 hok, resE, if_neg hok], by rw [resL, if_neg hok]; exact .inl ⟨rfl, rfl⟩⟩
def turnsB (t : List UInt8) : Bool := t.any fun y => !decide (y = 0)
theorem turnsB_iff (t : List UInt8) : turnsB t = true ↔ ∃ y ∈ t, y ≠ 0 := by simp [turnsB]
theorem turnsB_succ {t : List UInt8} {i : Nat} {y : UInt8} (h : t[i]? = some y) : turnsB (t.take (i + 1)) = (turnsB (t.take i) || !decide (y = 0)) := by
  have e : t.take (i + 1) = t.take i ++ [y] := by rw [List.take_add_one, h]; rfl
  rw [e, turnsB, List.any_append]
  simp [turnsB]
set_option maxRecDepth 10000 in
set_option maxHeartbeats 4000000 in
theorem mainBack_ok {W : World} {a0 a1 : Nat × Nat} {H : AH} {d : Dl} {pv mv tv : AV} {cs : List (Int × AV)} {at_ : Int} {ts : List UInt8} (hG : HoldsG W a0 a1 H) (hGn : 3 ≤ H.next) (h : DlAt H d pv mv cs) (ht : RdS H tv ts)
    (hm : d.meta_.length < 4611686018427387904) (hp : d.pages.length < 4611686018427387904) (hpl : ∀ p ∈ d.pages, p.2.length < 4611686018427387904) :
    AC Tryz.prog .normal 5 (.cons (dlA d pv mv) (.cons (.int .i64 at_) (.cons tv .nil))) H fun v' H2 => v' = .bool true ∧ Keep noB H H2 := by
  refine AC.of_wp (re := reTmp 6 reNil) tyOk Tryz.func5 (by kernel_rfl) rfl (by kernel_rfl) (by kernel_rfl) ?_
  rw [tl_nil, argsT_cons, argsT_cons, argsT_cons, argsT_nil]
  refine WP.seqR ?_
  obtain ⟨o1, e1, hD, k1⟩ := Bx.box (enc := encDv) (e := 25) (z := zDv) encDv_len (H := H) (a := d.dv pv mv h.c1 h.c2) (x := .tmp 0) (T := tl [(2, tv), (1, .int .i64 at_), (0, dlA d pv mv)]) (by simp; rfl)
  refine WPO.fresh1 tyOk (k := ⟨frBox ⟨mkCs 25 6 (.cons (.int .i64 0) (.cons (.int .i64 0) (.cons (.int .i64 0) (.cons (.int .i64 0) (.cons .snil (.cons .snil .nil))))))⟩ (.tmp 0)⟩) (by kernel_rfl) rfl (by kernel_rfl) e1 ?_
  have n1 : (H.new o1).next = H.next + 1 := by simp
  have hG1 : HoldsG W a0 a1 (H.new o1) := hG.keep k1 hGn fun _ _ => id
  generalize H.new o1 = H1 at hD k1 n1 hG1 ⊢
  obtain ⟨N, hN⟩ : ∃ N, N = H.next := ⟨_, rfl⟩
  rw [← hN] at hD n1 ⊢
  obtain ⟨oD, gD, _, _, _, _, _, _, dc⟩ := hD.dv
  refine WPO.looks1 tyOk extOk 1 (ls := [⟨lkMove (.const (.bool false)), (some 6), none⟩]) (by kernel_rfl) (by simp (disch := omega) []; exact rfl) ?_
  refine WPO.nilS (WP.seqR ?_)
  refine WPO.callF (g := 6) rfl rfl rfl (by kernel_rfl) (l := .nil) (by simp) (live_ok hG1).ac fun u H' ⟨hu, hH⟩ => ?_
  subst hu
  subst hH
  refine WPO.looks1 tyOk extOk 1 (ls := [⟨lkMove (.tmp 20), (some 7), none⟩]) (by kernel_rfl) (by simp (disch := omega) []; exact rfl) ?_
  refine WPO.nilS (WP.seqR ?_)
  refine WPO.looks1 tyOk extOk 1 (ls := [⟨⟨ldA ⟨ldN 6⟩ (.tmp 3)⟩, (some 21), none⟩]) (by kernel_rfl) (by simp (disch := omega) [gD, dc]; exact rfl) ?_
  refine WPO.callF (g := 7) rfl rfl rfl (by kernel_rfl) (l := .cons (dlA d pv mv) .nil) (by simp [dlA, encDv, Dl.dv]) (great_ok (h.keep k1) hm hp hpl).ac fun u H2 ⟨hu, k2⟩ => ?_
  subst hu
  have kk2 := k1.trans k2
  have gD2 := k2.get (by omega) id gD
  have n2 := k2.1
  refine WPO.looks1 tyOk extOk 1 (ls := [⟨lkMove (.tmp 22), (some 8), none⟩]) (by kernel_rfl) (by simp (disch := omega) []; exact rfl) ?_
  refine WPO.nilS (WP.seqR ?_)
  refine WPO.looks1 tyOk extOk 1 (ls := [⟨⟨ldA ⟨ldN 6⟩ (.tmp 3)⟩, (some 24), none⟩]) (by kernel_rfl) (by simp (disch := omega) [gD2, dc]; exact rfl) ?_
  refine WPO.callF (g := 10) rfl rfl rfl (by kernel_rfl) (l := .cons (dlA d pv mv) .nil) (by simp [dlA, encDv, Dl.dv]) (encodeV_ok (h.keep kk2) hm hp).ac fun u H3 ⟨⟨bv, hu, ob⟩, k3⟩ => ?_
  subst hu
  have kk3 := kk2.trans k3
  have gD3 := k3.get (by omega) id gD2
  have n3 := k3.1
  refine WPO.looks1 tyOk extOk 5 (ls := [⟨lkMove (.tmp 25), (some 23), none⟩, ⟨⟨exA (.tmp 23) 0⟩, (some 26), none⟩, ⟨⟨exA (.tmp 23) 1⟩, (some 27), none⟩, ⟨lkMove (.tmp 26), (some 9), none⟩, ⟨lkMove (.tmp 27), (some 10), none⟩]) (by kernel_rfl) (by simp (disch := omega) []; exact rfl) ?_
  refine WPO.nilS (WP.keep (l := [(1, .int .i64 at_), (2, tv), (3, .ptr N 0), (7, .bool true), (8, .bool (decide (4194304 < bulkD d))), (9, bv), (10, .int .i64 (resE d))]) (WP.seq (WP.seqR ?_)) (by simp))
  by_cases hbig : 4194304 < bulkD d
  · refine WPO.looks1 tyOk extOk 9 (ls := [⟨lkMove (.tmp 7), (some 28), none⟩, ⟨lkUn ukNot (.tmp 28), (some 29), none⟩, ⟨lkMove (.tmp 29), (some 30), none⟩, ⟨lkMove (.tmp 8), (some 31), (some (30, false))⟩, ⟨⟨pickA (.tmp 30) (.const (.bool true)) (.tmp 31)⟩, (some 32), none⟩, ⟨lkMove (.tmp 32), (some 33), none⟩, ⟨lkMove (.tmp 10), (some 34), (some (33, false))⟩, ⟨⟨binInt akNeq (.tmp 34) (.const (.int .i64 0))⟩, (some 35), (some (33, false))⟩, ⟨⟨pickA (.tmp 33) (.const (.bool true)) (.tmp 35)⟩, (some 36), none⟩]) (by kernel_rfl) (by simp (disch := omega) [hbig]; exact rfl) ?_
    refine WPO.nilS (WP.cond (t := true) (by simp) (fun _ => WP.seqR ?_) (by simp))
    refine WPO.looks1 tyOk extOk 10 (ls := [⟨lkMove (.tmp 7), (some 37), none⟩, ⟨lkMove (.tmp 37), (some 38), none⟩, ⟨lkMove (.tmp 8), (some 39), (some (38, true))⟩, ⟨lkMove (.tmp 39), (some 40), (some (38, true))⟩, ⟨lkMove (.tmp 9), (some 41), (some (40, false))⟩, ⟨⟨lenSl (.tmp 41)⟩, (some 42), (some (40, false))⟩, ⟨⟨binInt akEql (.tmp 42) (.const (.int .i64 0))⟩, (some 43), (some (40, false))⟩, ⟨⟨pickA (.tmp 40) (.const (.bool true)) (.tmp 43)⟩, (some 44), (some (38, true))⟩, ⟨⟨pickA (.tmp 38) (.tmp 44) (.const (.bool false))⟩, (some 45), none⟩, ⟨lkMove (.tmp 45), (some 6), none⟩]) (by kernel_rfl) (by simp (disch := omega) []; exact rfl) ?_
    exact WPO.nilS (WP.ret (endR _ (by simp; rfl) ⟨rfl, kk3⟩))
  · by_cases hok : okD d
    rotate_left
    · have hE : resE d = 230 := if_neg hok
      have hL : resL d = [] := if_neg hok
      rw [hL] at ob
      have hbl := ob.rd.len
      refine WPO.looks1 tyOk extOk 9 (ls := [⟨lkMove (.tmp 7), (some 28), none⟩, ⟨lkUn ukNot (.tmp 28), (some 29), none⟩, ⟨lkMove (.tmp 29), (some 30), none⟩, ⟨lkMove (.tmp 8), (some 31), (some (30, false))⟩, ⟨⟨pickA (.tmp 30) (.const (.bool true)) (.tmp 31)⟩, (some 32), none⟩, ⟨lkMove (.tmp 32), (some 33), none⟩, ⟨lkMove (.tmp 10), (some 34), (some (33, false))⟩, ⟨⟨binInt akNeq (.tmp 34) (.const (.int .i64 0))⟩, (some 35), (some (33, false))⟩, ⟨⟨pickA (.tmp 33) (.const (.bool true)) (.tmp 35)⟩, (some 36), none⟩]) (by kernel_rfl) (by simp (disch := omega) [hbig, hE]; exact rfl) ?_
      refine WPO.nilS (WP.cond (t := true) (by simp) (fun _ => WP.seqR ?_) (by simp))
      refine WPO.looks1 tyOk extOk 10 (ls := [⟨lkMove (.tmp 7), (some 37), none⟩, ⟨lkMove (.tmp 37), (some 38), none⟩, ⟨lkMove (.tmp 8), (some 39), (some (38, true))⟩, ⟨lkMove (.tmp 39), (some 40), (some (38, true))⟩, ⟨lkMove (.tmp 9), (some 41), (some (40, false))⟩, ⟨⟨lenSl (.tmp 41)⟩, (some 42), (some (40, false))⟩, ⟨⟨binInt akEql (.tmp 42) (.const (.int .i64 0))⟩, (some 43), (some (40, false))⟩, ⟨⟨pickA (.tmp 40) (.const (.bool true)) (.tmp 43)⟩, (some 44), (some (38, true))⟩, ⟨⟨pickA (.tmp 38) (.tmp 44) (.const (.bool false))⟩, (some 45), none⟩, ⟨lkMove (.tmp 45), (some 6), none⟩]) (by kernel_rfl) (by simp (disch := omega) [hbl]; exact rfl) ?_
      exact WPO.nilS (WP.ret (endR _ (by simp; rfl) ⟨rfl, kk3⟩))
    have hE : resE d = 0 := if_pos hok
    have hL : resL d = encD d := if_pos hok
    rw [hL] at ob
    obtain ⟨hbody, hpn⟩ := okD_body hok
    have hsay := back_says hok hpn
    have hfl := (back_okD hok hpn).flds
    have hbb := body_bulk d
    have hll : (encD d).length = (bodyD d).length + 4 := by simp [encD, fixedL_len]
    have h36 := hsay.1.1
    generalize encD d = l at ob hsay hfl hll h36
    have hdd : decD l = d := by rw [decD, if_pos hsay, hfl]
    have hde : decE l = 0 := if_pos hsay
    refine WPO.looks1 tyOk extOk 9 (ls := [⟨lkMove (.tmp 7), (some 28), none⟩, ⟨lkUn ukNot (.tmp 28), (some 29), none⟩, ⟨lkMove (.tmp 29), (some 30), none⟩, ⟨lkMove (.tmp 8), (some 31), (some (30, false))⟩, ⟨⟨pickA (.tmp 30) (.const (.bool true)) (.tmp 31)⟩, (some 32), none⟩, ⟨lkMove (.tmp 32), (some 33), none⟩, ⟨lkMove (.tmp 10), (some 34), (some (33, false))⟩, ⟨⟨binInt akNeq (.tmp 34) (.const (.int .i64 0))⟩, (some 35), (some (33, false))⟩, ⟨⟨pickA (.tmp 33) (.const (.bool true)) (.tmp 35)⟩, (some 36), none⟩]) (by kernel_rfl) (by simp (disch := omega) [hbig, hE]; exact rfl) ?_
    refine WPO.nilS (WP.cond (t := false) (by simp) (by simp) fun _ => WP.skip (.inl rfl) (WP.keep (l := [(1, .int .i64 at_), (2, tv), (3, .ptr N 0), (9, bv)]) (WP.seqR ?_) (by simp)))
    have hne : l ≠ [] := by intro e; subst e; simp at h36
    obtain ⟨B, rfl, hB1, hB2, gB⟩ : ∃ B, bv = .sl B 0 l.length none ∧ H2.next ≤ B ∧ B < H3.next ∧ H3.get B = some (bb 5 true l) := by
      rcases ob with ⟨_, e⟩ | ⟨B, e1, _, e2, e3, e4⟩
      · exact absurd e hne
      · exact ⟨B, e1, e2, e3, e4⟩
    have hold : ∀ (H' : AH) (k : List UInt8), k.length = l.length → H'.get B = some (bb 5 true k) → B < H'.next → OldS H' (.sl B 0 l.length none) k := fun H' k hk g hlt =>
      ⟨.bb' hk.symm hlt g, .inr (.inr ⟨B, 0, _, 5, k, rfl, g⟩), fun b e => by cases e; exact hlt⟩
    refine WPO.looks1 tyOk extOk 1 (ls := [⟨lkMove (.tmp 9), (some 47), none⟩]) (by kernel_rfl) (by simp (disch := omega) []; exact rfl) ?_
    refine WPO.callF (g := 16) rfl rfl rfl (by kernel_rfl) (l := .cons (.sl B 0 l.length none) .nil) (by simp) (decodePU_ok (hold H3 l rfl gB hB2) (by omega)) fun u H4 ⟨⟨pc, mc, ec, hu, oc⟩, k4⟩ => ?_
    rw [hdd, hde] at hu
    rw [hdd] at oc
    subst hu
    have dcl := oc.made.dl
    have n4 := k4.1
    have kk4 := kk3.trans k4
    have gD4 := k4.get (by omega) id gD3
    have gB4 := k4.get hB2 id gB
    refine WPO.looks1 tyOk extOk 3 (ls := [⟨lkMove (.tmp 48), (some 46), none⟩, ⟨⟨exA (.tmp 46) 0⟩, (some 49), none⟩, ⟨⟨exA (.tmp 46) 1⟩, (some 50), none⟩]) (by kernel_rfl) (by simp (disch := omega) []; exact rfl) ?_
    refine WPO.fresh1 tyOk (k := ⟨frAlloc (.cs 25 6 6 false (.cons (.int .i64 0) (.cons (.int .i64 0) (.cons (.int .i64 0) (.cons (.int .i64 0) (.cons .snil (.cons .snil .nil)))))) .e)⟩) (by kernel_rfl) rfl (by kernel_rfl) (v := .ptr H4.next 0) (x := .cs 25 6 6 false zDv .e) ?_ ?_
    · exact rfl
    obtain ⟨H5, s1, s2, bc, s4⟩ := (newDv H4).store encDv_len (d.dv pc mc dcl.c1 dcl.c2) (cells_dv _)
    refine WPO.heavy1 tyOk extOk (k := ⟨hvStore ⟨stN 6⟩ (.tmp 11) (.tmp 49)⟩) (by kernel_rfl) rfl (by kernel_rfl) (by simp; exact stN_ob s1) ?_
    have k5 : Keep noB H4 H5 := (Keep.new noB H4 _).trans' s4 fun b hb e => absurd e (by omega)
    have n5 : H5.next = H4.next + 1 := by rw [s2]; simp
    have kk5 := kk4.trans k5
    have gD5 := k5.get (by omega) id gD4
    have gB5 := k5.get (by omega) id gB4
    have dc5 := dcl.keep k5
    obtain ⟨oC, gC, _, _, _, _, _, _, cC⟩ := bc.dv
    clear s1 s2 s4
    refine WPO.looks1 tyOk extOk 1 (ls := [⟨lkMove (.tmp 50), (some 12), none⟩]) (by kernel_rfl) (by simp (disch := omega) []; exact rfl) ?_
    refine WPO.nilS (WP.seqR ?_)
    refine WPO.looks1 tyOk extOk 2 (ls := [⟨⟨ldA ⟨ldN 6⟩ (.tmp 11)⟩, (some 51), none⟩, ⟨⟨ldA ⟨ldN 6⟩ (.tmp 3)⟩, (some 52), none⟩]) (by kernel_rfl) (by simp (disch := omega) [gC, cC, gD5, dc]; exact rfl) ?_
    refine WPO.callF (g := 18) rfl rfl rfl (by kernel_rfl) (l := .cons (dlA d pc mc) (.cons (dlA d pv mv) .nil)) (by simp [dlA, encDv, Dl.dv]) (same_ok dc5 (h.keep kk5) hp).ac fun u H6 ⟨hu, k6⟩ => ?_
    subst hu
    have n6 := k6.1
    have kk6 := kk5.trans k6
    have gB6 := k6.get (by omega) id gB5
    refine WPO.looks1 tyOk extOk 1 (ls := [⟨lkMove (.tmp 53), (some 13), none⟩]) (by kernel_rfl) (by simp (disch := omega) []; exact rfl) ?_
    refine WPO.nilS (WP.seq (WP.seqR ?_))
    have f8 : ¬ (l.length : Int) < 8 := by omega
    refine WPO.looks1 tyOk extOk 11 (ls := [⟨lkMove (.tmp 12), (some 54), none⟩, ⟨⟨binInt akNeq (.tmp 54) (.const (.int .i64 0))⟩, (some 55), none⟩, ⟨lkMove (.tmp 55), (some 56), none⟩, ⟨lkMove (.tmp 13), (some 57), (some (56, false))⟩, ⟨lkUn ukNot (.tmp 57), (some 58), (some (56, false))⟩, ⟨⟨pickA (.tmp 56) (.const (.bool true)) (.tmp 58)⟩, (some 59), none⟩, ⟨lkMove (.tmp 59), (some 60), none⟩, ⟨lkMove (.tmp 9), (some 61), (some (60, false))⟩, ⟨⟨lenSl (.tmp 61)⟩, (some 62), (some (60, false))⟩, ⟨⟨binInt akLss (.tmp 62) (.const (.int .i64 8))⟩, (some 63), (some (60, false))⟩, ⟨⟨pickA (.tmp 60) (.const (.bool true)) (.tmp 63)⟩, (some 64), none⟩]) (by kernel_rfl) (by simp (disch := omega) [f8]; exact rfl) ?_
    refine WPO.nilS (WP.cond (t := false) (by simp) (by simp) fun _ => WP.skip (.inl rfl) (WP.keep (l := [(1, .int .i64 at_), (2, tv), (9, .sl B 0 l.length none)]) (WP.seqR ?_) (by simp)))
    refine WPO.looks1 tyOk extOk 1 (ls := [⟨lkMove (.const (.int .i64 0)), (some 14), none⟩]) (by kernel_rfl) (by simp (disch := omega) []; exact rfl) ?_
    refine WPO.nilS (WP.seq ?_)
    refine WP.mono (Q := fun o => ∃ (p : Nat) (l' : List (Nat × AV)), o = .nor (tl l') [] H6 ∧ p < l.length ∧ lsub [(2, tv), (9, .sl B 0 l.length none), (14, .int .i64 (p : Int))] l') ?_ ?_
    · refine WP.seqR ?_
      by_cases h0 : 0 ≤ at_
      · obtain ⟨z, rfl⟩ : ∃ z : Nat, at_ = (z : Int) := ⟨at_.toNat, by omega⟩
        refine WPO.looks1 tyOk extOk 2 (ls := [⟨lkMove (.tmp 1), (some 65), none⟩, ⟨⟨binInt akGeq (.tmp 65) (.const (.int .i64 0))⟩, (some 66), none⟩]) (by kernel_rfl) (by simp (disch := omega) []; exact rfl) ?_
        refine WPO.nilS (WP.cond (t := true) (by simp) (fun _ => WP.region ?_) (by simp))
        have hrem := remA_nat (k := .i64) (m := z) (d := l.length) (q := z % l.length) (by omega) rfl
        refine WPO.looks1 tyOk extOk 5 (ls := [⟨lkMove (.tmp 1), (some 67), none⟩, ⟨lkMove (.tmp 9), (some 68), none⟩, ⟨⟨lenSl (.tmp 68)⟩, (some 69), none⟩, ⟨⟨binInt ⟨remA⟩ (.tmp 67) (.tmp 69)⟩, (some 70), none⟩, ⟨lkMove (.tmp 70), (some 14), none⟩]) (by kernel_rfl) (by simp (disch := omega) [hrem]; exact rfl) ?_
        exact WPO.nil ⟨z % l.length, _, rfl, Nat.mod_lt _ (by omega), by simp⟩
      · have h0' : ¬ 0 ≤ at_ := h0
        refine WPO.looks1 tyOk extOk 2 (ls := [⟨lkMove (.tmp 1), (some 65), none⟩, ⟨⟨binInt akGeq (.tmp 65) (.const (.int .i64 0))⟩, (some 66), none⟩]) (by kernel_rfl) (by simp (disch := omega) []; exact rfl) ?_
        exact WPO.nilS (WP.cond (t := false) (by simp; omega) (by simp) fun _ => WP.skip (.inl rfl) ⟨0, _, rfl, by omega, by simp⟩)
    rintro o ⟨p, l', rfl, hp1, hs1⟩
    refine WP.keep (l := [(2, tv), (9, .sl B 0 l.length none), (14, .int .i64 (p : Int))]) (WP.seqR ?_) hs1
    clear hs1 l'
    refine WPO.looks1 tyOk extOk 1 (ls := [⟨lkMove (.const (.bool false)), (some 15), none⟩]) (by kernel_rfl) (by simp (disch := omega) []; exact rfl) ?_
    refine WPO.nilS (WP.seq ?_)
    refine WP.mono (Q := fun o => ∃ (i : Nat) (H7 : AH) (l' : List (Nat × AV)), o = .nor (tl l') [] H7 ∧ i ≤ 4 ∧ p + i ≤ l.length ∧ (p < l.length - 4 → p + i ≤ l.length - 4) ∧ i ≤ ts.length ∧ H7.get B = some (bb 5 true (xorL l p (ts.take i))) ∧ B < H7.next ∧ Keep noB H H7 ∧ lsub [(9, .sl B 0 l.length none), (15, .bool (turnsB (ts.take i)))] l') ?_ ?_
    · refine WP.seqR ?_
      refine WPO.looks1 tyOk extOk 1 (ls := [⟨lkMove (.const (.int .i64 0)), (some 16), none⟩]) (by kernel_rfl) (by simp (disch := omega) []; exact rfl) ?_
      refine WPO.nilS (WP.forB rfl (σ := Nat) (fun i => [(2, tv), (9, .sl B 0 l.length none), (14, .int .i64 (p : Int)), (15, .bool (turnsB (ts.take i))), (16, .int .i64 (i : Int))])
        (fun i H7 => i ≤ 4 ∧ p + i ≤ l.length ∧ (p < l.length - 4 → p + i ≤ l.length - 4) ∧ i ≤ ts.length ∧ H7.get B = some (bb 5 true (xorL l p (ts.take i))) ∧ B < H7.next ∧ Keep noB H H7) (fun i => 4 - i) 0
        ⟨by omega, by omega, fun h => by omega, by omega, by rw [xorL_take0]; exact gB6, by omega, kk6⟩ (by simp [turnsB]) ?_)
      rintro i H7 ⟨hi4, hpi, hwin, hit, g7, l7, kk7⟩
      have htl := (ht.keep kk7 fun _ _ => id).len
      by_cases hlt : i < ts.length
      rotate_left
      · refine WPO.looks1 tyOk extOk 8 (ls := [⟨lkMove (.tmp 16), (some 71), none⟩, ⟨lkMove (.tmp 2), (some 72), none⟩, ⟨⟨lenSl (.tmp 72)⟩, (some 73), none⟩, ⟨⟨binInt akLss (.tmp 71) (.tmp 73)⟩, (some 74), none⟩, ⟨lkMove (.tmp 74), (some 75), none⟩, ⟨lkMove (.tmp 16), (some 76), (some (75, true))⟩, ⟨⟨binInt akLss (.tmp 76) (.const (.int .i64 4))⟩, (some 77), (some (75, true))⟩, ⟨⟨pickA (.tmp 75) (.tmp 77) (.const (.bool false))⟩, (some 78), none⟩]) (by kernel_rfl) (by simp (disch := omega) [htl, hlt]; exact rfl) ?_
        exact WPO.nil ⟨false, _, rfl, by simp, fun _ => ⟨i, H7, _, rfl, hi4, hpi, hwin, hit, g7, l7, kk7, by simp⟩, fun h => by cases h⟩
      by_cases h4 : i < 4
      rotate_left
      · have h4' : ¬ (i : Int) < 4 := by omega
        refine WPO.looks1 tyOk extOk 8 (ls := [⟨lkMove (.tmp 16), (some 71), none⟩, ⟨lkMove (.tmp 2), (some 72), none⟩, ⟨⟨lenSl (.tmp 72)⟩, (some 73), none⟩, ⟨⟨binInt akLss (.tmp 71) (.tmp 73)⟩, (some 74), none⟩, ⟨lkMove (.tmp 74), (some 75), none⟩, ⟨lkMove (.tmp 16), (some 76), (some (75, true))⟩, ⟨⟨binInt akLss (.tmp 76) (.const (.int .i64 4))⟩, (some 77), (some (75, true))⟩, ⟨⟨pickA (.tmp 75) (.tmp 77) (.const (.bool false))⟩, (some 78), none⟩]) (by kernel_rfl) (by simp (disch := omega) [htl, hlt, h4']; exact rfl) ?_
        exact WPO.nil ⟨false, _, rfl, by simp, fun _ => ⟨i, H7, _, rfl, hi4, hpi, hwin, hit, g7, l7, kk7, by simp⟩, fun h => by cases h⟩
      have h4' : (i : Int) < 4 := by omega
      refine WPO.looks1 tyOk extOk 8 (ls := [⟨lkMove (.tmp 16), (some 71), none⟩, ⟨lkMove (.tmp 2), (some 72), none⟩, ⟨⟨lenSl (.tmp 72)⟩, (some 73), none⟩, ⟨⟨binInt akLss (.tmp 71) (.tmp 73)⟩, (some 74), none⟩, ⟨lkMove (.tmp 74), (some 75), none⟩, ⟨lkMove (.tmp 16), (some 76), (some (75, true))⟩, ⟨⟨binInt akLss (.tmp 76) (.const (.int .i64 4))⟩, (some 77), (some (75, true))⟩, ⟨⟨pickA (.tmp 75) (.tmp 77) (.const (.bool false))⟩, (some 78), none⟩]) (by kernel_rfl) (by simp (disch := omega) [htl, hlt, h4']; exact rfl) ?_
      refine WPO.nil ⟨true, _, rfl, by simp, fun h => (by cases h), fun _ => ?_⟩
      obtain ⟨k, hk⟩ : ∃ k, k = p + i := ⟨_, rfl⟩
      obtain ⟨m, hm⟩ : ∃ m, m = l.length - 4 := ⟨_, rfl⟩
      have hk' : (p : Int) + (i : Int) = (k : Int) := by omega
      have hm' : (l.length : Int) - 4 = (m : Int) := by omega
      refine WP.seqR ?_
      refine WPO.looks1 tyOk extOk 4 (ls := [⟨lkMove (.tmp 14), (some 81), none⟩, ⟨lkMove (.tmp 16), (some 82), none⟩, ⟨⟨binInt akAdd (.tmp 81) (.tmp 82)⟩, (some 83), none⟩, ⟨lkMove (.tmp 83), (some 17), none⟩]) (by kernel_rfl) (by simp (disch := omega) [hk']; exact rfl) ?_
      refine WPO.nilS (WP.keep (l := [(2, tv), (9, .sl B 0 l.length none), (14, .int .i64 (p : Int)), (15, .bool (turnsB (ts.take i))), (16, .int .i64 (i : Int)), (17, .int .i64 (k : Int))]) (WP.seq (WP.seqR ?_)) (by simp))
      by_cases ca : l.length ≤ k
      · have ca2 : ¬ k < l.length := by omega
        refine WPO.looks1 tyOk extOk 18 (ls := [⟨lkMove (.tmp 17), (some 84), none⟩, ⟨lkMove (.tmp 9), (some 85), none⟩, ⟨⟨lenSl (.tmp 85)⟩, (some 86), none⟩, ⟨⟨binInt akGeq (.tmp 84) (.tmp 86)⟩, (some 87), none⟩, ⟨lkMove (.tmp 87), (some 88), none⟩, ⟨lkMove (.tmp 14), (some 89), (some (88, false))⟩, ⟨lkMove (.tmp 9), (some 90), (some (88, false))⟩, ⟨⟨lenSl (.tmp 90)⟩, (some 91), (some (88, false))⟩, ⟨⟨binInt akSub (.tmp 91) (.const (.int .i64 4))⟩, (some 92), (some (88, false))⟩, ⟨⟨binInt akLss (.tmp 89) (.tmp 92)⟩, (some 93), (some (88, false))⟩, ⟨lkMove (.tmp 93), (some 94), (some (88, false))⟩, ⟨lkMove (.tmp 17), (some 95), (some (94, true))⟩, ⟨lkMove (.tmp 9), (some 96), (some (94, true))⟩, ⟨⟨lenSl (.tmp 96)⟩, (some 97), (some (94, true))⟩, ⟨⟨binInt akSub (.tmp 97) (.const (.int .i64 4))⟩, (some 98), (some (94, true))⟩, ⟨⟨binInt akGeq (.tmp 95) (.tmp 98)⟩, (some 99), (some (94, true))⟩, ⟨⟨pickA (.tmp 94) (.tmp 99) (.const (.bool false))⟩, (some 100), (some (88, false))⟩, ⟨⟨pickA (.tmp 88) (.const (.bool true)) (.tmp 100)⟩, (some 101), none⟩]) (by kernel_rfl) (by simp (disch := omega) [ca2]; exact rfl) ?_
        exact WPO.nilS (WP.cond (t := true) (by simp) (fun _ => WP.exit ⟨rfl, i, H7, _, rfl, hi4, hpi, hwin, hit, g7, l7, kk7, by simp⟩) (by simp))
      have ca2 : k < l.length := by omega
      by_cases cb : p < m ∧ m ≤ k
      · obtain ⟨cb1, cb2⟩ := cb
        have cb3 : ¬ k < m := by omega
        refine WPO.looks1 tyOk extOk 18 (ls := [⟨lkMove (.tmp 17), (some 84), none⟩, ⟨lkMove (.tmp 9), (some 85), none⟩, ⟨⟨lenSl (.tmp 85)⟩, (some 86), none⟩, ⟨⟨binInt akGeq (.tmp 84) (.tmp 86)⟩, (some 87), none⟩, ⟨lkMove (.tmp 87), (some 88), none⟩, ⟨lkMove (.tmp 14), (some 89), (some (88, false))⟩, ⟨lkMove (.tmp 9), (some 90), (some (88, false))⟩, ⟨⟨lenSl (.tmp 90)⟩, (some 91), (some (88, false))⟩, ⟨⟨binInt akSub (.tmp 91) (.const (.int .i64 4))⟩, (some 92), (some (88, false))⟩, ⟨⟨binInt akLss (.tmp 89) (.tmp 92)⟩, (some 93), (some (88, false))⟩, ⟨lkMove (.tmp 93), (some 94), (some (88, false))⟩, ⟨lkMove (.tmp 17), (some 95), (some (94, true))⟩, ⟨lkMove (.tmp 9), (some 96), (some (94, true))⟩, ⟨⟨lenSl (.tmp 96)⟩, (some 97), (some (94, true))⟩, ⟨⟨binInt akSub (.tmp 97) (.const (.int .i64 4))⟩, (some 98), (some (94, true))⟩, ⟨⟨binInt akGeq (.tmp 95) (.tmp 98)⟩, (some 99), (some (94, true))⟩, ⟨⟨pickA (.tmp 94) (.tmp 99) (.const (.bool false))⟩, (some 100), (some (88, false))⟩, ⟨⟨pickA (.tmp 88) (.const (.bool true)) (.tmp 100)⟩, (some 101), none⟩]) (by kernel_rfl) (by simp (disch := omega) [ca2, hm', cb1, cb3]; exact rfl) ?_
        exact WPO.nilS (WP.cond (t := true) (by simp) (fun _ => WP.exit ⟨rfl, i, H7, _, rfl, hi4, hpi, hwin, hit, g7, l7, kk7, by simp⟩) (by simp))
      have hwin2 : p < l.length - 4 → p + (i + 1) ≤ l.length - 4 := fun hh => by omega
      obtain ⟨l', hrun, hsub⟩ : ∃ (l' : List (Nat × AV)), runLk [⟨lkMove (.tmp 17), (some 84), none⟩, ⟨lkMove (.tmp 9), (some 85), none⟩, ⟨⟨lenSl (.tmp 85)⟩, (some 86), none⟩, ⟨⟨binInt akGeq (.tmp 84) (.tmp 86)⟩, (some 87), none⟩, ⟨lkMove (.tmp 87), (some 88), none⟩, ⟨lkMove (.tmp 14), (some 89), (some (88, false))⟩, ⟨lkMove (.tmp 9), (some 90), (some (88, false))⟩, ⟨⟨lenSl (.tmp 90)⟩, (some 91), (some (88, false))⟩, ⟨⟨binInt akSub (.tmp 91) (.const (.int .i64 4))⟩, (some 92), (some (88, false))⟩, ⟨⟨binInt akLss (.tmp 89) (.tmp 92)⟩, (some 93), (some (88, false))⟩, ⟨lkMove (.tmp 93), (some 94), (some (88, false))⟩, ⟨lkMove (.tmp 17), (some 95), (some (94, true))⟩, ⟨lkMove (.tmp 9), (some 96), (some (94, true))⟩, ⟨⟨lenSl (.tmp 96)⟩, (some 97), (some (94, true))⟩, ⟨⟨binInt akSub (.tmp 97) (.const (.int .i64 4))⟩, (some 98), (some (94, true))⟩, ⟨⟨binInt akGeq (.tmp 95) (.tmp 98)⟩, (some 99), (some (94, true))⟩, ⟨⟨pickA (.tmp 94) (.tmp 99) (.const (.bool false))⟩, (some 100), (some (88, false))⟩, ⟨⟨pickA (.tmp 88) (.const (.bool true)) (.tmp 100)⟩, (some 101), none⟩] (tl [(2, tv), (9, .sl B 0 l.length none), (14, .int .i64 (p : Int)), (15, .bool (turnsB (ts.take i))), (16, .int .i64 (i : Int)), (17, .int .i64 (k : Int))]) H7 = some (tl l') ∧ lsub [(2, tv), (9, .sl B 0 l.length none), (14, .int .i64 (p : Int)), (15, .bool (turnsB (ts.take i))), (16, .int .i64 (i : Int)), (17, .int .i64 (k : Int)), (101, .bool false)] l' := by
        by_cases cp : p < m
        · have cq : k < m := by omega
          exact ⟨_, by simp (disch := omega) [ca2, hm', cp, cq]; exact rfl, by simp⟩
        · exact ⟨_, by simp (disch := omega) [ca2, hm', cp]; exact rfl, by simp⟩
      refine WPO.looks1 tyOk extOk 18 (ls := [⟨lkMove (.tmp 17), (some 84), none⟩, ⟨lkMove (.tmp 9), (some 85), none⟩, ⟨⟨lenSl (.tmp 85)⟩, (some 86), none⟩, ⟨⟨binInt akGeq (.tmp 84) (.tmp 86)⟩, (some 87), none⟩, ⟨lkMove (.tmp 87), (some 88), none⟩, ⟨lkMove (.tmp 14), (some 89), (some (88, false))⟩, ⟨lkMove (.tmp 9), (some 90), (some (88, false))⟩, ⟨⟨lenSl (.tmp 90)⟩, (some 91), (some (88, false))⟩, ⟨⟨binInt akSub (.tmp 91) (.const (.int .i64 4))⟩, (some 92), (some (88, false))⟩, ⟨⟨binInt akLss (.tmp 89) (.tmp 92)⟩, (some 93), (some (88, false))⟩, ⟨lkMove (.tmp 93), (some 94), (some (88, false))⟩, ⟨lkMove (.tmp 17), (some 95), (some (94, true))⟩, ⟨lkMove (.tmp 9), (some 96), (some (94, true))⟩, ⟨⟨lenSl (.tmp 96)⟩, (some 97), (some (94, true))⟩, ⟨⟨binInt akSub (.tmp 97) (.const (.int .i64 4))⟩, (some 98), (some (94, true))⟩, ⟨⟨binInt akGeq (.tmp 95) (.tmp 98)⟩, (some 99), (some (94, true))⟩, ⟨⟨pickA (.tmp 94) (.tmp 99) (.const (.bool false))⟩, (some 100), (some (88, false))⟩, ⟨⟨pickA (.tmp 88) (.const (.bool true)) (.tmp 100)⟩, (some 101), none⟩]) (by kernel_rfl) hrun ?_
      clear hrun
      refine WPO.nilS (WP.keep (WP.cond (t := false) (by simp) (by simp) fun _ => WP.skip (.inl rfl) (WP.keep (l := [(2, tv), (9, .sl B 0 l.length none), (14, .int .i64 (p : Int)), (15, .bool (turnsB (ts.take i))), (16, .int .i64 (i : Int)), (17, .int .i64 (k : Int))]) (WP.seq ?_) (by simp))) hsub)
      clear hsub l'
      obtain ⟨bt, off, cap, ot, hv, hbt, hot, hby⟩ := ht.pos (by omega)
      subst hv
      have hy : ts[i]? = some (ts[i]) := List.getElem?_eq_getElem hlt
      generalize ts[i] = y at hy
      have hx : l[k]? = some (l[k]'(by omega)) := List.getElem?_eq_getElem _
      generalize l[k]'_ = x at hx
      have hcur : (xorL l p (ts.take i))[k]? = some x := by
        rw [xorL_get, hx, Option.map_some, if_pos (by omega), List.getElem?_eq_none (by simp; omega)]
        simp
      have rB := rd_bb' (e := 5) (o := true) hcur
      have gt := kk7.get hbt id hot
      have ry := hby _ _ hy
      have hxor := akXor_u8 x y
      have hki : k < l.length := by omega
      obtain ⟨R, hR, hRc⟩ := specR_ex Tryz.prog (fun _ _ _ _ _ => False)
      refine WP.drawnK tyOk extOk (by kernel_rfl) (ls := [⟨[9], .look (lkMove (.tmp 9)), (some 102), none, 0, 1, true, false⟩, ⟨[17], .look (lkMove (.tmp 17)), (some 103), none, 0, 1, true, false⟩, ⟨[9], .look (lkMove (.tmp 9)), (some 104), none, 0, 1, true, false⟩, ⟨[17], .look (lkMove (.tmp 17)), (some 105), none, 0, 1, true, false⟩, ⟨[104, 105], .look (⟨ixSl 1 (.tmp 104) (.tmp 105)⟩), (some 106), none, 0, 1, true, false⟩, ⟨[106], .look (⟨ldA ⟨ld1⟩ (.tmp 106)⟩), (some 107), none, 0, 1, false, false⟩, ⟨[2], .look (lkMove (.tmp 2)), (some 108), none, 0, 1, true, false⟩, ⟨[16], .look (lkMove (.tmp 16)), (some 109), none, 0, 1, true, false⟩, ⟨[108, 109], .look (⟨ixSl 1 (.tmp 108) (.tmp 109)⟩), (some 110), none, 0, 1, true, false⟩, ⟨[110], .look (⟨ldA ⟨ld1⟩ (.tmp 110)⟩), (some 111), none, 0, 1, false, false⟩, ⟨[107, 111], .look (⟨binInt akXor (.tmp 107) (.tmp 111)⟩), (some 112), none, 0, 1, false, false⟩, ⟨[102, 103], .look (⟨ixSl 1 (.tmp 102) (.tmp 103)⟩), (some 113), none, 0, 1, true, false⟩, ⟨[113, 112], .heavy ⟨hvStore ⟨st1'⟩ (.tmp 113) (.tmp 112)⟩, none, none, 0, 2, false, true⟩]) (by kernel_rfl) hR fun K hK => ?_
      iterate 5 (refine diLookP (by simp [-resL_cons, resL_cc]; exact rfl) (by simp (disch := omega) []; exact rfl) ?_)
      refine diLookC (by simp [-resL_cons, resL_cc]; exact rfl) (by simp (disch := omega) [g7, rB]; exact rfl) ?_
      iterate 3 (refine diLookP (by simp [-resL_cons, resL_cc]; exact rfl) (by simp (disch := omega) []; exact rfl) ?_)
      iterate 2 (refine diLookC (by simp [-resL_cons, resL_cc]; exact rfl) (by simp (disch := omega) [gt, ry, hxor]; exact rfl) ?_)
      refine diLookP (by simp [-resL_cons, resL_cc]; exact rfl) (by simp (disch := omega) []; exact rfl) ?_
      have hstep := xorL_step l p ts (i := i) (x := x) (y := y) (by rw [← hk]; exact hx) hy
      rw [← hk] at hstep
      have hst := st1'_bb (i := k) (x ^^^ y) g7 (by rw [xorL_len]; exact hki)
      rw [hstep] at hst
      obtain ⟨Hw, hHw⟩ : ∃ Hw, Hw = H7.set B (bb 5 true (xorL l p (ts.take (i + 1)))) := ⟨_, rfl⟩
      rw [← hHw] at hst
      have kw : Keep (fun b => b = B) H7 Hw := by rw [hHw]; exact Keep.set _ fun _ => rfl
      have gw : Hw.get B = some (bb 5 true (xorL l p (ts.take (i + 1)))) := by rw [hHw]; exact get_set_same _ _ _
      have nw : Hw.next = H7.next := by rw [hHw]; simp
      refine diHeavy (by simp [-resL_cons, resL_cc]; exact rfl) (v := undefA) (H2 := Hw) (by simp; exact st1_ob hst) (by omega) ?_
      simp only [diRun_nil, putA_none, List.reverse_cons, List.reverse_nil, List.nil_append, List.cons_append, chkAdd_f, atAll_s, atAll_z, and_true, true_and]
      refine ⟨by simp (disch := omega) [g7, rB, gt, ry, hxor], hK _ _ (WP.keep (l := [(2, .sl bt off ts.length cap), (9, .sl B 0 l.length none), (14, .int .i64 (p : Int)), (15, .bool (turnsB (ts.take i))), (16, .int .i64 (i : Int)), (17, .int .i64 (k : Int))]) (WP.region ?_) (by simp))⟩
      clear hK hRc hR
      have gtw := kw.get (by have := kk7.1; omega) (by omega) gt
      have hts := turnsB_succ hy
      have fin : ∀ c : Bool, turnsB (ts.take (i + 1)) = c → (i + 1 ≤ 4 ∧ p + (i + 1) ≤ l.length ∧ (p < l.length - 4 → p + (i + 1) ≤ l.length - 4) ∧ i + 1 ≤ ts.length ∧ Hw.get B = some (bb 5 true (xorL l p (ts.take (i + 1)))) ∧ B < Hw.next ∧ Keep noB H Hw) := fun _ _ =>
        ⟨by omega, by omega, hwin2, by omega, gw, by omega, kk7.trans' kw fun b hb e => absurd e (by omega)⟩
      cases hc0 : turnsB (ts.take i) with
      | true =>
        rw [hc0, Bool.true_or] at hts
        refine WPO.looks1 tyOk extOk 9 (ls := [⟨lkMove (.tmp 15), (some 114), none⟩, ⟨lkMove (.tmp 114), (some 115), none⟩, ⟨lkMove (.tmp 2), (some 116), (some (115, false))⟩, ⟨lkMove (.tmp 16), (some 117), (some (115, false))⟩, ⟨⟨ixSl 1 (.tmp 116) (.tmp 117)⟩, (some 118), (some (115, false))⟩, ⟨⟨ldA ⟨ld1⟩ (.tmp 118)⟩, (some 119), (some (115, false))⟩, ⟨⟨binInt akNeq (.tmp 119) (.const (.int .u8 0))⟩, (some 120), (some (115, false))⟩, ⟨⟨pickA (.tmp 115) (.const (.bool true)) (.tmp 120)⟩, (some 121), none⟩, ⟨lkMove (.tmp 121), (some 15), none⟩]) (by kernel_rfl) (by simp (disch := omega) []; exact rfl) ?_
        refine WPO.nil ?_
        refine WPO.looks1 tyOk extOk 3 (ls := [⟨lkMove (.tmp 16), (some 79), none⟩, ⟨⟨binInt akAdd (.tmp 79) (.const (.int .i64 1))⟩, (some 80), none⟩, ⟨lkMove (.tmp 80), (some 16), none⟩]) (by kernel_rfl) (by simp (disch := omega) []; exact rfl) ?_
        exact WPO.nil ⟨rfl, i + 1, _, rfl, by simp [hts], fin _ hts, by omega⟩
      | false =>
        rw [hc0, Bool.false_or] at hts
        by_cases hy0 : y = 0
        · have hy1 : (y.toNat : Int) = 0 := (u8_zero y).2 hy0
          have hts2 : turnsB (ts.take (i + 1)) = false := by rw [hts, hy0]; rfl
          refine WPO.looks1 tyOk extOk 9 (ls := [⟨lkMove (.tmp 15), (some 114), none⟩, ⟨lkMove (.tmp 114), (some 115), none⟩, ⟨lkMove (.tmp 2), (some 116), (some (115, false))⟩, ⟨lkMove (.tmp 16), (some 117), (some (115, false))⟩, ⟨⟨ixSl 1 (.tmp 116) (.tmp 117)⟩, (some 118), (some (115, false))⟩, ⟨⟨ldA ⟨ld1⟩ (.tmp 118)⟩, (some 119), (some (115, false))⟩, ⟨⟨binInt akNeq (.tmp 119) (.const (.int .u8 0))⟩, (some 120), (some (115, false))⟩, ⟨⟨pickA (.tmp 115) (.const (.bool true)) (.tmp 120)⟩, (some 121), none⟩, ⟨lkMove (.tmp 121), (some 15), none⟩]) (by kernel_rfl) (by simp (disch := omega) [gtw, ry, hy1]; exact rfl) ?_
          refine WPO.nil ?_
          refine WPO.looks1 tyOk extOk 3 (ls := [⟨lkMove (.tmp 16), (some 79), none⟩, ⟨⟨binInt akAdd (.tmp 79) (.const (.int .i64 1))⟩, (some 80), none⟩, ⟨lkMove (.tmp 80), (some 16), none⟩]) (by kernel_rfl) (by simp (disch := omega) []; exact rfl) ?_
          exact WPO.nil ⟨rfl, i + 1, _, rfl, by simp [hts2], fin _ hts2, by omega⟩
        · have hy1 : ¬ (y.toNat : Int) = 0 := fun h => hy0 ((u8_zero y).1 h)
          have hts2 : turnsB (ts.take (i + 1)) = true := by rw [hts, decide_eq_false hy0]; rfl
          have hy2 : ¬ y.toNat = 0 := by omega
          refine WPO.looks1 tyOk extOk 9 (ls := [⟨lkMove (.tmp 15), (some 114), none⟩, ⟨lkMove (.tmp 114), (some 115), none⟩, ⟨lkMove (.tmp 2), (some 116), (some (115, false))⟩, ⟨lkMove (.tmp 16), (some 117), (some (115, false))⟩, ⟨⟨ixSl 1 (.tmp 116) (.tmp 117)⟩, (some 118), (some (115, false))⟩, ⟨⟨ldA ⟨ld1⟩ (.tmp 118)⟩, (some 119), (some (115, false))⟩, ⟨⟨binInt akNeq (.tmp 119) (.const (.int .u8 0))⟩, (some 120), (some (115, false))⟩, ⟨⟨pickA (.tmp 115) (.const (.bool true)) (.tmp 120)⟩, (some 121), none⟩, ⟨lkMove (.tmp 121), (some 15), none⟩]) (by kernel_rfl) (by simp (disch := omega) [gtw, ry]; exact rfl) ?_
          refine WPO.nil ?_
          refine WPO.looks1 tyOk extOk 3 (ls := [⟨lkMove (.tmp 16), (some 79), none⟩, ⟨⟨binInt akAdd (.tmp 79) (.const (.int .i64 1))⟩, (some 80), none⟩, ⟨lkMove (.tmp 80), (some 16), none⟩]) (by kernel_rfl) (by simp (disch := omega) []; exact rfl) ?_
          exact WPO.nil ⟨rfl, i + 1, _, rfl, by simp [hts2, hy2], fin _ hts2, by omega⟩
    rintro o ⟨i, H7, l', rfl, hi4, hpi, hwin, hit, g7, l7, kk7, hs2⟩
    refine WP.keep (l := [(9, .sl B 0 l.length none), (15, .bool (turnsB (ts.take i)))]) (WP.seqR ?_) hs2
    clear hs2 l'
    have htk : (ts.take i).length = i := by simp; omega
    refine WPO.looks1 tyOk extOk 1 (ls := [⟨lkMove (.tmp 9), (some 123), none⟩]) (by kernel_rfl) (by simp (disch := omega) []; exact rfl) ?_
    refine WPO.callF (g := 16) rfl rfl rfl (by kernel_rfl) (l := .cons (.sl B 0 l.length none) .nil) (by simp) (decodePU_ok (hold H7 _ (xorL_len _ _ _) g7 l7) (by rw [xorL_len]; omega)) fun u H8 ⟨⟨pd, md, ed, hu, od⟩, k8⟩ => ?_
    subst hu
    have dd := od.made.dl
    refine WPO.looks1 tyOk extOk 3 (ls := [⟨lkMove (.tmp 124), (some 122), none⟩, ⟨⟨exA (.tmp 122) 0⟩, (some 125), none⟩, ⟨⟨exA (.tmp 122) 1⟩, (some 126), none⟩]) (by kernel_rfl) (by simp (disch := omega) []; exact rfl) ?_
    refine WPO.fresh1 tyOk (k := ⟨frAlloc (.cs 25 6 6 false (.cons (.int .i64 0) (.cons (.int .i64 0) (.cons (.int .i64 0) (.cons (.int .i64 0) (.cons .snil (.cons .snil .nil)))))) .e)⟩) (by kernel_rfl) rfl (by kernel_rfl) (v := .ptr H8.next 0) (x := .cs 25 6 6 false zDv .e) ?_ ?_
    · exact rfl
    obtain ⟨H9, s1, s2, bd, s4⟩ := (newDv H8).store encDv_len ((decD (xorL l p (ts.take i))).dv pd md dd.c1 dd.c2) (cells_dv _)
    refine WPO.heavy1 tyOk extOk (k := ⟨hvStore ⟨stN 6⟩ (.tmp 18) (.tmp 125)⟩) (by kernel_rfl) rfl (by kernel_rfl) (by simp; exact stN_ob s1) ?_
    have kk9 : Keep noB H H9 := (kk7.trans k8).trans ((Keep.new noB H8 _).trans' s4 fun b hb e => absurd e (by omega))
    refine WPO.looks1 tyOk extOk 1 (ls := [⟨lkMove (.tmp 126), (some 19), none⟩]) (by kernel_rfl) (by simp (disch := omega) []; exact rfl) ?_
    refine WPO.nilS (WP.seq (WP.seqR ?_))
    cases hch : turnsB (ts.take i) with
    | false =>
      have hz : ∀ y ∈ ts.take i, y = 0 := fun y hy => Classical.not_not.1 fun hn => by
        have := (turnsB_iff _).2 ⟨y, hy, hn⟩
        rw [hch] at this
        cases this
      rw [xorL_zeros hz, hde]
      refine WPO.looks1 tyOk extOk 2 (ls := [⟨lkMove (.tmp 15), (some 127), none⟩, ⟨lkUn ukNot (.tmp 127), (some 128), none⟩]) (by kernel_rfl) (by simp (disch := omega) []; exact rfl) ?_
      refine WPO.nilS (WP.cond (t := true) (by simp) (fun _ => WP.seqR ?_) (by simp))
      refine WPO.looks1 tyOk extOk 3 (ls := [⟨lkMove (.tmp 19), (some 129), none⟩, ⟨⟨binInt akEql (.tmp 129) (.const (.int .i64 0))⟩, (some 130), none⟩, ⟨lkMove (.tmp 130), (some 6), none⟩]) (by kernel_rfl) (by simp (disch := omega) []; exact rfl) ?_
      exact WPO.nilS (WP.ret (endR _ (by simp; rfl) ⟨rfl, kk9⟩))
    | true =>
      have hno := turned_no (p := p) (t := ts.take i) hsay (by omega) (by omega) (by omega) ((turnsB_iff _).1 hch)
      have hde2 : decE (xorL l p (ts.take i)) = 230 := if_neg hno
      rw [hde2]
      refine WPO.looks1 tyOk extOk 2 (ls := [⟨lkMove (.tmp 15), (some 127), none⟩, ⟨lkUn ukNot (.tmp 127), (some 128), none⟩]) (by kernel_rfl) (by simp (disch := omega) []; exact rfl) ?_
      refine WPO.nilS (WP.cond (t := false) (by simp) (by simp) fun _ => WP.skip (.inl rfl) (WP.seqR ?_))
      refine WPO.looks1 tyOk extOk 3 (ls := [⟨lkMove (.tmp 19), (some 131), none⟩, ⟨⟨binInt akEql (.tmp 131) (.const (.int .i64 230))⟩, (some 132), none⟩, ⟨lkMove (.tmp 132), (some 6), none⟩]) (by kernel_rfl) (by simp (disch := omega) []; exact rfl) ?_
      exact WPO.nilS (WP.ret (endR _ (by simp; rfl) ⟨rfl, kk9⟩))
end
end Go.Proofs.YtoigokkeaddceaaGreatDoor
