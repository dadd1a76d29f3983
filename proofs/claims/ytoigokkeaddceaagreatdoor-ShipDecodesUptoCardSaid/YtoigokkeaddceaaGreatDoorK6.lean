/- A part of the proof of this seat's statement: what is particular to its program. Its conditions stand in each theorem. -/
import Derived.Test.YtoigokkeaddceaaGreatDoorK5
import Derived.Test.YtoigokkeaddceaaGreatDoorZ6
namespace Go.Proofs.YtoigokkeaddceaaGreatDoor
open Go.Xq
noncomputable section
def head1 (d : Dl) : Prop := (d.engine = 1 ∨ d.engine = 2) ∧ isPgI d.page = true ∧ 0 ≤ d.frm ∧ d.to ≤ 1099511627776 ∧ d.frm ≤ d.to
theorem head1_of {d : Dl} (h : okD d) : head1 d := by
  obtain ⟨h1, h2, h3, h4, h5, h6, h7, _, _⟩ := h
  have h8 := h1.2.1
  refine ⟨by rw [← h3]; exact h8.1, h2, h6, by rw [← h5]; exact h8.2.2.1.2, h7⟩
def head2 (m : Mt) (d : Dl) : Prop := m.engine = d.engine ∧ m.page = d.page ∧ m.txn = d.to
theorem okD_iff2 (d : Dl) : okD d ↔ head1 d ∧ saysM d.meta_ ∧ head2 (fldsM d.meta_) d ∧ risesP d.page (fldsM d.meta_).high 1 d.pages ∧ ¬ (d.frm = d.to ∧ 0 < d.frm ∧ d.pages ≠ []) := by
  constructor
  · intro h
    have h0 := head1_of h
    obtain ⟨h1, h2, h3, h4, h5, h6, h7, h8, h9⟩ := h
    exact ⟨h0, h1, ⟨h3, h4, h5⟩, h9, fun h => h8 ⟨h.2.1, h.1, h.2.2⟩⟩
  · rintro ⟨⟨h1, h2, h3, h4, h5⟩, h6, ⟨h7, h8, h9⟩, h10, h11⟩
    exact ⟨h6, h2, h7, h8, h9, h3, h5, fun h => h11 ⟨h.2.1, h.1, h.2.2⟩, h10⟩
set_option maxRecDepth 20000 in
set_option maxHeartbeats 4000000 in
theorem mayBe23_ok {H : AH} {d : Dl} {pv mv : AV} {cs : List (Int × AV)} (h : DlAt H d pv mv cs) (hl : d.meta_.length < 4611686018427387904) (hp : d.pages.length < 4611686018427387904) :
    DC Tryz.prog .normal 32 (.cons (dlA d pv mv) .nil) H fun v' H2 => (okD d → ∃ m, v' = .tup (.cons (mA m) (.cons (.bool true) .nil))) ∧ (¬ okD d → ∃ m, v' = .tup (.cons (mA m) (.cons (.bool false) .nil))) ∧ Keep noB H H2 := by
  refine DC.of_wd (re := reCell ⟨ldN 8⟩ 2 (reTmp 3 reNil)) tyOk Tryz.func32 (by kernel_rfl) rfl (by kernel_rfl) (by kernel_rfl) ?_
  rw [tl_nil, argsT_cons, argsT_nil]
  refine WD.seqR ?_
  obtain ⟨o1, e1, hD, hk1⟩ := Bx.box (enc := encDv) (e := 25) (z := zDv) encDv_len (H := H) (a := d.dv pv mv h.c1 h.c2) (x := .tmp 0) (T := tl [(0, dlA d pv mv)]) (by simp; rfl)
  refine WDO.fresh1 tyOk (k := ⟨frBox ⟨mkCs 25 6 (.cons (.int .i64 0) (.cons (.int .i64 0) (.cons (.int .i64 0) (.cons (.int .i64 0) (.cons .snil (.cons .snil .nil))))))⟩ (.tmp 0)⟩) (by kernel_rfl) rfl (by kernel_rfl) e1 ?_
  have hlt : H.next < (H.new o1).next := by simp
  have hNk : H.next ≤ H.next := Nat.le_refl _
  generalize H.new o1 = H1 at hD hk1 hlt ⊢
  generalize hNN : H.next = N at hD hlt hNk ⊢
  refine WDO.fresh1 tyOk (k := ⟨frAlloc (.cs 69 8 8 false (.cons (.int .i64 0) (.cons (.int .i64 0) (.cons (.int .i64 0) (.cons (.int .i64 0) (.cons (.int .i64 0) (.cons (.int .i64 0) (.cons (.int .i64 0) (.cons (.int .i64 0) .nil)))))))) .e)⟩) (by kernel_rfl) rfl (by kernel_rfl) (v := .ptr H1.next 0) (x := .cs 69 8 8 false zMt .e) ?_ ?_
  · exact rfl
  have hN2 := newM H1
  have k2 : Keep noB H1 (H1.new (.cs 69 8 8 false zMt .e)) := Keep.new _ _ _
  have hlt2 : H1.next < (H1.new (.cs 69 8 8 false zMt .e)).next := by simp
  have hD2 := hD.keep k2 hlt id
  generalize H1.new (.cs 69 8 8 false zMt .e) = H2 at hN2 k2 hlt2 hD2 ⊢
  have hNN2 : N < H1.next := hlt
  generalize H1.next = N2 at hN2 hlt2 hNN2 ⊢
  have kk2 : Keep noB H H2 := hk1.trans k2
  obtain ⟨oD, gD, d0, d1, d2, d3, d4, d5, _⟩ := hD2.dv
  simp only [Dl.dv] at d0 d1 d2 d3 d4 d5
  refine lkD 1 [⟨lkMove (.const (.bool false)), (some 3), none⟩] (by simp (disch := omega) []; exact rfl) ?_
  refine WDO.nilS (WD.seqR ?_)
  refine lkD 2 [xF 1 1 9, xL 9 10] (by simp (disch := omega) [gD, d1]; exact rfl) ?_
  refine WDO.callF (g := 41) rfl rfl rfl (by kernel_rfl) (l := .cons (.int .i64 d.page) .nil) (by simp) isPage03_ok fun u Hx ⟨hu, hHx⟩ => ?_
  subst hu
  subst hHx
  refine lkD 1 [xM 11 4] (by simp (disch := omega) []; exact rfl) ?_
  refine WDO.nilS (WD.keep (l := [(1, .ptr N 0), (2, .ptr N2 0), (3, .bool false), (4, .bool (isPgI d.page))]) (WD.seq (WD.seqR ?_)) (by simp))
  obtain ⟨b, l', hb, hrun, hsub⟩ : ∃ (b : Bool) (l' : List (Nat × AV)), (b = true ↔ ¬ head1 d) ∧ runLk [xF 1 0 12, xL 12 13, xC akNeq 13 1 14, xM 14 15, yF 1 0 16 15 true, yL 16 17 15 true, yC akNeq 17 2 18 15 true, ⟨⟨pickA (.tmp 15) (.tmp 18) (.const (.bool false))⟩, (some 19), none⟩, xM 19 20, yM 4 21 20 false, ⟨lkUn ukNot (.tmp 21), (some 22), (some (20, false))⟩, xP 20 22 23 true, xM 23 24, yF 1 2 25 24 false, yL 25 26 24 false, yC akLss 26 0 27 24 false, xP 24 27 28 true, xM 28 29, yF 1 3 30 29 false, yL 30 31 29 false, yC akGtr 31 1099511627776 32 29 false, xP 29 32 33 true, xM 33 34, yF 1 2 35 34 false, yL 35 36 34 false, yF 1 3 37 34 false, yL 37 38 34 false, yB akGtr 36 38 39 34 false, xP 34 39 40 true] (tl [(1, .ptr N 0), (2, .ptr N2 0), (3, .bool false), (4, .bool (isPgI d.page))]) Hx = some (tl l') ∧ lsub [(1, .ptr N 0), (2, .ptr N2 0), (3, .bool false), (40, .bool b)] l' := by
    by_cases c1 : d.engine = 1 ∨ d.engine = 2
    · by_cases c2 : isPgI d.page = true
      · by_cases c3 : d.frm < 0
        · rcases c1 with c1 | c1
          · exact ⟨true, _, ⟨fun _ h => by have := h.2.2.1; omega, fun _ => rfl⟩, by simp (disch := omega) [gD, d0, d2, c1, c2, c3]; exact rfl, by simp⟩
          · exact ⟨true, _, ⟨fun _ h => by have := h.2.2.1; omega, fun _ => rfl⟩, by simp (disch := omega) [gD, d0, d2, c1, c2, c3]; exact rfl, by simp⟩
        · by_cases c4 : 1099511627776 < d.to
          · rcases c1 with c1 | c1
            · exact ⟨true, _, ⟨fun _ h => by have := h.2.2.2.1; omega, fun _ => rfl⟩, by simp (disch := omega) [gD, d0, d2, d3, c1, c2, c3, c4]; exact rfl, by simp⟩
            · exact ⟨true, _, ⟨fun _ h => by have := h.2.2.2.1; omega, fun _ => rfl⟩, by simp (disch := omega) [gD, d0, d2, d3, c1, c2, c3, c4]; exact rfl, by simp⟩
          · by_cases c5 : d.to < d.frm
            · rcases c1 with c1 | c1
              · exact ⟨true, _, ⟨fun _ h => by have := h.2.2.2.2; omega, fun _ => rfl⟩, by simp (disch := omega) [gD, d0, d2, d3, c1, c2, c3, c4, c5]; exact rfl, by simp⟩
              · exact ⟨true, _, ⟨fun _ h => by have := h.2.2.2.2; omega, fun _ => rfl⟩, by simp (disch := omega) [gD, d0, d2, d3, c1, c2, c3, c4, c5]; exact rfl, by simp⟩
            · rcases c1 with c1 | c1
              · exact ⟨false, _, ⟨fun h => (by cases h), fun h => absurd ⟨.inl c1, c2, by omega, by omega, by omega⟩ h⟩, by simp (disch := omega) [gD, d0, d2, d3, c1, c2, c3, c4, c5]; exact rfl, by simp⟩
              · exact ⟨false, _, ⟨fun h => (by cases h), fun h => absurd ⟨.inr c1, c2, by omega, by omega, by omega⟩ h⟩, by simp (disch := omega) [gD, d0, d2, d3, c1, c2, c3, c4, c5]; exact rfl, by simp⟩
      · have c2' : isPgI d.page = false := by simpa using c2
        rcases c1 with c1 | c1
        · exact ⟨true, _, ⟨fun _ h => c2 h.2.1, fun _ => rfl⟩, by simp (disch := omega) [gD, d0, c1, c2']; exact rfl, by simp⟩
        · exact ⟨true, _, ⟨fun _ h => c2 h.2.1, fun _ => rfl⟩, by simp (disch := omega) [gD, d0, c1, c2']; exact rfl, by simp⟩
    · have c1' : ¬ d.engine = 1 := fun h => c1 (.inl h)
      have c2' : ¬ d.engine = 2 := fun h => c1 (.inr h)
      exact ⟨true, _, ⟨fun _ h => c1 h.1, fun _ => rfl⟩, by simp (disch := omega) [gD, d0, c1', c2']; exact rfl, by simp⟩
  refine lkD 29 [xF 1 0 12, xL 12 13, xC akNeq 13 1 14, xM 14 15, yF 1 0 16 15 true, yL 16 17 15 true, yC akNeq 17 2 18 15 true, ⟨⟨pickA (.tmp 15) (.tmp 18) (.const (.bool false))⟩, (some 19), none⟩, xM 19 20, yM 4 21 20 false, ⟨lkUn ukNot (.tmp 21), (some 22), (some (20, false))⟩, xP 20 22 23 true, xM 23 24, yF 1 2 25 24 false, yL 25 26 24 false, yC akLss 26 0 27 24 false, xP 24 27 28 true, xM 28 29, yF 1 3 30 29 false, yL 30 31 29 false, yC akGtr 31 1099511627776 32 29 false, xP 29 32 33 true, xM 33 34, yF 1 2 35 34 false, yL 35 36 34 false, yF 1 3 37 34 false, yL 37 38 34 false, yB akGtr 36 38 39 34 false, xP 34 39 40 true] hrun ?_
  cases b with
  | true =>
    have hno : ¬ okD d := fun h => hb.1 rfl (head1_of h)
    refine WDO.nilS (WD.keep (WD.cond (t := true) (by simp) (fun _ => WD.seqR ?_) (by simp)) hsub)
    refine lkD 1 [⟨⟨buildA (.cons (.int .i64 0) (.cons (.int .i64 0) (.cons (.int .i64 0) (.cons (.int .i64 0) (.cons (.int .i64 0) (.cons (.int .i64 0) (.cons (.int .i64 0) (.cons (.int .i64 0) .nil)))))))) flEnd⟩, (some 41), none⟩] (by simp (disch := omega) []; exact rfl) ?_
    obtain ⟨Hz, z1, z2, z3, z4⟩ := storeM zeroM hN2
    obtain ⟨oz, gz, _, _, _, _, _, _, _, _, rcz⟩ := z3.all
    refine WDO.heavy1 tyOk extOk (k := ⟨hvStore ⟨stN 8⟩ (.tmp 2) (.tmp 41)⟩) (by kernel_rfl) rfl (by kernel_rfl) (by simp; exact st_ob z1) ?_
    refine lkD 1 [⟨lkMove (.const (.bool false)), (some 3), none⟩] (by simp (disch := omega) []; exact rfl) ?_
    exact WDO.nilS (WD.ret (endR _ (by simp [gz, rcz]; rfl) ⟨fun hs => absurd hs hno, fun _ => ⟨zeroM, rfl⟩, kk2.trans' z4 fun b hb e => absurd e (by omega)⟩))
  | false =>
  have hh1 : head1 d := Classical.not_not.1 fun h => by have := hb.2 h; cases this
  clear hrun
  refine WDO.nilS (WD.keep (WD.cond (t := false) (by simp) (by simp) fun _ => WD.skip (.inl rfl) (WD.keep (l := [(1, .ptr N 0), (2, .ptr N2 0), (3, .bool false)]) (WD.seqR ?_) (by simp))) hsub)
  refine lkD 2 [xF 1 5 43, xL 43 44] (by simp (disch := omega) [gD, d5]; exact rfl) ?_
  have h2 := h.keep kk2
  refine WDO.callF (g := 90) rfl rfl rfl (by kernel_rfl) (l := .cons mv .nil) (by simp) (decode05_ok h2.meta_ hl) fun u H3 ⟨hu1, hu2, k3⟩ => ?_
  have kk3 := kk2.trans k3
  have gD3 := k3.get (by omega) id gD
  have hN3 := hN2.keep k3 hlt2 id
  have hn3 := k3.1
  by_cases hM : saysM d.meta_
  · have hu := hu1 hM
    subst hu
    generalize hm : fldsM d.meta_ = m at *
    refine lkD 3 [xM 45 42, ⟨⟨exA (.tmp 42) 0⟩, (some 46), none⟩, ⟨⟨exA (.tmp 42) 1⟩, (some 47), none⟩] (by simp (disch := omega) []; exact rfl) ?_
    refine WDO.fresh1 tyOk (k := ⟨frAlloc (.cs 69 8 8 false (.cons (.int .i64 0) (.cons (.int .i64 0) (.cons (.int .i64 0) (.cons (.int .i64 0) (.cons (.int .i64 0) (.cons (.int .i64 0) (.cons (.int .i64 0) (.cons (.int .i64 0) .nil)))))))) .e)⟩) (by kernel_rfl) rfl (by kernel_rfl) (v := .ptr H3.next 0) (x := .cs 69 8 8 false zMt .e) ?_ ?_
    · exact rfl
    have kn : Keep noB H3 (H3.new (.cs 69 8 8 false zMt .e)) := Keep.new _ _ _
    obtain ⟨H4, s1, s2, s3, s4⟩ := storeM m (newM H3)
    refine WDO.heavy1 tyOk extOk (k := ⟨hvStore ⟨stN 8⟩ (.tmp 5) (.tmp 46)⟩) (by kernel_rfl) rfl (by kernel_rfl) (by simp; exact st_ob s1) ?_
    have kk4 : Keep noB H H4 := (kk3.trans kn).trans' s4 fun b hb e => absurd e (by omega)
    have gD4 := s4.get (by simp; omega) (by omega) (kn.get (by omega) id gD3)
    have hN4 : RdM H4 N2 zeroM := (hN3.keep kn (by omega) id).keep s4 (by simp; omega) (by omega)
    have hn4 : H3.next < H4.next := by rw [s2]; simp
    have hlt4 : N2 < H3.next := by omega
    generalize H3.next = N4 at s3 hn4 hlt4 ⊢
    obtain ⟨oM, gM, m0, m1, m2, m3, m4, m5, m6, m7, mc⟩ := s3.all
    refine lkD 1 [xM 47 6] (by simp (disch := omega) []; exact rfl) ?_
    refine WDO.nilS (WD.keep (l := [(1, .ptr N 0), (2, .ptr N2 0), (3, .bool false), (5, .ptr N4 0), (6, .int .i64 0)]) (WD.seq (WD.seqR ?_)) (by simp))
    obtain ⟨b, l', hb, hrun, hsub⟩ : ∃ (b : Bool) (l' : List (Nat × AV)), (b = true ↔ ¬ head2 m d) ∧ runLk [xM 6 48, xC akNeq 48 0 49, xM 49 50, yF 5 0 51 50 false, yL 51 52 50 false, yF 1 0 53 50 false, yL 53 54 50 false, yB akNeq 52 54 55 50 false, xP 50 55 56 true, xM 56 57, yF 5 1 58 57 false, yL 58 59 57 false, yF 1 1 60 57 false, yL 60 61 57 false, yB akNeq 59 61 62 57 false, xP 57 62 63 true, xM 63 64, yF 5 2 65 64 false, yL 65 66 64 false, yF 1 3 67 64 false, yL 67 68 64 false, yB akNeq 66 68 69 64 false, xP 64 69 70 true] (tl [(1, .ptr N 0), (2, .ptr N2 0), (3, .bool false), (5, .ptr N4 0), (6, .int .i64 0)]) H4 = some (tl l') ∧ lsub [(1, .ptr N 0), (2, .ptr N2 0), (3, .bool false), (5, .ptr N4 0), (70, .bool b)] l' := by
      by_cases c2 : m.engine = d.engine
      · by_cases c3 : m.page = d.page
        · by_cases c4 : m.txn = d.to
          · exact ⟨false, _, ⟨fun h => (by cases h), fun h => absurd ⟨c2, c3, c4⟩ h⟩, by simp (disch := omega) [gM, gD4, d0, d1, d3, m0, m1, m2, c2, c3, c4]; exact rfl, by simp⟩
          · exact ⟨true, _, ⟨fun _ h => c4 h.2.2, fun _ => rfl⟩, by simp (disch := omega) [gM, gD4, d0, d1, d3, m0, m1, m2, c2, c3, c4]; exact rfl, by simp⟩
        · exact ⟨true, _, ⟨fun _ h => c3 h.2.1, fun _ => rfl⟩, by simp (disch := omega) [gM, gD4, d0, d1, m0, m1, c2, c3]; exact rfl, by simp⟩
      · exact ⟨true, _, ⟨fun _ h => c2 h.1, fun _ => rfl⟩, by simp (disch := omega) [gM, gD4, d0, m0, c2]; exact rfl, by simp⟩
    refine lkD 23 [xM 6 48, xC akNeq 48 0 49, xM 49 50, yF 5 0 51 50 false, yL 51 52 50 false, yF 1 0 53 50 false, yL 53 54 50 false, yB akNeq 52 54 55 50 false, xP 50 55 56 true, xM 56 57, yF 5 1 58 57 false, yL 58 59 57 false, yF 1 1 60 57 false, yL 60 61 57 false, yB akNeq 59 61 62 57 false, xP 57 62 63 true, xM 63 64, yF 5 2 65 64 false, yL 65 66 64 false, yF 1 3 67 64 false, yL 67 68 64 false, yB akNeq 66 68 69 64 false, xP 64 69 70 true] hrun ?_
    cases b with
    | true =>
      have hno : ¬ okD d := fun h => hb.1 rfl (by have := ((okD_iff2 d).1 h).2.2.1; rwa [hm] at this)
      refine WDO.nilS (WD.keep (WD.cond (t := true) (by simp) (fun _ => WD.seqR ?_) (by simp)) hsub)
      refine lkD 1 [⟨⟨buildA (.cons (.int .i64 0) (.cons (.int .i64 0) (.cons (.int .i64 0) (.cons (.int .i64 0) (.cons (.int .i64 0) (.cons (.int .i64 0) (.cons (.int .i64 0) (.cons (.int .i64 0) .nil)))))))) flEnd⟩, (some 71), none⟩] (by simp (disch := omega) []; exact rfl) ?_
      obtain ⟨Hz, z1, z2, z3, z4⟩ := storeM zeroM hN4
      obtain ⟨oz, gz, _, _, _, _, _, _, _, _, rcz⟩ := z3.all
      refine WDO.heavy1 tyOk extOk (k := ⟨hvStore ⟨stN 8⟩ (.tmp 2) (.tmp 71)⟩) (by kernel_rfl) rfl (by kernel_rfl) (by simp; exact st_ob z1) ?_
      refine lkD 1 [⟨lkMove (.const (.bool false)), (some 3), none⟩] (by simp (disch := omega) []; exact rfl) ?_
      exact WDO.nilS (WD.ret (endR _ (by simp [gz, rcz]; rfl) ⟨fun hs => absurd hs hno, fun _ => ⟨zeroM, rfl⟩, kk4.trans' z4 fun b hb e => absurd e (by omega)⟩))
    | false =>
    have hhd : head2 m d := Classical.not_not.1 fun h => by have := hb.2 h; cases this
    clear hrun
    have hsay4 := h.keep kk4
    have hln := SaysP.ln hsay4.pages
    have hdk : okD d ↔ risesP d.page m.high 1 d.pages ∧ ¬ (d.frm = d.to ∧ 0 < d.frm ∧ d.pages ≠ []) := by
      rw [okD_iff2, hm]
      exact ⟨fun h => h.2.2.2, fun h => ⟨hh1, hM, hhd, h⟩⟩
    refine WDO.nilS (WD.keep (WD.cond (t := false) (by simp) (by simp) fun _ => WD.skip (.inl rfl) (WD.keep (l := [(1, .ptr N 0), (2, .ptr N2 0), (3, .bool false), (5, .ptr N4 0)]) (WD.seq (WD.seqR ?_)) (by simp))) hsub)
    refine lkD 1 [⟨lkMove (.const (.int .i64 0)), (some 7), none⟩] (by simp (disch := omega) []; exact rfl) ?_
    refine WDO.nilS (WD.forE (σ := Nat × Int) (fun s => [(1, .ptr N 0), (2, .ptr N2 0), (3, .bool false), (5, .ptr N4 0), (7, .int .i64 (s.1 : Int))])
      (fun s H' => s.1 ≤ d.pages.length ∧ H' = H4 ∧ (s.1 = 0 → s.2 = 1) ∧ (∀ (j : Nat) (p : Int × List UInt8), s.1 = j + 1 → d.pages[j]? = some p → s.2 = p.1) ∧ 1 ≤ s.2 ∧ (risesP d.page m.high 1 d.pages ↔ risesP d.page m.high s.2 (d.pages.drop s.1))) (fun s => d.pages.length - s.1) (0, 1)
      ⟨by simp, rfl, fun _ => rfl, fun j p e => (by cases e), by simp, by simp⟩ (by simp) ?_)
    rintro ⟨i, last⟩ H' ⟨hi, hHe, hl0, hl1, hl2, hri⟩
    dsimp only at hi hHe hl0 hl1 hl2 hri
    subst hHe
    refine lkD 5 [xM 7 72, xF 1 4 73, xL 73 74, xN 74 75, xB akLss 72 75 76] (by simp (disch := omega) [gD4, d4, hln]; exact rfl) ?_
    refine WDO.nil ⟨decide ((i : Int) < (d.pages.length : Int)), _, rfl, by simp, fun hc => ?_, fun hc => ?_⟩
    · have hc : i = d.pages.length := by have := of_decide_eq_false hc; omega
      subst hc
      have hrs : risesP d.page m.high 1 d.pages := by rw [hri, List.drop_length]; trivial
      refine WD.keep (l := [(1, .ptr N 0), (2, .ptr N2 0), (3, .bool false), (5, .ptr N4 0)]) (WD.seq (WD.seqR ?_)) (by simp)
      obtain ⟨b2, l2, hb2, hrun, hsub2⟩ : ∃ (b : Bool) (l' : List (Nat × AV)), (b = true ↔ (d.frm = d.to ∧ 0 < d.frm ∧ d.pages ≠ [])) ∧ runLk [xF 1 2 121, xL 121 122, xF 1 3 123, xL 123 124, xB akEql 122 124 125, xM 125 126, yF 1 2 127 126 true, yL 127 128 126 true, yC akGtr 128 0 129 126 true, ⟨⟨pickA (.tmp 126) (.tmp 129) (.const (.bool false))⟩, (some 130), none⟩, xM 130 131, yF 1 4 132 131 true, yL 132 133 131 true, yN 133 134 131 true, yC akGtr 134 0 135 131 true, ⟨⟨pickA (.tmp 131) (.tmp 135) (.const (.bool false))⟩, (some 136), none⟩] (tl [(1, .ptr N 0), (2, .ptr N2 0), (3, .bool false), (5, .ptr N4 0)]) H' = some (tl l') ∧ lsub [(1, .ptr N 0), (2, .ptr N2 0), (3, .bool false), (5, .ptr N4 0), (136, .bool b)] l' := by
        by_cases c2 : d.frm = d.to
        · by_cases c1 : 0 < d.frm
          · have c1' : 0 < d.to := by omega
            by_cases c3 : d.pages = []
            · have c4 : d.pages.length = 0 := by rw [c3]; rfl
              exact ⟨false, _, ⟨fun h => (by cases h), fun h => absurd c3 h.2.2⟩, by simp (disch := omega) [gD4, d2, d3, d4, c1', c2, hln, c4]; exact rfl, by simp⟩
            · have c4 : 0 < (d.pages.length : Int) := by have := List.length_pos_iff.2 c3; omega
              exact ⟨true, _, ⟨fun _ => ⟨c2, c1, c3⟩, fun _ => rfl⟩, by simp (disch := omega) [gD4, d2, d3, d4, c1', c2, hln]; exact rfl, by simp; omega⟩
          · have c1' : ¬ 0 < d.to := by omega
            exact ⟨false, _, ⟨fun h => (by cases h), fun h => absurd h.2.1 c1⟩, by simp (disch := omega) [gD4, d2, d3, c1', c2]; exact rfl, by simp⟩
        · exact ⟨false, _, ⟨fun h => (by cases h), fun h => absurd h.1 c2⟩, by simp (disch := omega) [gD4, d2, d3, c2]; exact rfl, by simp⟩
      refine lkD 16 [xF 1 2 121, xL 121 122, xF 1 3 123, xL 123 124, xB akEql 122 124 125, xM 125 126, yF 1 2 127 126 true, yL 127 128 126 true, yC akGtr 128 0 129 126 true, ⟨⟨pickA (.tmp 126) (.tmp 129) (.const (.bool false))⟩, (some 130), none⟩, xM 130 131, yF 1 4 132 131 true, yL 132 133 131 true, yN 133 134 131 true, yC akGtr 134 0 135 131 true, ⟨⟨pickA (.tmp 131) (.tmp 135) (.const (.bool false))⟩, (some 136), none⟩] hrun ?_
      cases b2 with
      | true =>
        have hno : ¬ okD d := fun h => (hdk.1 h).2 (hb2.1 rfl)
        refine WDO.nilS (WD.keep (WD.cond (t := true) (by simp) (fun _ => WD.seqR ?_) (by simp)) hsub2)
        refine lkD 1 [⟨⟨buildA (.cons (.int .i64 0) (.cons (.int .i64 0) (.cons (.int .i64 0) (.cons (.int .i64 0) (.cons (.int .i64 0) (.cons (.int .i64 0) (.cons (.int .i64 0) (.cons (.int .i64 0) .nil)))))))) flEnd⟩, (some 137), none⟩] (by simp (disch := omega) []; exact rfl) ?_
        obtain ⟨Hz, z1, z2, z3, z4⟩ := storeM zeroM hN4
        obtain ⟨oz, gz, _, _, _, _, _, _, _, _, rcz⟩ := z3.all
        refine WDO.heavy1 tyOk extOk (k := ⟨hvStore ⟨stN 8⟩ (.tmp 2) (.tmp 137)⟩) (by kernel_rfl) rfl (by kernel_rfl) (by simp; exact st_ob z1) ?_
        refine lkD 1 [⟨lkMove (.const (.bool false)), (some 3), none⟩] (by simp (disch := omega) []; exact rfl) ?_
        exact WDO.nilS (WD.ret (endR _ (by simp [gz, rcz]; rfl) ⟨fun hs => absurd hs hno, fun _ => ⟨zeroM, rfl⟩, kk4.trans' z4 fun b hb e => absurd e (by omega)⟩))
      | false =>
      have hyes : okD d := hdk.2 ⟨hrs, fun h => by have := hb2.2 h; cases this⟩
      clear hrun
      refine WDO.nilS (WD.keep (WD.cond (t := false) (by simp) (by simp) fun _ => WD.skip (.inl rfl) (WD.keep (l := [(1, .ptr N 0), (2, .ptr N2 0), (3, .bool false), (5, .ptr N4 0)]) (WD.seqR ?_) (by simp))) hsub2)
      refine lkD 1 [⟨⟨ldA ⟨ldN 8⟩ (.tmp 5)⟩, (some 138), none⟩] (by simp (disch := omega) [gM, mc]; exact rfl) ?_
      obtain ⟨Hz, z1, z2, z3, z4⟩ := storeM m hN4
      obtain ⟨oz, gz, _, _, _, _, _, _, _, _, rcz⟩ := z3.all
      refine WDO.heavy1 tyOk extOk (k := ⟨hvStore ⟨stN 8⟩ (.tmp 2) (.tmp 138)⟩) (by kernel_rfl) rfl (by kernel_rfl) (by simp; exact st_ob z1) ?_
      refine lkD 1 [⟨lkMove (.const (.bool true)), (some 3), none⟩] (by simp (disch := omega) []; exact rfl) ?_
      exact WDO.nilS (WD.ret (endR _ (by simp [gz, rcz]; rfl) ⟨fun _ => ⟨m, rfl⟩, fun h => absurd hyes h, kk4.trans' z4 fun b hb e => absurd e (by omega)⟩))
    · have hc : i < d.pages.length := by have := of_decide_eq_true hc; omega
      have hp1 : d.pages[i]? = some (d.pages[i]) := List.getElem?_eq_getElem hc
      have hdr : d.pages.drop i = d.pages[i] :: d.pages.drop (i + 1) := List.drop_eq_getElem_cons hc
      generalize d.pages[i] = pg at hp1 hdr
      obtain ⟨b, off, cap, o, u, q1, q2, q3, q4, q5, q6, q7, q8, q9⟩ := hsay4.pages.get hp1
      have hul := q6.len
      refine WD.keep (l := [(1, .ptr N 0), (2, .ptr N2 0), (3, .bool false), (5, .ptr N4 0), (7, .int .i64 (i : Int))]) (WD.seqR ?_) (by simp)
      refine lkD 7 [xF 1 4 79, xL 79 80, xM 7 81, xI 2 80 81 82, xF 82 0 83, xL 83 84, xM 84 8] (by simp (disch := omega) [gD4, d4, q1, q2, q3]; exact rfl) ?_
      refine WDO.nilS (WD.keep (l := [(1, .ptr N 0), (2, .ptr N2 0), (3, .bool false), (5, .ptr N4 0), (7, .int .i64 (i : Int)), (8, .int .i64 pg.1)]) (WD.seq ?_) (by simp))
      obtain ⟨b3, l3, hb3, hrun, hsub3⟩ : ∃ (b : Bool) (l' : List (Nat × AV)), (b = true ↔ ¬ (last < pg.1 ∧ pg.1 < m.high ∧ (pg.2.length : Int) = d.page)) ∧ runDk [⟨[8], lkMove (.tmp 8), (some 85), none⟩, ⟨[85], ⟨binInt akLss (.tmp 85) (.const (.int .i64 2))⟩, (some 86), none⟩, ⟨[86], lkMove (.tmp 86), (some 87), none⟩, ⟨[8, 87], lkMove (.tmp 8), (some 88), (some (87, false))⟩, ⟨[5, 87], ⟨fAddr (.tmp 5) 7⟩, (some 89), (some (87, false))⟩, ⟨[89, 87], ⟨ldA ⟨ld1⟩ (.tmp 89)⟩, (some 90), (some (87, false))⟩, ⟨[88, 90, 87], ⟨binInt akGeq (.tmp 88) (.tmp 90)⟩, (some 91), (some (87, false))⟩, ⟨[87, 91], ⟨pickA (.tmp 87) (.const (.bool true)) (.tmp 91)⟩, (some 92), none⟩, ⟨[92], lkMove (.tmp 92), (some 93), none⟩, ⟨[1, 93], ⟨fAddr (.tmp 1) 4⟩, (some 94), (some (93, false))⟩, ⟨[94, 93], ⟨ldA ⟨ld1⟩ (.tmp 94)⟩, (some 95), (some (93, false))⟩, ⟨[7, 93], lkMove (.tmp 7), (some 96), (some (93, false))⟩, ⟨[95, 96, 93], ⟨ixSl 2 (.tmp 95) (.tmp 96)⟩, (some 97), (some (93, false))⟩, ⟨[97, 93], ⟨fAddr (.tmp 97) 1⟩, (some 98), (some (93, false))⟩, ⟨[98, 93], ⟨ldA ⟨ld1⟩ (.tmp 98)⟩, (some 99), (some (93, false))⟩, ⟨[99, 93], ⟨lenSl (.tmp 99)⟩, (some 100), (some (93, false))⟩, ⟨[1, 93], ⟨fAddr (.tmp 1) 1⟩, (some 101), (some (93, false))⟩, ⟨[101, 93], ⟨ldA ⟨ld1⟩ (.tmp 101)⟩, (some 102), (some (93, false))⟩, ⟨[100, 102, 93], ⟨binInt akNeq (.tmp 100) (.tmp 102)⟩, (some 103), (some (93, false))⟩, ⟨[93, 103], ⟨pickA (.tmp 93) (.const (.bool true)) (.tmp 103)⟩, (some 104), none⟩, ⟨[104], lkMove (.tmp 104), (some 105), none⟩, ⟨[7, 105], lkMove (.tmp 7), (some 106), (some (105, false))⟩, ⟨[106, 105], ⟨binInt akGtr (.tmp 106) (.const (.int .i64 0))⟩, (some 107), (some (105, false))⟩, ⟨[107, 105], lkMove (.tmp 107), (some 108), (some (105, false))⟩, ⟨[8, 108], lkMove (.tmp 8), (some 109), (some (108, true))⟩, ⟨[1, 108], ⟨fAddr (.tmp 1) 4⟩, (some 110), (some (108, true))⟩, ⟨[110, 108], ⟨ldA ⟨ld1⟩ (.tmp 110)⟩, (some 111), (some (108, true))⟩, ⟨[7, 108], lkMove (.tmp 7), (some 112), (some (108, true))⟩, ⟨[112, 108], ⟨binInt akSub (.tmp 112) (.const (.int .i64 1))⟩, (some 113), (some (108, true))⟩, ⟨[111, 113, 108], ⟨ixSl 2 (.tmp 111) (.tmp 113)⟩, (some 114), (some (108, true))⟩, ⟨[114, 108], ⟨fAddr (.tmp 114) 0⟩, (some 115), (some (108, true))⟩, ⟨[115, 108], ⟨ldA ⟨ld1⟩ (.tmp 115)⟩, (some 116), (some (108, true))⟩, ⟨[109, 116, 108], ⟨binInt akLeq (.tmp 109) (.tmp 116)⟩, (some 117), (some (108, true))⟩, ⟨[108, 117, 105], ⟨pickA (.tmp 108) (.tmp 117) (.const (.bool false))⟩, (some 118), (some (105, false))⟩, ⟨[105, 118], ⟨pickA (.tmp 105) (.const (.bool true)) (.tmp 118)⟩, (some 119), none⟩] (tl [(1, .ptr N 0), (2, .ptr N2 0), (3, .bool false), (5, .ptr N4 0), (7, .int .i64 (i : Int)), (8, .int .i64 pg.1)]) H' = some (tl l') ∧ lsub [(1, .ptr N 0), (2, .ptr N2 0), (3, .bool false), (5, .ptr N4 0), (7, .int .i64 (i : Int)), (119, .bool b)] l' := by
        rw [q1] at d4
        by_cases c1 : pg.1 < 2
        · exact ⟨true, _, ⟨fun _ h => by have := h.1; omega, fun _ => rfl⟩, by
            iterate 35 (first | (refine dkSkip ?_ ?_; focus (simp; done)) | refine dkStep (by first | rfl | (simp [-resL_cons, resL_cc]; exact rfl)) (by simp) (by simp (disch := omega) [c1]; exact rfl) ?_)
            exact rfl, by simp⟩
        · by_cases c2 : pg.1 < m.high
          · by_cases c3 : (pg.2.length : Int) = d.page
            · cases i with
              | zero =>
                have h0 := hl0 rfl
                exact ⟨false, _, ⟨fun h => (by cases h), fun h => absurd ⟨by omega, c2, c3⟩ h⟩, by
                  iterate 35 (first | (refine dkSkip ?_ ?_; focus (simp; done)) | refine dkStep (by first | rfl | (simp [-resL_cons, resL_cc]; exact rfl)) (by simp) (by simp (disch := omega) [gM, m7, gD4, d1, d4, q2, q4, hul, c1, c2, c3]; exact rfl) ?_)
                  exact rfl, by simp⟩
              | succ j =>
                have hj1 : d.pages[j]? = some (d.pages[j]'(by omega)) := List.getElem?_eq_getElem _
                have hlj := hl1 j _ rfl hj1
                generalize d.pages[j]'_ = pj at hj1 hlj
                obtain ⟨bj, offj, capj, oj, uj, w1, w2, w3, w4, w5, w6, w7, w8, w9⟩ := hsay4.pages.get hj1
                rw [q1] at w1
                cases w1
                rw [q2] at w2
                cases w2
                have hjl : j < d.pages.length := by omega
                have hji : (0 : Int) < (j : Int) + 1 := by omega
                by_cases c4 : last < pg.1
                · have c4' : ¬ pg.1 ≤ pj.1 := by omega
                  have c5' : pj.1 < pg.1 := by omega
                  exact ⟨false, _, ⟨fun h => (by cases h), fun h => absurd ⟨c4, c2, c3⟩ h⟩, by
                    iterate 35 (first | (refine dkSkip ?_ ?_; focus (simp; done)) | refine dkStep (by first | rfl | (simp [-resL_cons, resL_cc]; exact rfl)) (by simp) (by simp (disch := omega) [gM, m7, gD4, d1, d4, q2, q4, w3, hul, c1, c2, c3, c5', hji]; exact rfl) ?_)
                    exact rfl, by simp⟩
                · have c4' : pg.1 ≤ pj.1 := by omega
                  have c5' : ¬ pj.1 < pg.1 := by omega
                  exact ⟨true, _, ⟨fun _ h => c4 h.1, fun _ => rfl⟩, by
                    iterate 35 (first | (refine dkSkip ?_ ?_; focus (simp; done)) | refine dkStep (by first | rfl | (simp [-resL_cons, resL_cc]; exact rfl)) (by simp) (by simp (disch := omega) [gM, m7, gD4, d1, d4, q2, q4, w3, hul, c1, c2, c3, c5', hji]; exact rfl) ?_)
                    exact rfl, by simp⟩
            · exact ⟨true, _, ⟨fun _ h => c3 h.2.2, fun _ => rfl⟩, by
                iterate 35 (first | (refine dkSkip ?_ ?_; focus (simp; done)) | refine dkStep (by first | rfl | (simp [-resL_cons, resL_cc]; exact rfl)) (by simp) (by simp (disch := omega) [gM, m7, gD4, d1, d4, q2, q4, hul, c1, c2, c3]; exact rfl) ?_)
                exact rfl, by simp⟩
          · exact ⟨true, _, ⟨fun _ h => c2 h.2.1, fun _ => rfl⟩, by
              iterate 35 (first | (refine dkSkip ?_ ?_; focus (simp; done)) | refine dkStep (by first | rfl | (simp [-resL_cons, resL_cc]; exact rfl)) (by simp) (by simp (disch := omega) [gM, m7, c1, c2]; exact rfl) ?_)
              exact rfl, by simp⟩
      refine WD.drawLooks tyOk extOk (by kernel_rfl) (ls := [⟨[8], lkMove (.tmp 8), (some 85), none⟩, ⟨[85], ⟨binInt akLss (.tmp 85) (.const (.int .i64 2))⟩, (some 86), none⟩, ⟨[86], lkMove (.tmp 86), (some 87), none⟩, ⟨[8, 87], lkMove (.tmp 8), (some 88), (some (87, false))⟩, ⟨[5, 87], ⟨fAddr (.tmp 5) 7⟩, (some 89), (some (87, false))⟩, ⟨[89, 87], ⟨ldA ⟨ld1⟩ (.tmp 89)⟩, (some 90), (some (87, false))⟩, ⟨[88, 90, 87], ⟨binInt akGeq (.tmp 88) (.tmp 90)⟩, (some 91), (some (87, false))⟩, ⟨[87, 91], ⟨pickA (.tmp 87) (.const (.bool true)) (.tmp 91)⟩, (some 92), none⟩, ⟨[92], lkMove (.tmp 92), (some 93), none⟩, ⟨[1, 93], ⟨fAddr (.tmp 1) 4⟩, (some 94), (some (93, false))⟩, ⟨[94, 93], ⟨ldA ⟨ld1⟩ (.tmp 94)⟩, (some 95), (some (93, false))⟩, ⟨[7, 93], lkMove (.tmp 7), (some 96), (some (93, false))⟩, ⟨[95, 96, 93], ⟨ixSl 2 (.tmp 95) (.tmp 96)⟩, (some 97), (some (93, false))⟩, ⟨[97, 93], ⟨fAddr (.tmp 97) 1⟩, (some 98), (some (93, false))⟩, ⟨[98, 93], ⟨ldA ⟨ld1⟩ (.tmp 98)⟩, (some 99), (some (93, false))⟩, ⟨[99, 93], ⟨lenSl (.tmp 99)⟩, (some 100), (some (93, false))⟩, ⟨[1, 93], ⟨fAddr (.tmp 1) 1⟩, (some 101), (some (93, false))⟩, ⟨[101, 93], ⟨ldA ⟨ld1⟩ (.tmp 101)⟩, (some 102), (some (93, false))⟩, ⟨[100, 102, 93], ⟨binInt akNeq (.tmp 100) (.tmp 102)⟩, (some 103), (some (93, false))⟩, ⟨[93, 103], ⟨pickA (.tmp 93) (.const (.bool true)) (.tmp 103)⟩, (some 104), none⟩, ⟨[104], lkMove (.tmp 104), (some 105), none⟩, ⟨[7, 105], lkMove (.tmp 7), (some 106), (some (105, false))⟩, ⟨[106, 105], ⟨binInt akGtr (.tmp 106) (.const (.int .i64 0))⟩, (some 107), (some (105, false))⟩, ⟨[107, 105], lkMove (.tmp 107), (some 108), (some (105, false))⟩, ⟨[8, 108], lkMove (.tmp 8), (some 109), (some (108, true))⟩, ⟨[1, 108], ⟨fAddr (.tmp 1) 4⟩, (some 110), (some (108, true))⟩, ⟨[110, 108], ⟨ldA ⟨ld1⟩ (.tmp 110)⟩, (some 111), (some (108, true))⟩, ⟨[7, 108], lkMove (.tmp 7), (some 112), (some (108, true))⟩, ⟨[112, 108], ⟨binInt akSub (.tmp 112) (.const (.int .i64 1))⟩, (some 113), (some (108, true))⟩, ⟨[111, 113, 108], ⟨ixSl 2 (.tmp 111) (.tmp 113)⟩, (some 114), (some (108, true))⟩, ⟨[114, 108], ⟨fAddr (.tmp 114) 0⟩, (some 115), (some (108, true))⟩, ⟨[115, 108], ⟨ldA ⟨ld1⟩ (.tmp 115)⟩, (some 116), (some (108, true))⟩, ⟨[109, 116, 108], ⟨binInt akLeq (.tmp 109) (.tmp 116)⟩, (some 117), (some (108, true))⟩, ⟨[108, 117, 105], ⟨pickA (.tmp 108) (.tmp 117) (.const (.bool false))⟩, (some 118), (some (105, false))⟩, ⟨[105, 118], ⟨pickA (.tmp 105) (.const (.bool true)) (.tmp 118)⟩, (some 119), none⟩]) (by kernel_rfl) hrun ?_
      cases b3 with
      | true =>
        have hno : ¬ okD d := fun h => by
          have := hri.1 (hdk.1 h).1
          rw [hdr] at this
          exact hb3.1 rfl ⟨this.1, this.2.1, this.2.2.1⟩
        refine WD.keep (WD.cond (t := true) (by simp) (fun _ => WD.seqR ?_) (by simp)) hsub3
        refine lkD 1 [⟨⟨buildA (.cons (.int .i64 0) (.cons (.int .i64 0) (.cons (.int .i64 0) (.cons (.int .i64 0) (.cons (.int .i64 0) (.cons (.int .i64 0) (.cons (.int .i64 0) (.cons (.int .i64 0) .nil)))))))) flEnd⟩, (some 120), none⟩] (by simp (disch := omega) []; exact rfl) ?_
        obtain ⟨Hz, z1, z2, z3, z4⟩ := storeM zeroM hN4
        obtain ⟨oz, gz, _, _, _, _, _, _, _, _, rcz⟩ := z3.all
        refine WDO.heavy1 tyOk extOk (k := ⟨hvStore ⟨stN 8⟩ (.tmp 2) (.tmp 120)⟩) (by kernel_rfl) rfl (by kernel_rfl) (by simp; exact st_ob z1) ?_
        refine lkD 1 [⟨lkMove (.const (.bool false)), (some 3), none⟩] (by simp (disch := omega) []; exact rfl) ?_
        exact WDO.nilS (WD.ret (endR _ (by simp [gz, rcz]; rfl) ⟨fun hs => absurd hs hno, fun _ => ⟨zeroM, rfl⟩, kk4.trans' z4 fun b hb e => absurd e (by omega)⟩))
      | false =>
      have hpg3 : last < pg.1 ∧ pg.1 < m.high ∧ (pg.2.length : Int) = d.page := Classical.not_not.1 fun h => by have := hb3.2 h; cases this
      clear hrun
      refine WD.keep (WD.cond (t := false) (by simp) (by simp) fun _ => WD.skip (.inl rfl) ?_) hsub3
      refine lkD 3 [xM 7 77, xC akAdd 77 1 78, xM 78 7] (by simp (disch := omega) []; exact rfl) ?_
      refine WDO.nil ⟨rfl, (i + 1, pg.1), _, rfl, by simp, ⟨by omega, rfl, fun e => absurd e (by omega), fun j p e hp => ?_, by omega, ?_⟩, by simp only; omega⟩
      · obtain rfl : i = j := by simpa using e
        rw [hp1] at hp
        cases hp
        rfl
      · rw [hri, hdr]
        exact ⟨fun h => h.2.2.2, fun h => ⟨hpg3.1, hpg3.2.1, hpg3.2.2, h⟩⟩
  · have hu := hu2 hM
    subst hu
    have hno : ¬ okD d := fun h => hM h.1
    refine lkD 3 [xM 45 42, ⟨⟨exA (.tmp 42) 0⟩, (some 46), none⟩, ⟨⟨exA (.tmp 42) 1⟩, (some 47), none⟩] (by simp (disch := omega) []; exact rfl) ?_
    refine WDO.fresh1 tyOk (k := ⟨frAlloc (.cs 69 8 8 false (.cons (.int .i64 0) (.cons (.int .i64 0) (.cons (.int .i64 0) (.cons (.int .i64 0) (.cons (.int .i64 0) (.cons (.int .i64 0) (.cons (.int .i64 0) (.cons (.int .i64 0) .nil)))))))) .e)⟩) (by kernel_rfl) rfl (by kernel_rfl) (v := .ptr H3.next 0) (x := .cs 69 8 8 false zMt .e) ?_ ?_
    · exact rfl
    have kn : Keep noB H3 (H3.new (.cs 69 8 8 false zMt .e)) := Keep.new _ _ _
    obtain ⟨H4, s1, s2, s3, s4⟩ := storeM zeroM (newM H3)
    refine WDO.heavy1 tyOk extOk (k := ⟨hvStore ⟨stN 8⟩ (.tmp 5) (.tmp 46)⟩) (by kernel_rfl) rfl (by kernel_rfl) (by simp; exact st_ob s1) ?_
    have kk4 : Keep noB H H4 := (kk3.trans kn).trans' s4 fun b hb e => absurd e (by omega)
    have hN4 : RdM H4 N2 zeroM := (hN3.keep kn (by omega) id).keep s4 (by simp; omega) (by omega)
    refine lkD 1 [xM 47 6] (by simp (disch := omega) []; exact rfl) ?_
    refine WDO.nilS (WD.seq (WD.seqR ?_))
    refine lkD 23 [xM 6 48, xC akNeq 48 0 49, xM 49 50, yF 5 0 51 50 false, yL 51 52 50 false, yF 1 0 53 50 false, yL 53 54 50 false, yB akNeq 52 54 55 50 false, xP 50 55 56 true, xM 56 57, yF 5 1 58 57 false, yL 58 59 57 false, yF 1 1 60 57 false, yL 60 61 57 false, yB akNeq 59 61 62 57 false, xP 57 62 63 true, xM 63 64, yF 5 2 65 64 false, yL 65 66 64 false, yF 1 3 67 64 false, yL 67 68 64 false, yB akNeq 66 68 69 64 false, xP 64 69 70 true] (by simp (disch := omega) []; exact rfl) ?_
    refine WDO.nilS (WD.cond (t := true) (by simp) (fun _ => WD.seqR ?_) (by simp))
    refine lkD 1 [⟨⟨buildA (.cons (.int .i64 0) (.cons (.int .i64 0) (.cons (.int .i64 0) (.cons (.int .i64 0) (.cons (.int .i64 0) (.cons (.int .i64 0) (.cons (.int .i64 0) (.cons (.int .i64 0) .nil)))))))) flEnd⟩, (some 71), none⟩] (by simp (disch := omega) []; exact rfl) ?_
    obtain ⟨Hz, z1, z2, z3, z4⟩ := storeM zeroM hN4
    obtain ⟨oz, gz, _, _, _, _, _, _, _, _, rcz⟩ := z3.all
    refine WDO.heavy1 tyOk extOk (k := ⟨hvStore ⟨stN 8⟩ (.tmp 2) (.tmp 71)⟩) (by kernel_rfl) rfl (by kernel_rfl) (by simp; exact st_ob z1) ?_
    refine lkD 1 [⟨lkMove (.const (.bool false)), (some 3), none⟩] (by simp (disch := omega) []; exact rfl) ?_
    exact WDO.nilS (WD.ret (endR _ (by simp [gz, rcz]; rfl) ⟨fun hs => absurd hs hno, fun _ => ⟨zeroM, rfl⟩, kk4.trans' z4 fun b hb e => absurd e (by omega)⟩))
end
end Go.Proofs.YtoigokkeaddceaaGreatDoor
