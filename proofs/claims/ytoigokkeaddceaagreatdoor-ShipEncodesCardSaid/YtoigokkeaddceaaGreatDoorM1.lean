/- A part of the proof of this seat's statement: what is particular to its program. Its conditions stand in each theorem. -/
import Derived.Test.YtoigokkeaddceaaGreatDoorK8
import Derived.Test.YtoigokkeaddceaaGreatDoorS4
import Derived.Test.YtoigokkeaddceaaGreatDoorA2
import Derived.Test.YtoigokkeaddceaaGreatDoorZ4
namespace Go.Proofs.YtoigokkeaddceaaGreatDoor
open Go.Xq
noncomputable section
structure HoldsG (W : World) (a0 a1 : Nat × Nat) (H : AH) : Prop where
  globs : GlobsAt (m0of [a0, a1]) gl W
  at_ : ∀ g, g < 3 → ∃ x f, W.heap[g]? = some x ∧ H.get g = some (.ro x f)
  r1 : ∃ x f, H.get 1 = some (.ro x f) ∧ f 0 = some (.ifc 440 (.ptr a0.1 a0.2))
  r0 : ∃ x f, H.get 0 = some (.ro x f) ∧ f 0 = some (.ifc 440 (.ptr a1.1 a1.2))
theorem HoldsG.keep {W : World} {a0 a1 : Nat × Nat} {H H2 : AH} {S : Nat → Prop} (h : HoldsG W a0 a1 H) (hk : Keep S H H2) (hn : 3 ≤ H.next) (hs : ∀ b, b < 3 → ¬ S b) : HoldsG W a0 a1 H2 := by
  refine ⟨h.globs, fun g hg => ?_, ?_, ?_⟩
  · obtain ⟨x, f, h1, h2⟩ := h.at_ g hg
    exact ⟨x, f, h1, hk.get (by omega) (hs g hg) h2⟩
  · obtain ⟨x, f, h1, h2⟩ := h.r1
    exact ⟨x, f, hk.get (by omega) (hs 1 (by omega)) h1, h2⟩
  · obtain ⟨x, f, h1, h2⟩ := h.r0
    exact ⟨x, f, hk.get (by omega) (hs 0 (by omega)) h1, h2⟩
theorem st_kept {m : Ren} {H : AH} {w w' : World} (hr : Rel m H w) (h : KeptAll w w') : St m H w m H w' := by
  refine ⟨⟨fun b o hb i hi => ?_, hr.inj, fun b i hi => ⟨(hr.bnd b i hi).1, Nat.lt_of_lt_of_le (hr.bnd b i hi).2 h.size⟩, hr.glob⟩, Ext.refl _ _, Nat.le_refl _, h.os, h.output, h.size, fun k hk _ => h.block k hk, fun b i hi hl => .inr ⟨b, i, hi, hl, rfl⟩⟩
  obtain ⟨x, h1, h2⟩ := hr.live b o hb i hi
  exact ⟨x, by rw [h.block _ (hr.bnd b i hi).2]; exact h1, h2⟩
theorem ad_lt {m : Ren} {H : AH} {W w : World} {g j : Nat} {ads : List (Nat × Nat)} {a : Nat × Nat} (hr : Rel m H w) (hg : g < ngl) (haj : ads[j]? = some a) {t : Nat}
    (hG : ∃ u, W.heap[g]? = some (.cells #[u] t (0, 0)) ∧ VR (m0of ads) (.ifc 440 (.ptr (ngl + j) 0)) u) (hx : ∃ x f, W.heap[g]? = some x ∧ H.get g = some (.ro x f)) (hf : ∃ x f, H.get g = some (.ro x f) ∧ f 0 = some (.ifc 440 (.ptr a.1 a.2))) :
    a.1 < w.heap.size := by
  obtain ⟨u, hu, hv⟩ := hG
  obtain ⟨x, f, h1, h2⟩ := hx
  obtain ⟨x', f', h3, h4⟩ := hf
  rw [h2] at h3
  cases h3
  rw [hu] at h1
  cases h1
  obtain ⟨i, hi, ib, i0⟩ := hr.glob g hg
  obtain ⟨y, h5, h6⟩ := hr.live g _ h2 i hi
  cases h6 with | ro c fr e f i h =>
  obtain ⟨u', h7, h8⟩ := h 0 _ h4
  rw [i0] at h7
  have h7 : u = u' := by simpa using h7
  subst h7
  obtain ⟨p, hp, e1⟩ := hv.ifc_inv
  obtain ⟨p', hp', e2⟩ := h8.ifc_inv
  rw [e1] at e2
  cases e2
  obtain ⟨i1, hi1, e3⟩ := hp.ptr_inv
  obtain ⟨i2, hi2, e4⟩ := hp'.ptr_inv
  rw [m0of_ad haj] at hi1
  cases hi1
  rw [e3] at e4
  simp only [Value.pointer.injEq, Option.some.injEq, Addr.mk.injEq] at e4
  have := (hr.bnd _ _ hi2).2
  rw [← e4.1] at this
  exact this
theorem live_ok {W : World} {a0 a1 : Nat × Nat} {H : AH} (h : HoldsG W a0 a1 H) : DC Tryz.prog .normal 6 .nil H fun v H2 => v = .bool true ∧ H2 = H := by
  refine ⟨.bool true, H, ⟨rfl, rfl⟩, ⟨_, Tryz.func6, by kernel_rfl, by kernel_rfl⟩, fun m w vs hr hl => ?_⟩
  cases hl
  have hG : GlobsAt (m0of [a0, a1]) gl w := by
    intro p hp
    obtain ⟨h1, t, v, u, h2, h3, h4, h5⟩ := h.globs p hp
    refine ⟨h1, t, v, u, h2, h3, ?_, h5⟩
    have h6 : p.1 < 3 := by
      simp only [gl, List.mem_cons, List.not_mem_nil, or_false] at hp
      rcases hp with rfl | rfl | rfl <;> decide
    obtain ⟨x, f, h7, h8⟩ := h.at_ _ h6
    rw [h4] at h7
    cases h7
    obtain ⟨i, hi, ib, i0⟩ := hr.glob p.1 h1
    obtain ⟨y, h9, h10⟩ := hr.live _ _ h8 i hi
    cases h10
    rw [ib] at h9
    exact h9
  have hsz : ngl ≤ w.heap.size := by
    have h4 : 4 < ngl := by decide
    obtain ⟨i, hi, ib, _⟩ := hr.glob 4 h4
    have := (hr.bnd _ _ hi).2
    rw [ib] at this
    exact this
  have hrel : Rel (m0of [a0, a1]) (H0of nx gl) w := by
    refine rel_glob rfl hsz ?_ hG
    intro a ha
    simp only [List.mem_cons, List.not_mem_nil, or_false] at ha
    rcases ha with rfl | rfl
    · obtain ⟨_, t, v, u, h2, _, h4, h5⟩ := h.globs (1, one1 117 (.ifc 440 (.ptr 5 0))) (by simp [gl])
      have h2' : one1 117 (.ifc 440 (.ptr 5 0)) = one1 t v := h2
      clear h2
      simp only [one1, AObj.cs.injEq, true_and, and_true] at h2'
      obtain ⟨rfl, h3'⟩ := h2'
      simp at h3'
      subst h3'
      exact ad_lt (j := 0) hr (by decide) rfl ⟨u, h4, h5⟩ (h.at_ 1 (by omega)) h.r1
    · obtain ⟨_, t, v, u, h2, _, h4, h5⟩ := h.globs (0, one1 117 (.ifc 440 (.ptr 6 0))) (by simp [gl])
      have h2' : one1 117 (.ifc 440 (.ptr 6 0)) = one1 t v := h2
      clear h2
      simp only [one1, AObj.cs.injEq, true_and, and_true] at h2'
      obtain ⟨rfl, h3'⟩ := h2'
      simp at h3'
      subst h3'
      exact ad_lt (j := 1) hr (by decide) rfl ⟨u, h4, h5⟩ (h.at_ 0 (by omega)) h.r0
  refine XC.of_calls ((walk hrel hG).mono fun e w' ⟨he, hk⟩ => ⟨.bool true, he, .bool true, H, ⟨rfl, rfl⟩, m, st_kept hr hk, .bool true⟩)
end
end Go.Proofs.YtoigokkeaddceaaGreatDoor
namespace Go.Proofs.YtoigokkeaddceaaGreatDoor
open Go.Xq
noncomputable section
open Classical in
def resL (d : Dl) : List UInt8 := if okD d then encD d else []
open Classical in
def resE (d : Dl) : Int := if okD d then 0 else 230
theorem encodeU_ok {H : AH} {d : Dl} {pv mv : AV} {cs : List (Int × AV)} (h : DlAt H d pv mv cs) (hl : d.meta_.length < 4611686018427387904) (hp : d.pages.length < 4611686018427387904) (hb : (bodyD d).length < 536870912) :
    DC Tryz.prog .normal 10 (.cons (dlA d pv mv) .nil) H fun v' H2 => (∃ v, v' = .tup (.cons v (.cons (.int .i64 (resE d)) .nil)) ∧ OwnB 5 H2 H.next v (resL d)) ∧ Keep noB H H2 :=
  (encodeShip_ok h hl hp hb).mono fun v' H2 ⟨h1, h2, h3⟩ => by
    refine ⟨?_, h3⟩
    by_cases hok : okD d
    · obtain ⟨v, e, ho⟩ := h1 hok
      exact ⟨v, by rw [e, resE, if_pos hok], by rw [resL, if_pos hok]; exact ho⟩
    · exact ⟨.snil, by rw [h2 hok, resE, if_neg hok], by rw [resL, if_neg hok]; exact .inl ⟨rfl, rfl⟩⟩
theorem encode23U_ok {H : AH} {d : Dl} {pv mv : AV} {cs : List (Int × AV)} (h : DlAt H d pv mv cs) (hl : d.meta_.length < 4611686018427387904) (hp : d.pages.length < 4611686018427387904) (hb : (bodyD d).length < 536870912) :
    DC Tryz.prog .normal 8 (.cons (dlA d pv mv) .nil) H fun v' H2 => (∃ v, v' = .tup (.cons v (.cons (.int .i64 (resE d)) .nil)) ∧ OwnC 5 H2 H.next v (resL d)) ∧ Keep noB H H2 :=
  (encode23_ok h hl hp hb).mono fun v' H2 ⟨h1, h2, h3⟩ => by
    refine ⟨?_, h3⟩
    by_cases hok : okD d
    · obtain ⟨v, e, ho⟩ := h1 hok
      exact ⟨v, by rw [e, resE, if_pos hok], by rw [resL, if_pos hok]; exact ho⟩
    · exact ⟨.snil, by rw [h2 hok, resE, if_neg hok], by rw [resL, if_neg hok]; exact .inl (.inl ⟨rfl, rfl⟩)⟩
theorem resL_le (d : Dl) : (resL d).length ≤ (bodyD d).length + 4 := by
  unfold resL
  split
  · simp [encD, fixedL_len]
  · simp
theorem ownB_own {H : AH} {lo hi lo2 : Nat} {v : AV} {l : List UInt8} (h : OwnB 5 H lo v l) (hn : H.next ≤ hi) (hl : lo2 ≤ lo) : Own H lo2 hi v l := by
  rcases h with h | ⟨b, h1, h2, h3, h4, h5⟩
  · exact .inl h
  · exact .inr (.inr ⟨b, h1, h2, by omega, by omega, h5⟩)
theorem sblk_blk {v : AV} {b : Nat} (h : sblk v = some b) : blk v = some b := by
  unfold sblk at h
  split at h
  · exact h
  · cases h
theorem LentAt.dl {H : AH} {M : Nat} {d : Dl} (h : LentAt H M d (allP M d.pages) d.pages.length) (hM : M + 2 + d.pages.length ≤ H.next) :
    ∃ cs, DlAt H d (.sl (M + 1) 0 d.pages.length (some (d.pages.length + 2))) (.sl M 0 d.meta_.length (some (d.meta_.length + 9))) cs := by
  obtain ⟨o, g, he⟩ := h.el
  have hcs : ∀ (i : Nat) (p : Int × List UInt8), d.pages[i]? = some p → (d.pages.mapIdx fun i p => (p.1, AV.sl (M + 2 + i) 0 p.2.length (some (p.2.length + 9))))[i]? = some (p.1, AV.sl (M + 2 + i) 0 p.2.length (some (p.2.length + 9))) := fun i p hp => by
    rw [List.getElem?_mapIdx, hp]; rfl
  refine ⟨d.pages.mapIdx fun i p => (p.1, AV.sl (M + 2 + i) 0 p.2.length (some (p.2.length + 9))), ⟨⟨.inr ⟨M + 1, 0, some (d.pages.length + 2), by simp, fun _ => ⟨by omega, o, g, ?_⟩⟩, by simp, ?_⟩, .bb rfl (by omega) h.meta_, fun _ => .inr (.inl ⟨M, 0, d.meta_.length, d.meta_.length + 9, rfl, by omega⟩)⟩⟩
  · intro k c hc j u hu
    have hk : k < d.pages.length := by have := get_lt hc; simpa using this
    have hp : d.pages[k]? = some (d.pages[k]) := List.getElem?_eq_getElem hk
    generalize d.pages[k] = p at hp
    rw [hcs k p hp] at hc
    cases hc
    have hel := allP_get M d.pages (i := k) (by omega)
    rw [rowP_lo hp] at hel
    have := he.cell hel (j := j) (v := u) (by simpa [encPv, lentP, encP] using hu)
    simpa using this
  · intro i c p hc hp
    rw [hcs i p hp] at hc
    cases hc
    have hi := get_lt hp
    exact ⟨rfl, .bb rfl (by omega) (h.data i p hi hp)⟩
set_option maxRecDepth 10000 in
set_option maxHeartbeats 4000000 in
theorem main_ok {W : World} {a0 a1 : Nat × Nat} {H : AH} {d : Dl} {pv mv : AV} {cs : List (Int × AV)} (hG : HoldsG W a0 a1 H) (hGn : 3 ≤ H.next) (h : DlAt H d pv mv cs) (hm : d.meta_.length < 4611686018427387904) (hp : d.pages.length < 4611686018427387904) (hpl : ∀ p ∈ d.pages, p.2.length < 4611686018427387904) :
    AC Tryz.prog .normal 3 (.cons (dlA d pv mv) .nil) H fun v' H2 => v' = .bool true ∧ Keep noB H H2 := by
  refine AC.of_wp (re := reTmp 2 reNil) tyOk Tryz.func3 (by kernel_rfl) rfl (by kernel_rfl) (by kernel_rfl) ?_
  rw [tl_nil, argsT_cons, argsT_nil]
  refine WP.seqR ?_
  obtain ⟨o1, e1, hD, k1⟩ := Bx.box (enc := encDv) (e := 25) (z := zDv) encDv_len (H := H) (a := d.dv pv mv h.c1 h.c2) (x := .tmp 0) (T := tl [(0, dlA d pv mv)]) (by simp; rfl)
  refine WPO.fresh1 tyOk (k := ⟨frBox ⟨mkCs 25 6 (.cons (.int .i64 0) (.cons (.int .i64 0) (.cons (.int .i64 0) (.cons (.int .i64 0) (.cons .snil (.cons .snil .nil))))))⟩ (.tmp 0)⟩) (by kernel_rfl) rfl (by kernel_rfl) e1 ?_
  have n1 : (H.new o1).next = H.next + 1 := by simp
  have hG1 : HoldsG W a0 a1 (H.new o1) := hG.keep k1 hGn fun _ _ => id
  generalize H.new o1 = H1 at hD k1 n1 hG1 ⊢
  obtain ⟨N, hN⟩ : ∃ N, N = H.next := ⟨_, rfl⟩
  rw [← hN] at hD n1 ⊢
  obtain ⟨oD, gD, _, _, _, _, _, _, dc⟩ := hD.dv
  refine WPO.looks1 tyOk extOk 1 (ls := [⟨lkMove (.const (.bool false)), (some 2), none⟩]) (by kernel_rfl) (by simp (disch := omega) []; exact rfl) ?_
  refine WPO.nilS (WP.seqR ?_)
  refine WPO.callF (g := 6) rfl rfl rfl (by kernel_rfl) (l := .nil) (by simp) (live_ok hG1).ac fun u H' ⟨hu, hH⟩ => ?_
  subst hu
  subst hH
  refine WPO.looks1 tyOk extOk 1 (ls := [⟨lkMove (.tmp 17), (some 3), none⟩]) (by kernel_rfl) (by simp (disch := omega) []; exact rfl) ?_
  refine WPO.nilS (WP.seqR ?_)
  refine WPO.looks1 tyOk extOk 1 (ls := [⟨⟨ldA ⟨ldN 6⟩ (.tmp 1)⟩, (some 18), none⟩]) (by kernel_rfl) (by simp (disch := omega) [gD, dc]; exact rfl) ?_
  refine WPO.callF (g := 7) rfl rfl rfl (by kernel_rfl) (l := .cons (dlA d pv mv) .nil) (by simp [dlA, encDv, Dl.dv]) (great_ok (h.keep k1) hm hp hpl).ac fun u H2 ⟨hu, k2⟩ => ?_
  subst hu
  have kk2 := k1.trans k2
  have gD2 := k2.get (by omega) id gD
  have n2 := k2.1
  refine WPO.looks1 tyOk extOk 1 (ls := [⟨lkMove (.tmp 19), (some 4), none⟩]) (by kernel_rfl) (by simp (disch := omega) []; exact rfl) ?_
  refine WPO.nilS (WP.seq (WP.seqR ?_))
  by_cases hbig : 4194304 < bulkD d
  · refine WPO.looks1 tyOk extOk 5 (ls := [⟨lkMove (.tmp 3), (some 20), none⟩, ⟨lkUn ukNot (.tmp 20), (some 21), none⟩, ⟨lkMove (.tmp 21), (some 22), none⟩, ⟨lkMove (.tmp 4), (some 23), (some (22, false))⟩, ⟨⟨pickA (.tmp 22) (.const (.bool true)) (.tmp 23)⟩, (some 24), none⟩]) (by kernel_rfl) (by simp (disch := omega) [hbig]; exact rfl) ?_
    refine WPO.nilS (WP.cond (t := true) (by simp) (fun _ => WP.seqR ?_) (by simp))
    refine WPO.looks1 tyOk extOk 2 (ls := [⟨lkMove (.tmp 3), (some 25), none⟩, ⟨lkMove (.tmp 25), (some 2), none⟩]) (by kernel_rfl) (by simp (disch := omega) []; exact rfl) ?_
    exact WPO.nilS (WP.ret (endR _ (by simp; rfl) ⟨rfl, kk2⟩))
  · refine WPO.looks1 tyOk extOk 5 (ls := [⟨lkMove (.tmp 3), (some 20), none⟩, ⟨lkUn ukNot (.tmp 20), (some 21), none⟩, ⟨lkMove (.tmp 21), (some 22), none⟩, ⟨lkMove (.tmp 4), (some 23), (some (22, false))⟩, ⟨⟨pickA (.tmp 22) (.const (.bool true)) (.tmp 23)⟩, (some 24), none⟩]) (by kernel_rfl) (by simp (disch := omega) [hbig]; exact rfl) ?_
    refine WPO.nilS (WP.cond (t := false) (by simp) (by simp) fun _ => WP.skip (.inl rfl) (WP.keep (l := [(1, .ptr N 0)]) (WP.seqR ?_) (by simp)))
    have hbb := body_bulk d
    have hbl := bulk_len d.pages
    have hbd : bulkD d = d.meta_.length + bulkP d.pages := rfl
    have hrl := resL_le d
    have hpm : ∀ p ∈ d.pages, p.2.length ≤ 8388608 := fun p hp => by have := bulk_mem hp; omega
    refine WPO.looks1 tyOk extOk 1 (ls := [⟨⟨ldA ⟨ldN 6⟩ (.tmp 1)⟩, (some 27), none⟩]) (by kernel_rfl) (by simp (disch := omega) [gD2, dc]; exact rfl) ?_
    refine WPO.callF (g := 8) rfl rfl rfl (by kernel_rfl) (l := .cons (dlA d pv mv) .nil) (by simp [dlA, encDv, Dl.dv]) (encode23U_ok (h.keep kk2) hm hp (by omega)).ac fun u H3 ⟨⟨wv, hu, ow⟩, k3⟩ => ?_
    subst hu
    have kk3 := kk2.trans k3
    have gD3 := k3.get (by omega) id gD2
    have n3 := k3.1
    refine WPO.looks1 tyOk extOk 5 (ls := [⟨lkMove (.tmp 28), (some 26), none⟩, ⟨⟨exA (.tmp 26) 0⟩, (some 29), none⟩, ⟨⟨exA (.tmp 26) 1⟩, (some 30), none⟩, ⟨lkMove (.tmp 29), (some 5), none⟩, ⟨lkMove (.tmp 30), (some 6), none⟩]) (by kernel_rfl) (by simp (disch := omega) []; exact rfl) ?_
    refine WPO.nilS (WP.keep (l := [(1, .ptr N 0), (5, wv), (6, .int .i64 (resE d))]) (WP.seqR ?_) (by simp))
    refine WPO.looks1 tyOk extOk 1 (ls := [⟨⟨ldA ⟨ldN 6⟩ (.tmp 1)⟩, (some 31), none⟩]) (by kernel_rfl) (by simp (disch := omega) [gD3, dc]; exact rfl) ?_
    refine WPO.callF (g := 9) rfl rfl rfl (by kernel_rfl) (l := .cons (dlA d pv mv) .nil) (by simp [dlA, encDv, Dl.dv]) (lentD_ok (h.keep kk3) (by omega) (by omega) hpm).ac fun u H4 ⟨hu, n4, la4, k4⟩ => ?_
    subst hu
    obtain ⟨M, hM⟩ : ∃ M, M = H3.next + 3 := ⟨_, rfl⟩
    rw [← hM] at la4 ⊢
    have kk4 := kk3.trans k4
    have gD4 := k4.get (by omega) id gD3
    have ow4 := ow.keep k4 fun _ _ => id
    obtain ⟨csl, dl4⟩ := la4.dl (by omega)
    refine WPO.fresh1 tyOk (k := ⟨frAlloc (.cs 25 6 6 false (.cons (.int .i64 0) (.cons (.int .i64 0) (.cons (.int .i64 0) (.cons (.int .i64 0) (.cons .snil (.cons .snil .nil)))))) .e)⟩) (by kernel_rfl) rfl (by kernel_rfl) (v := .ptr H4.next 0) (x := .cs 25 6 6 false zDv .e) ?_ ?_
    · exact rfl
    have hO0 : Bx encDv 25 6 zDv (H4.new (.cs 25 6 6 false zDv .e)) H4.next zeroDv := Bx.new (z := zDv) (a := zeroDv) encDv_len rfl H4 rfl
    have kn : Keep noB H4 (H4.new (.cs 25 6 6 false zDv .e)) := Keep.new _ _ _
    obtain ⟨H5, s1, s2, s3, s4⟩ := hO0.store encDv_len ⟨d.engine, d.page, d.frm, d.to, .sl (M + 1) 0 d.pages.length (some (d.pages.length + 2)), .sl M 0 d.meta_.length (some (d.meta_.length + 9)), rfl, rfl⟩ (cells_dv _)
    refine WPO.heavy1 tyOk extOk (k := ⟨hvStore ⟨stN 6⟩ (.tmp 7) (.tmp 32)⟩) (by kernel_rfl) rfl (by kernel_rfl) (by simp; exact stN_ob s1) ?_
    have k5 : Keep noB H4 H5 := kn.trans' s4 fun b hb e => absurd e (by omega)
    have n5 : H5.next = H4.next + 1 := by rw [s2]; simp
    have kk5 := kk4.trans k5
    have gD5 := k5.get (by omega) id gD4
    have dl5 := dl4.keep k5
    have la5 : LentAt H5 M d (allP M d.pages) d.pages.length := by
      obtain ⟨oe, ge, he⟩ := la4.el
      exact ⟨k5.get (by omega) id la4.meta_, ⟨oe, k5.get (by omega) id ge, he⟩, fun j p hj hp => k5.get (by omega) id (la4.data j p hj hp)⟩
    have ow5 := ow4.keep k5 fun _ _ => id
    clear hO0 s1 s2 s4 kn
    obtain ⟨L, hL⟩ : ∃ L, L = H4.next := ⟨_, rfl⟩
    rw [← hL] at s3 ⊢
    obtain ⟨oL, gL, _, _, _, _, _, _, lc⟩ := s3.dv
    refine WPO.nilS (WP.seqR ?_)
    refine WPO.looks1 tyOk extOk 1 (ls := [⟨⟨ldA ⟨ldN 6⟩ (.tmp 7)⟩, (some 34), none⟩]) (by kernel_rfl) (by simp (disch := omega) [gL, lc]; exact rfl) ?_
    refine WPO.callF (g := 10) rfl rfl rfl (by kernel_rfl) (l := .cons (lentA M d) .nil) (by simp [lentA, dlA, encDv]) (encodeU_ok dl5 hm hp (by omega)).ac fun u H6 ⟨⟨av, hu, oa⟩, k6⟩ => ?_
    subst hu
    have kk6 := kk5.trans k6
    have gD6 := k6.get (by omega) id gD5
    have gL6 := k6.get (by omega) id gL
    have n6 := k6.1
    refine WPO.looks1 tyOk extOk 5 (ls := [⟨lkMove (.tmp 35), (some 33), none⟩, ⟨⟨exA (.tmp 33) 0⟩, (some 36), none⟩, ⟨⟨exA (.tmp 33) 1⟩, (some 37), none⟩, ⟨lkMove (.tmp 36), (some 8), none⟩, ⟨lkMove (.tmp 37), (some 9), none⟩]) (by kernel_rfl) (by simp (disch := omega) []; exact rfl) ?_
    refine WPO.nilS (WP.seqR ?_)
    refine WPO.looks1 tyOk extOk 1 (ls := [⟨⟨ldA ⟨ldN 6⟩ (.tmp 7)⟩, (some 39), none⟩]) (by kernel_rfl) (by simp (disch := omega) [gL6, lc]; exact rfl) ?_
    refine WPO.callF (g := 10) rfl rfl rfl (by kernel_rfl) (l := .cons (lentA M d) .nil) (by simp [lentA, dlA, encDv]) (encodeU_ok (dl5.keep k6) hm hp (by omega)).ac fun u H7 ⟨⟨bv, hu, ob⟩, k7⟩ => ?_
    subst hu
    have kk7 := kk6.trans k7
    have gD7 := k7.get (by omega) id gD6
    have gL7 := k7.get (by omega) id gL6
    have n7 := k7.1
    have k57 := k6.trans k7
    have oa7 := oa.keep k7 fun _ _ => id
    have ow7 := ow5.keep k57 fun _ _ => id
    have la7 : LentAt H7 M d (allP M d.pages) d.pages.length := by
      obtain ⟨oe, ge, he⟩ := la5.el
      exact ⟨k57.get (by omega) id la5.meta_, ⟨oe, k57.get (by omega) id ge, he⟩, fun j p hj hp => k57.get (by omega) id (la5.data j p hj hp)⟩
    refine WPO.looks1 tyOk extOk 5 (ls := [⟨lkMove (.tmp 40), (some 38), none⟩, ⟨⟨exA (.tmp 38) 0⟩, (some 41), none⟩, ⟨⟨exA (.tmp 38) 1⟩, (some 42), none⟩, ⟨lkMove (.tmp 41), (some 10), none⟩, ⟨lkMove (.tmp 42), (some 11), none⟩]) (by kernel_rfl) (by simp (disch := omega) []; exact rfl) ?_
    refine WPO.nilS (WP.keep (l := [(1, .ptr N 0), (5, wv), (6, .int .i64 (resE d)), (7, .ptr L 0), (8, av), (9, .int .i64 (resE d)), (10, bv), (11, .int .i64 (resE d))]) (WP.seqR ?_) (by simp))
    refine WPO.looks1 tyOk extOk 2 (ls := [⟨⟨ldA ⟨ldN 6⟩ (.tmp 7)⟩, (some 43), none⟩, ⟨⟨ldA ⟨ldN 6⟩ (.tmp 1)⟩, (some 44), none⟩]) (by kernel_rfl) (by simp (disch := omega) [gL7, lc, gD7, dc]; exact rfl) ?_
    refine WPO.callF (g := 11) rfl rfl rfl (by kernel_rfl) (l := .cons (lentA M d) (.cons (dlA d pv mv) .nil)) (by simp [lentA, dlA, encDv, Dl.dv]) (asLentD_ok (H0 := H) h kk7 la7 (by omega) (by omega) (by omega) (by omega) hpm).ac fun u H8 ⟨hu, k8⟩ => ?_
    subst hu
    have kk8 : Keep noB H H8 := kk7.trans' k8 fun b hb e => absurd e.1 (by omega)
    have gD8 := k8.get (by omega) (fun e => absurd e.1 (by omega)) gD7
    have n8 := k8.1
    have oa8 := oa7.keep k8 fun b e e2 => by have := (oa7.low e).1; have := e2.2; omega
    have ob8 := ob.keep k8 fun b e e2 => by have := (ob.low e).1; have := e2.2; omega
    have ow8 := ow7.keep k8 fun b e e2 => by have := (ow4.low e).2; have := (ow.low e).2; have := e2.1; omega
    have sa := oa8.rd.str
    have sb' := ob8.rd.str
    have sw := ow8.rd.str
    refine WPO.looks1 tyOk extOk 1 (ls := [⟨lkMove (.tmp 45), (some 12), none⟩]) (by kernel_rfl) (by simp (disch := omega) []; exact rfl) ?_
    refine WPO.nilS (WP.seq (WP.seqR ?_))
    refine WPO.looks1 tyOk extOk 26 (ls := [⟨lkMove (.tmp 12), (some 46), none⟩, ⟨lkUn ukNot (.tmp 46), (some 47), none⟩, ⟨lkMove (.tmp 47), (some 48), none⟩, ⟨lkMove (.tmp 9), (some 49), (some (48, false))⟩, ⟨lkMove (.tmp 6), (some 50), (some (48, false))⟩, ⟨⟨binInt akNeq (.tmp 49) (.tmp 50)⟩, (some 51), (some (48, false))⟩, ⟨⟨pickA (.tmp 48) (.const (.bool true)) (.tmp 51)⟩, (some 52), none⟩, ⟨lkMove (.tmp 52), (some 53), none⟩, ⟨lkMove (.tmp 11), (some 54), (some (53, false))⟩, ⟨lkMove (.tmp 6), (some 55), (some (53, false))⟩, ⟨⟨binInt akNeq (.tmp 54) (.tmp 55)⟩, (some 56), (some (53, false))⟩, ⟨⟨pickA (.tmp 53) (.const (.bool true)) (.tmp 56)⟩, (some 57), none⟩, ⟨lkMove (.tmp 57), (some 58), none⟩, ⟨lkMove (.tmp 8), (some 59), (some (58, false))⟩, ⟨⟨cvStr (.tmp 59)⟩, (some 60), (some (58, false))⟩, ⟨lkMove (.tmp 5), (some 61), (some (58, false))⟩, ⟨⟨cvStr (.tmp 61)⟩, (some 62), (some (58, false))⟩, ⟨⟨binStr skNeq (.tmp 60) (.tmp 62)⟩, (some 63), (some (58, false))⟩, ⟨⟨pickA (.tmp 58) (.const (.bool true)) (.tmp 63)⟩, (some 64), none⟩, ⟨lkMove (.tmp 64), (some 65), none⟩, ⟨lkMove (.tmp 10), (some 66), (some (65, false))⟩, ⟨⟨cvStr (.tmp 66)⟩, (some 67), (some (65, false))⟩, ⟨lkMove (.tmp 5), (some 68), (some (65, false))⟩, ⟨⟨cvStr (.tmp 68)⟩, (some 69), (some (65, false))⟩, ⟨⟨binStr skNeq (.tmp 67) (.tmp 69)⟩, (some 70), (some (65, false))⟩, ⟨⟨pickA (.tmp 65) (.const (.bool true)) (.tmp 70)⟩, (some 71), none⟩]) (by kernel_rfl) (by simp (disch := omega) [sa, sb', sw]; exact rfl) ?_
    refine WPO.nilS (WP.cond (t := false) (by simp) (by simp) fun _ => WP.skip (.inl rfl) (WP.keep (l := [(1, .ptr N 0), (5, wv), (6, .int .i64 (resE d)), (8, av), (10, bv)]) (WP.seqR ?_) (by simp)))
    refine WPO.looks1 tyOk extOk 1 (ls := [⟨⟨buildA (.cons .snil .nil) flEnd⟩, (some 72), none⟩]) (by kernel_rfl) (by simp (disch := omega) []; exact rfl) ?_
    refine WPO.box1 (enc := enc1) (a := AV.snil) tyOk enc1_len (by kernel_rfl : freshK E _ = some ⟨frBox ⟨mkCs 36 1 (.cons .snil .nil)⟩ (.tmp 72)⟩) rfl (by kernel_rfl) (by simp []; try rfl) fun o1 b1 => ?_
    have bk0 : BookAt (H8.new o1) H8.next H8.next [] := ⟨.snil, o1, Nat.le_refl _, by simp, get_new_same _ _, b1, .inl ⟨rfl, rfl⟩, fun b e => (by cases e)⟩
    have kb0 : Keep (fun b => H8.next ≤ b) H8 (H8.new o1) := Keep.new _ _ _
    refine WPO.looks1 tyOk extOk 1 (ls := [⟨lkMove (.tmp 73), (some 13), none⟩]) (by kernel_rfl) (by simp (disch := omega) []; exact rfl) ?_
    refine WPO.nilS (WP.seqR ?_)
    refine WPO.looks1 tyOk extOk 2 (ls := [⟨lkMove (.tmp 13), (some 74), none⟩, ⟨lkMove (.tmp 8), (some 75), none⟩]) (by kernel_rfl) (by simp (disch := omega) []; exact rfl) ?_
    refine WPO.callF (g := 12) rfl rfl rfl (by kernel_rfl) (l := .cons (.ptr H8.next 0) (.cons av .nil)) (by simp) (take03_ok bk0 oa8.cell (by simp)).ac fun _ H9 ⟨bk1, k9⟩ => ?_
    have kb1 := kb0.trans k9
    refine WPO.nilS (WP.seqR ?_)
    refine WPO.looks1 tyOk extOk 2 (ls := [⟨lkMove (.tmp 13), (some 77), none⟩, ⟨lkMove (.tmp 10), (some 78), none⟩]) (by kernel_rfl) (by simp (disch := omega) []; exact rfl) ?_
    refine WPO.callF (g := 12) rfl rfl rfl (by kernel_rfl) (l := .cons (.ptr H8.next 0) (.cons bv .nil)) (by simp) (take03_ok bk1 ob8.cell (by simp)).ac fun _ H10 ⟨bk2, k10⟩ => ?_
    have kb2 := kb1.trans k10
    have n10 := kb2.1
    have oa10 := oa8.keep kb2 fun b e e2 => by have := (oa8.low e).2; omega
    have ob10 := ob8.keep kb2 fun b e e2 => by have := (ob8.low e).2; omega
    have la' : ∀ b, blk av = some b → H5.next ≤ b ∧ b < H6.next := fun b e => ⟨(oa.low e).1, (oa.low e).2⟩
    have lb' : ∀ b, blk bv = some b → H6.next ≤ b ∧ b < H7.next := fun b e => ⟨(ob.low e).1, (ob.low e).2⟩
    refine WPO.nilS (WP.seqR ?_)
    refine WPO.looks1 tyOk extOk 1 (ls := [⟨lkMove (.tmp 13), (some 80), none⟩]) (by kernel_rfl) (by simp (disch := omega) []; exact rfl) ?_
    refine WPO.callF (g := 13) rfl rfl rfl (by kernel_rfl) (l := .cons (.ptr H8.next 0) .nil) (by simp) (owned03_ok (Bs := [resL d, resL d]) bk2 bk2.next rfl (by simp) (by simp; omega) (fun i v l g1 g2 => ?_) ?_) fun u H11 ⟨hu, k11⟩ => ?_
    · have hb : ∀ (v : AV), OwnB 5 H8 H5.next v (resL d) → Own H10 0 H8.next v (resL d) := fun v ho => by
        have h1 := ownB_own (hi := H8.next) (lo2 := 0) ho (Nat.le_refl _) (by omega)
        exact h1.keep kb2 (fun b _ hb _ e => absurd e (by omega)) (Nat.le_refl _) (Nat.le_refl _) (Nat.le_refl _)
      match i, g1, g2 with
      | 0, g1, g2 => simp at g1 g2; subst g1 g2; exact hb _ oa8
      | 1, g1, g2 => simp at g1 g2; subst g1 g2; exact hb _ (ownB_wide ob8 (by omega))
      | i + 2, g1, g2 => simp at g1
    · unfold Apart
      simp
      intro b e e2
      have := (la' b (sblk_blk e)).2
      have := (lb' b (sblk_blk e2)).1
      omega
    subst hu
    have hof : ∀ b, ofS ([] ++ [av] ++ [bv]) b → H5.next ≤ b ∧ b < H7.next := fun b ⟨u, hu, e⟩ => by
      simp at hu
      rcases hu with rfl | rfl
      · have := la' b (sblk_blk e); omega
      · have := lb' b (sblk_blk e); omega
    have kk10 : Keep noB H H10 := kk8.trans' kb2 fun b hb e => absurd e (by omega)
    have kk11 : Keep noB H H11 := kk10.trans' k11 fun b hb e => absurd (hof b e).1 (by omega)
    have gD11 := k11.get (by omega) (fun e => absurd (hof _ e).1 (by omega)) (kb2.get (by omega) (by omega) gD8)
    have ow11 := (ow8.keep kb2 fun b e e2 => by have := (ow8.low e).2; omega).keep k11 fun b e e2 => by have := (ow.low e).2; have := (hof b e2).1; omega
    have n11 := k11.1
    refine WPO.looks1 tyOk extOk 1 (ls := [⟨lkMove (.tmp 81), (some 14), none⟩]) (by kernel_rfl) (by simp (disch := omega) []; exact rfl) ?_
    refine WPO.nilS (WP.seqR ?_)
    refine WPO.looks1 tyOk extOk 1 (ls := [⟨⟨ldA ⟨ldN 6⟩ (.tmp 1)⟩, (some 83), none⟩]) (by kernel_rfl) (by simp (disch := omega) [gD11, dc]; exact rfl) ?_
    refine WPO.callF (g := 10) rfl rfl rfl (by kernel_rfl) (l := .cons (dlA d pv mv) .nil) (by simp [dlA, encDv, Dl.dv]) (encodeU_ok (h.keep kk11) hm hp (by omega)).ac fun u H12 ⟨⟨cv, hu, oc⟩, k12⟩ => ?_
    subst hu
    have sc := oc.rd.str
    have sw2 := (ow11.keep k12 fun _ _ => id).rd.str
    refine WPO.looks1 tyOk extOk 5 (ls := [⟨lkMove (.tmp 84), (some 82), none⟩, ⟨⟨exA (.tmp 82) 0⟩, (some 85), none⟩, ⟨⟨exA (.tmp 82) 1⟩, (some 86), none⟩, ⟨lkMove (.tmp 85), (some 15), none⟩, ⟨lkMove (.tmp 86), (some 16), none⟩]) (by kernel_rfl) (by simp (disch := omega) []; exact rfl) ?_
    refine WPO.nilS (WP.seqR ?_)
    refine WPO.looks1 tyOk extOk 14 (ls := [⟨lkMove (.tmp 14), (some 87), none⟩, ⟨lkMove (.tmp 87), (some 88), none⟩, ⟨lkMove (.tmp 16), (some 89), (some (88, true))⟩, ⟨lkMove (.tmp 6), (some 90), (some (88, true))⟩, ⟨⟨binInt akEql (.tmp 89) (.tmp 90)⟩, (some 91), (some (88, true))⟩, ⟨⟨pickA (.tmp 88) (.tmp 91) (.const (.bool false))⟩, (some 92), none⟩, ⟨lkMove (.tmp 92), (some 93), none⟩, ⟨lkMove (.tmp 15), (some 94), (some (93, true))⟩, ⟨⟨cvStr (.tmp 94)⟩, (some 95), (some (93, true))⟩, ⟨lkMove (.tmp 5), (some 96), (some (93, true))⟩, ⟨⟨cvStr (.tmp 96)⟩, (some 97), (some (93, true))⟩, ⟨⟨binStr skEql (.tmp 95) (.tmp 97)⟩, (some 98), (some (93, true))⟩, ⟨⟨pickA (.tmp 93) (.tmp 98) (.const (.bool false))⟩, (some 99), none⟩, ⟨lkMove (.tmp 99), (some 2), none⟩]) (by kernel_rfl) (by simp (disch := omega) [sc, sw2]; exact rfl) ?_
    exact WPO.nilS (WP.ret (endR _ (by simp; rfl) ⟨rfl, kk11.trans k12⟩))
end
end Go.Proofs.YtoigokkeaddceaaGreatDoor
