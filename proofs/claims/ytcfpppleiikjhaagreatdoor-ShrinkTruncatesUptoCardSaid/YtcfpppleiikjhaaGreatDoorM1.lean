/- A part of the proof of this seat's statement: what is particular to its program. Its conditions stand in each theorem. -/
import Derived.Test.YtcfpppleiikjhaaGreatDoorL4
import Derived.Test.YtcfpppleiikjhaaGreatDoorS4
import Derived.Test.YtcfpppleiikjhaaGreatDoorA2
import Derived.Test.YtcfpppleiikjhaaGreatDoorZ4
import Derived.Test.YtcfpppleiikjhaaGreatDoorK1
namespace Go.Proofs.YtcfpppleiikjhaaGreatDoor
open Go.Xq
noncomputable section
structure HoldsG (W : World) (a0 a1 : Nat × Nat) (H : AH) : Prop where
  globs : GlobsAt (m0of [a0, a1]) gl W
  at_ : ∀ g, g < 3 → ∃ x f, W.heap[g]? = some x ∧ H.get g = some (.ro x f)
  r1 : ∃ x f, H.get 1 = some (.ro x f) ∧ f 0 = some (.ifc 455 (.ptr a0.1 a0.2))
  r0 : ∃ x f, H.get 0 = some (.ro x f) ∧ f 0 = some (.ifc 455 (.ptr a1.1 a1.2))
theorem st_kept {m : Ren} {H : AH} {w w' : World} (hr : Rel m H w) (h : KeptAll w w') : St m H w m H w' := by
  refine ⟨⟨fun b o hb i hi => ?_, hr.inj, fun b i hi => ⟨(hr.bnd b i hi).1, Nat.lt_of_lt_of_le (hr.bnd b i hi).2 h.size⟩, hr.glob⟩, Ext.refl _ _, Nat.le_refl _, h.os, h.output, h.size, fun k hk _ => h.block k hk, fun b i hi hl => .inr ⟨b, i, hi, hl, rfl⟩⟩
  obtain ⟨x, h1, h2⟩ := hr.live b o hb i hi
  exact ⟨x, by rw [h.block _ (hr.bnd b i hi).2]; exact h1, h2⟩
theorem ad_lt {m : Ren} {H : AH} {W w : World} {g j : Nat} {ads : List (Nat × Nat)} {a : Nat × Nat} (hr : Rel m H w) (hg : g < ngl) (haj : ads[j]? = some a) {t : Nat}
    (hG : ∃ u, W.heap[g]? = some (.cells #[u] t (0, 0)) ∧ VR (m0of ads) (.ifc 455 (.ptr (ngl + j) 0)) u) (hx : ∃ x f, W.heap[g]? = some x ∧ H.get g = some (.ro x f)) (hf : ∃ x f, H.get g = some (.ro x f) ∧ f 0 = some (.ifc 455 (.ptr a.1 a.2))) :
    a.1 < w.heap.size := by
  obtain ⟨u, hu, hv⟩ := hG
  obtain ⟨x, f, h1, h2⟩ := hx
  obtain ⟨x', f', h3, h4⟩ := hf
  rw [h2] at h3
  cases h3
  rw [hu] at h1
  cases h1
  obtain ⟨i, hi, ib, i0⟩ := hr.glob g hg
  obtain ⟨y, h5, h6⟩ := hr.live g _ h2 i hi
  cases h6 with | ro c fr e f i h =>
  obtain ⟨u', h7, h8⟩ := h 0 _ h4
  rw [i0] at h7
  have h7 : u = u' := by simpa using h7
  subst h7
  obtain ⟨p, hp, e1⟩ := hv.ifc_inv
  obtain ⟨p', hp', e2⟩ := h8.ifc_inv
  rw [e1] at e2
  cases e2
  obtain ⟨i1, hi1, e3⟩ := hp.ptr_inv
  obtain ⟨i2, hi2, e4⟩ := hp'.ptr_inv
  rw [m0of_ad haj] at hi1
  cases hi1
  rw [e3] at e4
  simp only [Value.pointer.injEq, Option.some.injEq, Addr.mk.injEq] at e4
  have := (hr.bnd _ _ hi2).2
  rw [← e4.1] at this
  exact this
theorem awake_ok {W : World} {a0 a1 : Nat × Nat} {H : AH} (h : HoldsG W a0 a1 H) : DC Tryz.prog .normal 4 .nil H fun v H2 => v = .bool true ∧ H2 = H := by
  refine ⟨.bool true, H, ⟨rfl, rfl⟩, ⟨_, Tryz.func4, by kernel_rfl, by kernel_rfl⟩, fun m w vs hr hl => ?_⟩
  cases hl
  have hG : GlobsAt (m0of [a0, a1]) gl w := by
    intro p hp
    obtain ⟨h1, t, v, u, h2, h3, h4, h5⟩ := h.globs p hp
    refine ⟨h1, t, v, u, h2, h3, ?_, h5⟩
    have h6 : p.1 < 3 := by
      simp only [gl, List.mem_cons, List.not_mem_nil, or_false] at hp
      rcases hp with rfl | rfl | rfl <;> decide
    obtain ⟨x, f, h7, h8⟩ := h.at_ _ h6
    rw [h4] at h7
    cases h7
    obtain ⟨i, hi, ib, i0⟩ := hr.glob p.1 h1
    obtain ⟨y, h9, h10⟩ := hr.live _ _ h8 i hi
    cases h10
    rw [ib] at h9
    exact h9
  have hsz : ngl ≤ w.heap.size := by
    have h4 : 4 < ngl := by decide
    obtain ⟨i, hi, ib, _⟩ := hr.glob 4 h4
    have := (hr.bnd _ _ hi).2
    rw [ib] at this
    exact this
  have hrel : Rel (m0of [a0, a1]) (H0of nx gl) w := by
    refine rel_glob rfl hsz ?_ hG
    intro a ha
    simp only [List.mem_cons, List.not_mem_nil, or_false] at ha
    rcases ha with rfl | rfl
    · obtain ⟨_, t, v, u, h2, _, h4, h5⟩ := h.globs (1, one1 111 (.ifc 455 (.ptr 5 0))) (by simp [gl])
      have h2' : one1 111 (.ifc 455 (.ptr 5 0)) = one1 t v := h2
      clear h2
      simp only [one1, AObj.cs.injEq, true_and, and_true] at h2'
      obtain ⟨rfl, h3'⟩ := h2'
      simp at h3'
      subst h3'
      exact ad_lt (j := 0) hr (by decide) rfl ⟨u, h4, h5⟩ (h.at_ 1 (by omega)) h.r1
    · obtain ⟨_, t, v, u, h2, _, h4, h5⟩ := h.globs (0, one1 111 (.ifc 455 (.ptr 6 0))) (by simp [gl])
      have h2' : one1 111 (.ifc 455 (.ptr 6 0)) = one1 t v := h2
      clear h2
      simp only [one1, AObj.cs.injEq, true_and, and_true] at h2'
      obtain ⟨rfl, h3'⟩ := h2'
      simp at h3'
      subst h3'
      exact ad_lt (j := 1) hr (by decide) rfl ⟨u, h4, h5⟩ (h.at_ 0 (by omega)) h.r0
  refine XC.of_calls ((walk hrel hG).mono fun e w' ⟨he, hk⟩ => ⟨.bool true, he, .bool true, H, ⟨rfl, rfl⟩, m, st_kept hr hk, .bool true⟩)
end
end Go.Proofs.YtcfpppleiikjhaaGreatDoor
namespace Go.Proofs.YtcfpppleiikjhaaGreatDoor
open Go.Xq
noncomputable section
theorem ldOk_dev {pg : Int} {l : List UInt8} (h : ldOk pg l.length = true) : Dev.Ok ⟨pg.toNat, l, [], []⟩ := by
  unfold ldOk at h
  simp only [Bool.and_eq_true, decide_eq_true_eq] at h
  obtain ⟨h1, h2, h3⟩ := h
  obtain ⟨c1, c2, c3, c4⟩ := devOk_iff.1 h3
  have hpc := pgI_cases h1
  obtain ⟨P, rfl⟩ : ∃ P : Nat, pg = (P : Int) := ⟨pg.toNat, by omega⟩
  rw [Int.toNat_natCast] at h2 c2 c4 ⊢
  have hmul : P * (l.length / P) = l.length := Nat.mul_div_cancel' (Nat.dvd_of_mod_eq_zero h2)
  have h4 : P * 4 ≤ P * (l.length / P) := Nat.mul_le_mul_left _ (by omega)
  have c4' : l.length / P * P ≤ 67108864 := by have := c4; rw [← Int.natCast_mul] at this; omega
  rw [Nat.mul_comm] at c4'
  exact ⟨by show 512 ≤ P; omega, by show P ≤ 65536; omega, goodL_nil, fun i w hw => by simp at hw, by show 4 * P ≤ l.length; omega, h2, by show l.length ≤ 67108864; omega⟩
def LdP (H H1 : AH) (pg : Int) (l : List UInt8) (x : AV) (e : Int) : Prop := (ldOk pg l.length = true ∧ e = 0 ∧ ∃ b, x = .ptr b 0 ∧ PlAt H1 (fun y => H.next ≤ y) b ⟨pg.toNat, l, [], []⟩) ∨ (ldOk pg l.length = false ∧ e = 32 ∧ x = .pnil)
theorem loadP {H : AH} {v : AV} {l : List UInt8} {pg : Int} (h : RdS H v l) (hmx : l.length ≤ 17179869184) :
    DC Tryz.prog .normal 5 (.cons v (.cons (.int .i64 pg) .nil)) H fun v' H2 => ∃ x e, v' = .tup (.cons x (.cons (.int .i64 e) .nil)) ∧ LdP H H2 pg l x e ∧ Keep noB H H2 :=
  (load_ok h hmx).mono fun v' H2 ⟨h1, h2, hk⟩ => by
    cases hl : ldOk pg l.length with
    | true =>
      obtain ⟨b, e, hA⟩ := h1 hl
      exact ⟨_, _, e, .inl ⟨hl, rfl, b, rfl, hA⟩, hk⟩
    | false => exact ⟨_, _, h2 hl, .inr ⟨hl, rfl, rfl⟩, hk⟩
theorem rdS_keepN {S : Nat → Prop} {H H2 : AH} {v : AV} {l : List UInt8} (h : RdS H v l) (hk : Keep S H H2) (hs : l ≠ [] → ∀ b, blk v = some b → ¬ S b) : RdS H2 v l := by
  by_cases hl : l = []
  · subst hl
    rcases h with h | ⟨b, off, cap, rfl, _⟩
    · exact .inl h
    · exact .inr ⟨b, off, cap, rfl, fun e => absurd rfl e⟩
  · exact h.keep hk (hs hl)
theorem ownB_wide {H : AH} {e lo lo2 : Nat} {v : AV} {l : List UInt8} (h : OwnB e H lo v l) (hl : lo2 ≤ lo) : OwnB e H lo2 v l := by
  rcases h with h | ⟨b, h1, h2, h3, h4⟩
  · exact .inl h
  · exact .inr ⟨b, h1, h2, by omega, h4⟩
theorem sblk_blk {v : AV} {b : Nat} (h : sblk v = some b) : blk v = some b := by
  unfold sblk at h
  split at h
  · exact h
  · cases h
def trT (P : Nat) (l : List UInt8) : List UInt8 := (truncL P l).getD []
def trE (P : Nat) (l : List UInt8) : Int := if (truncL P l).isSome = true then 0 else 51
theorem TrQ.few {H H2 : AH} {P : Nat} {l : List UInt8} {v' : AV} (h : TrQ H P l v' H2) : ∃ u, v' = .tup (.cons u (.cons (.int .i64 (trE P l)) .nil)) ∧ OwnB 5 H2 H.next u (trT P l) ∧ Keep noB H H2 := by
  obtain ⟨h1, h2, h3⟩ := h
  unfold trT trE
  cases ht : truncL P l with
  | none => exact ⟨.snil, h2 ht, .inl ⟨rfl, rfl⟩, h3⟩
  | some t =>
    obtain ⟨u, e, ho⟩ := h1 t ht
    exact ⟨u, e, ho, h3⟩
theorem trT_len (P : Nat) (l : List UInt8) : (trT P l).length ≤ l.length := by
  unfold trT truncL
  split
  · simp
  · split
    · simp only [Option.getD_some, List.length_take]; exact Nat.min_le_right _ _
    · simp
structure MI (H4 : AH) (O : Nat → Prop) (bp : Nat) (P : Nat) (l0 : List UInt8) (i : Nat) (H' : AH) (d : Dev) : Prop where
  ok : d.Ok
  pg : d.P = P
  sf : d.safe = l0
  wl : d.wl.length ≤ i
  z : i = 0 → d.l = [] ∧ d.wl = []
  at_ : PlAt H' O bp d
  kp : Keep O H4 H'
set_option maxRecDepth 20000 in
set_option maxHeartbeats 8000000 in
theorem mainT_ok {W : World} {a0 a1 : Nat × Nat} {H : AH} (hG : HoldsG W a0 a1 H) {v0 v2 v3 : AV} {l0 l3 : List UInt8} {cs : List (Int × AV)} {ps : List (Int × List UInt8)} {pg : Int} (h0 : OldS H v0 l0) (h2 : SaysP H v2 cs ps) (h3 : OldS H v3 l3)
    (m0 : l0.length ≤ 17179869184) (m3 : l3.length ≤ 17179869184) (mw : ps.length < 8589934592) (mb : ∀ p ∈ ps, p.2.length ≤ 17179869184) :
    AC Tryz.prog .normal 3 (.cons v0 (.cons (.int .i64 pg) (.cons v2 (.cons v3 .nil)))) H fun v' H2 => v' = .bool true ∧ Keep noB H H2 := by
  refine AC.of_wp (re := reTmp 8 reNil) tyOk Tryz.func3 (by kernel_rfl) rfl (by kernel_rfl) (by kernel_rfl) ?_
  rw [tl_nil, argsT_cons, argsT_cons, argsT_cons, argsT_cons, argsT_nil]
  refine WP.seqR ?_
  refine WPO.looks1 tyOk extOk 1 (ls := [⟨lkMove (.const (.bool false)), (some 8), none⟩]) (by kernel_rfl) (by simp (disch := omega) []; exact rfl) ?_
  refine WPO.nilS (WP.seqR ?_)
  refine WPO.callF (g := 4) rfl rfl rfl (by kernel_rfl) (l := .nil) (by simp) (awake_ok hG).ac fun u Ha ⟨hu, hHa⟩ => ?_
  subst hu
  subst hHa
  refine WPO.looks1 tyOk extOk 1 (ls := [xM 33 9]) (by kernel_rfl) (by simp (disch := omega) []; exact rfl) ?_
  refine WPO.nilS (WP.seq (WP.seqR ?_))
  refine WPO.looks1 tyOk extOk 2 (ls := [xM 9 34, xU 34 35]) (by kernel_rfl) (by simp (disch := omega) []; exact rfl) ?_
  refine WPO.nilS (WP.cond (t := false) (by simp) (by simp) fun _ => WP.skip (.inl rfl) (WP.seqR ?_))
  refine WPO.looks1 tyOk extOk 2 (ls := [xM 0 37, xM 1 38]) (by kernel_rfl) (by simp (disch := omega) []; exact rfl) ?_
  refine WPO.callF (g := 5) rfl rfl rfl (by kernel_rfl) (l := .cons v0 (.cons (.int .i64 pg) .nil)) (by simp) (loadP h0.rd m0).ac fun u H1 ⟨x1, e1, hu, hp, k1⟩ => ?_
  subst hu
  refine WPO.looks1 tyOk extOk 5 (ls := [xM 39 36, ⟨⟨exA (.tmp 36) 0⟩, (some 40), none⟩, ⟨⟨exA (.tmp 36) 1⟩, (some 41), none⟩, xM 40 10, xM 41 11]) (by kernel_rfl) (by simp (disch := omega) []; exact rfl) ?_
  refine WPO.nilS (WP.seqR ?_)
  refine WPO.looks1 tyOk extOk 2 (ls := [xM 3 43, xM 1 44]) (by kernel_rfl) (by simp (disch := omega) []; exact rfl) ?_
  refine WPO.callF (g := 5) rfl rfl rfl (by kernel_rfl) (l := .cons v3 (.cons (.int .i64 pg) .nil)) (by simp) (loadP (h3.at k1) m3).ac fun u H2 ⟨x2, e2, hu, hq, k2⟩ => ?_
  subst hu
  have kk2 := k1.trans k2
  refine WPO.looks1 tyOk extOk 5 (ls := [xM 45 42, ⟨⟨exA (.tmp 42) 0⟩, (some 46), none⟩, ⟨⟨exA (.tmp 42) 1⟩, (some 47), none⟩, xM 46 12, xM 47 13]) (by kernel_rfl) (by simp (disch := omega) []; exact rfl) ?_
  refine WPO.nilS (WP.seqR ?_)
  refine WPO.looks1 tyOk extOk 2 (ls := [xM 0 49, xM 1 50]) (by kernel_rfl) (by simp (disch := omega) []; exact rfl) ?_
  refine WPO.callF (g := 6) rfl rfl rfl (by kernel_rfl) (l := .cons v0 (.cons (.int .i64 pg) .nil)) (by simp) (load03_ok (h0.at kk2) (fun hn => h0.cutAt kk2 hn) m0).ac fun u H3 ⟨⟨y1, hu⟩, k3⟩ => ?_
  subst hu
  have kk3 := kk2.trans k3
  refine WPO.looks1 tyOk extOk 5 (ls := [xM 51 48, ⟨⟨exA (.tmp 48) 0⟩, (some 52), none⟩, ⟨⟨exA (.tmp 48) 1⟩, (some 53), none⟩, xM 52 14, xM 53 15]) (by kernel_rfl) (by simp (disch := omega) []; exact rfl) ?_
  refine WPO.nilS (WP.seqR ?_)
  refine WPO.looks1 tyOk extOk 2 (ls := [xM 3 55, xM 1 56]) (by kernel_rfl) (by simp (disch := omega) []; exact rfl) ?_
  refine WPO.callF (g := 6) rfl rfl rfl (by kernel_rfl) (l := .cons v3 (.cons (.int .i64 pg) .nil)) (by simp) (load03_ok (h3.at kk3) (fun hn => h3.cutAt kk3 hn) m3).ac fun u H4 ⟨⟨y2, hu⟩, k4⟩ => ?_
  subst hu
  have kk4 := kk3.trans k4
  refine WPO.looks1 tyOk extOk 5 (ls := [xM 57 54, ⟨⟨exA (.tmp 54) 0⟩, (some 58), none⟩, ⟨⟨exA (.tmp 54) 1⟩, (some 59), none⟩, xM 58 16, xM 59 17]) (by kernel_rfl) (by simp (disch := omega) []; exact rfl) ?_
  obtain ⟨r1, hr1⟩ : ∃ r : Int, r = if ldOk pg l0.length = true then 0 else 32 := ⟨_, rfl⟩
  obtain ⟨r2, hr2⟩ : ∃ r : Int, r = if ldOk pg l3.length = true then 0 else 32 := ⟨_, rfl⟩
  rw [← hr1, ← hr2]
  have q1 : ∀ b o, eqPtr 12 H4 (.ptr b o) .pnil = some false := fun _ _ => rfl
  have q2 : eqPtr 12 H4 .pnil .pnil = some true := rfl
  refine WPO.nilS (WP.keep (l := [(0, v0), (1, .int .i64 pg), (2, v2), (3, v3), (8, .bool false), (10, x1), (11, .int .i64 e1), (12, x2), (13, .int .i64 e2), (15, .int .i64 r1), (17, .int .i64 r2)]) (WP.seq (WP.seqR ?_)) (by simp))
  obtain ⟨l', hrun, hsub⟩ : ∃ (l' : List (Nat × AV)), runLk [xM 11 60, xM 15 61, xB akNeq 60 61 62, xM 62 63, yM 13 64 63 false, yM 17 65 63 false, yB akNeq 64 65 66 63 false, xP 63 66 67 true, xM 67 68, yM 10 69 68 false, ⟨⟨binEq ⟨eqPtr 12⟩ false (.tmp 69) (.const (.pointer none))⟩, (some 70), (some (68, false))⟩, yM 15 71 68 false, yC akNeq 71 0 72 68 false, ⟨⟨binEq ⟨eqBool⟩ true (.tmp 70) (.tmp 72)⟩, (some 73), (some (68, false))⟩, xP 68 73 74 true, xM 74 75, yM 12 76 75 false, ⟨⟨binEq ⟨eqPtr 12⟩ false (.tmp 76) (.const (.pointer none))⟩, (some 77), (some (75, false))⟩, yM 17 78 75 false, yC akNeq 78 0 79 75 false, ⟨⟨binEq ⟨eqBool⟩ true (.tmp 77) (.tmp 79)⟩, (some 80), (some (75, false))⟩, xP 75 80 81 true] (tl [(0, v0), (1, .int .i64 pg), (2, v2), (3, v3), (8, .bool false), (10, x1), (11, .int .i64 e1), (12, x2), (13, .int .i64 e2), (15, .int .i64 r1), (17, .int .i64 r2)]) H4 = some (tl l') ∧ lsub [(0, v0), (1, .int .i64 pg), (2, v2), (3, v3), (8, .bool false), (10, x1), (12, x2), (81, .bool false)] l' := by
    rcases hp with ⟨a, rfl, b, rfl, _⟩ | ⟨a, rfl, rfl⟩
    · rw [if_pos a] at hr1
      subst hr1
      rcases hq with ⟨c, rfl, b', rfl, _⟩ | ⟨c, rfl, rfl⟩
      · rw [if_pos c] at hr2
        subst hr2
        exact ⟨_, by simp (disch := omega) [q1]; exact rfl, by simp⟩
      · rw [if_neg (by rw [c]; simp)] at hr2
        subst hr2
        exact ⟨_, by simp (disch := omega) [q1, q2]; exact rfl, by simp⟩
    · rw [if_neg (by rw [a]; simp)] at hr1
      subst hr1
      rcases hq with ⟨c, rfl, b', rfl, _⟩ | ⟨c, rfl, rfl⟩
      · rw [if_pos c] at hr2
        subst hr2
        exact ⟨_, by simp (disch := omega) [q1, q2]; exact rfl, by simp⟩
      · rw [if_neg (by rw [c]; simp)] at hr2
        subst hr2
        exact ⟨_, by simp (disch := omega) [q2]; exact rfl, by simp⟩
  refine WPO.looks1 tyOk extOk 22 (ls := [xM 11 60, xM 15 61, xB akNeq 60 61 62, xM 62 63, yM 13 64 63 false, yM 17 65 63 false, yB akNeq 64 65 66 63 false, xP 63 66 67 true, xM 67 68, yM 10 69 68 false, ⟨⟨binEq ⟨eqPtr 12⟩ false (.tmp 69) (.const (.pointer none))⟩, (some 70), (some (68, false))⟩, yM 15 71 68 false, yC akNeq 71 0 72 68 false, ⟨⟨binEq ⟨eqBool⟩ true (.tmp 70) (.tmp 72)⟩, (some 73), (some (68, false))⟩, xP 68 73 74 true, xM 74 75, yM 12 76 75 false, ⟨⟨binEq ⟨eqPtr 12⟩ false (.tmp 76) (.const (.pointer none))⟩, (some 77), (some (75, false))⟩, yM 17 78 75 false, yC akNeq 78 0 79 75 false, ⟨⟨binEq ⟨eqBool⟩ true (.tmp 77) (.tmp 79)⟩, (some 80), (some (75, false))⟩, xP 75 80 81 true]) (by kernel_rfl) hrun ?_
  clear hrun
  refine WPO.nilS (WP.keep (WP.cond (t := false) (by simp) (by simp) fun _ => WP.skip (.inl rfl) (WP.seq (WP.seqR ?_))) hsub)
  rcases hp with ⟨ha, _, bp, rfl, hP⟩ | ⟨_, _, rfl⟩
  · rcases hq with ⟨hc, _, bq, rfl, hQ⟩ | ⟨_, _, rfl⟩
    · refine WPO.looks1 tyOk extOk 6 (ls := [xM 10 82, ⟨⟨binEq ⟨eqPtr 12⟩ false (.tmp 82) (.const (.pointer none))⟩, (some 83), none⟩, xM 83 84, yM 12 85 84 false, ⟨⟨binEq ⟨eqPtr 12⟩ false (.tmp 85) (.const (.pointer none))⟩, (some 86), (some (84, false))⟩, xP 84 86 87 true]) (by kernel_rfl) (by simp (disch := omega) [q1]; exact rfl) ?_
      refine WPO.nilS (WP.cond (t := false) (by simp) (by simp) fun _ => WP.skip (.inl rfl) (WP.seq (WP.seqR ?_)))
      refine WPO.looks1 tyOk extOk 1 (ls := [⟨lkMove (.const (.int .i64 0)), (some 18), none⟩]) (by kernel_rfl) (by simp (disch := omega) []; exact rfl) ?_
      obtain ⟨O, hO⟩ : ∃ O : Nat → Prop, O = fun x => (Ha.next ≤ x ∧ x < H1.next) ∨ H4.next ≤ x := ⟨_, rfl⟩
      have n1 := k1.1
      have n2 := k2.1
      have n34 := k3.1
      have n44 := k4.1
      have k14 := (k2.trans k3).trans k4
      have k24 := k3.trans k4
      have hP4 : PlAt H4 O bp ⟨pg.toNat, l0, [], []⟩ := (hP.mono (O2 := O) fun x hx hy => by rw [hO]; exact .inl ⟨hy, hx⟩).keep k14 fun _ _ _ => id
      have hQ4 : PlAt H4 (fun y => H1.next ≤ y ∧ y < H2.next) bq ⟨pg.toNat, l3, [], []⟩ := (hQ.mono (O2 := fun y => H1.next ≤ y ∧ y < H2.next) fun x hx hy => ⟨hy, hx⟩).keep k24 fun _ _ _ => id
      have hOu : ∀ x, H4.next ≤ x → O x := fun x hx => by rw [hO]; exact .inr hx
      have hOn : ∀ x, x < Ha.next → ¬ O x := fun x hx e => by rw [hO] at e; rcases e with e | e <;> omega
      have hlw := h2.rd.len
      rw [h2.len] at hlw
      refine WPO.nilS (WP.forE (σ := Nat) (fun i => [(0, v0), (1, .int .i64 pg), (2, v2), (3, v3), (8, .bool false), (10, .ptr bp 0), (12, .ptr bq 0), (18, .int .i64 (i : Int))])
        (fun i H' => i ≤ ps.length ∧ ∃ d, MI H4 O bp pg.toNat l0 i H' d) (fun i => ps.length - i) 0 ⟨by omega, _, ldOk_dev ha, rfl, rfl, by simp, fun _ => ⟨rfl, rfl⟩, hP4, Keep.refl _ _⟩ (by simp) ?_)
      rintro i H' ⟨hi, d, hd⟩
      refine WPO.looks1 tyOk extOk 4 (ls := [xM 18 88, xM 2 89, xN 89 90, xB akLss 88 90 91]) (by kernel_rfl) (by simp (disch := omega) [hlw]; exact rfl) ?_
      refine WPO.nil ⟨decide ((i : Int) < (ps.length : Int)), _, rfl, by simp, fun hcc => ?_, fun hcc => ?_⟩
      · have hcc : i = ps.length := by have := of_decide_eq_false hcc; omega
        subst hcc
        obtain ⟨dok, dpg, dsf, _, dz, dat, dkp⟩ := hd
        have hil : d.img.length = l0.length := by rw [← dsf]; exact imgL_len _ _ _ _
        have hz0 : ps.length = 0 → d.img = l0 := fun e => by
          obtain ⟨z1, z2⟩ := dz e
          unfold Dev.img
          rw [z1, z2, imgL_nil, dsf]
        have kk5 : Keep noB Ha H' := kk4.trans' dkp fun x hx e => absurd e (hOn x hx)
        have hQ5 := hQ4.keep dkp fun x hx1 hx2 e => by rw [hO] at e; rcases e with e | e <;> omega
        refine WP.seqR ?_
        refine WPO.looks1 tyOk extOk 1 (ls := [xM 10 106]) (by kernel_rfl) (by simp (disch := omega) []; exact rfl) ?_
        refine WPO.callF (g := 8) rfl rfl rfl (by kernel_rfl) (l := .cons (.ptr bp 0) .nil) (by simp) (image_ok dat dok).ac fun vn H6 ⟨hn, k6⟩ => ?_
        have hP6 := dat.keep k6 fun _ _ _ => id
        have hQ6 := hQ5.keep k6 fun _ _ _ => id
        have kk6 := kk5.trans k6
        have hnl := hn.rd.len
        have h0l := (h0.at kk6).len
        have hns := hn.rd.str
        have h0s := (h0.at kk6).str
        refine WPO.looks1 tyOk extOk 1 (ls := [xM 107 19]) (by kernel_rfl) (by simp (disch := omega) []; exact rfl) ?_
        refine WPO.nilS (WP.keep (l := [(0, v0), (1, .int .i64 pg), (2, v2), (3, v3), (8, .bool false), (10, .ptr bp 0), (12, .ptr bq 0), (19, vn)]) (WP.seq (WP.seqR ?_)) (by simp))
        obtain ⟨l', hrun, hsub⟩ : ∃ (l' : List (Nat × AV)), runLk [xM 19 108, xN 108 109, xM 0 110, xN 110 111, xB akNeq 109 111 112, xM 112 113, yM 2 114 113 false, yN 114 115 113 false, yC akEql 115 0 116 113 false, yM 116 117 113 false, yM 19 118 117 true, ⟨⟨cvStr (.tmp 118)⟩, (some 119), (some (117, true))⟩, yM 0 120 117 true, ⟨⟨cvStr (.tmp 120)⟩, (some 121), (some (117, true))⟩, ⟨⟨binStr skNeq (.tmp 119) (.tmp 121)⟩, (some 122), (some (117, true))⟩, ⟨⟨pickA (.tmp 117) (.tmp 122) (.const (.bool false))⟩, (some 123), (some (113, false))⟩, xP 113 123 124 true] (tl [(0, v0), (1, .int .i64 pg), (2, v2), (3, v3), (8, .bool false), (10, .ptr bp 0), (12, .ptr bq 0), (19, vn)]) H6 = some (tl l') ∧ lsub [(0, v0), (1, .int .i64 pg), (2, v2), (3, v3), (8, .bool false), (10, .ptr bp 0), (12, .ptr bq 0), (19, vn), (124, .bool false)] l' := by
          have hil' : (d.img.length : Int) = (l0.length : Int) := by omega
          by_cases hz : ps.length = 0
          · have he := hz0 hz
            rw [he] at hns hnl
            exact ⟨_, by simp (disch := omega) [hnl, h0l, hns, h0s, hlw, hz]; exact rfl, by simp⟩
          · have hz' : ¬ (ps.length : Int) = 0 := by omega
            exact ⟨_, by simp (disch := omega) [hnl, h0l, hil', hlw, hz]; exact rfl, by simp⟩
        refine WPO.looks1 tyOk extOk 17 (ls := [xM 19 108, xN 108 109, xM 0 110, xN 110 111, xB akNeq 109 111 112, xM 112 113, yM 2 114 113 false, yN 114 115 113 false, yC akEql 115 0 116 113 false, yM 116 117 113 false, yM 19 118 117 true, ⟨⟨cvStr (.tmp 118)⟩, (some 119), (some (117, true))⟩, yM 0 120 117 true, ⟨⟨cvStr (.tmp 120)⟩, (some 121), (some (117, true))⟩, ⟨⟨binStr skNeq (.tmp 119) (.tmp 121)⟩, (some 122), (some (117, true))⟩, ⟨⟨pickA (.tmp 117) (.tmp 122) (.const (.bool false))⟩, (some 123), (some (113, false))⟩, xP 113 123 124 true]) (by kernel_rfl) hrun ?_
        clear hrun
        refine WPO.nilS (WP.keep (WP.cond (t := false) (by simp) (by simp) fun _ => WP.skip (.inl rfl) (WP.seqR ?_)) hsub)
        refine WPO.looks1 tyOk extOk 1 (ls := [xM 10 126]) (by kernel_rfl) (by simp (disch := omega) []; exact rfl) ?_
        have hdP : TrP pg.toNat d.img := by have := dok.tr; rwa [dpg] at this
        have hdq : Dev.Ok ⟨pg.toNat, l3, [], []⟩ := ldOk_dev hc
        have hqi : Dev.img ⟨pg.toNat, l3, [], []⟩ = l3 := imgL_nil _ _ _
        have hqP : TrP pg.toNat l3 := by have := hdq.tr; rwa [hqi] at this
        have hpgP : ((pg.toNat : Nat) : Int) = pg := by have := hdP.p1; omega
        have tP : ∀ Hx, Keep noB H6 Hx → DC Tryz.prog .normal 9 (.cons (.ptr bp 0) .nil) Hx fun v' H2 => ∃ u, v' = .tup (.cons u (.cons (.int .i64 (trE pg.toNat d.img)) .nil)) ∧ OwnB 5 H2 Hx.next u (trT pg.toNat d.img) ∧ Keep noB Hx H2 := fun Hx hk =>
          (truncP_ok (hP6.keep hk fun _ _ _ => id) dok).mono fun v' H2 h => by rw [dpg] at h; exact h.few
        have tQ : ∀ Hx, Keep noB H6 Hx → DC Tryz.prog .normal 9 (.cons (.ptr bq 0) .nil) Hx fun v' H2 => ∃ u, v' = .tup (.cons u (.cons (.int .i64 (trE pg.toNat l3)) .nil)) ∧ OwnB 5 H2 Hx.next u (trT pg.toNat l3) ∧ Keep noB Hx H2 := fun Hx hk =>
          (truncP_ok (hQ6.keep hk fun _ _ _ => id) hdq).mono fun v' H2 h => by rw [hqi] at h; exact h.few
        have tD : ∀ Hx v l, RdS Hx v l → SlOk Hx v → TrP pg.toNat l → DC Tryz.prog .normal 10 (.cons v (.cons (.int .i64 pg) .nil)) Hx fun v' H2 => ∃ u, v' = .tup (.cons u (.cons (.int .i64 (trE pg.toNat l)) .nil)) ∧ OwnB 5 H2 Hx.next u (trT pg.toNat l) ∧ Keep noB Hx H2 := fun Hx v l h1 h2 h3 => by
          have := (trunc24_ok h1 h2 h3).mono fun v' H2 h => TrQ.few h
          rw [hpgP] at this
          exact this
        refine WPO.callF (g := 9) rfl rfl rfl (by kernel_rfl) (l := .cons (.ptr bp 0) .nil) (by simp) (tP _ (Keep.refl _ _)).ac fun u H7 ⟨xa, hu, oa, k7⟩ => ?_
        subst hu
        refine WPO.looks1 tyOk extOk 5 (ls := [xM 127 125, ⟨⟨exA (.tmp 125) 0⟩, (some 128), none⟩, ⟨⟨exA (.tmp 125) 1⟩, (some 129), none⟩, xM 128 20, xM 129 21]) (by kernel_rfl) (by simp (disch := omega) []; exact rfl) ?_
        refine WPO.nilS (WP.seqR ?_)
        refine WPO.looks1 tyOk extOk 1 (ls := [xM 12 131]) (by kernel_rfl) (by simp (disch := omega) []; exact rfl) ?_
        refine WPO.callF (g := 9) rfl rfl rfl (by kernel_rfl) (l := .cons (.ptr bq 0) .nil) (by simp) (tQ _ k7).ac fun u H8 ⟨xb, hu, ob8, k8⟩ => ?_
        subst hu
        have k78 := k7.trans k8
        refine WPO.looks1 tyOk extOk 5 (ls := [xM 132 130, ⟨⟨exA (.tmp 130) 0⟩, (some 133), none⟩, ⟨⟨exA (.tmp 130) 1⟩, (some 134), none⟩, xM 133 22, xM 134 23]) (by kernel_rfl) (by simp (disch := omega) []; exact rfl) ?_
        refine WPO.nilS (WP.seqR ?_)
        refine WPO.looks1 tyOk extOk 1 (ls := [xM 10 136]) (by kernel_rfl) (by simp (disch := omega) []; exact rfl) ?_
        refine WPO.callF (g := 9) rfl rfl rfl (by kernel_rfl) (l := .cons (.ptr bp 0) .nil) (by simp) (tP _ k78).ac fun u H9 ⟨xc, hu, oc9, k9⟩ => ?_
        subst hu
        have k79 := k78.trans k9
        refine WPO.looks1 tyOk extOk 5 (ls := [xM 137 135, ⟨⟨exA (.tmp 135) 0⟩, (some 138), none⟩, ⟨⟨exA (.tmp 135) 1⟩, (some 139), none⟩, xM 138 24, xM 139 25]) (by kernel_rfl) (by simp (disch := omega) []; exact rfl) ?_
        refine WPO.nilS (WP.seqR ?_)
        refine WPO.looks1 tyOk extOk 2 (ls := [xM 19 141, xM 1 142]) (by kernel_rfl) (by simp (disch := omega) []; exact rfl) ?_
        have hn9 := hn.keep k79 fun _ _ => id
        refine WPO.callF (g := 10) rfl rfl rfl (by kernel_rfl) (l := .cons vn (.cons (.int .i64 pg) .nil)) (by simp) (tD _ _ _ hn9.rd (ownB_ok hn9) hdP).ac fun u Hb ⟨xd, hu, od, kb⟩ => ?_
        subst hu
        have k7b := k79.trans kb
        refine WPO.looks1 tyOk extOk 5 (ls := [xM 143 140, ⟨⟨exA (.tmp 140) 0⟩, (some 144), none⟩, ⟨⟨exA (.tmp 140) 1⟩, (some 145), none⟩, xM 144 26, xM 145 27]) (by kernel_rfl) (by simp (disch := omega) []; exact rfl) ?_
        refine WPO.nilS (WP.seqR ?_)
        refine WPO.looks1 tyOk extOk 2 (ls := [xM 3 147, xM 1 148]) (by kernel_rfl) (by simp (disch := omega) []; exact rfl) ?_
        have h3b := h3.at (kk6.trans k7b)
        have l3ne : l3 ≠ [] := by rintro rfl; have := hqP.p3; have := hqP.p1; simp at *; omega
        refine WPO.callF (g := 10) rfl rfl rfl (by kernel_rfl) (l := .cons v3 (.cons (.int .i64 pg) .nil)) (by simp) (tD _ _ _ h3b (h3.cutAt (kk6.trans k7b) l3ne) hqP).ac fun u Hc ⟨xe, hu, oe, kc⟩ => ?_
        subst hu
        refine WPO.looks1 tyOk extOk 5 (ls := [xM 149 146, ⟨⟨exA (.tmp 146) 0⟩, (some 150), none⟩, ⟨⟨exA (.tmp 146) 1⟩, (some 151), none⟩, xM 150 28, xM 151 29]) (by kernel_rfl) (by simp (disch := omega) []; exact rfl) ?_
        have kbc := kb.trans kc
        have k9c := k9.trans kbc
        have k8c := k8.trans k9c
        have oaC := oa.keep k8c fun _ _ => id
        have obC := ob8.keep k9c fun _ _ => id
        have ocC := oc9.keep kbc fun _ _ => id
        have odC := od.keep kc fun _ _ => id
        have sA := oaC.rd.str
        have sB := obC.rd.str
        have sC := ocC.rd.str
        have sD := odC.rd.str
        have sE := oe.rd.str
        refine WPO.nilS (WP.keep (l := [(0, v0), (1, .int .i64 pg), (2, v2), (3, v3), (8, .bool false), (10, .ptr bp 0), (12, .ptr bq 0), (19, vn), (20, xa), (21, .int .i64 (trE pg.toNat d.img)), (22, xb), (23, .int .i64 (trE pg.toNat l3)), (24, xc), (25, .int .i64 (trE pg.toNat d.img)), (26, xd), (27, .int .i64 (trE pg.toNat d.img)), (28, xe), (29, .int .i64 (trE pg.toNat l3))]) (WP.seqR ?_) (by simp))
        obtain ⟨l', hrun, hsub⟩ : ∃ (l' : List (Nat × AV)), runLk [xM 20 152, ⟨⟨cvStr (.tmp 152)⟩, (some 153), none⟩, xM 26 154, ⟨⟨cvStr (.tmp 154)⟩, (some 155), none⟩, ⟨⟨binStr skEql (.tmp 153) (.tmp 155)⟩, (some 156), none⟩, xM 156 157, yM 22 158 157 true, ⟨⟨cvStr (.tmp 158)⟩, (some 159), (some (157, true))⟩, yM 28 160 157 true, ⟨⟨cvStr (.tmp 160)⟩, (some 161), (some (157, true))⟩, ⟨⟨binStr skEql (.tmp 159) (.tmp 161)⟩, (some 162), (some (157, true))⟩, ⟨⟨pickA (.tmp 157) (.tmp 162) (.const (.bool false))⟩, (some 163), none⟩, xM 163 164, yM 24 165 164 true, ⟨⟨cvStr (.tmp 165)⟩, (some 166), (some (164, true))⟩, yM 26 167 164 true, ⟨⟨cvStr (.tmp 167)⟩, (some 168), (some (164, true))⟩, ⟨⟨binStr skEql (.tmp 166) (.tmp 168)⟩, (some 169), (some (164, true))⟩, ⟨⟨pickA (.tmp 164) (.tmp 169) (.const (.bool false))⟩, (some 170), none⟩, xM 170 171, yM 21 172 171 true, yM 27 173 171 true, yB akEql 172 173 174 171 true, ⟨⟨pickA (.tmp 171) (.tmp 174) (.const (.bool false))⟩, (some 175), none⟩, xM 175 176, yM 23 177 176 true, yM 29 178 176 true, yB akEql 177 178 179 176 true, ⟨⟨pickA (.tmp 176) (.tmp 179) (.const (.bool false))⟩, (some 180), none⟩, xM 180 181, yM 25 182 181 true, yM 27 183 181 true, yB akEql 182 183 184 181 true, ⟨⟨pickA (.tmp 181) (.tmp 184) (.const (.bool false))⟩, (some 185), none⟩, xM 185 30] (tl [(0, v0), (1, .int .i64 pg), (2, v2), (3, v3), (8, .bool false), (10, .ptr bp 0), (12, .ptr bq 0), (19, vn), (20, xa), (21, .int .i64 (trE pg.toNat d.img)), (22, xb), (23, .int .i64 (trE pg.toNat l3)), (24, xc), (25, .int .i64 (trE pg.toNat d.img)), (26, xd), (27, .int .i64 (trE pg.toNat d.img)), (28, xe), (29, .int .i64 (trE pg.toNat l3))]) Hc = some (tl l') ∧ lsub [(3, v3), (8, .bool false), (10, .ptr bp 0), (12, .ptr bq 0), (19, vn), (20, xa), (22, xb), (24, xc), (30, .bool true)] l' := by
          generalize trT pg.toNat d.img = t1 at sA sC sD
          generalize trT pg.toNat l3 = t2 at sB sE
          generalize trE pg.toNat d.img = t3
          generalize trE pg.toNat l3 = t4
          exact ⟨_, by simp (disch := omega) [sA, sB, sC, sD, sE]; exact rfl, by simp⟩
        refine WPO.looks1 tyOk extOk 35 (ls := [xM 20 152, ⟨⟨cvStr (.tmp 152)⟩, (some 153), none⟩, xM 26 154, ⟨⟨cvStr (.tmp 154)⟩, (some 155), none⟩, ⟨⟨binStr skEql (.tmp 153) (.tmp 155)⟩, (some 156), none⟩, xM 156 157, yM 22 158 157 true, ⟨⟨cvStr (.tmp 158)⟩, (some 159), (some (157, true))⟩, yM 28 160 157 true, ⟨⟨cvStr (.tmp 160)⟩, (some 161), (some (157, true))⟩, ⟨⟨binStr skEql (.tmp 159) (.tmp 161)⟩, (some 162), (some (157, true))⟩, ⟨⟨pickA (.tmp 157) (.tmp 162) (.const (.bool false))⟩, (some 163), none⟩, xM 163 164, yM 24 165 164 true, ⟨⟨cvStr (.tmp 165)⟩, (some 166), (some (164, true))⟩, yM 26 167 164 true, ⟨⟨cvStr (.tmp 167)⟩, (some 168), (some (164, true))⟩, ⟨⟨binStr skEql (.tmp 166) (.tmp 168)⟩, (some 169), (some (164, true))⟩, ⟨⟨pickA (.tmp 164) (.tmp 169) (.const (.bool false))⟩, (some 170), none⟩, xM 170 171, yM 21 172 171 true, yM 27 173 171 true, yB akEql 172 173 174 171 true, ⟨⟨pickA (.tmp 171) (.tmp 174) (.const (.bool false))⟩, (some 175), none⟩, xM 175 176, yM 23 177 176 true, yM 29 178 176 true, yB akEql 177 178 179 176 true, ⟨⟨pickA (.tmp 176) (.tmp 179) (.const (.bool false))⟩, (some 180), none⟩, xM 180 181, yM 25 182 181 true, yM 27 183 181 true, yB akEql 182 183 184 181 true, ⟨⟨pickA (.tmp 181) (.tmp 184) (.const (.bool false))⟩, (some 185), none⟩, xM 185 30]) (by kernel_rfl) hrun ?_
        clear hrun
        refine WPO.nilS (WP.keep (WP.seq (WP.seq ?_)) hsub)
        have k6c : Keep noB H6 Hc := k7.trans k8c
        have hPc := hP6.keep k6c fun _ _ _ => id
        have hQc := hQ6.keep k6c fun _ _ _ => id
        have hnC := hn.keep k6c fun _ _ => id
        have sN := hnC.rd.str
        obtain ⟨R, hR, hRc⟩ := specR_ex Tryz.prog (fun _ _ Hx v' H2 => OwnB 5 H2 Hx.next v' d.img ∧ Keep noB Hx H2)
        refine WP.drawnK tyOk extOk (by kernel_rfl) (ls := [⟨[30], .look (lkMove (.tmp 30)), (some 186), none, 0, 1, true, false⟩, ⟨[186], .look (lkUn ukNot (.tmp 186)), (some 187), none, 0, 1, true, false⟩, ⟨[187], .look (lkMove (.tmp 187)), (some 188), none, 0, 1, true, false⟩, ⟨[10, 188], .look (lkMove (.tmp 10)), (some 189), (some (188, false)), 0, 1, true, false⟩, ⟨[19, 188], .look (lkMove (.tmp 19)), (some 192), (some (188, false)), 0, 2, true, false⟩, ⟨[192, 188], .look (⟨cvStr (.tmp 192)⟩), (some 193), (some (188, false)), 0, 2, false, false⟩, ⟨[189, 188], .heavy ⟨hvCallF E 8 (opnds [(.tmp 189)])⟩, (some 190), (some (188, false)), 0, 2, false, true⟩, ⟨[190, 188], .look (⟨cvStr (.tmp 190)⟩), (some 191), (some (188, false)), 1, 1, false, false⟩, ⟨[191, 193, 188], .look (⟨binStr skNeq (.tmp 191) (.tmp 193)⟩), (some 194), (some (188, false)), 1, 1, false, false⟩, ⟨[188, 194], .look (⟨pickA (.tmp 188) (.const (.bool true)) (.tmp 194)⟩), (some 195), none, 1, 1, true, false⟩]) (by kernel_rfl) hR fun K hK => ?_
        simp (disch := omega) [sN]
        obtain ⟨ui, Hd, ci, oi, ki⟩ := hRc 8 _ _ (image_ok hPc dok)
        refine diCall (by simp) (extFree _ _ _ rfl rfl rfl) ci ki.1 ?_
        have sI := oi.rd.str
        have hnD := hnC.keep ki fun _ _ => id
        have sN2 := hnD.rd.str
        simp [sI, sN, sN2]
        refine hK _ _ (WP.cond (t := false) (by simp) (by simp) fun _ => WP.skip (.inl rfl) (WP.seqR ?_))
        clear hK hRc hR ci
        have kid : Keep noB H6 Hd := k6c.trans ki
        have oaD := oaC.keep ki fun _ _ => id
        have obD := obC.keep ki fun _ _ => id
        have ocD := ocC.keep ki fun _ _ => id
        have x7 := k7.1
        have x8 := k8.1
        have x9 := k9.1
        have xd := kbc.1
        have xi := ki.1
        have la' : ∀ b, blk xa = some b → H6.next ≤ b ∧ b < H7.next := fun b e => ⟨(oa.low e).1, (oa.low e).2⟩
        have lb' : ∀ b, blk xb = some b → H7.next ≤ b ∧ b < H8.next := fun b e => ⟨(ob8.low e).1, (ob8.low e).2⟩
        have lc' : ∀ b, blk xc = some b → H8.next ≤ b ∧ b < H9.next := fun b e => ⟨(oc9.low e).1, (oc9.low e).2⟩
        refine WPO.keep (l := [(3, v3), (10, .ptr bp 0), (12, .ptr bq 0), (19, vn), (20, xa), (22, xb), (24, xc)]) ?_ (by simp)
        refine WPO.looks1 tyOk extOk 1 (ls := [⟨⟨buildA (.cons .snil .nil) flEnd⟩, (some 196), none⟩]) (by kernel_rfl) (by simp (disch := omega) []; exact rfl) ?_
        refine WPO.box1 (enc := enc1) (a := AV.snil) tyOk enc1_len (by kernel_rfl : freshK E _ = some ⟨frBox ⟨mkCs 42 1 (.cons .snil .nil)⟩ (.tmp 196)⟩) rfl (by kernel_rfl) (by simp []; try rfl) fun o1 b1 => ?_
        have bk0 : BookAt (Hd.new o1) Hd.next Hd.next [] := ⟨.snil, o1, Nat.le_refl _, by simp, get_new_same _ _, b1, .inl ⟨rfl, rfl⟩, fun b e => (by cases e)⟩
        have kb0 : Keep (fun b => Hd.next ≤ b) Hd (Hd.new o1) := Keep.new _ _ _
        refine WPO.looks1 tyOk extOk 1 (ls := [xM 197 31]) (by kernel_rfl) (by simp (disch := omega) []; exact rfl) ?_
        refine WPO.nilS (WP.seqR ?_)
        refine WPO.looks1 tyOk extOk 2 (ls := [xM 31 198, xM 20 199]) (by kernel_rfl) (by simp (disch := omega) []; exact rfl) ?_
        refine WPO.callF (g := 11) rfl rfl rfl (by kernel_rfl) (l := .cons (.ptr Hd.next 0) (.cons xa .nil)) (by simp) (take03_ok bk0 oaD.cell (by simp)).ac fun _ Hf ⟨bk1, kf⟩ => ?_
        have kb1 := kb0.trans kf
        refine WPO.nilS (WP.seqR ?_)
        refine WPO.looks1 tyOk extOk 2 (ls := [xM 31 201, xM 22 202]) (by kernel_rfl) (by simp (disch := omega) []; exact rfl) ?_
        refine WPO.callF (g := 11) rfl rfl rfl (by kernel_rfl) (l := .cons (.ptr Hd.next 0) (.cons xb .nil)) (by simp) (take03_ok bk1 obD.cell (by simp)).ac fun _ Hg ⟨bk2, kg⟩ => ?_
        have kb2 := kb1.trans kg
        refine WPO.nilS (WP.seqR ?_)
        refine WPO.looks1 tyOk extOk 2 (ls := [xM 31 204, xM 24 205]) (by kernel_rfl) (by simp (disch := omega) []; exact rfl) ?_
        refine WPO.callF (g := 11) rfl rfl rfl (by kernel_rfl) (l := .cons (.ptr Hd.next 0) (.cons xc .nil)) (by simp) (take03_ok bk2 ocD.cell (by simp)).ac fun _ Hh ⟨bk3, kh⟩ => ?_
        have kb3 := kb2.trans kh
        have xh := kb3.1
        refine WPO.nilS (WP.seqR ?_)
        refine WPO.looks1 tyOk extOk 1 (ls := [xM 31 207]) (by kernel_rfl) (by simp (disch := omega) []; exact rfl) ?_
        have hdl : d.img.length ≤ 67108864 := hdP.p4
        have hql : l3.length ≤ 67108864 := hqP.p4
        have ht1 := trT_len pg.toNat d.img
        have ht2 := trT_len pg.toNat l3
        refine WPO.callF (g := 12) rfl rfl rfl (by kernel_rfl) (l := .cons (.ptr Hd.next 0) .nil) (by simp) (owned03_ok (Bs := [trT pg.toNat d.img, trT pg.toNat l3, trT pg.toNat d.img]) bk3 bk3.next rfl (by simp) (by simp; omega) (fun i v l g1 g2 => ?_) ?_) fun u Hi ⟨hu, ko⟩ => ?_
        · have hb : ∀ (v : AV) (l : List UInt8), OwnB 5 Hd H6.next v l → Own Hh 0 Hd.next v l := fun v l ho => by
            have h1 := ownB_own (hi := Hd.next) (lo2 := 0) ho (Nat.le_refl _) (by omega)
            exact h1.keep kb3 (fun b _ hb _ e => absurd e (by omega)) (Nat.le_refl _) (Nat.le_refl _) (Nat.le_refl _)
          match i, g1, g2 with
          | 0, g1, g2 => simp at g1 g2; subst g1 g2; exact hb _ _ oaD
          | 1, g1, g2 => simp at g1 g2; subst g1 g2; exact hb _ _ (ownB_wide obD (by omega))
          | 2, g1, g2 => simp at g1 g2; subst g1 g2; exact hb _ _ (ownB_wide ocD (by omega))
          | i + 3, g1, g2 => simp at g1
        · unfold Apart
          simp
          refine ⟨⟨fun b e e2 => ?_, fun b e e2 => ?_⟩, fun b e e2 => ?_⟩
          · have := (la' b (sblk_blk e)).2
            have := (lb' b (sblk_blk e2)).1
            omega
          · have := (la' b (sblk_blk e)).2
            have := (lc' b (sblk_blk e2)).1
            omega
          · have := (lb' b (sblk_blk e)).2
            have := (lc' b (sblk_blk e2)).1
            omega
        subst hu
        have hof : ∀ b, ofS ([] ++ [xa] ++ [xb] ++ [xc]) b → H6.next ≤ b ∧ b < H9.next := fun b ⟨u, hu, e⟩ => by
          simp at hu
          rcases hu with rfl | rfl | rfl
          · have := la' b (sblk_blk e); omega
          · have := lb' b (sblk_blk e); omega
          · have := lc' b (sblk_blk e); omega
        have kall : Keep (fun x => H6.next ≤ x) H6 Hi := ((kid.mono fun _ _ => False.elim).trans' kb3 fun x hx e => by omega).trans' ko fun x hx e => (hof x e).1
        have hPi := (hP6.mono (O2 := fun x => x < H6.next) fun x hx _ => hx).keep kall fun x hx _ e => by omega
        have hQi := (hQ6.mono (O2 := fun x => x < H6.next) fun x hx _ => hx).keep kall fun x hx _ e => by omega
        have hnI := hn.keep kall fun x e => by have := (hn.low e).2; omega
        have kki : Keep noB Ha Hi := kk6.trans' kall fun x hx e => by have := kk6.1; omega
        have h3i := h3.at kki
        have hbpq : bp ≠ bq := by
          obtain ⟨_, _, _, _, _, _, _, _, b6, _⟩ := hP.ex
          obtain ⟨_, _, _, _, _, _, _, c5, _⟩ := hQ.ex
          intro e
          subst e
          exact absurd c5 (by omega)
        have sN3 := hnI.rd.str
        have sV := h3i.str
        refine WPO.looks1 tyOk extOk 1 (ls := [xM 208 32]) (by kernel_rfl) (by simp (disch := omega) []; exact rfl) ?_
        refine WPO.nilS (WP.seq ?_)
        obtain ⟨R, hR, hRc⟩ := specR_ex Tryz.prog (fun _ a Hx v' H2 => (a = .cons (.ptr bp 0) .nil → OwnB 5 H2 Hx.next v' d.img) ∧ (a = .cons (.ptr bq 0) .nil → OwnB 5 H2 Hx.next v' l3) ∧ Keep noB Hx H2)
        refine WP.drawnK tyOk extOk (by kernel_rfl) (ls := [⟨[32], .look (lkMove (.tmp 32)), (some 209), none, 0, 1, true, false⟩, ⟨[209], .look (lkMove (.tmp 209)), (some 210), none, 0, 1, true, false⟩, ⟨[10, 210], .look (lkMove (.tmp 10)), (some 211), (some (210, true)), 0, 1, true, false⟩, ⟨[19, 210], .look (lkMove (.tmp 19)), (some 214), (some (210, true)), 0, 2, true, false⟩, ⟨[214, 210], .look (⟨cvStr (.tmp 214)⟩), (some 215), (some (210, true)), 0, 2, false, false⟩, ⟨[211, 210], .heavy ⟨hvCallF E 8 (opnds [(.tmp 211)])⟩, (some 212), (some (210, true)), 0, 2, false, true⟩, ⟨[212, 210], .look (⟨cvStr (.tmp 212)⟩), (some 213), (some (210, true)), 1, 1, false, false⟩, ⟨[213, 215, 210], .look (⟨binStr skEql (.tmp 213) (.tmp 215)⟩), (some 216), (some (210, true)), 1, 1, false, false⟩, ⟨[210, 216], .look (⟨pickA (.tmp 210) (.tmp 216) (.const (.bool false))⟩), (some 217), none, 1, 1, true, false⟩, ⟨[217], .look (lkMove (.tmp 217)), (some 218), none, 1, 1, true, false⟩, ⟨[12, 218], .look (lkMove (.tmp 12)), (some 219), (some (218, true)), 1, 1, true, false⟩, ⟨[3, 218], .look (lkMove (.tmp 3)), (some 222), (some (218, true)), 1, 2, true, false⟩, ⟨[222, 218], .look (⟨cvStr (.tmp 222)⟩), (some 223), (some (218, true)), 1, 2, false, false⟩, ⟨[219, 218], .heavy ⟨hvCallF E 8 (opnds [(.tmp 219)])⟩, (some 220), (some (218, true)), 1, 2, false, true⟩, ⟨[220, 218], .look (⟨cvStr (.tmp 220)⟩), (some 221), (some (218, true)), 2, 1, false, false⟩, ⟨[221, 223, 218], .look (⟨binStr skEql (.tmp 221) (.tmp 223)⟩), (some 224), (some (218, true)), 2, 1, false, false⟩, ⟨[218, 224], .look (⟨pickA (.tmp 218) (.tmp 224) (.const (.bool false))⟩), (some 225), none, 2, 1, true, false⟩, ⟨[225], .look (lkMove (.tmp 225)), (some 8), none, 2, 1, true, false⟩]) (by kernel_rfl) hR fun K hK => ?_
        simp (disch := omega) [sN3]
        obtain ⟨u1, Hj, c1, oj, _, kj⟩ := hRc 8 _ _ ((image_ok hPi dok).mono fun v' H2 ⟨z1, z2⟩ => (⟨fun _ => z1, fun e => absurd (by injection e with e _; injection e) hbpq, z2⟩ : ((AV.cons (.ptr bp 0) .nil = .cons (.ptr bp 0) .nil → OwnB 5 H2 Hi.next v' d.img) ∧ (AV.cons (.ptr bp 0) .nil = .cons (.ptr bq 0) .nil → OwnB 5 H2 Hi.next v' l3) ∧ Keep noB Hi H2)))
        have oj := oj rfl
        refine diCall (by simp) (extFree _ _ _ rfl rfl rfl) c1 kj.1 ?_
        have sJ := oj.rd.str
        have sN4 := (hnI.keep kj fun _ _ => id).rd.str
        have sV4 := (h3i.keep kj fun _ _ => id).str
        simp [sJ, sV4]
        have hQj := hQi.keep kj fun _ _ _ => id
        obtain ⟨u2, Hk, c2, _, ok2, kk⟩ := hRc 8 _ _ ((image_ok hQj hdq).mono fun v' H2 ⟨z1, z2⟩ => (⟨fun e => absurd (by injection e with e _; injection e) hbpq.symm, fun _ => by rw [hqi] at z1; exact z1, z2⟩ : ((AV.cons (.ptr bq 0) .nil = .cons (.ptr bp 0) .nil → OwnB 5 H2 Hj.next v' d.img) ∧ (AV.cons (.ptr bq 0) .nil = .cons (.ptr bq 0) .nil → OwnB 5 H2 Hj.next v' l3) ∧ Keep noB Hj H2)))
        have ok2 := ok2 rfl
        refine diCall (by simp) (extFree _ _ _ rfl rfl rfl) c2 kk.1 ?_
        have sK := ok2.rd.str
        have sJ5 := (oj.keep kk fun _ _ => id).rd.str
        have sN5 := ((hnI.keep kj fun _ _ => id).keep kk fun _ _ => id).rd.str
        have sV5 := ((h3i.keep kj fun _ _ => id).keep kk fun _ _ => id).str
        simp [sK, sJ, sN3, sN4, sV4, sV5]
        refine hK _ _ ?_
        exact WP.ret (endR _ (by simp; rfl) ⟨rfl, (kki.trans kj).trans kk⟩)
      · have hcc : i < ps.length := by have := of_decide_eq_true hcc; omega
        obtain ⟨p, hpi⟩ : ∃ p, ps[i]? = some p := ⟨_, List.getElem?_eq_getElem hcc⟩
        obtain ⟨b, off, cap, o, u, w1, w2, w3, w4, w5, w6, w7, w8, w9⟩ := h2.get hpi
        have hg := hd.kp.get (by omega) (hOn _ w8) (kk4.get w8 id w2)
        have hru : RdS H' u p.2 := rdS_keepN (w6.keep kk4 fun _ _ => id) hd.kp fun hn x hx => hOn x (rdS_low w6 hn x hx)
        have hwr := write_ok (n := p.1) (v := u) (l := p.2) hd.at_ hd.ok hru (mb p (List.mem_of_getElem? hpi)) (fun hn x hx => hOn x (rdS_low w6 hn x hx)) (fun x hx => hOu x (by have := hd.kp.1; omega)) (by have := hd.wl; omega)
        have hel : (i : Int) < (ps.length : Int) := by omega
        rw [w1]
        have hnx : MI H4 O bp pg.toNat l0 i H' d := hd
        have hwr2 : DC Tryz.prog .normal 7 (.cons (.ptr bp 0) (.cons (.int .i64 p.1) (.cons u .nil))) H' fun _ H2 => MI H4 O bp pg.toNat l0 (i + 1) H2 (d.wrI p.1 p.2) ∧ H'.next ≤ H2.next := hwr.mono fun v' H2 ⟨hA, hk⟩ => by
          refine ⟨⟨hd.ok.wrI _ _, ?_, ?_, ?_, fun e => by omega, hA, hd.kp.trans hk⟩, hk.1⟩
          · unfold Dev.wrI; split <;> exact hd.pg
          · unfold Dev.wrI; split <;> exact hd.sf
          · unfold Dev.wrI
            split
            · show (d.wl ++ [_]).length ≤ i + 1
              have := hd.wl
              simp; omega
            · have := hd.wl; omega
        obtain ⟨R, hR, hRc⟩ := specR_ex Tryz.prog (fun _ _ _ _ H2 => MI H4 O bp pg.toNat l0 (i + 1) H2 (d.wrI p.1 p.2) ∧ H'.next ≤ H2.next)
        refine WP.drawnK tyOk extOk (by kernel_rfl) (ls := [⟨[10], .look (lkMove (.tmp 10)), (some 94), none, 0, 1, true, false⟩, ⟨[2], .look (lkMove (.tmp 2)), (some 95), none, 0, 1, true, false⟩, ⟨[18], .look (lkMove (.tmp 18)), (some 96), none, 0, 1, true, false⟩, ⟨[95, 96], .look (⟨ixSl 2 (.tmp 95) (.tmp 96)⟩), (some 97), none, 0, 1, true, false⟩, ⟨[97], .look (⟨fAddr (.tmp 97) 0⟩), (some 98), none, 0, 1, true, false⟩, ⟨[98], .look (⟨ldA ⟨ld1⟩ (.tmp 98)⟩), (some 99), none, 0, 1, false, false⟩, ⟨[2], .look (lkMove (.tmp 2)), (some 100), none, 0, 1, true, false⟩, ⟨[18], .look (lkMove (.tmp 18)), (some 101), none, 0, 1, true, false⟩, ⟨[100, 101], .look (⟨ixSl 2 (.tmp 100) (.tmp 101)⟩), (some 102), none, 0, 1, true, false⟩, ⟨[102], .look (⟨fAddr (.tmp 102) 1⟩), (some 103), none, 0, 1, true, false⟩, ⟨[103], .look (⟨ldA ⟨ld1⟩ (.tmp 103)⟩), (some 104), none, 0, 1, false, false⟩, ⟨[94, 99, 104], .heavy ⟨hvCallF E 7 (opnds [(.tmp 94), (.tmp 99), (.tmp 104)])⟩, (some 105), none, 0, 2, false, true⟩]) (by kernel_rfl) hR fun K hK => ?_
        iterate 5 (refine diLookP (by simp [-resL_cons, resL_cc]; exact rfl) (by simp (disch := omega) []; exact rfl) ?_)
        refine diLookC (by simp [-resL_cons, resL_cc]; exact rfl) (by simp (disch := omega) [hg, w3]; exact rfl) ?_
        iterate 4 (refine diLookP (by simp [-resL_cons, resL_cc]; exact rfl) (by simp (disch := omega) []; exact rfl) ?_)
        refine diLookC (by simp [-resL_cons, resL_cc]; exact rfl) (by simp (disch := omega) [hg, w4]; exact rfl) ?_
        obtain ⟨u1, Hy, c1, hy, hyn⟩ := hRc 7 _ _ hwr2
        refine diCallF (by simp [-resL_cons, resL_cc]; exact rfl) (by simp) (extFree _ _ _ rfl rfl rfl) c1 hyn ?_
        simp only [diRun_nil, List.reverse_cons, List.reverse_nil, List.nil_append, List.cons_append, chkAdd_f, atAll_s, atAll_z, and_true, true_and]
        refine ⟨by simp [hg, w3, w4], hK _ _ ?_⟩
        clear hK hRc hR c1
        refine WPO.looks1 tyOk extOk 3 (ls := [xM 18 92, xC akAdd 92 1 93, xM 93 18]) (by kernel_rfl) (by simp (disch := omega) []; exact rfl) ?_
        refine WPO.nil ⟨rfl, i + 1, _, rfl, ?_, ⟨by omega, _, hy⟩, by omega⟩
        rw [← w1]
        simp
    · refine WPO.looks1 tyOk extOk 6 (ls := [xM 10 82, ⟨⟨binEq ⟨eqPtr 12⟩ false (.tmp 82) (.const (.pointer none))⟩, (some 83), none⟩, xM 83 84, yM 12 85 84 false, ⟨⟨binEq ⟨eqPtr 12⟩ false (.tmp 85) (.const (.pointer none))⟩, (some 86), (some (84, false))⟩, xP 84 86 87 true]) (by kernel_rfl) (by simp (disch := omega) [q1, q2]; exact rfl) ?_
      refine WPO.nilS (WP.cond (t := true) (by simp) (fun _ => WP.seqR ?_) (by simp))
      refine WPO.looks1 tyOk extOk 1 (ls := [⟨lkMove (.const (.bool true)), (some 8), none⟩]) (by kernel_rfl) (by simp (disch := omega) []; exact rfl) ?_
      exact WPO.nilS (WP.ret (endR _ (by simp; rfl) ⟨rfl, kk4⟩))
  · refine WPO.looks1 tyOk extOk 6 (ls := [xM 10 82, ⟨⟨binEq ⟨eqPtr 12⟩ false (.tmp 82) (.const (.pointer none))⟩, (some 83), none⟩, xM 83 84, yM 12 85 84 false, ⟨⟨binEq ⟨eqPtr 12⟩ false (.tmp 85) (.const (.pointer none))⟩, (some 86), (some (84, false))⟩, xP 84 86 87 true]) (by kernel_rfl) (by simp (disch := omega) [q2]; exact rfl) ?_
    refine WPO.nilS (WP.cond (t := true) (by simp) (fun _ => WP.seqR ?_) (by simp))
    refine WPO.looks1 tyOk extOk 1 (ls := [⟨lkMove (.const (.bool true)), (some 8), none⟩]) (by kernel_rfl) (by simp (disch := omega) []; exact rfl) ?_
    exact WPO.nilS (WP.ret (endR _ (by simp; rfl) ⟨rfl, kk4⟩))
end
end Go.Proofs.YtcfpppleiikjhaaGreatDoor
