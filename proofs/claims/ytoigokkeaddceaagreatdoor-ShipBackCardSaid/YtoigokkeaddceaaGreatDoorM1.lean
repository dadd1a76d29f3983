/- A part of the proof of this seat's statement: what is particular to its program. Its conditions stand in each theorem. -/
import Derived.Test.YtoigokkeaddceaaGreatDoorK8
import Derived.Test.YtoigokkeaddceaaGreatDoorS4
import Derived.Test.YtoigokkeaddceaaGreatDoorA2
import Derived.Test.YtoigokkeaddceaaGreatDoorZ4
namespace Go.Proofs.YtoigokkeaddceaaGreatDoor
open Go.Xq
noncomputable section
structure HoldsG (W : World) (a0 a1 : Nat × Nat) (H : AH) : Prop where
  globs : GlobsAt (m0of [a0, a1]) gl W
  at_ : ∀ g, g < 3 → ∃ x f, W.heap[g]? = some x ∧ H.get g = some (.ro x f)
  r1 : ∃ x f, H.get 1 = some (.ro x f) ∧ f 0 = some (.ifc 440 (.ptr a0.1 a0.2))
  r0 : ∃ x f, H.get 0 = some (.ro x f) ∧ f 0 = some (.ifc 440 (.ptr a1.1 a1.2))
theorem HoldsG.keep {W : World} {a0 a1 : Nat × Nat} {H H2 : AH} {S : Nat → Prop} (h : HoldsG W a0 a1 H) (hk : Keep S H H2) (hn : 3 ≤ H.next) (hs : ∀ b, b < 3 → ¬ S b) : HoldsG W a0 a1 H2 := by
  refine ⟨h.globs, fun g hg => ?_, ?_, ?_⟩
  · obtain ⟨x, f, h1, h2⟩ := h.at_ g hg
    exact ⟨x, f, h1, hk.get (by omega) (hs g hg) h2⟩
  · obtain ⟨x, f, h1, h2⟩ := h.r1
    exact ⟨x, f, hk.get (by omega) (hs 1 (by omega)) h1, h2⟩
  · obtain ⟨x, f, h1, h2⟩ := h.r0
    exact ⟨x, f, hk.get (by omega) (hs 0 (by omega)) h1, h2⟩
theorem st_kept {m : Ren} {H : AH} {w w' : World} (hr : Rel m H w) (h : KeptAll w w') : St m H w m H w' := by
  refine ⟨⟨fun b o hb i hi => ?_, hr.inj, fun b i hi => ⟨(hr.bnd b i hi).1, Nat.lt_of_lt_of_le (hr.bnd b i hi).2 h.size⟩, hr.glob⟩, Ext.refl _ _, Nat.le_refl _, h.os, h.output, h.size, fun k hk _ => h.block k hk, fun b i hi hl => .inr ⟨b, i, hi, hl, rfl⟩⟩
  obtain ⟨x, h1, h2⟩ := hr.live b o hb i hi
  exact ⟨x, by rw [h.block _ (hr.bnd b i hi).2]; exact h1, h2⟩
theorem ad_lt {m : Ren} {H : AH} {W w : World} {g j : Nat} {ads : List (Nat × Nat)} {a : Nat × Nat} (hr : Rel m H w) (hg : g < ngl) (haj : ads[j]? = some a) {t : Nat}
    (hG : ∃ u, W.heap[g]? = some (.cells #[u] t (0, 0)) ∧ VR (m0of ads) (.ifc 440 (.ptr (ngl + j) 0)) u) (hx : ∃ x f, W.heap[g]? = some x ∧ H.get g = some (.ro x f)) (hf : ∃ x f, H.get g = some (.ro x f) ∧ f 0 = some (.ifc 440 (.ptr a.1 a.2))) :
    a.1 < w.heap.size := by
  obtain ⟨u, hu, hv⟩ := hG
  obtain ⟨x, f, h1, h2⟩ := hx
  obtain ⟨x', f', h3, h4⟩ := hf
  rw [h2] at h3
  cases h3
  rw [hu] at h1
  cases h1
  obtain ⟨i, hi, ib, i0⟩ := hr.glob g hg
  obtain ⟨y, h5, h6⟩ := hr.live g _ h2 i hi
  cases h6 with | ro c fr e f i h =>
  obtain ⟨u', h7, h8⟩ := h 0 _ h4
  rw [i0] at h7
  have h7 : u = u' := by simpa using h7
  subst h7
  obtain ⟨p, hp, e1⟩ := hv.ifc_inv
  obtain ⟨p', hp', e2⟩ := h8.ifc_inv
  rw [e1] at e2
  cases e2
  obtain ⟨i1, hi1, e3⟩ := hp.ptr_inv
  obtain ⟨i2, hi2, e4⟩ := hp'.ptr_inv
  rw [m0of_ad haj] at hi1
  cases hi1
  rw [e3] at e4
  simp only [Value.pointer.injEq, Option.some.injEq, Addr.mk.injEq] at e4
  have := (hr.bnd _ _ hi2).2
  rw [← e4.1] at this
  exact this
theorem live_ok {W : World} {a0 a1 : Nat × Nat} {H : AH} (h : HoldsG W a0 a1 H) : DC Tryz.prog .normal 6 .nil H fun v H2 => v = .bool true ∧ H2 = H := by
  refine ⟨.bool true, H, ⟨rfl, rfl⟩, ⟨_, Tryz.func6, by kernel_rfl, by kernel_rfl⟩, fun m w vs hr hl => ?_⟩
  cases hl
  have hG : GlobsAt (m0of [a0, a1]) gl w := by
    intro p hp
    obtain ⟨h1, t, v, u, h2, h3, h4, h5⟩ := h.globs p hp
    refine ⟨h1, t, v, u, h2, h3, ?_, h5⟩
    have h6 : p.1 < 3 := by
      simp only [gl, List.mem_cons, List.not_mem_nil, or_false] at hp
      rcases hp with rfl | rfl | rfl <;> decide
    obtain ⟨x, f, h7, h8⟩ := h.at_ _ h6
    rw [h4] at h7
    cases h7
    obtain ⟨i, hi, ib, i0⟩ := hr.glob p.1 h1
    obtain ⟨y, h9, h10⟩ := hr.live _ _ h8 i hi
    cases h10
    rw [ib] at h9
    exact h9
  have hsz : ngl ≤ w.heap.size := by
    have h4 : 4 < ngl := by decide
    obtain ⟨i, hi, ib, _⟩ := hr.glob 4 h4
    have := (hr.bnd _ _ hi).2
    rw [ib] at this
    exact this
  have hrel : Rel (m0of [a0, a1]) (H0of nx gl) w := by
    refine rel_glob rfl hsz ?_ hG
    intro a ha
    simp only [List.mem_cons, List.not_mem_nil, or_false] at ha
    rcases ha with rfl | rfl
    · obtain ⟨_, t, v, u, h2, _, h4, h5⟩ := h.globs (1, one1 117 (.ifc 440 (.ptr 5 0))) (by simp [gl])
      have h2' : one1 117 (.ifc 440 (.ptr 5 0)) = one1 t v := h2
      clear h2
      simp only [one1, AObj.cs.injEq, true_and, and_true] at h2'
      obtain ⟨rfl, h3'⟩ := h2'
      simp at h3'
      subst h3'
      exact ad_lt (j := 0) hr (by decide) rfl ⟨u, h4, h5⟩ (h.at_ 1 (by omega)) h.r1
    · obtain ⟨_, t, v, u, h2, _, h4, h5⟩ := h.globs (0, one1 117 (.ifc 440 (.ptr 6 0))) (by simp [gl])
      have h2' : one1 117 (.ifc 440 (.ptr 6 0)) = one1 t v := h2
      clear h2
      simp only [one1, AObj.cs.injEq, true_and, and_true] at h2'
      obtain ⟨rfl, h3'⟩ := h2'
      simp at h3'
      subst h3'
      exact ad_lt (j := 1) hr (by decide) rfl ⟨u, h4, h5⟩ (h.at_ 0 (by omega)) h.r0
  refine XC.of_calls ((walk hrel hG).mono fun e w' ⟨he, hk⟩ => ⟨.bool true, he, .bool true, H, ⟨rfl, rfl⟩, m, st_kept hr hk, .bool true⟩)
end
end Go.Proofs.YtoigokkeaddceaaGreatDoor
namespace Go.Proofs.YtoigokkeaddceaaGreatDoor
open Go.Xq
noncomputable section
open Classical in
def resL (d : Dl) : List UInt8 := if okD d then encD d else []
open Classical in
def resE (d : Dl) : Int := if okD d then 0 else 230
theorem sblk_blk {v : AV} {b : Nat} (h : sblk v = some b) : blk v = some b := by
  unfold sblk at h
  split at h
  · exact h
  · cases h
end
end Go.Proofs.YtoigokkeaddceaaGreatDoor
