/- A part of the proof of this seat's statement: what is particular to its program. Its conditions stand in each theorem. -/
import Derived.Test.YtcfpppleiikjhaaGreatDoorM1
import Derived.Test.YtcfpppleiikjhaaGreatDoorM2
import Derived.Test.YtcfpppleiikjhaaGreatDoorM3
namespace Go.Proofs.YtcfpppleiikjhaaGreatDoor
open Go.RowKit Go.Xq
theorem main_calls {W : World} {v0 v1 v2 v3 : Value} {b0 b2 b3 : AV} {pg : Int} {l0 l3 : List UInt8} {cs : List (Int × AV)} {ps : List (Int × List UInt8)} (hL : laidMetH Tryz.prog Rows.shrinkTruncatesUptoRow.laid W) (hS : W.ShapedOpen Tryz.prog)
    (e0 : avOf W.heap.size v0 = some b0) (h0 : RdS (HI W) b0 l0) (c0 : SlOk (HI W) b0) (e1 : v1 = .int .i64 pg) (e2 : avOf W.heap.size v2 = some b2) (h2 : SaysP (HI W) b2 cs ps) (e3 : avOf W.heap.size v3 = some b3) (h3 : RdS (HI W) b3 l3) (c3 : SlOk (HI W) b3)
    (m0 : l0.length ≤ 17179869184) (m3 : l3.length ≤ 17179869184) (mw : ps.length < 8589934592) (mb : ∀ p ∈ ps, p.2.length ≤ 17179869184) : Calls Tryz.prog 3 #[v0, v1, v2, v3] W fun e W' => e = .returned (.bool true) ∧ KeptAll W W' := by
  obtain ⟨hsz, a0, a1, hG⟩ := holds_start hL hS
  have h4 : 4 < ngl := by decide
  subst e1
  obtain ⟨_, hx⟩ := mainT_ok hG (pg := pg) ⟨h0, c0, fun x e => by rw [HI_next]; exact avOf_blk (by omega) e0 e⟩ h2 ⟨h3, c3, fun x e => by rw [HI_next]; exact avOf_blk (by omega) e3 e⟩ m0 m3 mw mb
  intro cs'
  obtain ⟨v, w', fr, ⟨v2', H2, ⟨rfl, hk⟩, m2, hst, hv⟩, hs, hk', hfn, hl⟩ := hx (mI W.heap.size) W [v0, .int .i64 pg, v2, v3] (rel_start hsz) (.cons _ _ _ _ (avOf_vr e0) (.cons _ _ _ _ (.int _ _) (.cons _ _ _ _ (avOf_vr e2) (.cons _ _ _ _ (avOf_vr e3) .nil)))) cs' (.inl rfl)
  cases hv
  exact ⟨_, w', fr, ⟨rfl, kept_start hst fun b hb => hk.2 b (by rw [HI_next]; exact hb) id⟩, hs, hfn, hl.mode, hl.defers, hk', hl.fn⟩
end Go.Proofs.YtcfpppleiikjhaaGreatDoor
