/- A part of the proof of this seat's statement: what is particular to its program. Its conditions stand in each theorem. -/
import Derived.Test.YtoigokkeaddceaaGreatDoorL2
import Derived.Test.YtoigokkeaddceaaGreatDoorM2
import Derived.Test.YtoigokkeaddceaaGreatDoorM3
namespace Go.Proofs.YtoigokkeaddceaaGreatDoor
open Go.RowKit Go.Xq
theorem main_calls {W : World} {v : Value} {b : AV} {l : List UInt8} (hL : laidMetH Tryz.prog Rows.shipDecodesUptoRow.laid W) (hS : W.ShapedOpen Tryz.prog)
    (hv : avOf W.heap.size v = some b) (h : RdS (HI W) b l) (hc : SlOk (HI W) b) : Calls Tryz.prog 4 #[v] W fun e W' => e = .returned (.bool true) ∧ KeptAll W W' := by
  obtain ⟨hsz, a0, a1, hG⟩ := holds_start hL hS
  have h4 : 4 < ngl := by decide
  obtain ⟨_, hx⟩ := mainDec_ok hG (l := l) ⟨h, hc, fun x e => by rw [HI_next]; exact avOf_blk (by omega) hv e⟩
  intro cs
  obtain ⟨v, w', fr, ⟨v2, H2, ⟨rfl, hk⟩, m2, hst, hv⟩, hs, hk', hfn, hl⟩ := hx (mI W.heap.size) W [v] (rel_start hsz) (.cons _ _ _ _ (avOf_vr hv) .nil) cs (.inl rfl)
  cases hv
  exact ⟨_, w', fr, ⟨rfl, kept_start hst fun b hb => hk.2 b (by rw [HI_next]; exact hb) id⟩, hs, hfn, hl.mode, hl.defers, hk', hl.fn⟩
end Go.Proofs.YtoigokkeaddceaaGreatDoor
