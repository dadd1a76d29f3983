/- A part of the proof of this seat's statement. Conditions: in each theorem. -/
import Derived.Test.YtfgipbjaapkdlaaGreatDoorM2
import Derived.Test.YtfgipbjaapkdlaaGreatDoorM3
namespace Go.Proofs.YtfgipbjaapkdlaaGreatDoor
open Go.RowKit Go.Xq
theorem main_calls {W : World} {c0 c1 c2 : List Value} {rx : Xv} {ix : Ixd} {r1 r2 : Rv} {x1 x2 : Rec9} (hL : laidMetH Tryz.prog Rows.indexEntriesUptoRow.laid W) (hS : W.ShapedOpen Tryz.prog)
  (e0 : VL (mI W.heap.size) (avl (encX rx)) c0) (e1 : VL (mI W.heap.size) (avl (encR r1)) c1) (e2 : VL (mI W.heap.size) (avl (encR r2)) c2) (hi : IxAt (HI W) (HI W).next rx ix) (h1 : RecAt (HI W) (HI W).next r1 x1) (h2 : RecAt (HI W) (HI W).next r2 x2)
  (hik : IxOk ix) (ok1 : RecOk9 x1) (ok2 : RecOk9 x2) (hkl : ix.ks.length < 1073741824) (hf1 : x1.fs.length < 1073741824) (hf2 : x2.fs.length < 1073741824) :
  Calls Tryz.prog 3 #[.agg c0.toArray, .agg c1.toArray, .agg c2.toArray] W fun e W' => e = .returned (.bool true) ∧ KeptAll W W' := by
 obtain ⟨hsz, hG⟩ := holds_start hL hS
 obtain ⟨_, hx⟩ := main_ok hG hi h1 h2 hik ok1 ok2 hkl hf1 hf2
 intro cs'
 obtain ⟨v, w', fr, ⟨v2', H2, ⟨rfl, hk⟩, m2, hst, hv⟩, hs, hk', hfn, hl⟩ := hx (mI W.heap.size) W [.agg c0.toArray, .agg c1.toArray, .agg c2.toArray] (rel_start hsz) (.cons _ _ _ _ (.agg _ _ e0) (.cons _ _ _ _ (.agg _ _ e1) (.cons _ _ _ _ (.agg _ _ e2) .nil))) cs' (.inl rfl)
 cases hv
 exact ⟨_, w', fr, ⟨rfl, kept_start hst fun b hb => hk.2 b (by rw [HI_next]; exact hb) id⟩, hs, hfn, hl.mode, hl.defers, hk', hl.fn⟩
end Go.Proofs.YtfgipbjaapkdlaaGreatDoor
