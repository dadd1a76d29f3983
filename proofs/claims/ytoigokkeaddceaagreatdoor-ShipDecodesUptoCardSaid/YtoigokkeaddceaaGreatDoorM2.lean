/- A part of the proof of this seat's statement: what is particular to its program. Its conditions stand in each theorem. -/
import Derived.Test.YtoigokkeaddceaaGreatDoorK8
import Derived.Test.YtoigokkeaddceaaGreatDoorZ4
import Derived.SizedLaws
import Derived.Test.YtoigokkeaddceaaGreatDoorRows
namespace Go.Proofs.YtoigokkeaddceaaGreatDoor
open Go.Xq Go.ChangeShapes Go.Deep
noncomputable section
section
variable {H : Type} {enc : TypeId × Value → H} {w : World}
def Wt (t : TypeId) (d : DataW H) : Prop := ∀ n ∈ d.weights Tryz.prog t, n ≤ reachBytes
theorem avOf_blk {n : Nat} {v : Value} {a : AV} (hn : 0 < n) (h : avOf n v = some a) {b : Nat} (hb : blk a = some b) : b < n := by
  unfold avOf at h
  split at h
  · cases h; cases hb
  · cases h; cases hb
  · cases h; cases hb
  · cases h; cases hb
  · split at h
    · cases h; cases hb
    · cases h
  · split at h
    · cases h; cases hb; exact hn
    · split at h
      · rename_i e
        cases h; cases hb
        exact e.2
      · cases h
  · cases h
theorem slOk_of {k : Nat} {v : Value} {x : DataW H × List MemPlace} {a : AV} {G : AH} (h : DataW.trod enc Tryz.prog w 0 (fun _ => true) true k 23 [v] = some x) (ha : avOf w.heap.size v = some a) : SlOk G a := by
  rcases open_slice1 Tryz.underlying23 (by kernel_rfl) h with ⟨e1, e2⟩ | ⟨a', len, cap, m, n, V, D, Pl, e1, hb, hl, hm, hmm, e2, hx⟩
  · cases e1
    cases ha
    exact .inl rfl
  · cases e1
    rw [if_pos rfl] at hmm
    subst hmm
    unfold avOf at ha
    dsimp only at ha
    split at ha
    · cases ha
      exact .inr (.inl ⟨0, 0, 0, 0, rfl, Nat.le_refl _⟩)
    · split at ha
      · cases ha
        exact .inr (.inl ⟨_, _, _, _, rfl, hl⟩)
      · cases ha
end
end
end Go.Proofs.YtoigokkeaddceaaGreatDoor
