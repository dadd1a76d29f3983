/- A part of the proof of this seat's statement: what is particular to its program. Its conditions stand in each theorem. -/
import Derived.Test.YtoigokkeaddceaaGreatDoorS3
import Derived.Test.YtoigokkeaddceaaGreatDoorZ5
import Derived.Test.YtoigokkeaddceaaGreatDoorZ4
namespace Go.Proofs.YtoigokkeaddceaaGreatDoor
open Go.Xq
noncomputable section
theorem tyOk : TyOk Tryz.prog E := tyOk_of _ _ _ _ _
def mk (n i : Nat) : UInt8 := UInt8.ofNat (n + i / 251)
def marks (n len : Nat) : List UInt8 := (List.range len).map (mk n)
def Own (H : AH) (lo hi : Nat) (v : AV) (l : List UInt8) : Prop :=
  (v = .snil ∧ l = []) ∨ (∃ b, v = .sl b 0 0 (some 0) ∧ l = []) ∨ ∃ b, v = .sl b 0 l.length none ∧ l ≠ [] ∧ lo ≤ b ∧ b < hi ∧ H.get b = some (bb 5 true l)
end
end Go.Proofs.YtoigokkeaddceaaGreatDoor
namespace Go.Proofs.YtoigokkeaddceaaGreatDoor
open Go.Xq
noncomputable section
def tail9 : List UInt8 := [200, 201, 202, 203, 204, 205, 206, 207, 208]
theorem mkZero5 (m : Nat) : mkZero E 5 m = some (.bys 5 m false 0) := by kernel_rfl
end
end Go.Proofs.YtoigokkeaddceaaGreatDoor
namespace Go.Proofs.YtoigokkeaddceaaGreatDoor
open Go.Xq
noncomputable section
def over77 (j : Nat) (l : List UInt8) : List UInt8 := List.replicate j 77 ++ l.drop j
theorem rd_bb' {e : Nat} {o : Bool} {l : List UInt8} {i : Nat} {x : UInt8} (h : l[i]? = some x) : rdCell (bb e o l) i = some (AV.int .u8 (x.toNat : Int)) := by
  have := bytesAt_bb e o l i x h
  rwa [Nat.zero_add] at this
end
end Go.Proofs.YtoigokkeaddceaaGreatDoor
namespace Go.Proofs.YtoigokkeaddceaaGreatDoor
open Go.Xq
noncomputable section
def z1 : AV := .cons .snil .nil
structure BookAt (H : AH) (B pb : Nat) (S : List AV) where
  bl : AV
  o : AObj
  low : B ≤ pb
  lt : pb < H.next
  get : H.get pb = some o
  el : ElB enc1 36 1 false z1 [bl] o
  bytes : LstAt enc1 23 1 z1 H B bl S
  d1 : ∀ b, blk bl = some b → b ≠ pb
def BookAt.keep {H H2 : AH} {B pb : Nat} {S : List AV} {W : Nat → Prop} (h : BookAt H B pb S) (hk : Keep W H H2) (hw : ∀ b, B ≤ b → ¬ W b) : BookAt H2 B pb S :=
  ⟨h.bl, h.o, h.low, Nat.lt_of_lt_of_le h.lt hk.1, hk.get h.lt (hw _ h.low) h.get, h.el, h.bytes.keep hk (fun _ e => hw _ (h.bytes.low e).1), h.d1⟩
end
end Go.Proofs.YtoigokkeaddceaaGreatDoor
namespace Go.Proofs.YtoigokkeaddceaaGreatDoor
open Go.Xq
noncomputable section
def sblk : AV → Option Nat
  | .sl b _ _ none => some b
  | _ => none
def Apart (l : List AV) : Prop := l.Pairwise fun v w => ∀ b, sblk v = some b → sblk w ≠ some b
def mix (k : Nat) (m l : List UInt8) : List UInt8 := m.take k ++ l.drop k
def ofS (S : List AV) : Nat → Prop := fun b => ∃ u ∈ S, sblk u = some b
theorem s5 : (tyOf E 5).isSome = true := by kernel_rfl
theorem n5 : ((tyOf E 5).get s5).size = 1 := by kernel_rfl
theorem a5 : appOk ((tyOf E 5).get s5) (.int .u8 0) = true := by kernel_rfl
theorem g5 : grownK E 5 = some ⟨grownBy 5⟩ := by kernel_rfl
def AppB (H : AH) (v : AV) (l : List UInt8) (y : UInt8) (v' : AV) (H2 : AH) : Prop :=
  (∃ b, v = .sl b 0 l.length none ∧ l ≠ [] ∧ H.get b = some (bb 5 true l) ∧ v' = .sl b 0 (l.length + 1) none ∧ H2 = H.set b (bb 5 true (l ++ [y]))) ∨
  (v' = .sl H.next 0 (l.length + 1) none ∧ H2 = H.new (bb 5 true (l ++ [y])))
section
variable {b : Frame} {n : Cx} {T : Tr AV} {D : List ADf} {H : AH} {Q : Out → Prop}
end
end
end Go.Proofs.YtoigokkeaddceaaGreatDoor
namespace Go.Proofs.YtoigokkeaddceaaGreatDoor
open Go.Xq
noncomputable section
def Good (H : AH) (v : AV) (j len : Nat) : Prop := ∃ b N, v = .sl b 0 len none ∧ 0 < len ∧ len ≤ N ∧ b < H.next ∧ H.get b = some (bb 5 true (marks j N))
def GoodS (H : AH) (v : AV) (j len : Nat) : Prop := (v = .snil ∧ len = 0) ∨ (∃ b, v = .sl b 0 0 (some 0) ∧ len = 0) ∨ Good H v j len
structure Ph2 (S : List AV) (Bs : List (List UInt8)) (H H1 : AH) (B i : Nat) (gv : AV) (G : List AV) (H2 : AH) : Prop where
  le : i ≤ S.length
  keep : Keep (ofS S) H H2
  next : H1.next ≤ H2.next
  lst : LstAt enc1 23 1 z1 H2 H1.next gv G
  len : G.length = 5 * i
  own : ∀ (j : Nat) (v : AV) (l : List UInt8), S[j]? = some v → Bs[j]? = some l → (i ≤ j → Own H2 0 B v (marks j l.length)) ∧ GoodS H2 v j l.length
  good : ∀ (t : Nat) (g : AV), G[t]? = some g → ∃ len, Good H2 g (t / 5) len ∧ len ≤ 8388640
structure Ph2i (S : List AV) (Bs : List (List UInt8)) (H H1 : AH) (B i n : Nat) (v : AV) (k : Nat) (cur gv : AV) (G : List AV) (H3 : AH) : Prop where
  le : k ≤ 20
  keep : Keep (ofS S) H H3
  next : H1.next ≤ H3.next
  lst : LstAt enc1 23 1 z1 H3 H1.next gv G
  len : (k ≤ 3 → G.length = 5 * i + k) ∧ (3 ≤ k → k ≤ 8 → G.length = 5 * i + 3) ∧ (9 ≤ k → k ≤ 19 → G.length = 5 * i + 4) ∧ (20 ≤ k → G.length = 5 * i + 5)
  own0 : Own H3 0 H3.next cur (marks i (n + k))
  src : ∀ b, sblk cur = some b → sblk v = some b ∨ H1.next ≤ b
  own : ∀ (j : Nat) (w : AV) (m : List UInt8), S[j]? = some w → Bs[j]? = some m → (i < j → Own H3 0 B w (marks j m.length)) ∧ GoodS H3 w j m.length
  good : ∀ (t : Nat) (g : AV), G[t]? = some g → ∃ len, Good H3 g (t / 5) len ∧ len ≤ 8388640
end
end Go.Proofs.YtoigokkeaddceaaGreatDoor
