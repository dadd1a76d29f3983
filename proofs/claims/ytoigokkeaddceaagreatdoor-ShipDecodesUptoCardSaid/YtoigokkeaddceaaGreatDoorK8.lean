/- A part of the proof of this seat's statement: what is particular to its program. Its conditions stand in each theorem. -/
import Derived.Test.YtoigokkeaddceaaGreatDoorK7
namespace Go.Proofs.YtoigokkeaddceaaGreatDoor
open Go.Xq
noncomputable section
def bulkP (ps : List (Int × List UInt8)) : Nat := (ps.map fun p => 40 + p.2.length).sum
def bulkD (d : Dl) : Nat := d.meta_.length + bulkP d.pages
end
end Go.Proofs.YtoigokkeaddceaaGreatDoor
namespace Go.Proofs.YtoigokkeaddceaaGreatDoor
open Go.Xq
noncomputable section
def lentP (M i : Nat) (p : Int × List UInt8) : Pv := ⟨p.1, .sl (M + 2 + i) 0 p.2.length (some (p.2.length + 9)), rfl⟩
def behindP : Pv := ⟨-7, .snil, rfl⟩
def rowP (M : Nat) (ps : List (Int × List UInt8)) (i : Nat) : Pv := match ps[i]? with
  | some p => lentP M i p
  | none => behindP
def allP (M : Nat) (ps : List (Int × List UInt8)) : List Pv := (List.range (ps.length + 2)).map (rowP M ps)
structure LentAt (H : AH) (M : Nat) (d : Dl) (els : List Pv) (n : Nat) : Prop where
  meta_ : H.get M = some (bb 5 false (d.meta_ ++ tail9))
  el : ∃ o, H.get (M + 1) = some o ∧ ElB encPv 67 2 false zPv els o
  data : ∀ (i : Nat) (p : Int × List UInt8), i < n → d.pages[i]? = some p → H.get (M + 2 + i) = some (bb 5 false (p.2 ++ tail9))
def lentA (M : Nat) (d : Dl) : AV := dlA d (.sl (M + 1) 0 d.pages.length (some (d.pages.length + 2))) (.sl M 0 d.meta_.length (some (d.meta_.length + 9)))
end
end Go.Proofs.YtoigokkeaddceaaGreatDoor
namespace Go.Proofs.YtoigokkeaddceaaGreatDoor
open Go.Xq
noncomputable section
def overP : Pv := ⟨-8, .snil, rfl⟩
def lentW (M n : Nat) : Nat → Prop := fun b => M ≤ b ∧ b < M + 2 + n
end
end Go.Proofs.YtoigokkeaddceaaGreatDoor
