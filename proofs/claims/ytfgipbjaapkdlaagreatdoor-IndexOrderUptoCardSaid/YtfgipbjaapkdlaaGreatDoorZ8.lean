/- Contracts of calls and rules for code. Conditions: in each theorem. -/
import Derived.Test.YtfgipbjaapkdlaaGreatDoorZ7
namespace Go.Xq
noncomputable section
section
variable {P : Program} {b : Frame} {n : Cx} {T : Tr AV} {D : List ADf} {H : AH} {Q : Out → Prop}
end
def entN (j : Nat) (p : Nat × Nat) : MEnt := ⟨.int .i64 (p.1 : Int), .int .i64 (p.2 : Int), j⟩
def entsN (l : List (Nat × Nat)) : List MEnt := l.mapIdx entN
def mpN (l : List (Nat × Nat)) : AObj := .mp (entsN l) l.length
def kyI : KyK := ⟨kyInt⟩
def posN (k : Nat) (l : List (Nat × Nat)) : Option Nat := l.findIdx? fun p => decide (k = p.1)
def layN (l : List (Nat × Nat)) (k v : Nat) : List (Nat × Nat) := match posN k l with
  | none => l ++ [(k, v)]
  | some j => l.set j (k, v)
def NodupK (l : List (Nat × Nat)) : Prop := (l.map (·.1)).Nodup
end
end Go.Xq
namespace Go.Xq
noncomputable section
section
variable {P : Program} {b : Frame} {n : Cx} {H : AH} {Q : Out → Prop}
end
end
end Go.Xq
namespace Go.Xq
noncomputable section
def leftN (n : Nat) (seen : List Nat) : Nat := ((List.range n).filter fun j => !decide (j ∈ seen)).length
structure GoodL (l : List (Nat × Nat)) (wl : List (Nat × List UInt8)) : Prop where
  uniq : ∀ (i j : Nat) (e f : Nat × Nat), l[i]? = some e → l[j]? = some f → e.1 = f.1 → i = j
  is : ∀ (j : Nat) (e : Nat × Nat), l[j]? = some e → ∃ w, wl[e.2]? = some w ∧ w.1 = e.1
def imgL (P : Nat) (safe : List UInt8) (wl : List (Nat × List UInt8)) (l : List (Nat × Nat)) : List UInt8 := safe.mapIdx fun k x => match l.find? fun e => decide (e.1 = k / P) with
  | none => x
  | some e => ((wl[e.2]?).bind fun w => w.2[k % P]?).getD x
structure Img (P : Nat) (safe : List UInt8) (wl : List (Nat × List UInt8)) (l : List (Nat × Nat)) (seen : List Nat) (out : List UInt8) : Prop where
  len : out.length = safe.length
  yes : ∀ (k j : Nat) (e : Nat × Nat) (w : Nat × List UInt8), k < safe.length → j ∈ seen → l[j]? = some e → e.1 = k / P → wl[e.2]? = some w → out[k]? = w.2[k % P]?
  no : ∀ k : Nat, (∀ (j : Nat) (e : Nat × Nat), j ∈ seen → l[j]? = some e → e.1 ≠ k / P) → out[k]? = safe[k]?
end
end Go.Xq
namespace Go.Xq
noncomputable section
namespace Tr
variable {α : Type}
end Tr
end
end Go.Xq
namespace Go.Xq
noncomputable section
end
end Go.Xq
