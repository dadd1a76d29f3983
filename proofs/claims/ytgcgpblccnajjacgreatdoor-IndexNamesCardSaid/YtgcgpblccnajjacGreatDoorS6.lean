/- A part of the proof of this seat's statement: what is particular to its program. Its conditions stand in each theorem. -/
import Derived.Test.YtgcgpblccnajjacGreatDoorCards
import Derived.Test.YtgcgpblccnajjacGreatDoorTie
import Derived.SevenTiedAt
import Derived.Test.YtgcgpblccnajjacGreatDoorS5
namespace Go.Proofs.YtgcgpblccnajjacGreatDoor
open Go.ChangeShapes Go.WideShapes Go.ChangeAt Go.RowKit
/-- the statement -/
theorem proved : Rows.IndexNamesCardSaid :=
  Claim7.holds_tied_plain_at .later [] [.data, .pinned] true (true, "95746e3f9a99a63c9b48ac6b6ad0e12a33174958de82b9178e5efee8c9f0c83f") true over (fun _ h => by cases h) (by kernel_rfl) (fun _ h => by cases h) indexNames_row_tie rfl ⟨rfl, rfl⟩ (by kernel_rfl) rfl
    (fun f fn hf hfn => by
      obtain rfl : f = 3 := Option.some.inj ((show Tryz.prog.funcNamed "espalier/espalierlaw19.IndexNames" = some 3 by kernel_rfl).symm.trans hf) |>.symm
      obtain rfl : fn = Tryz.f3 := (Option.some.inj (Tryz.func3.symm.trans hfn)).symm
      exact ⟨by kernel_rfl, fun j t ht => by
        rw [Tryz.params3] at ht
        simp at ht⟩)
    (by kernel_rfl)
#print axioms proved
end Go.Proofs.YtgcgpblccnajjacGreatDoor
