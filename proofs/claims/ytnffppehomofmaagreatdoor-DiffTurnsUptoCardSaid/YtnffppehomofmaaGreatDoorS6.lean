/- The law returns true at every input that the row and its card speak of, and the input reads as it did. No other condition. -/
import Derived.Test.YtnffppehomofmaaGreatDoorCards
import Derived.Test.YtnffppehomofmaaGreatDoorTie
import Derived.SevenTiedAt
import Derived.Test.YtnffppehomofmaaGreatDoorS5
import Derived.Test.YtnffppehomofmaaGreatDoorS6b
import Derived.Test.YtnffppehomofmaaGreatDoorS6c
import Derived.Test.YtnffppehomofmaaGreatDoorS6d
namespace Go.Proofs.YtnffppehomofmaaGreatDoor
open Go.ChangeShapes Go.WideShapes Go.ChangeAt Go.RowKit
/-- the statement -/
theorem proved : Rows.DiffTurnsUptoCardSaid :=
  Claim7.holds_tied_plain_at .later [] [.handle, .sentinel, .sentinel] true (true, "fa452e41eaf35638c7129d3b723ba103b3f8a89a4ec8940834b48b24884166e9") true over (fun _ h => by cases h) cardWf (fun _ h => by cases h) diffTurnsUpto_row_tie rfl ⟨rfl, rfl⟩ cardMain rfl
    (fun f fn hf hfn => by
      obtain rfl : f = 3 := Option.some.inj (named.symm.trans hf) |>.symm
      obtain rfl : fn = Tryz.f3 := (Option.some.inj (Tryz.func3.symm.trans hfn)).symm
      exact ⟨cardLooks, fun j t ht => by
        rw [Tryz.params3] at ht
        obtain rfl : t = 22 := by simpa using Array.mem_of_getElem? ht
        exact cardStands⟩)
    cardGoes
#print axioms proved
end Go.Proofs.YtnffppehomofmaaGreatDoor
