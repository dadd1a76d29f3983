/- The law returns true at every input, as the row and its card say; the listed variables read as the card lists them. No other condition. -/
import Derived.Test.YtkmfhacbgobklaaGreatDoorCards
import Derived.Test.YtkmfhacbgobklaaGreatDoorTie
import Derived.SevenTiedAt
import Derived.Test.YtkmfhacbgobklaaGreatDoorS5
import Derived.Test.YtkmfhacbgobklaaGreatDoorS6b
import Derived.Test.YtkmfhacbgobklaaGreatDoorS6c
namespace Go.Proofs.YtkmfhacbgobklaaGreatDoor
open Go.ChangeShapes Go.WideShapes Go.ChangeAt Go.RowKit
/-- the statement -/
theorem proved : Rows.StoreNumbersCardSaid :=
  Claim7.holds_tied_plain_at .later [] [.handle, .sentinel, .sentinel] true (true, "395a165d746b316b2cf3e9e49fedc533cacb25694f0578740b30313049f8294a") true over (fun _ h => by cases h) cardWf (fun _ h => by cases h) storeNumbers_row_tie rfl ⟨rfl, rfl⟩ cardMain rfl
    (fun f fn hf hfn => by
      obtain rfl : f = 3 := Option.some.inj (named.symm.trans hf) |>.symm
      obtain rfl : fn = Tryz.f3 := (Option.some.inj (Tryz.func3.symm.trans hfn)).symm
      exact ⟨cardLooks, fun j t ht => by
        rw [Tryz.params3] at ht
        simp at ht⟩)
    cardGoes
#print axioms proved
end Go.Proofs.YtkmfhacbgobklaaGreatDoor
