/- The law returns true at every input, as the row and its card say; the listed variables read as the card lists them. No other condition. -/
import Derived.Test.YtnephpkcchoeaaaGreatDoorCards
import Derived.Test.YtnephpkcchoeaaaGreatDoorTie
import Derived.SevenTiedAt
import Derived.Test.YtnephpkcchoeaaaGreatDoorS5
import Derived.Test.YtnephpkcchoeaaaGreatDoorS6b
import Derived.Test.YtnephpkcchoeaaaGreatDoorS6c
namespace Go.Proofs.YtnephpkcchoeaaaGreatDoor
open Go.ChangeShapes Go.WideShapes Go.ChangeAt Go.RowKit
/-- the statement -/
theorem proved : Rows.ShipNumbersCardSaid :=
  Claim7.holds_tied_plain_at .later [] [.handle, .sentinel, .sentinel] true (true, "3bb934c22a90d30098f1607dbaca61eb61406f3f98f2cad00118f247d2218452") true over (fun _ h => by cases h) cardWf (fun _ h => by cases h) shipNumbers_row_tie rfl ⟨rfl, rfl⟩ cardMain rfl
    (fun f fn hf hfn => by
      obtain rfl : f = 3 := Option.some.inj (named.symm.trans hf) |>.symm
      obtain rfl : fn = Tryz.f3 := (Option.some.inj (Tryz.func3.symm.trans hfn)).symm
      exact ⟨cardLooks, fun j t ht => by
        rw [Tryz.params3] at ht
        simp at ht⟩)
    cardGoes
#print axioms proved
end Go.Proofs.YtnephpkcchoeaaaGreatDoor
