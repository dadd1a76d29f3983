/- The law returns true at every input, as the row and its card say; the listed variables read as the card lists them. No other condition. -/
import Derived.Test.YtgmdgccgmjcbdaaGreatDoorCards
import Derived.Test.YtgmdgccgmjcbdaaGreatDoorTie
import Derived.SevenTiedAt
import Derived.Test.YtgmdgccgmjcbdaaGreatDoorS5
import Derived.Test.YtgmdgccgmjcbdaaGreatDoorS6b
import Derived.Test.YtgmdgccgmjcbdaaGreatDoorS6c
import Derived.Test.YtgmdgccgmjcbdaaGreatDoorS6d
namespace Go.Proofs.YtgmdgccgmjcbdaaGreatDoor
open Go.ChangeShapes Go.WideShapes Go.ChangeAt Go.RowKit
/-- the statement -/
theorem proved : Rows.DiffNamesCardSaid :=
  Claim7.holds_tied_plain_at .later [] [.handle, .sentinel, .sentinel] true (true, "00b1171d6894b248a8594def78194f5d784aefa462824d22876968a726e6ffd2") true over (fun _ h => by cases h) cardWf (fun _ h => by cases h) diffNames_row_tie rfl ⟨rfl, rfl⟩ cardMain rfl
    (fun f fn hf hfn => by
      obtain rfl : f = 3 := Option.some.inj (named.symm.trans hf) |>.symm
      obtain rfl : fn = Tryz.f3 := (Option.some.inj (Tryz.func3.symm.trans hfn)).symm
      exact ⟨cardLooks, fun j t ht => by
        rw [Tryz.params3] at ht
        simp at ht⟩)
    cardGoes
#print axioms proved
end Go.Proofs.YtgmdgccgmjcbdaaGreatDoor
