/- The law returns true at every input, as the row and its card say; the listed variables read as the card lists them. No other condition. -/
import Derived.Test.YtfcjjabbnilphaaGreatDoorCards
import Derived.Test.YtfcjjabbnilphaaGreatDoorTie
import Derived.SevenTiedAt
import Derived.Test.YtfcjjabbnilphaaGreatDoorS5
import Derived.Test.YtfcjjabbnilphaaGreatDoorS6b
import Derived.Test.YtfcjjabbnilphaaGreatDoorS6c
import Derived.Test.YtfcjjabbnilphaaGreatDoorS6d
namespace Go.Proofs.YtfcjjabbnilphaaGreatDoor
open Go.ChangeShapes Go.WideShapes Go.ChangeAt Go.RowKit
/-- the statement -/
theorem proved : Rows.ShrinkNamesCardSaid :=
  Claim7.holds_tied_plain_at .later [] [.handle, .sentinel, .sentinel] true (true, "c8a5dcdc697c93e5819be253e6fe1702f31235c80ad3c6c9175df9c6637ec225") true over (fun _ h => by cases h) cardWf (fun _ h => by cases h) shrinkNames_row_tie rfl ⟨rfl, rfl⟩ cardMain rfl
    (fun f fn hf hfn => by
      obtain rfl : f = 3 := Option.some.inj (named.symm.trans hf) |>.symm
      obtain rfl : fn = Tryz.f3 := (Option.some.inj (Tryz.func3.symm.trans hfn)).symm
      exact ⟨cardLooks, fun j t ht => by
        rw [Tryz.params3] at ht
        simp at ht⟩)
    cardGoes
#print axioms proved
end Go.Proofs.YtfcjjabbnilphaaGreatDoor
