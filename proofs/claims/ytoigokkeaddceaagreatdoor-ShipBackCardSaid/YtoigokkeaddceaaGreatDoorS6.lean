/- The law returns true at every input that the row and its card speak of, and the input reads as it did. No other condition. -/
import Derived.Test.YtoigokkeaddceaaGreatDoorCards
import Derived.Test.YtoigokkeaddceaaGreatDoorTie
import Derived.SevenTiedAt
import Derived.Test.YtoigokkeaddceaaGreatDoorS5
import Derived.Test.YtoigokkeaddceaaGreatDoorS6b
import Derived.Test.YtoigokkeaddceaaGreatDoorS6c
import Derived.Test.YtoigokkeaddceaaGreatDoorS6d
namespace Go.Proofs.YtoigokkeaddceaaGreatDoor
open Go.ChangeShapes Go.WideShapes Go.ChangeAt Go.RowKit
theorem proved : Rows.ShipBackCardSaid :=
  Claim7.holds_tied_plain_at .later [] [.handle, .sentinel, .sentinel] true (true, "86041da16ba58ba142439a1279556a9631c196429f26f012df5eb67b58b78826") true over (fun _ h => by cases h) cardWf (fun _ h => by cases h) shipBack_row_tie rfl ⟨rfl, rfl⟩ cardMain rfl
    (fun f fn hf hfn => by
      obtain rfl : f = 5 := Option.some.inj (named.symm.trans hf) |>.symm
      obtain rfl : fn = Tryz.f5 := (Option.some.inj (Tryz.func5.symm.trans hfn)).symm
      exact ⟨cardLooks, fun j t ht => by
        rw [Tryz.params5] at ht
        have hm : t = 25 ∨ t = 3 ∨ t = 23 := by simpa using Array.mem_of_getElem? ht
        rcases hm with rfl | rfl | rfl
        · exact cardStands
        · exact cardStands3
        · exact cardStands23⟩)
    cardGoes
#print axioms proved
end Go.Proofs.YtoigokkeaddceaaGreatDoor
