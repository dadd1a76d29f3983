/- The law returns true at every input that the row and its card speak of, and the input reads as it did. No other condition. -/
import Derived.Test.YtcfpppleiikjhaaGreatDoorCards
import Derived.Test.YtcfpppleiikjhaaGreatDoorTie
import Derived.SevenTiedAt
import Derived.Test.YtcfpppleiikjhaaGreatDoorS5
import Derived.Test.YtcfpppleiikjhaaGreatDoorS6b
import Derived.Test.YtcfpppleiikjhaaGreatDoorS6c
import Derived.Test.YtcfpppleiikjhaaGreatDoorS6d
namespace Go.Proofs.YtcfpppleiikjhaaGreatDoor
open Go.ChangeShapes Go.WideShapes Go.ChangeAt Go.RowKit
theorem proved : Rows.ShrinkTruncatesUptoCardSaid :=
  Claim7.holds_tied_plain_at .later [] [.handle, .sentinel, .sentinel] true (true, "f5d9577c68342910292a0e127ba5f870044a938ed98235572fecb0a27016c54e") true over (fun _ h => by cases h) cardWf (fun _ h => by cases h) shrinkTruncatesUpto_row_tie rfl ⟨rfl, rfl⟩ cardMain rfl
    (fun f fn hf hfn => by
      obtain rfl : f = 3 := Option.some.inj (named.symm.trans hf) |>.symm
      obtain rfl : fn = Tryz.f3 := (Option.some.inj (Tryz.func3.symm.trans hfn)).symm
      exact ⟨cardLooks, fun j t ht => by
        rw [Tryz.params3] at ht
        have ht' := Array.mem_of_getElem? ht
        simp only [List.mem_toArray, List.mem_cons, List.not_mem_nil, or_false] at ht'
        rcases ht' with rfl | rfl | rfl | rfl
        · exact cardStands
        · exact cardStands3
        · exact cardStands23
        · exact cardStands⟩)
    cardGoes
#print axioms proved
end Go.Proofs.YtcfpppleiikjhaaGreatDoor
