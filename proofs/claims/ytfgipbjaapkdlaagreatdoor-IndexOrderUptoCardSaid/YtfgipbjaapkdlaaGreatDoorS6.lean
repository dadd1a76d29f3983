/- The law returns true at every input that the row and its card speak of, and the input reads as it did. No other condition. -/
import Derived.Test.YtfgipbjaapkdlaaGreatDoorCards
import Derived.Test.YtfgipbjaapkdlaaGreatDoorTie
import Derived.SevenTiedAt
import Derived.Test.YtfgipbjaapkdlaaGreatDoorS5
import Derived.Test.YtfgipbjaapkdlaaGreatDoorS6b
import Derived.Test.YtfgipbjaapkdlaaGreatDoorS6c
import Derived.Test.YtfgipbjaapkdlaaGreatDoorS6d
namespace Go.Proofs.YtfgipbjaapkdlaaGreatDoor
open Go.ChangeShapes Go.WideShapes Go.ChangeAt Go.RowKit
theorem proved : Rows.IndexOrderUptoCardSaid :=
  Claim7.holds_tied_plain_at .later [] [.data, .pinned] true (true, "598b7f3535e89ead2e4c5087b3d89f3663a3d5ceb7ebdf5cb320712f98f94d53") true over (fun _ h => by cases h) cardWf (fun _ h => by cases h) indexOrderUpto_row_tie rfl ⟨rfl, rfl⟩ cardMain rfl
    (fun f fn hf hfn => by
      obtain rfl : f = 4 := Option.some.inj (named.symm.trans hf) |>.symm
      obtain rfl : fn = Tryz.f4 := (Option.some.inj (Tryz.func4.symm.trans hfn)).symm
      exact ⟨cardLooks, fun j t ht => by
        rw [Tryz.params4] at ht
        have ht' := Array.mem_of_getElem? ht
        simp only [List.mem_toArray, List.mem_cons, List.not_mem_nil, or_false] at ht'
        rcases ht' with rfl | rfl | rfl
        · exact cardStands24
        · exact cardStands30
        · exact cardStands30⟩)
    cardGoes
#print axioms proved
end Go.Proofs.YtfgipbjaapkdlaaGreatDoor
