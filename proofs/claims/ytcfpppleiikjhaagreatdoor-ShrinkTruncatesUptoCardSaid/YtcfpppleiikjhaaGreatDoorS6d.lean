/- A part of the proof of this seat's statement: what is particular to its program. Its conditions stand in each theorem. -/
import Derived.Test.YtcfpppleiikjhaaGreatDoorRows
import Derived.SevenTiedAt
import Derived.KernelRfl
namespace Go.Proofs.YtcfpppleiikjhaaGreatDoor
set_option maxRecDepth 100000 in
theorem cardGoes : false = Rows.shrinkTruncatesUptoRow.goesBy Tryz.prog := by kernel_rfl
end Go.Proofs.YtcfpppleiikjhaaGreatDoor
