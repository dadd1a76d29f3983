/- A part of the proof of this seat's statement: what is particular to its program. Its conditions stand in each theorem. -/
import Derived.Test.YtoigokkeaddceaaGreatDoorK5
import Derived.Test.YtoigokkeaddceaaGreatDoorZ6
namespace Go.Proofs.YtoigokkeaddceaaGreatDoor
open Go.Xq
noncomputable section
def head1 (d : Dl) : Prop := (d.engine = 1 ∨ d.engine = 2) ∧ isPgI d.page = true ∧ 0 ≤ d.frm ∧ d.to ≤ 1099511627776 ∧ d.frm ≤ d.to
def head2 (m : Mt) (d : Dl) : Prop := m.engine = d.engine ∧ m.page = d.page ∧ m.txn = d.to
end
end Go.Proofs.YtoigokkeaddceaaGreatDoor
