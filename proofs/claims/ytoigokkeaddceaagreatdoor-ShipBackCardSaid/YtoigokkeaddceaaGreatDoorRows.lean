/-
  NARROWER THAN 'FOR EVERY INPUT', by the rows' own cells (each row's printed sentence says how): ShipEncodes: laid · ShipDecodes: laid · ShipBack: laid.
  DERIVED. THE GIVEN ROWS OF THIS SEAT. 3 by the template 'for every input the law returns true; each argument reads behind the call as it read before'; 0 by the template 'total and deterministic' (their statements: YtoigokkeaddceaaGreatDoorTotals.lean).
  GIVEN WITH THE SEED: the statements are not yours to turn. If you find one false, say at which input.
  Laid BY PROGRAM, IN A SANDBOX (cutbox-rows.mjs): the forced cells as the released guide's own fill.sh prints them over the translation 6c080076194d8e57… (all of the seat's roots in one cut). By AI agents, Wed Nov 11 2026. No macro, syntax, notation, axiom, sorry.
-/
import Derived.Test.YtoigokkeaddceaaGreatDoorChecked
import GoSem.Claim
import GoSem.ClaimJoined
import GoSem.ClaimMapViews
import Derived.JoinedTies
import Derived.KernelRfl
namespace Go.Proofs.YtoigokkeaddceaaGreatDoor
/- THE CELL 'sum', in the pinned program and in every row, IS THE sha256 OF THE DUMP (.gsa) THAT YtoigokkeaddceaaGreatDoorProg.lean LOADS. Nothing in Lean hashes anything: it is a label: what it is worth is what the hold of that sum in a sandbox is worth. -/
noncomputable def Tryz.pinned : Pinned := { name := "ytoigokkeaddceaagreatdoor", sum := "6c080076194d8e57e1c5ed74b566969fa5d49154d6c8c2bd21519cff4f7d38ff", checked := Tryz.checked }
namespace Rows
def none {H : Type} : Left H := { results := [], args := [] }

/- WHAT THE LISTED PACKAGE-LEVEL VARIABLES READ AS WHEN THE CALL BEGINS. Each datum BY PROGRAM (the guide's laid-datum.mjs) off the statement by which the dump's own 'gosem.cut.vars' lays the variable. In a bare row this is a premise. The card (YtoigokkeaddceaaGreatDoorCards.lean) ties it to the program's text. -/
def laid_errors_errorType {H : Type} : DataW H := .iface "internal/reflectlite.rtype" (.agg [.ptr (.lit (.string [101, 114, 114, 111, 114]))])
def laid_espalier_store_errDown {H : Type} : DataW H := .iface "*errors.errorString" (.ptr (.agg [.lit (.string [116, 104, 101, 32, 100, 101, 118, 105, 99, 101, 32, 105, 115, 32, 100, 111, 119, 110])]))
def laid_espalier_store_errFull {H : Type} : DataW H := .iface "*errors.errorString" (.ptr (.agg [.lit (.string [110, 111, 32, 112, 97, 103, 101, 32, 105, 115, 32, 108, 101, 102, 116])]))

/-- 'espalierlaw23.ShipEncodes': WHATEVER THE INPUT: true; the input reads as it did. -/
def shipEncodesSpec : ChangeSpec := { name := "shipEncodes", fn := fun _ => fun
  | [d] => { results := [.lit (.bool true)], args := [d] }
  | _ => none }
def shipEncodesRow : OpenClaim := { program := "ytoigokkeaddceaagreatdoor", sum := "6c080076194d8e57e1c5ed74b566969fa5d49154d6c8c2bd21519cff4f7d38ff", func := "espalier/espalierlaw23.ShipEncodes", spec := "shipEncodes", inPlace := ["internal/reflectlite.ValueOf", "(internal/reflectlite.Value).Type", "(internal/reflectlite.Value).IsNil", "internal/reflectlite.TypeOf", "(internal/reflectlite.Value).Elem", "(internal/reflectlite.Value).Set", "internal/bytealg.Compare", "slices.overlaps[espalier/free.entry]"], unfollowed := true, recurses := true, named := ["errors.errorType", "espalier/store.errDown", "espalier/store.errFull"], apart := false, laid := [("errors.errorType", laid_errors_errorType), ("espalier/store.errDown", laid_espalier_store_errDown), ("espalier/store.errFull", laid_espalier_store_errFull)] }
def ShipEncodesSaid : Prop := shipEncodesRow.holds Tryz.pinned (OpenSpec.ofChange shipEncodesSpec)

/-- ITS FALSE NEIGHBOUR: 'it returns false'. Refute it at one input. -/
def shipEncodesWrong : ChangeSpec := { name := "shipEncodes", fn := fun _ => fun
  | [d] => { results := [.lit (.bool false)], args := [d] }
  | _ => none }
def ShipEncodesWrongFalsely : Prop := shipEncodesRow.holds Tryz.pinned (OpenSpec.ofChange shipEncodesWrong)

/-- 'espalierlaw23.ShipDecodes': WHATEVER THE INPUT: true; the input reads as it did. -/
def shipDecodesSpec : ChangeSpec := { name := "shipDecodes", fn := fun _ => fun
  | [d] => { results := [.lit (.bool true)], args := [d] }
  | _ => none }
def shipDecodesRow : OpenClaim := { program := "ytoigokkeaddceaagreatdoor", sum := "6c080076194d8e57e1c5ed74b566969fa5d49154d6c8c2bd21519cff4f7d38ff", func := "espalier/espalierlaw23.ShipDecodes", spec := "shipDecodes", inPlace := ["internal/reflectlite.ValueOf", "(internal/reflectlite.Value).Type", "(internal/reflectlite.Value).IsNil", "internal/reflectlite.TypeOf", "(internal/reflectlite.Value).Elem", "(internal/reflectlite.Value).Set", "internal/bytealg.Compare", "slices.overlaps[espalier/free.entry]"], unfollowed := true, recurses := true, named := ["errors.errorType", "espalier/store.errDown", "espalier/store.errFull"], apart := false, laid := [("errors.errorType", laid_errors_errorType), ("espalier/store.errDown", laid_espalier_store_errDown), ("espalier/store.errFull", laid_espalier_store_errFull)] }
def ShipDecodesSaid : Prop := shipDecodesRow.holds Tryz.pinned (OpenSpec.ofChange shipDecodesSpec)

/-- ITS FALSE NEIGHBOUR: 'it returns false'. Refute it at one input. -/
def shipDecodesWrong : ChangeSpec := { name := "shipDecodes", fn := fun _ => fun
  | [d] => { results := [.lit (.bool false)], args := [d] }
  | _ => none }
def ShipDecodesWrongFalsely : Prop := shipDecodesRow.holds Tryz.pinned (OpenSpec.ofChange shipDecodesWrong)

/-- 'espalierlaw23.ShipBack': WHATEVER THE INPUT: true; the input reads as it did. -/
def shipBackSpec : ChangeSpec := { name := "shipBack", fn := fun _ => fun
  | [d1, d2, d3] => { results := [.lit (.bool true)], args := [d1, d2, d3] }
  | _ => none }
def shipBackRow : OpenClaim := { program := "ytoigokkeaddceaagreatdoor", sum := "6c080076194d8e57e1c5ed74b566969fa5d49154d6c8c2bd21519cff4f7d38ff", func := "espalier/espalierlaw23.ShipBack", spec := "shipBack", inPlace := ["internal/reflectlite.ValueOf", "(internal/reflectlite.Value).Type", "(internal/reflectlite.Value).IsNil", "internal/reflectlite.TypeOf", "(internal/reflectlite.Value).Elem", "(internal/reflectlite.Value).Set", "internal/bytealg.Compare", "slices.overlaps[espalier/free.entry]"], unfollowed := true, recurses := true, named := ["errors.errorType", "espalier/store.errDown", "espalier/store.errFull"], apart := false, laid := [("errors.errorType", laid_errors_errorType), ("espalier/store.errDown", laid_espalier_store_errDown), ("espalier/store.errFull", laid_espalier_store_errFull)] }
def ShipBackSaid : Prop := shipBackRow.holds Tryz.pinned (OpenSpec.ofChange shipBackSpec)

/-- ITS FALSE NEIGHBOUR: 'it returns false'. Refute it at one input. -/
def shipBackWrong : ChangeSpec := { name := "shipBack", fn := fun _ => fun
  | [d1, d2, d3] => { results := [.lit (.bool false)], args := [d1, d2, d3] }
  | _ => none }
def ShipBackWrongFalsely : Prop := shipBackRow.holds Tryz.pinned (OpenSpec.ofChange shipBackWrong)

/- THE SECOND FORM. 'bulk': how many values and letters a reading holds, each counted each time it is reached (what is shared counts as often as it is met; a slice's spare places count too). A statement '..UptoSaid' is the law's where the arguments, and the package variables that the reading takes, are together of bulk at most 1048576: NARROWER than '..Said'. Prove '..Said' where nothing that the law and all that it calls make is longer than what came in: it says more and counts as full. Else prove '..UptoSaid'. A law counts once. -/
mutual
def uptoBulk {H : Type} : DataW H → Nat
  | .lit (.string bytes) => bytes.length + 1
  | .lit _ => 1
  | .nil => 1
  | .ptr d => uptoBulk d + 1
  | .slice elems spare => uptoBulkAll elems + uptoBulkAll spare + 1
  | .agg parts => uptoBulkAll parts + 1
  | .iface _ d => uptoBulk d + 1
  | .map entries => uptoBulkEntries entries + 1
  | .held _ => 1
def uptoBulkAll {H : Type} : List (DataW H) → Nat
  | [] => 0
  | d :: r => uptoBulk d + uptoBulkAll r
def uptoBulkEntries {H : Type} : List (Lit × DataW H) → Nat
  | [] => 0
  | x :: r => uptoBulkEntry x + uptoBulkEntries r
def uptoBulkEntry {H : Type} : Lit × DataW H → Nat
  | (.string bytes, d) => bytes.length + uptoBulk d + 1
  | (_, d) => uptoBulk d + 1
 end
def uptoSmall : (H : Type) → List (DataW H) → Bool := fun _ ds => decide (uptoBulkAll ds ≤ 1048576)
def OpenSpec.upto (s : _root_.Go.ChangeSpec) : _root_.Go.OpenSpec := { _root_.Go.OpenSpec.ofChange s with cond := some uptoSmall }

/-- 'espalierlaw23.ShipEncodes', WHERE WHAT IT READS IS OF BULK AT MOST 1048576: true; the input reads as it did. -/
def shipEncodesUptoRow : OpenClaim := { program := "ytoigokkeaddceaagreatdoor", sum := "6c080076194d8e57e1c5ed74b566969fa5d49154d6c8c2bd21519cff4f7d38ff", func := "espalier/espalierlaw23.ShipEncodes", spec := "shipEncodes", inPlace := ["internal/reflectlite.ValueOf", "(internal/reflectlite.Value).Type", "(internal/reflectlite.Value).IsNil", "internal/reflectlite.TypeOf", "(internal/reflectlite.Value).Elem", "(internal/reflectlite.Value).Set", "internal/bytealg.Compare", "slices.overlaps[espalier/free.entry]"], unfollowed := true, recurses := true, named := ["errors.errorType", "espalier/store.errDown", "espalier/store.errFull"], apart := false, laid := [("errors.errorType", laid_errors_errorType), ("espalier/store.errDown", laid_espalier_store_errDown), ("espalier/store.errFull", laid_espalier_store_errFull)], narrowed := true }
def ShipEncodesUptoSaid : Prop := shipEncodesUptoRow.holds Tryz.pinned (OpenSpec.upto shipEncodesSpec)

/-- 'espalierlaw23.ShipDecodes', WHERE WHAT IT READS IS OF BULK AT MOST 1048576: true; the input reads as it did. -/
def shipDecodesUptoRow : OpenClaim := { program := "ytoigokkeaddceaagreatdoor", sum := "6c080076194d8e57e1c5ed74b566969fa5d49154d6c8c2bd21519cff4f7d38ff", func := "espalier/espalierlaw23.ShipDecodes", spec := "shipDecodes", inPlace := ["internal/reflectlite.ValueOf", "(internal/reflectlite.Value).Type", "(internal/reflectlite.Value).IsNil", "internal/reflectlite.TypeOf", "(internal/reflectlite.Value).Elem", "(internal/reflectlite.Value).Set", "internal/bytealg.Compare", "slices.overlaps[espalier/free.entry]"], unfollowed := true, recurses := true, named := ["errors.errorType", "espalier/store.errDown", "espalier/store.errFull"], apart := false, laid := [("errors.errorType", laid_errors_errorType), ("espalier/store.errDown", laid_espalier_store_errDown), ("espalier/store.errFull", laid_espalier_store_errFull)], narrowed := true }
def ShipDecodesUptoSaid : Prop := shipDecodesUptoRow.holds Tryz.pinned (OpenSpec.upto shipDecodesSpec)

/-- 'espalierlaw23.ShipBack', WHERE WHAT IT READS IS OF BULK AT MOST 1048576: true; the input reads as it did. -/
def shipBackUptoRow : OpenClaim := { program := "ytoigokkeaddceaagreatdoor", sum := "6c080076194d8e57e1c5ed74b566969fa5d49154d6c8c2bd21519cff4f7d38ff", func := "espalier/espalierlaw23.ShipBack", spec := "shipBack", inPlace := ["internal/reflectlite.ValueOf", "(internal/reflectlite.Value).Type", "(internal/reflectlite.Value).IsNil", "internal/reflectlite.TypeOf", "(internal/reflectlite.Value).Elem", "(internal/reflectlite.Value).Set", "internal/bytealg.Compare", "slices.overlaps[espalier/free.entry]"], unfollowed := true, recurses := true, named := ["errors.errorType", "espalier/store.errDown", "espalier/store.errFull"], apart := false, laid := [("errors.errorType", laid_errors_errorType), ("espalier/store.errDown", laid_espalier_store_errDown), ("espalier/store.errFull", laid_espalier_store_errFull)], narrowed := true }
def ShipBackUptoSaid : Prop := shipBackUptoRow.holds Tryz.pinned (OpenSpec.upto shipBackSpec)

end Rows
end Go.Proofs.YtoigokkeaddceaaGreatDoor
