/-
  No cell of these rows narrows 'for every input' (looked for: loops, veiled, ifaces, maps, wideKeys, modest, calm, conditions, laid).
  DERIVED. THE GIVEN ROWS OF THIS SEAT. 7 by the template 'for every input the law returns true; each argument reads behind the call as it read before'; 0 by the template 'total and deterministic' (their statements: YtnodjhgmghkikaaGreatTotals.lean).
  GIVEN WITH THE SEED: the statements are not yours to turn. If you find one false, say at which input.
  Laid BY PROGRAM, IN A SANDBOX (cutbox-rows.mjs): the forced cells as the released guide's own fill.sh prints them over the translation 0ba10d4c0ad07b11… (all of the seat's roots in one cut). By AI agents, Wed Nov 11 2026. No macro, syntax, notation, axiom, sorry.
-/
import Derived.Test.YtnodjhgmghkikaaGreatChecked
import GoSem.Claim
import GoSem.ClaimJoined
import GoSem.ClaimMapViews
import Derived.JoinedTies
import Derived.KernelRfl
namespace Go.Proofs.YtnodjhgmghkikaaGreat
/- THE CELL 'sum', in the pinned program and in every row, IS THE sha256 OF THE DUMP (.gsa) THAT YtnodjhgmghkikaaGreatProg.lean LOADS. Nothing in Lean hashes anything: it is a label: what it is worth is what the hold of that sum in a sandbox is worth. -/
noncomputable def Tryz.pinned : Pinned := { name := "ytnodjhgmghkikaagreat", sum := "0ba10d4c0ad07b1178c885086d68c6925f438b3312772034bb5397ad8949e610", checked := Tryz.checked }
namespace Rows
def none {H : Type} : Left H := { results := [], args := [] }

/-- 'espalierlaw21.CheckNames': WHATEVER THE INPUT: true; the input reads as it did. -/
def checkNamesSpec : ChangeSpec := { name := "checkNames", fn := fun _ => fun
  | [] => { results := [.lit (.bool true)], args := [] }
  | _ => none }
def checkNamesRow : OpenClaim := { program := "ytnodjhgmghkikaagreat", sum := "0ba10d4c0ad07b1178c885086d68c6925f438b3312772034bb5397ad8949e610", func := "espalier/espalierlaw21.CheckNames", spec := "checkNames", inPlace := ["(*sync.WaitGroup).Add", "internal/race.ReleaseMerge", "internal/race.Disable", "internal/race.Enable", "internal/synctest.IsInBubble", "internal/synctest.Associate[sync.WaitGroup]", "sync.fatal", "sync/atomic.OrUint64", "sync/atomic.AddUint64", "internal/race.Read", "sync/atomic.LoadUint64", "sync/atomic.StoreUint64", "internal/synctest.Disassociate[sync.WaitGroup]", "sync.runtime_Semrelease", "(*sync.WaitGroup).Done", "internal/bytealg.Compare", "(*sync.WaitGroup).Wait", "internal/race.Acquire", "internal/synctest.IsAssociated[sync.WaitGroup]", "sync/atomic.CompareAndSwapUint64", "internal/race.Write", "sync.runtime_SemacquireWaitGroup", "internal/bytealg.IndexByte"], unfollowed := true, recurses := true, leaving := true, apart := false }
def CheckNamesSaid : Prop := checkNamesRow.holds Tryz.pinned (OpenSpec.ofChange checkNamesSpec)

/-- ITS FALSE NEIGHBOUR: 'it returns false'. Refute it at one input. -/
def checkNamesWrong : ChangeSpec := { name := "checkNames", fn := fun _ => fun
  | [] => { results := [.lit (.bool false)], args := [] }
  | _ => none }
def CheckNamesWrongFalsely : Prop := checkNamesRow.holds Tryz.pinned (OpenSpec.ofChange checkNamesWrong)

/-- 'espalierlaw21.CheckLooks': WHATEVER THE INPUT: true; the input reads as it did. -/
def checkLooksSpec : ChangeSpec := { name := "checkLooks", fn := fun _ => fun
  | [d1, d2, d3] => { results := [.lit (.bool true)], args := [d1, d2, d3] }
  | _ => none }
def checkLooksRow : OpenClaim := { program := "ytnodjhgmghkikaagreat", sum := "0ba10d4c0ad07b1178c885086d68c6925f438b3312772034bb5397ad8949e610", func := "espalier/espalierlaw21.CheckLooks", spec := "checkLooks", inPlace := ["(*sync.WaitGroup).Add", "internal/race.ReleaseMerge", "internal/race.Disable", "internal/race.Enable", "internal/synctest.IsInBubble", "internal/synctest.Associate[sync.WaitGroup]", "sync.fatal", "sync/atomic.OrUint64", "sync/atomic.AddUint64", "internal/race.Read", "sync/atomic.LoadUint64", "sync/atomic.StoreUint64", "internal/synctest.Disassociate[sync.WaitGroup]", "sync.runtime_Semrelease", "(*sync.WaitGroup).Done", "internal/bytealg.Compare", "(*sync.WaitGroup).Wait", "internal/race.Acquire", "internal/synctest.IsAssociated[sync.WaitGroup]", "sync/atomic.CompareAndSwapUint64", "internal/race.Write", "sync.runtime_SemacquireWaitGroup", "internal/bytealg.IndexByte"], unfollowed := true, recurses := true, leaving := true, apart := false }
def CheckLooksSaid : Prop := checkLooksRow.holds Tryz.pinned (OpenSpec.ofChange checkLooksSpec)

/-- ITS FALSE NEIGHBOUR: 'it returns false'. Refute it at one input. -/
def checkLooksWrong : ChangeSpec := { name := "checkLooks", fn := fun _ => fun
  | [d1, d2, d3] => { results := [.lit (.bool false)], args := [d1, d2, d3] }
  | _ => none }
def CheckLooksWrongFalsely : Prop := checkLooksRow.holds Tryz.pinned (OpenSpec.ofChange checkLooksWrong)

/-- 'espalierlaw21.CheckReaches': WHATEVER THE INPUT: true; the input reads as it did. -/
def checkReachesSpec : ChangeSpec := { name := "checkReaches", fn := fun _ => fun
  | [d1, d2, d3] => { results := [.lit (.bool true)], args := [d1, d2, d3] }
  | _ => none }
def checkReachesRow : OpenClaim := { program := "ytnodjhgmghkikaagreat", sum := "0ba10d4c0ad07b1178c885086d68c6925f438b3312772034bb5397ad8949e610", func := "espalier/espalierlaw21.CheckReaches", spec := "checkReaches", inPlace := ["(*sync.WaitGroup).Add", "internal/race.ReleaseMerge", "internal/race.Disable", "internal/race.Enable", "internal/synctest.IsInBubble", "internal/synctest.Associate[sync.WaitGroup]", "sync.fatal", "sync/atomic.OrUint64", "sync/atomic.AddUint64", "internal/race.Read", "sync/atomic.LoadUint64", "sync/atomic.StoreUint64", "internal/synctest.Disassociate[sync.WaitGroup]", "sync.runtime_Semrelease", "(*sync.WaitGroup).Done", "internal/bytealg.Compare", "(*sync.WaitGroup).Wait", "internal/race.Acquire", "internal/synctest.IsAssociated[sync.WaitGroup]", "sync/atomic.CompareAndSwapUint64", "internal/race.Write", "sync.runtime_SemacquireWaitGroup", "internal/bytealg.IndexByte"], unfollowed := true, recurses := true, leaving := true, apart := false }
def CheckReachesSaid : Prop := checkReachesRow.holds Tryz.pinned (OpenSpec.ofChange checkReachesSpec)

/-- ITS FALSE NEIGHBOUR: 'it returns false'. Refute it at one input. -/
def checkReachesWrong : ChangeSpec := { name := "checkReaches", fn := fun _ => fun
  | [d1, d2, d3] => { results := [.lit (.bool false)], args := [d1, d2, d3] }
  | _ => none }
def CheckReachesWrongFalsely : Prop := checkReachesRow.holds Tryz.pinned (OpenSpec.ofChange checkReachesWrong)

/-- 'espalierlaw21.CheckTrees': WHATEVER THE INPUT: true; the input reads as it did. -/
def checkTreesSpec : ChangeSpec := { name := "checkTrees", fn := fun _ => fun
  | [d1, d2, d3] => { results := [.lit (.bool true)], args := [d1, d2, d3] }
  | _ => none }
def checkTreesRow : OpenClaim := { program := "ytnodjhgmghkikaagreat", sum := "0ba10d4c0ad07b1178c885086d68c6925f438b3312772034bb5397ad8949e610", func := "espalier/espalierlaw21.CheckTrees", spec := "checkTrees", inPlace := ["(*sync.WaitGroup).Add", "internal/race.ReleaseMerge", "internal/race.Disable", "internal/race.Enable", "internal/synctest.IsInBubble", "internal/synctest.Associate[sync.WaitGroup]", "sync.fatal", "sync/atomic.OrUint64", "sync/atomic.AddUint64", "internal/race.Read", "sync/atomic.LoadUint64", "sync/atomic.StoreUint64", "internal/synctest.Disassociate[sync.WaitGroup]", "sync.runtime_Semrelease", "(*sync.WaitGroup).Done", "internal/bytealg.Compare", "(*sync.WaitGroup).Wait", "internal/race.Acquire", "internal/synctest.IsAssociated[sync.WaitGroup]", "sync/atomic.CompareAndSwapUint64", "internal/race.Write", "sync.runtime_SemacquireWaitGroup", "internal/bytealg.IndexByte"], unfollowed := true, recurses := true, leaving := true, apart := false }
def CheckTreesSaid : Prop := checkTreesRow.holds Tryz.pinned (OpenSpec.ofChange checkTreesSpec)

/-- ITS FALSE NEIGHBOUR: 'it returns false'. Refute it at one input. -/
def checkTreesWrong : ChangeSpec := { name := "checkTrees", fn := fun _ => fun
  | [d1, d2, d3] => { results := [.lit (.bool false)], args := [d1, d2, d3] }
  | _ => none }
def CheckTreesWrongFalsely : Prop := checkTreesRow.holds Tryz.pinned (OpenSpec.ofChange checkTreesWrong)

/-- 'espalierlaw21.CheckSalvages': WHATEVER THE INPUT: true; the input reads as it did. -/
def checkSalvagesSpec : ChangeSpec := { name := "checkSalvages", fn := fun _ => fun
  | [d1, d2, d3] => { results := [.lit (.bool true)], args := [d1, d2, d3] }
  | _ => none }
def checkSalvagesRow : OpenClaim := { program := "ytnodjhgmghkikaagreat", sum := "0ba10d4c0ad07b1178c885086d68c6925f438b3312772034bb5397ad8949e610", func := "espalier/espalierlaw21.CheckSalvages", spec := "checkSalvages", inPlace := ["(*sync.WaitGroup).Add", "internal/race.ReleaseMerge", "internal/race.Disable", "internal/race.Enable", "internal/synctest.IsInBubble", "internal/synctest.Associate[sync.WaitGroup]", "sync.fatal", "sync/atomic.OrUint64", "sync/atomic.AddUint64", "internal/race.Read", "sync/atomic.LoadUint64", "sync/atomic.StoreUint64", "internal/synctest.Disassociate[sync.WaitGroup]", "sync.runtime_Semrelease", "(*sync.WaitGroup).Done", "internal/bytealg.Compare", "(*sync.WaitGroup).Wait", "internal/race.Acquire", "internal/synctest.IsAssociated[sync.WaitGroup]", "sync/atomic.CompareAndSwapUint64", "internal/race.Write", "sync.runtime_SemacquireWaitGroup", "internal/bytealg.IndexByte"], unfollowed := true, recurses := true, leaving := true, apart := false }
def CheckSalvagesSaid : Prop := checkSalvagesRow.holds Tryz.pinned (OpenSpec.ofChange checkSalvagesSpec)

/-- ITS FALSE NEIGHBOUR: 'it returns false'. Refute it at one input. -/
def checkSalvagesWrong : ChangeSpec := { name := "checkSalvages", fn := fun _ => fun
  | [d1, d2, d3] => { results := [.lit (.bool false)], args := [d1, d2, d3] }
  | _ => none }
def CheckSalvagesWrongFalsely : Prop := checkSalvagesRow.holds Tryz.pinned (OpenSpec.ofChange checkSalvagesWrong)

/-- 'espalierlaw21.CheckParts': WHATEVER THE INPUT: true; the input reads as it did. -/
def checkPartsSpec : ChangeSpec := { name := "checkParts", fn := fun _ => fun
  | [d1, d2] => { results := [.lit (.bool true)], args := [d1, d2] }
  | _ => none }
def checkPartsRow : OpenClaim := { program := "ytnodjhgmghkikaagreat", sum := "0ba10d4c0ad07b1178c885086d68c6925f438b3312772034bb5397ad8949e610", func := "espalier/espalierlaw21.CheckParts", spec := "checkParts", inPlace := ["(*sync.WaitGroup).Add", "internal/race.ReleaseMerge", "internal/race.Disable", "internal/race.Enable", "internal/synctest.IsInBubble", "internal/synctest.Associate[sync.WaitGroup]", "sync.fatal", "sync/atomic.OrUint64", "sync/atomic.AddUint64", "internal/race.Read", "sync/atomic.LoadUint64", "sync/atomic.StoreUint64", "internal/synctest.Disassociate[sync.WaitGroup]", "sync.runtime_Semrelease", "(*sync.WaitGroup).Done", "internal/bytealg.Compare", "(*sync.WaitGroup).Wait", "internal/race.Acquire", "internal/synctest.IsAssociated[sync.WaitGroup]", "sync/atomic.CompareAndSwapUint64", "internal/race.Write", "sync.runtime_SemacquireWaitGroup", "internal/bytealg.IndexByte"], unfollowed := true, recurses := true, leaving := true, apart := false }
def CheckPartsSaid : Prop := checkPartsRow.holds Tryz.pinned (OpenSpec.ofChange checkPartsSpec)

/-- ITS FALSE NEIGHBOUR: 'it returns false'. Refute it at one input. -/
def checkPartsWrong : ChangeSpec := { name := "checkParts", fn := fun _ => fun
  | [d1, d2] => { results := [.lit (.bool false)], args := [d1, d2] }
  | _ => none }
def CheckPartsWrongFalsely : Prop := checkPartsRow.holds Tryz.pinned (OpenSpec.ofChange checkPartsWrong)

/-- 'espalierlaw21.CheckTells': WHATEVER THE INPUT: true; the input reads as it did. -/
def checkTellsSpec : ChangeSpec := { name := "checkTells", fn := fun _ => fun
  | [d1, d2, d3, d4, d5] => { results := [.lit (.bool true)], args := [d1, d2, d3, d4, d5] }
  | _ => none }
def checkTellsRow : OpenClaim := { program := "ytnodjhgmghkikaagreat", sum := "0ba10d4c0ad07b1178c885086d68c6925f438b3312772034bb5397ad8949e610", func := "espalier/espalierlaw21.CheckTells", spec := "checkTells", inPlace := ["(*sync.WaitGroup).Add", "internal/race.ReleaseMerge", "internal/race.Disable", "internal/race.Enable", "internal/synctest.IsInBubble", "internal/synctest.Associate[sync.WaitGroup]", "sync.fatal", "sync/atomic.OrUint64", "sync/atomic.AddUint64", "internal/race.Read", "sync/atomic.LoadUint64", "sync/atomic.StoreUint64", "internal/synctest.Disassociate[sync.WaitGroup]", "sync.runtime_Semrelease", "(*sync.WaitGroup).Done", "internal/bytealg.Compare", "(*sync.WaitGroup).Wait", "internal/race.Acquire", "internal/synctest.IsAssociated[sync.WaitGroup]", "sync/atomic.CompareAndSwapUint64", "internal/race.Write", "sync.runtime_SemacquireWaitGroup", "internal/bytealg.IndexByte"], unfollowed := true, recurses := true, leaving := true, apart := false }
def CheckTellsSaid : Prop := checkTellsRow.holds Tryz.pinned (OpenSpec.ofChange checkTellsSpec)

/-- ITS FALSE NEIGHBOUR: 'it returns false'. Refute it at one input. -/
def checkTellsWrong : ChangeSpec := { name := "checkTells", fn := fun _ => fun
  | [d1, d2, d3, d4, d5] => { results := [.lit (.bool false)], args := [d1, d2, d3, d4, d5] }
  | _ => none }
def CheckTellsWrongFalsely : Prop := checkTellsRow.holds Tryz.pinned (OpenSpec.ofChange checkTellsWrong)

/- THE SECOND FORM. 'bulk': how many values and letters a reading holds, each counted each time it is reached (what is shared counts as often as it is met; a slice's spare places count too). A statement '..UptoSaid' is the law's where the arguments, and the package variables that the reading takes, are together of bulk at most 1048576: NARROWER than '..Said'. Prove '..Said' where nothing that the law and all that it calls make is longer than what came in: it says more and counts as full. Else prove '..UptoSaid'. A law counts once. -/
mutual
def uptoBulk {H : Type} : DataW H → Nat
  | .lit (.string bytes) => bytes.length + 1
  | .lit _ => 1
  | .nil => 1
  | .ptr d => uptoBulk d + 1
  | .slice elems spare => uptoBulkAll elems + uptoBulkAll spare + 1
  | .agg parts => uptoBulkAll parts + 1
  | .iface _ d => uptoBulk d + 1
  | .map entries => uptoBulkEntries entries + 1
  | .held _ => 1
def uptoBulkAll {H : Type} : List (DataW H) → Nat
  | [] => 0
  | d :: r => uptoBulk d + uptoBulkAll r
def uptoBulkEntries {H : Type} : List (Lit × DataW H) → Nat
  | [] => 0
  | x :: r => uptoBulkEntry x + uptoBulkEntries r
def uptoBulkEntry {H : Type} : Lit × DataW H → Nat
  | (.string bytes, d) => bytes.length + uptoBulk d + 1
  | (_, d) => uptoBulk d + 1
 end
def uptoSmall : (H : Type) → List (DataW H) → Bool := fun _ ds => decide (uptoBulkAll ds ≤ 1048576)
def OpenSpec.upto (s : _root_.Go.ChangeSpec) : _root_.Go.OpenSpec := { _root_.Go.OpenSpec.ofChange s with cond := some uptoSmall }

/-- 'espalierlaw21.CheckNames', WHERE WHAT IT READS IS OF BULK AT MOST 1048576: true; the input reads as it did. -/
def checkNamesUptoRow : OpenClaim := { program := "ytnodjhgmghkikaagreat", sum := "0ba10d4c0ad07b1178c885086d68c6925f438b3312772034bb5397ad8949e610", func := "espalier/espalierlaw21.CheckNames", spec := "checkNames", inPlace := ["(*sync.WaitGroup).Add", "internal/race.ReleaseMerge", "internal/race.Disable", "internal/race.Enable", "internal/synctest.IsInBubble", "internal/synctest.Associate[sync.WaitGroup]", "sync.fatal", "sync/atomic.OrUint64", "sync/atomic.AddUint64", "internal/race.Read", "sync/atomic.LoadUint64", "sync/atomic.StoreUint64", "internal/synctest.Disassociate[sync.WaitGroup]", "sync.runtime_Semrelease", "(*sync.WaitGroup).Done", "internal/bytealg.Compare", "(*sync.WaitGroup).Wait", "internal/race.Acquire", "internal/synctest.IsAssociated[sync.WaitGroup]", "sync/atomic.CompareAndSwapUint64", "internal/race.Write", "sync.runtime_SemacquireWaitGroup", "internal/bytealg.IndexByte"], unfollowed := true, recurses := true, leaving := true, apart := false, narrowed := true }
def CheckNamesUptoSaid : Prop := checkNamesUptoRow.holds Tryz.pinned (OpenSpec.upto checkNamesSpec)

/-- 'espalierlaw21.CheckLooks', WHERE WHAT IT READS IS OF BULK AT MOST 1048576: true; the input reads as it did. -/
def checkLooksUptoRow : OpenClaim := { program := "ytnodjhgmghkikaagreat", sum := "0ba10d4c0ad07b1178c885086d68c6925f438b3312772034bb5397ad8949e610", func := "espalier/espalierlaw21.CheckLooks", spec := "checkLooks", inPlace := ["(*sync.WaitGroup).Add", "internal/race.ReleaseMerge", "internal/race.Disable", "internal/race.Enable", "internal/synctest.IsInBubble", "internal/synctest.Associate[sync.WaitGroup]", "sync.fatal", "sync/atomic.OrUint64", "sync/atomic.AddUint64", "internal/race.Read", "sync/atomic.LoadUint64", "sync/atomic.StoreUint64", "internal/synctest.Disassociate[sync.WaitGroup]", "sync.runtime_Semrelease", "(*sync.WaitGroup).Done", "internal/bytealg.Compare", "(*sync.WaitGroup).Wait", "internal/race.Acquire", "internal/synctest.IsAssociated[sync.WaitGroup]", "sync/atomic.CompareAndSwapUint64", "internal/race.Write", "sync.runtime_SemacquireWaitGroup", "internal/bytealg.IndexByte"], unfollowed := true, recurses := true, leaving := true, apart := false, narrowed := true }
def CheckLooksUptoSaid : Prop := checkLooksUptoRow.holds Tryz.pinned (OpenSpec.upto checkLooksSpec)

/-- 'espalierlaw21.CheckReaches', WHERE WHAT IT READS IS OF BULK AT MOST 1048576: true; the input reads as it did. -/
def checkReachesUptoRow : OpenClaim := { program := "ytnodjhgmghkikaagreat", sum := "0ba10d4c0ad07b1178c885086d68c6925f438b3312772034bb5397ad8949e610", func := "espalier/espalierlaw21.CheckReaches", spec := "checkReaches", inPlace := ["(*sync.WaitGroup).Add", "internal/race.ReleaseMerge", "internal/race.Disable", "internal/race.Enable", "internal/synctest.IsInBubble", "internal/synctest.Associate[sync.WaitGroup]", "sync.fatal", "sync/atomic.OrUint64", "sync/atomic.AddUint64", "internal/race.Read", "sync/atomic.LoadUint64", "sync/atomic.StoreUint64", "internal/synctest.Disassociate[sync.WaitGroup]", "sync.runtime_Semrelease", "(*sync.WaitGroup).Done", "internal/bytealg.Compare", "(*sync.WaitGroup).Wait", "internal/race.Acquire", "internal/synctest.IsAssociated[sync.WaitGroup]", "sync/atomic.CompareAndSwapUint64", "internal/race.Write", "sync.runtime_SemacquireWaitGroup", "internal/bytealg.IndexByte"], unfollowed := true, recurses := true, leaving := true, apart := false, narrowed := true }
def CheckReachesUptoSaid : Prop := checkReachesUptoRow.holds Tryz.pinned (OpenSpec.upto checkReachesSpec)

/-- 'espalierlaw21.CheckTrees', WHERE WHAT IT READS IS OF BULK AT MOST 1048576: true; the input reads as it did. -/
def checkTreesUptoRow : OpenClaim := { program := "ytnodjhgmghkikaagreat", sum := "0ba10d4c0ad07b1178c885086d68c6925f438b3312772034bb5397ad8949e610", func := "espalier/espalierlaw21.CheckTrees", spec := "checkTrees", inPlace := ["(*sync.WaitGroup).Add", "internal/race.ReleaseMerge", "internal/race.Disable", "internal/race.Enable", "internal/synctest.IsInBubble", "internal/synctest.Associate[sync.WaitGroup]", "sync.fatal", "sync/atomic.OrUint64", "sync/atomic.AddUint64", "internal/race.Read", "sync/atomic.LoadUint64", "sync/atomic.StoreUint64", "internal/synctest.Disassociate[sync.WaitGroup]", "sync.runtime_Semrelease", "(*sync.WaitGroup).Done", "internal/bytealg.Compare", "(*sync.WaitGroup).Wait", "internal/race.Acquire", "internal/synctest.IsAssociated[sync.WaitGroup]", "sync/atomic.CompareAndSwapUint64", "internal/race.Write", "sync.runtime_SemacquireWaitGroup", "internal/bytealg.IndexByte"], unfollowed := true, recurses := true, leaving := true, apart := false, narrowed := true }
def CheckTreesUptoSaid : Prop := checkTreesUptoRow.holds Tryz.pinned (OpenSpec.upto checkTreesSpec)

/-- 'espalierlaw21.CheckSalvages', WHERE WHAT IT READS IS OF BULK AT MOST 1048576: true; the input reads as it did. -/
def checkSalvagesUptoRow : OpenClaim := { program := "ytnodjhgmghkikaagreat", sum := "0ba10d4c0ad07b1178c885086d68c6925f438b3312772034bb5397ad8949e610", func := "espalier/espalierlaw21.CheckSalvages", spec := "checkSalvages", inPlace := ["(*sync.WaitGroup).Add", "internal/race.ReleaseMerge", "internal/race.Disable", "internal/race.Enable", "internal/synctest.IsInBubble", "internal/synctest.Associate[sync.WaitGroup]", "sync.fatal", "sync/atomic.OrUint64", "sync/atomic.AddUint64", "internal/race.Read", "sync/atomic.LoadUint64", "sync/atomic.StoreUint64", "internal/synctest.Disassociate[sync.WaitGroup]", "sync.runtime_Semrelease", "(*sync.WaitGroup).Done", "internal/bytealg.Compare", "(*sync.WaitGroup).Wait", "internal/race.Acquire", "internal/synctest.IsAssociated[sync.WaitGroup]", "sync/atomic.CompareAndSwapUint64", "internal/race.Write", "sync.runtime_SemacquireWaitGroup", "internal/bytealg.IndexByte"], unfollowed := true, recurses := true, leaving := true, apart := false, narrowed := true }
def CheckSalvagesUptoSaid : Prop := checkSalvagesUptoRow.holds Tryz.pinned (OpenSpec.upto checkSalvagesSpec)

/-- 'espalierlaw21.CheckParts', WHERE WHAT IT READS IS OF BULK AT MOST 1048576: true; the input reads as it did. -/
def checkPartsUptoRow : OpenClaim := { program := "ytnodjhgmghkikaagreat", sum := "0ba10d4c0ad07b1178c885086d68c6925f438b3312772034bb5397ad8949e610", func := "espalier/espalierlaw21.CheckParts", spec := "checkParts", inPlace := ["(*sync.WaitGroup).Add", "internal/race.ReleaseMerge", "internal/race.Disable", "internal/race.Enable", "internal/synctest.IsInBubble", "internal/synctest.Associate[sync.WaitGroup]", "sync.fatal", "sync/atomic.OrUint64", "sync/atomic.AddUint64", "internal/race.Read", "sync/atomic.LoadUint64", "sync/atomic.StoreUint64", "internal/synctest.Disassociate[sync.WaitGroup]", "sync.runtime_Semrelease", "(*sync.WaitGroup).Done", "internal/bytealg.Compare", "(*sync.WaitGroup).Wait", "internal/race.Acquire", "internal/synctest.IsAssociated[sync.WaitGroup]", "sync/atomic.CompareAndSwapUint64", "internal/race.Write", "sync.runtime_SemacquireWaitGroup", "internal/bytealg.IndexByte"], unfollowed := true, recurses := true, leaving := true, apart := false, narrowed := true }
def CheckPartsUptoSaid : Prop := checkPartsUptoRow.holds Tryz.pinned (OpenSpec.upto checkPartsSpec)

/-- 'espalierlaw21.CheckTells', WHERE WHAT IT READS IS OF BULK AT MOST 1048576: true; the input reads as it did. -/
def checkTellsUptoRow : OpenClaim := { program := "ytnodjhgmghkikaagreat", sum := "0ba10d4c0ad07b1178c885086d68c6925f438b3312772034bb5397ad8949e610", func := "espalier/espalierlaw21.CheckTells", spec := "checkTells", inPlace := ["(*sync.WaitGroup).Add", "internal/race.ReleaseMerge", "internal/race.Disable", "internal/race.Enable", "internal/synctest.IsInBubble", "internal/synctest.Associate[sync.WaitGroup]", "sync.fatal", "sync/atomic.OrUint64", "sync/atomic.AddUint64", "internal/race.Read", "sync/atomic.LoadUint64", "sync/atomic.StoreUint64", "internal/synctest.Disassociate[sync.WaitGroup]", "sync.runtime_Semrelease", "(*sync.WaitGroup).Done", "internal/bytealg.Compare", "(*sync.WaitGroup).Wait", "internal/race.Acquire", "internal/synctest.IsAssociated[sync.WaitGroup]", "sync/atomic.CompareAndSwapUint64", "internal/race.Write", "sync.runtime_SemacquireWaitGroup", "internal/bytealg.IndexByte"], unfollowed := true, recurses := true, leaving := true, apart := false, narrowed := true }
def CheckTellsUptoSaid : Prop := checkTellsUptoRow.holds Tryz.pinned (OpenSpec.upto checkTellsSpec)

end Rows
end Go.Proofs.YtnodjhgmghkikaaGreat
