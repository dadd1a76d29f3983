/- A part of the proof of this seat's statement. Conditions: in each theorem. -/
import Derived.Test.YtfgipbjaapkdlaaGreatDoorS3
import Derived.Test.YtfgipbjaapkdlaaGreatDoorZ5
namespace Go.Proofs.YtfgipbjaapkdlaaGreatDoor
open Go.Xq
noncomputable section
theorem tyOk : TyOk Tryz.prog E := tyOk_of _ _ _ _ _
theorem cdF {b : Frame} {n : Cx} {T : Tr AV} {D : List ADf} {H : AH} {Q : Out → Prop} {ops : Array Oper} {q : Operand} {c : Code} (h : Q (.nor T D H)) (ht : opnd q T = some (.bool false) := by simp) : WDO Tryz.prog b n ops [] T D H fun o => match o with
      | .nor T2 D2 H2 => WD Tryz.prog b n [.code (.cond q c .skip)] T2 D2 H2 Q
      | o => Q o := WDO.nilS (WD.cond (t := false) ht (fun e => by cases e) fun _ => WD.skip (.inl rfl) h)
theorem cdT {b : Frame} {n : Cx} {T : Tr AV} {D : List ADf} {H : AH} {Q : Out → Prop} {ops os : Array Oper} {q : Operand} {c d : Code} {id : Nat} (h : WDO Tryz.prog b n os os.toList T D H fun o => match o with
      | .nor T2 D2 H2 => WD Tryz.prog b n [.code c] T2 D2 H2 Q
      | o => Q o) (ht : opnd q T = some (.bool true) := by simp) : WDO Tryz.prog b n ops [] T D H fun o => match o with
      | .nor T2 D2 H2 => WD Tryz.prog b n [.code (.cond q (.seq (.region id os false) c) d)] T2 D2 H2 Q
      | o => Q o := WDO.nilS (WD.cond (t := true) ht (fun _ => WD.seqR h) fun e => by cases e)
theorem leD {b : Frame} {n : Cx} {T T2 : Tr AV} {D : List ADf} {H : AH} {Q : Out → Prop} (j : Nat) {ops : Array Oper} {r : List Oper} (ls : List Lk) (h : WDO Tryz.prog b n ops (r.drop j) T2 D H Q) (ho : runLk ls T H = some T2 := by simp (disch := omega) []; exact rfl) (hk : lksOf E n.n ops.toList (r.take j) = some ls := by kernel_rfl) : WDO Tryz.prog b n ops r T D H Q := WDO.looks1 tyOk extOk j hk ho h
theorem leP {b : Frame} {n : Cx} {T T2 : Tr AV} {D : List ADf} {H : AH} {Q : Out → Prop} (j : Nat) {ops : Array Oper} {r : List Oper} (ls : List Lk) (h : WPO Tryz.prog b n ops (r.drop j) T2 D H Q) (ho : runLk ls T H = some T2 := by simp (disch := omega) []; exact rfl) (hk : lksOf E n.n ops.toList (r.take j) = some ls := by kernel_rfl) : WPO Tryz.prog b n ops r T D H Q := WPO.looks1 tyOk extOk j hk ho h
theorem lkP {b : Frame} {n : Cx} {T T2 : Tr AV} {D : List ADf} {H : AH} {Q : Out → Prop} (j : Nat) {ops : Array Oper} {r : List Oper} (ls : List Lk) (ho : runLk ls T H = some T2) (h : WPO Tryz.prog b n ops (r.drop j) T2 D H Q) (hk : lksOf E n.n ops.toList (r.take j) = some ls := by kernel_rfl) : WPO Tryz.prog b n ops r T D H Q := WPO.looks1 tyOk extOk j hk ho h
theorem lkD {b : Frame} {n : Cx} {T T2 : Tr AV} {D : List ADf} {H : AH} {Q : Out → Prop} (j : Nat) {ops : Array Oper} {r : List Oper} (ls : List Lk) (ho : runLk ls T H = some T2) (h : WDO Tryz.prog b n ops (r.drop j) T2 D H Q) (hk : lksOf E n.n ops.toList (r.take j) = some ls := by kernel_rfl) : WDO Tryz.prog b n ops r T D H Q := WDO.looks1 tyOk extOk j hk ho h
def mk (n i : Nat) : UInt8 := UInt8.ofNat (n + i / 251)
def marks (n len : Nat) : List UInt8 := (List.range len).map (mk n)
def Own (H : AH) (lo hi : Nat) (v : AV) (l : List UInt8) : Prop :=
  (v = .snil ∧ l = []) ∨ (∃ b, v = .sl b 0 0 (some 0) ∧ l = []) ∨ ∃ b, v = .sl b 0 l.length none ∧ l ≠ [] ∧ lo ≤ b ∧ b < hi ∧ H.get b = some (bb 5 true l)
def tail9 : List UInt8 := [200, 201, 202, 203, 204, 205, 206, 207, 208]
theorem mkZero5 (m : Nat) : mkZero E 5 m = some (.bys 5 m false 0) := by kernel_rfl
def over77 (j : Nat) (l : List UInt8) : List UInt8 := List.replicate j 77 ++ l.drop j
theorem rd_bb' {e : Nat} {o : Bool} {l : List UInt8} {i : Nat} {x : UInt8} (h : l[i]? = some x) : rdCell (bb e o l) i = some (AV.int .u8 (x.toNat : Int)) := by
  have := bytesAt_bb e o l i x h
  rwa [Nat.zero_add] at this
def z1 : AV := .cons .snil .nil
structure BookAt (H : AH) (B pb : Nat) (S : List AV) where
  bl : AV
  o : AObj
  low : B ≤ pb
  lt : pb < H.next
  get : H.get pb = some o
  el : ElB enc1 45 1 false z1 [bl] o
  bytes : LstAt enc1 33 1 z1 H B bl S
  d1 : ∀ b, blk bl = some b → b ≠ pb
def BookAt.keep {H H2 : AH} {B pb : Nat} {S : List AV} {W : Nat → Prop} (h : BookAt H B pb S) (hk : Keep W H H2) (hw : ∀ b, B ≤ b → ¬ W b) : BookAt H2 B pb S :=
  ⟨h.bl, h.o, h.low, Nat.lt_of_lt_of_le h.lt hk.1, hk.get h.lt (hw _ h.low) h.get, h.el, h.bytes.keep hk (fun _ e => hw _ (h.bytes.low e).1), h.d1⟩
end
end Go.Proofs.YtfgipbjaapkdlaaGreatDoor
