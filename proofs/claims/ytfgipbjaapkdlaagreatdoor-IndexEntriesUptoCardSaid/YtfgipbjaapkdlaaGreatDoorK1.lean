/- A part of the proof of this seat's statement. Conditions: in each theorem. -/
import Derived.Test.YtfgipbjaapkdlaaGreatDoorS3
import Derived.Test.YtfgipbjaapkdlaaGreatDoorZ5
namespace Go.Proofs.YtfgipbjaapkdlaaGreatDoor
open Go.Xq
noncomputable section
theorem tyOk : TyOk Tryz.prog E := tyOk_of _ _ _ _ _
theorem cdF {b : Frame} {n : Cx} {T : Tr AV} {D : List ADf} {H : AH} {Q : Out → Prop} {ops : Array Oper} {q : Operand} {c : Code} (h : Q (.nor T D H)) (ht : opnd q T = some (.bool false) := by simp) : WDO Tryz.prog b n ops [] T D H fun o => match o with
   | .nor T2 D2 H2 => WD Tryz.prog b n [.code (.cond q c .skip)] T2 D2 H2 Q
   | o => Q o := WDO.nilS (WD.cond (t := false) ht (fun e => by cases e) fun _ => WD.skip (.inl rfl) h)
theorem cdT {b : Frame} {n : Cx} {T : Tr AV} {D : List ADf} {H : AH} {Q : Out → Prop} {ops os : Array Oper} {q : Operand} {c d : Code} {id : Nat} (h : WDO Tryz.prog b n os os.toList T D H fun o => match o with
   | .nor T2 D2 H2 => WD Tryz.prog b n [.code c] T2 D2 H2 Q
   | o => Q o) (ht : opnd q T = some (.bool true) := by simp) : WDO Tryz.prog b n ops [] T D H fun o => match o with
   | .nor T2 D2 H2 => WD Tryz.prog b n [.code (.cond q (.seq (.region id os false) c) d)] T2 D2 H2 Q
   | o => Q o := WDO.nilS (WD.cond (t := true) ht (fun _ => WD.seqR h) fun e => by cases e)
theorem leD {b : Frame} {n : Cx} {T T2 : Tr AV} {D : List ADf} {H : AH} {Q : Out → Prop} (j : Nat) {ops : Array Oper} {r : List Oper} (ls : List Lk) (h : WDO Tryz.prog b n ops (r.drop j) T2 D H Q) (ho : runLk ls T H = some T2 := by simp (disch := omega) []; exact rfl) (hk : lksOf E n.n ops.toList (r.take j) = some ls := by kernel_rfl) : WDO Tryz.prog b n ops r T D H Q := WDO.looks1 tyOk extOk j hk ho h
theorem leP {b : Frame} {n : Cx} {T T2 : Tr AV} {D : List ADf} {H : AH} {Q : Out → Prop} (j : Nat) {ops : Array Oper} {r : List Oper} (ls : List Lk) (h : WPO Tryz.prog b n ops (r.drop j) T2 D H Q) (ho : runLk ls T H = some T2 := by simp (disch := omega) []; exact rfl) (hk : lksOf E n.n ops.toList (r.take j) = some ls := by kernel_rfl) : WPO Tryz.prog b n ops r T D H Q := WPO.looks1 tyOk extOk j hk ho h
theorem lkP {b : Frame} {n : Cx} {T T2 : Tr AV} {D : List ADf} {H : AH} {Q : Out → Prop} (j : Nat) {ops : Array Oper} {r : List Oper} (ls : List Lk) (ho : runLk ls T H = some T2) (h : WPO Tryz.prog b n ops (r.drop j) T2 D H Q) (hk : lksOf E n.n ops.toList (r.take j) = some ls := by kernel_rfl) : WPO Tryz.prog b n ops r T D H Q := WPO.looks1 tyOk extOk j hk ho h
theorem lkD {b : Frame} {n : Cx} {T T2 : Tr AV} {D : List ADf} {H : AH} {Q : Out → Prop} (j : Nat) {ops : Array Oper} {r : List Oper} (ls : List Lk) (ho : runLk ls T H = some T2) (h : WDO Tryz.prog b n ops (r.drop j) T2 D H Q) (hk : lksOf E n.n ops.toList (r.take j) = some ls := by kernel_rfl) : WDO Tryz.prog b n ops r T D H Q := WDO.looks1 tyOk extOk j hk ho h
def mk (n i : Nat) : UInt8 := UInt8.ofNat (n + i / 251)
def marks (n len : Nat) : List UInt8 := (List.range len).map (mk n)
theorem marks_len (n len : Nat) : (marks n len).length = len := by simp [marks]
theorem marks_get (n len : Nat) {i : Nat} (hi : i < len) : (marks n len)[i]? = some (mk n i) := by
 simp [marks, List.getElem?_range hi]
theorem mk_int (n i : Nat) : ((mk n i).toNat : Int) = ((n : Int) + (i : Int) / 251) % 256 := u8_of (n + i / 251)
theorem marked_ok {H : AH} {v : AV} {n len : Nat} (h : RdS H v (marks n len)) (hn : n < 17179869184) (hl : len < 17179869184) : DC Tryz.prog .normal 43 (.cons v (.cons (.int .i64 (n : Int)) .nil)) H fun v' H2 => v' = .bool true ∧ H2 = H := by
 refine DC.of_wd (re := reTmp 4 reNil) tyOk Tryz.func43 (by kernel_rfl) rfl (by kernel_rfl) (by kernel_rfl) ?_
 rw [tl_nil, argsT_cons, argsT_cons, argsT_nil]
 refine WD.seqR ?_
 refine leD 1 [xZ false 4] ?_
 refine WDO.nilS (WD.seq (WD.seqR ?_))
 refine leD 1 [xK 0 5] ?_
 refine WDO.nilS (WD.forE (σ := Nat) (fun i => [(0, v), (1, .int .i64 n), (5, .int .i64 i)]) (fun i H' => i ≤ len ∧ H' = H) (fun i => len - i) 0 ⟨Nat.zero_le _, rfl⟩ (by simp) ?_)
 rintro i _ ⟨hi, rfl⟩
 have hlen := h.len
 rw [marks_len] at hlen
 refine lkD 4 [xM 5 6, xM 0 7, xN 7 8, xB akLss 6 8 9] (by simp (disch := omega) [hlen]; exact rfl) ?_
 refine WDO.nil ⟨decide (i < len), _, rfl, by simp, fun _ => ?_, fun hc => ?_⟩
 ·refine WD.seqR ?_
  refine leD 1 [xZ true 4] ?_
  exact WDO.nilS (WD.ret (endR _ (by simp; rfl) ⟨rfl, rfl⟩))
 ·have hc : i < len := of_decide_eq_true hc
  obtain ⟨b, off, cap, o, hv, hb, ho, hby⟩ := h.pos (by rw [marks_len]; omega)
  rw [marks_len] at hv
  have hrd := hby i _ (marks_get n len hc)
  have hmk := mk_int n i
  refine WD.seqR ?_
  refine lkD 10 [xM 0 12, xM 5 13, xI 1 12 13 14, xL 14 15, xM 1 16, xM 5 17, ⟨⟨binInt ⟨quoA⟩ (.tmp 17) (.const (.int .i64 251))⟩, (some 18), none⟩, xB akAdd 16 18 19, ⟨⟨cvInt .u8 (.tmp 19)⟩, (some 20), none⟩, xB akNeq 15 20 21] (by simp (disch := omega) [hv, ho, hrd, hmk]; exact rfl) ?_
  refine cdF ?_
  refine leD 3 [xM 5 10, xC akAdd 10 1 11, xM 11 5] ?_
  exact WDO.nil ⟨rfl, i + 1, _, rfl, by simp [hv], ⟨by omega, rfl⟩, by omega⟩
def Own (H : AH) (lo hi : Nat) (v : AV) (l : List UInt8) : Prop :=
 (v = .snil ∧ l = []) ∨ (∃ b, v = .sl b 0 0 (some 0) ∧ l = []) ∨ ∃ b, v = .sl b 0 l.length none ∧ l ≠ [] ∧ lo ≤ b ∧ b < hi ∧ H.get b = some (bb 5 true l)
def tail9 : List UInt8 := [200, 201, 202, 203, 204, 205, 206, 207, 208]
theorem mkZero5 (m : Nat) : mkZero E 5 m = some (.bys 5 m false 0) := by kernel_rfl
def over77 (j : Nat) (l : List UInt8) : List UInt8 := List.replicate j 77 ++ l.drop j
theorem rd_bb' {e : Nat} {o : Bool} {l : List UInt8} {i : Nat} {x : UInt8} (h : l[i]? = some x) : rdCell (bb e o l) i = some (AV.int .u8 (x.toNat : Int)) := by
 have := bytesAt_bb e o l i x h
 rwa [Nat.zero_add] at this
def z1 : AV := .cons .snil .nil
structure BookAt (H : AH) (B pb : Nat) (S : List AV) where
 bl : AV
 o : AObj
 low : B ≤ pb
 lt : pb < H.next
 get : H.get pb = some o
 el : ElB enc1 45 1 false z1 [bl] o
 bytes : LstAt enc1 33 1 z1 H B bl S
 d1 : ∀ b, blk bl = some b → b ≠ pb
theorem BookAt.r0 {H : AH} {B pb : Nat} {S : List AV} (h : BookAt H B pb S) : rdCell h.o 0 = some h.bl := by
 have := h.el.cell (k := 0) (j := 0) rfl rfl
 simpa using this
theorem BookAt.next {H : AH} {B pb : Nat} {S : List AV} (h : BookAt H B pb S) : B ≤ H.next := Nat.le_trans h.low (Nat.le_of_lt h.lt)
def BookAt.keep {H H2 : AH} {B pb : Nat} {S : List AV} {W : Nat → Prop} (h : BookAt H B pb S) (hk : Keep W H H2) (hw : ∀ b, B ≤ b → ¬ W b) : BookAt H2 B pb S :=
 ⟨h.bl, h.o, h.low, Nat.lt_of_lt_of_le h.lt hk.1, hk.get h.lt (hw _ h.low) h.get, h.el, h.bytes.keep hk (fun _ e => hw _ (h.bytes.low e).1), h.d1⟩
theorem take03_ok {H : AH} {B pb : Nat} {S : List AV} {v : AV} (h : BookAt H B pb S) (hv : isCell v = true) (hS : S.length < 8589934592) :
  DC Tryz.prog .normal 13 (.cons (.ptr pb 0) (.cons v .nil)) H fun _ H2 => ∃ _ : BookAt H2 B pb (S ++ [v]), Keep (fun b => B ≤ b) H H2 := by
 refine DC.of_wd (re := reNil) tyOk Tryz.func13 (by kernel_rfl) rfl (by kernel_rfl) (by kernel_rfl) ?_
 rw [tl_nil, argsT_cons, argsT_cons, argsT_nil]
 have hg := h.get
 have r0 := h.r0
 have hn := h.next
 refine WD.region ?_
 refine lkD 6 [xM 0 4, xM 0 5, ⟨⟨nilChk E (.tmp 5)⟩, (some 6), none⟩, xF 6 0 7, xL 7 8, xM 1 9] (by simp (disch := omega) [hg, r0]; exact rfl) ?_
 refine WDO.slice1 (enc := enc1) (a := v) tyOk enc1_len (by kernel_rfl : freshK E _ = some ⟨frSlice 1 (zerosA (.cons .snil .nil) 1) ⟨fill1 (.tmp 9) 0 1 flEnd⟩ ⟨mkCs 33 1 (.cons .snil .nil)⟩⟩) rfl (by kernel_rfl) (by simp; rfl) (by first | rfl | (rw [cellsA_cell (by assumption)]; rfl) | (simp [enc1, chA]; done)) (by rfl) (by rfl) fun o1 b1 => ?_
 have hk1 := Keep.new noB H o1
 have h1 := h.bytes.keep hk1 fun _ _ => id
 have g1 : (H.new o1).get H.next = some o1 := get_new_same _ _
 obtain ⟨v', H2, a1, a2, a3, a4, a5⟩ := h1.app enc1_len (by omega) (by simp; omega) (cells1 hv) (One.of (cap := some 1) g1 b1) hS
 refine WDO.heavy1 tyOk extOk (k := ⟨hvAppend ⟨grownCs 1 ⟨mkCs 33 1 (.cons .snil .nil)⟩⟩ 1 (.tmp 8) (.tmp 10)⟩) (by kernel_rfl) rfl (by kernel_rfl) (by simp; exact a1) ?_
 refine leD 2 [⟨⟨nilChk E (.tmp 4)⟩, (some 12), none⟩, xF 12 0 13] ?_
 have hp2 : H2.get pb = some h.o := a5.get (by have := h.lt; simp; omega) (fun e => h.d1 pb e rfl) (hk1.get h.lt id h.get)
 obtain ⟨o3, s1, s2⟩ := st1_el (a' := v') (v := v') (f := 0) enc1_len h.el hp2 (i := 0) rfl (by omega) rfl a2.cell
 refine WDO.heavy1 tyOk extOk (k := ⟨hvStore ⟨st1'⟩ (.tmp 13) (.tmp 11)⟩) (by kernel_rfl) rfl (by kernel_rfl) (by simp at s1; simp [s1]; exact ⟨rfl, rfl⟩) ?_
 have hlt := h.lt
 have hlow := h.low
 have hn2 : H2.next = H.next + 2 := by rw [a4]; simp
 have hks : Keep (fun b => b = pb) H2 (H2.set pb o3) := Keep.set _ fun _ => rfl
 refine WDO.nil (endN _ rfl ⟨⟨v', o3, h.low, by simp [hn2]; omega, get_set_same _ _ _, s2, ?_, ?_⟩, ?_⟩)
 ·exact a2.keep hks fun b e e2 => by rw [a3] at e; cases e; simp at e2; omega
 ·intro b e
  have e : blk v' = some b := e
  rw [a3] at e
  cases e
  simp; omega
 ·exact ((hk1.mono fun _ _ e => e.elim).trans (a5.mono fun b _ e => (h.bytes.low e).1)).trans (hks.mono fun b _ e => e ▸ hlow)
end
end Go.Proofs.YtfgipbjaapkdlaaGreatDoor
