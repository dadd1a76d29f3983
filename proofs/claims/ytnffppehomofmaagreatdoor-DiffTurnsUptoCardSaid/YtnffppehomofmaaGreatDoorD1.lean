/- A part of the proof of this seat's statement: what is particular to its program. Its conditions stand in each theorem. -/
import Derived.Test.YtnffppehomofmaaGreatDoorS3
import Derived.Test.YtnffppehomofmaaGreatDoorZ3
import Derived.Test.YtnffppehomofmaaGreatDoorZ4
namespace Go.Proofs.YtnffppehomofmaaGreatDoor
open Go.Xq
noncomputable section
def markL (n : Nat) : List UInt8 := [109, 97, 114, 107, UInt8.ofNat n, UInt8.ofNat (n / 256), UInt8.ofNat (n / 65536)]
theorem tyOk : TyOk Tryz.prog E := tyOk_of _ _ _ _ _
theorem mark_ok (n : Nat) (H : AH) (hn : n < 4611686018427387904) : DC Tryz.prog .normal 28 (.cons (.int .i64 (n : Int)) .nil) H fun v H2 => v = sb (markL n) ∧ Keep noB H H2 := by
  refine DC.of_wd (re := reTmp 2 reNil) tyOk Tryz.func28 (by kernel_rfl) rfl (by kernel_rfl) (by kernel_rfl) ?_
  rw [tl_nil, argsT_cons, argsT_nil]
  refine WD.seqR ?_
  refine WDO.looks1 tyOk extOk 1 (ls := [⟨lkMove (.const (.string ⟨#[]⟩)), (some 2), none⟩]) (by kernel_rfl) (by simp (disch := omega) []; exact rfl) ?_
  refine WDO.nilS (WD.seqR ?_)
  refine WDO.looks1 tyOk extOk 8 (ls := [⟨lkMove (.tmp 0), (some 3), none⟩, ⟨⟨cvInt .u8 (.tmp 3)⟩, (some 4), none⟩, ⟨lkMove (.tmp 0), (some 5), none⟩, ⟨⟨binInt ⟨quoA⟩ (.tmp 5) (.const (.int .i64 256))⟩, (some 6), none⟩, ⟨⟨cvInt .u8 (.tmp 6)⟩, (some 7), none⟩, ⟨lkMove (.tmp 0), (some 8), none⟩, ⟨⟨binInt ⟨quoA⟩ (.tmp 8) (.const (.int .i64 65536))⟩, (some 9), none⟩, ⟨⟨cvInt .u8 (.tmp 9)⟩, (some 10), none⟩]) (by kernel_rfl) (by simp (disch := omega) []; exact rfl) ?_
  have e1 : (n : Int) % 256 = ((UInt8.ofNat n).toNat : Int) := (u8_of n).symm
  have e2 : (n : Int) / 256 % 256 = ((UInt8.ofNat (n / 256)).toNat : Int) := (u8_of (n / 256)).symm
  have e3 : (n : Int) / 65536 % 256 = ((UInt8.ofNat (n / 65536)).toNat : Int) := (u8_of (n / 65536)).symm
  have hm : markL n = [109, 97, 114, 107, UInt8.ofNat n, UInt8.ofNat (n / 256), UInt8.ofNat (n / 65536)] := rfl
  rw [e1, e2, e3, hm]
  clear e1 e2 e3 hm
  generalize UInt8.ofNat n = x1
  generalize UInt8.ofNat (n / 256) = x2
  generalize UInt8.ofNat (n / 65536) = x3
  refine WDO.fresh1 tyOk (k := ⟨frSlice 3 (zerosA (.cons (.int .u8 0) .nil) 3) ⟨fill1 (.tmp 4) 0 1 ⟨fill1 (.tmp 7) 1 1 ⟨fill1 (.tmp 10) 2 1 flEnd⟩⟩⟩ ⟨mkBy 5⟩⟩) (by kernel_rfl) rfl (by kernel_rfl) (v := .sl H.next 0 3 (some 3)) (x := bb 5 false [x1, x2, x3]) ?_ ?_
  · have := leA_bytes [x1, x2, x3]
    simp only [List.map_cons, List.map_nil, avl_cons, avl_nil] at this
    simp [mkBy, this, bb]
  have hs := bytesSl_of (H := H.new (bb 5 false [x1, x2, x3])) (b := H.next) (off := 0) (fun _ => get_new_same H _) (bytesAt_bb 5 false [x1, x2, x3])
  have ha : addS 4 (leNat [109, 97, 114, 107]) 3 (leNat [x1, x2, x3]) = some (sb [109, 97, 114, 107, x1, x2, x3]) := addS_sb (a := [109, 97, 114, 107]) (b := [x1, x2, x3]) (by simp)
  refine WDO.looks1 tyOk extOk 3 (ls := [⟨⟨cvStr (.tmp 11)⟩, (some 12), none⟩, ⟨⟨binStr ⟨addS⟩ (.const (.string ⟨#[109, 97, 114, 107]⟩)) (.tmp 12)⟩, (some 13), none⟩, ⟨lkMove (.tmp 13), (some 2), none⟩]) (by kernel_rfl) (by simp (disch := omega) [show bytesSl _ H.next 0 3 = _ from hs, ha]; exact rfl) ?_
  refine WDO.nilS (WD.ret (endR _ (by simp; rfl) ?_))
  exact ⟨rfl, Keep.new _ _ _⟩
end
end Go.Proofs.YtnffppehomofmaaGreatDoor
namespace Go.Proofs.YtnffppehomofmaaGreatDoor
open Go.Xq
noncomputable section
def mk (n i : Nat) : UInt8 := UInt8.ofNat (n + i / 251)
/-- the marks of a list -/
def marks (n len : Nat) : List UInt8 := (List.range len).map (mk n)
theorem marks_len (n len : Nat) : (marks n len).length = len := by simp [marks]
theorem marks_get (n len : Nat) {i : Nat} (hi : i < len) : (marks n len)[i]? = some (mk n i) := by
  simp [marks, List.getElem?_range hi]
theorem mk_int (n i : Nat) : ((mk n i).toNat : Int) = ((n : Int) + (i : Int) / 251) % 256 := u8_of (n + i / 251)
theorem marked_ok {H : AH} {v : AV} {n len : Nat} (h : RdS H v (marks n len)) (hn : n < 1073741824) (hl : len < 1073741824) : DC Tryz.prog .normal 56 (.cons v (.cons (.int .i64 (n : Int)) .nil)) H fun v' H2 => v' = .bool true ∧ H2 = H := by
  refine DC.of_wd (re := reTmp 4 reNil) tyOk Tryz.func56 (by kernel_rfl) rfl (by kernel_rfl) (by kernel_rfl) ?_
  rw [tl_nil, argsT_cons, argsT_cons, argsT_nil]
  refine WD.seqR ?_
  refine WDO.looks1 tyOk extOk 1 (ls := [⟨lkMove (.const (.bool false)), (some 4), none⟩]) (by kernel_rfl) (by simp (disch := omega) []; exact rfl) ?_
  refine WDO.nilS (WD.seq (WD.seqR ?_))
  refine WDO.looks1 tyOk extOk 1 (ls := [⟨lkMove (.const (.int .i64 0)), (some 5), none⟩]) (by kernel_rfl) (by simp (disch := omega) []; exact rfl) ?_
  refine WDO.nilS (WD.forE (σ := Nat) (fun i => [(0, v), (1, .int .i64 n), (5, .int .i64 i)]) (fun i H' => i ≤ len ∧ H' = H) (fun i => len - i) 0 ⟨Nat.zero_le _, rfl⟩ (by simp) ?_)
  rintro i _ ⟨hi, rfl⟩
  have hlen := h.len
  rw [marks_len] at hlen
  refine WDO.looks1 tyOk extOk 4 (ls := [⟨lkMove (.tmp 5), (some 6), none⟩, ⟨lkMove (.tmp 0), (some 7), none⟩, ⟨⟨lenSl (.tmp 7)⟩, (some 8), none⟩, ⟨⟨binInt akLss (.tmp 6) (.tmp 8)⟩, (some 9), none⟩]) (by kernel_rfl) (by simp (disch := omega) [hlen]; exact rfl) ?_
  refine WDO.nil ⟨decide (i < len), _, rfl, by simp, fun _ => ?_, fun hc => ?_⟩
  · refine WD.seqR ?_
    refine WDO.looks1 tyOk extOk 1 (ls := [⟨lkMove (.const (.bool true)), (some 4), none⟩]) (by kernel_rfl) (by simp (disch := omega) []; exact rfl) ?_
    exact WDO.nilS (WD.ret (endR _ (by simp; rfl) ⟨rfl, rfl⟩))
  · have hc : i < len := of_decide_eq_true hc
    obtain ⟨b, off, cap, o, hv, hb, ho, hby⟩ := h.pos (by rw [marks_len]; omega)
    rw [marks_len] at hv
    have hrd := hby i _ (marks_get n len hc)
    have hmk := mk_int n i
    refine WD.seqR ?_
    refine WDO.looks1 tyOk extOk 10 (ls := [⟨lkMove (.tmp 0), (some 12), none⟩, ⟨lkMove (.tmp 5), (some 13), none⟩, ⟨⟨ixSl 1 (.tmp 12) (.tmp 13)⟩, (some 14), none⟩, ⟨⟨ldA ⟨ld1⟩ (.tmp 14)⟩, (some 15), none⟩, ⟨lkMove (.tmp 1), (some 16), none⟩, ⟨lkMove (.tmp 5), (some 17), none⟩, ⟨⟨binInt ⟨quoA⟩ (.tmp 17) (.const (.int .i64 251))⟩, (some 18), none⟩, ⟨⟨binInt akAdd (.tmp 16) (.tmp 18)⟩, (some 19), none⟩, ⟨⟨cvInt .u8 (.tmp 19)⟩, (some 20), none⟩, ⟨⟨binInt akNeq (.tmp 15) (.tmp 20)⟩, (some 21), none⟩]) (by kernel_rfl) (by simp (disch := omega) [hv, ho, hrd, hmk]; exact rfl) ?_
    refine WDO.nilS (WD.cond (t := false) (by simp) (by simp) fun _ => WD.skip (.inl rfl) ?_)
    refine WDO.looks1 tyOk extOk 3 (ls := [⟨lkMove (.tmp 5), (some 10), none⟩, ⟨⟨binInt akAdd (.tmp 10) (.const (.int .i64 1))⟩, (some 11), none⟩, ⟨lkMove (.tmp 11), (some 5), none⟩]) (by kernel_rfl) (by simp (disch := omega) []; exact rfl) ?_
    exact WDO.nil ⟨rfl, i + 1, _, rfl, by simp [hv], ⟨by omega, rfl⟩, by omega⟩
end
end Go.Proofs.YtnffppehomofmaaGreatDoor
namespace Go.Proofs.YtnffppehomofmaaGreatDoor
open Go.Xq
noncomputable section
/-- bytes in memory of their own, in a block between lo and hi -/
def Own (H : AH) (lo hi : Nat) (v : AV) (l : List UInt8) : Prop :=
  (v = .snil ∧ l = []) ∨ (∃ b, v = .sl b 0 0 (some 0) ∧ l = []) ∨ ∃ b, v = .sl b 0 l.length none ∧ l ≠ [] ∧ lo ≤ b ∧ b < hi ∧ H.get b = some (bb 5 true l)
theorem clone_ok {H : AH} {v : AV} {l : List UInt8} (h : RdS H v l) (hl : l.length ≤ 1048576) : DC Tryz.prog .normal 22 (.cons v .nil) H fun v' H2 => Own H2 H.next H2.next v' l ∧ Keep noB H H2 := by
  refine DC.of_wd (re := reTmp 2 reNil) tyOk Tryz.func22 (by kernel_rfl) rfl (by kernel_rfl) (by kernel_rfl) ?_
  rw [tl_nil, argsT_cons, argsT_nil]
  refine WD.seqR ?_
  refine WDO.looks1 tyOk extOk 1 (ls := [⟨lkMove (.const (.slice none 0 0)), (some 2), none⟩]) (by kernel_rfl) (by simp (disch := omega) []; exact rfl) ?_
  refine WDO.nilS (WD.seq (WD.seqR ?_))
  rcases h with ⟨rfl, rfl⟩ | ⟨b, off, cap, rfl, h⟩
  · refine WDO.looks1 tyOk extOk 2 (ls := [⟨lkMove (.tmp 0), (some 3), none⟩, ⟨⟨binEq ⟨eqSl⟩ false (.tmp 3) (.const (.slice none 0 0))⟩, (some 4), none⟩]) (by kernel_rfl) (by simp (disch := omega) [eqSl]; exact rfl) ?_
    refine WDO.nilS (WD.cond (t := true) (by simp) (fun _ => ?_) (by simp))
    refine WD.seqR ?_
    refine WDO.looks1 tyOk extOk 1 (ls := [⟨lkMove (.const (.slice none 0 0)), (some 2), none⟩]) (by kernel_rfl) (by simp (disch := omega) []; exact rfl) ?_
    exact WDO.nilS (WD.ret (endR _ (by simp; rfl) ⟨.inl ⟨rfl, rfl⟩, Keep.refl _ _⟩))
  · refine WDO.looks1 tyOk extOk 2 (ls := [⟨lkMove (.tmp 0), (some 3), none⟩, ⟨⟨binEq ⟨eqSl⟩ false (.tmp 3) (.const (.slice none 0 0))⟩, (some 4), none⟩]) (by kernel_rfl) (by simp (disch := omega) [eqSl]; exact rfl) ?_
    refine WDO.nilS (WD.cond (t := false) (by simp) (by simp) fun _ => WD.skip (.inl rfl) ?_)
    refine WD.seqR ?_
    refine WDO.fresh1 tyOk (k := ⟨frSlice 0 (zerosA (.cons (.int .u8 0) .nil) 0) flEnd ⟨mkBy 5⟩⟩) (by kernel_rfl) rfl (by kernel_rfl) (v := .sl H.next 0 0 (some 0)) (x := bb 5 false []) (by simp [mkBy, leA, bb, leNat]) ?_
    refine WDO.looks1 tyOk extOk 1 (ls := [⟨lkMove (.tmp 0), (some 6), none⟩]) (by kernel_rfl) (by simp (disch := omega) []; exact rfl) ?_
    have hk := Keep.new noB H (bb 5 false [])
    have hx : RdS (H.new (bb 5 false [])) (.sl b off l.length cap) l := RdS.keep (.inr ⟨b, off, cap, rfl, h⟩) hk fun _ _ => id
    by_cases hn : l = []
    · subst hn
      have ha := appB_zero (e := 5) (c := 0) hx (b := H.next) (off := 0) (len := 0) (Nat.le_refl _) (by omega)
      refine WDO.heavy1 tyOk extOk (k := ⟨hvAppend ⟨grownBy 5⟩ 1 (.tmp 5) (.tmp 6)⟩) (by kernel_rfl) rfl (by kernel_rfl) (by simp; exact ha) ?_
      refine WDO.looks1 tyOk extOk 1 (ls := [⟨lkMove (.tmp 7), (some 2), none⟩]) (by kernel_rfl) (by simp (disch := omega) []; exact rfl) ?_
      exact WDO.nilS (WD.ret (endR _ (by simp; rfl) ⟨.inr (.inl ⟨_, rfl, rfl⟩), hk⟩))
    · have ha := appB_full (e := 5) (H := H.new (bb 5 false [])) (b := H.next) (off := 0) (len := 0) (k := []) (.sl rfl (by simp)) rfl hx hn (by omega)
      refine WDO.heavy1 tyOk extOk (k := ⟨hvAppend ⟨grownBy 5⟩ 1 (.tmp 5) (.tmp 6)⟩) (by kernel_rfl) rfl (by kernel_rfl) (by simp; exact ha) ?_
      refine WDO.looks1 tyOk extOk 1 (ls := [⟨lkMove (.tmp 7), (some 2), none⟩]) (by kernel_rfl) (by simp (disch := omega) []; exact rfl) ?_
      refine WDO.nilS (WD.ret (endR _ (by simp; rfl) ⟨.inr (.inr ⟨H.next + 1, ?_, hn, by omega, by simp, ?_⟩), hk.trans (Keep.new _ _ _)⟩))
      · simp [resultA_one]
      · have := get_new_same (H.new (bb 5 false [])) (bb 5 true l)
        simpa using this
end
end Go.Proofs.YtnffppehomofmaaGreatDoor
namespace Go.Proofs.YtnffppehomofmaaGreatDoor
open Go.Xq
noncomputable section
/-- a change as its cells -/
structure Cv where
  tr : List UInt8
  key : AV
  was : Bool
  is : Bool
  old : AV
  new : AV
/-- what a change says -/
structure Ch where
  t : List UInt8
  k : List UInt8
  was : Bool
  is : Bool
  o : List UInt8
  w : List UInt8
def encC (c : Cv) : List AV := [sb c.tr, c.key, .bool c.was, .bool c.is, c.old, c.new]
theorem encC_len (c : Cv) : (encC c).length = 6 := rfl
structure RdC (H : AH) (c : Cv) (g : Ch) : Prop where
  tr : c.tr = g.t
  was : c.was = g.was
  is : c.is = g.is
  key : RdS H c.key g.k
  old : RdS H c.old g.o
  new : RdS H c.new g.w
theorem RdC.cells {H : AH} {c : Cv} {g : Ch} (h : RdC H c g) : ∀ v ∈ encC c, isCell v = true := by
  intro v hv
  simp only [encC, List.mem_cons, List.not_mem_nil, or_false] at hv
  rcases hv with rfl | rfl | rfl | rfl | rfl | rfl
  · rfl
  · exact h.key.cell
  · rfl
  · rfl
  · exact h.old.cell
  · exact h.new.cell
/-- no block of a change's is one of these -/
structure OutC (S : Nat → Prop) (c : Cv) : Prop where
  key : ∀ b, blk c.key = some b → ¬ S b
  old : ∀ b, blk c.old = some b → ¬ S b
  new : ∀ b, blk c.new = some b → ¬ S b
theorem OutC.no (c : Cv) : OutC noB c := ⟨fun _ _ => id, fun _ _ => id, fun _ _ => id⟩
theorem RdC.keep {S : Nat → Prop} {H H2 : AH} {c : Cv} {g : Ch} (h : RdC H c g) (hk : Keep S H H2) (ho : OutC S c) : RdC H2 c g :=
  ⟨h.tr, h.was, h.is, h.key.keep hk ho.key, h.old.keep hk ho.old, h.new.keep hk ho.new⟩
def zC : AV := .cons (.str 0 0) (.cons .snil (.cons (.bool false) (.cons (.bool false) (.cons .snil (.cons .snil .nil)))))
def chA (c : Cv) : AV := .agg (avl (encC c))
set_option maxRecDepth 10000 in
theorem same_ok {H : AH} {c d : Cv} {g : Ch} (h1 : RdC H c g) (h2 : RdC H d g) : DC Tryz.prog .normal 24 (.cons (chA c) (.cons (chA d) .nil)) H fun v' H2 => v' = .bool true ∧ Keep noB H H2 := by
  refine DC.of_wd (re := reTmp 4 reNil) tyOk Tryz.func24 (by kernel_rfl) rfl (by kernel_rfl) (by kernel_rfl) ?_
  rw [tl_nil, argsT_cons, argsT_cons, argsT_nil]
  refine WD.seqR ?_
  obtain ⟨o1, e1, b1⟩ := frBox_el (enc := encC) (e := 55) (z := zC) encC_len (x := .tmp 0) (T := tl [(1, chA d), (0, chA c)]) (b0 := H.next) (a := c) (by simp; rfl)
  refine WDO.fresh1 tyOk (k := ⟨frBox ⟨mkCs 55 6 (.cons (.str 0 0) (.cons .snil (.cons (.bool false) (.cons (.bool false) (.cons .snil (.cons .snil .nil))))))⟩ (.tmp 0)⟩) (by kernel_rfl) rfl (by kernel_rfl) e1 ?_
  obtain ⟨o2, e2, b2⟩ := frBox_el (enc := encC) (e := 55) (z := zC) encC_len (x := .tmp 1) (T := tl [(2, .ptr H.next 0), (1, chA d), (0, chA c)]) (b0 := (H.new o1).next) (a := d) (by simp; rfl)
  refine WDO.fresh1 tyOk (k := ⟨frBox ⟨mkCs 55 6 (.cons (.str 0 0) (.cons .snil (.cons (.bool false) (.cons (.bool false) (.cons .snil (.cons .snil .nil))))))⟩ (.tmp 1)⟩) (by kernel_rfl) rfl (by kernel_rfl) e2 ?_
  have hk : Keep noB H ((H.new o1).new o2) := (Keep.new _ _ _).trans (Keep.new _ _ _)
  have g1 : ((H.new o1).new o2).get H.next = some o1 := by rw [AH.get_new, if_neg (by simp), get_new_same]
  have g2 : ((H.new o1).new o2).get (H.next + 1) = some o2 := by rw [AH.get_new, if_pos (by simp)]
  have h1 := h1.keep hk (OutC.no _)
  have h2 := h2.keep hk (OutC.no _)
  have r : ∀ {o : AObj} {c : Cv} {j : Nat} {v : AV}, ElB encC 55 6 false zC [c] o → (encC c)[j]? = some v → rdCell o j = some v := fun hb hv => by
    have := hb.cell (k := 0) rfl hv
    simpa using this
  have a0 := r b1 (j := 0) rfl
  have a1 := r b1 (j := 1) rfl
  have a2 := r b1 (j := 2) rfl
  have a3 := r b1 (j := 3) rfl
  have a4 := r b1 (j := 4) rfl
  have a5 := r b1 (j := 5) rfl
  have d0 := r b2 (j := 0) rfl
  have d1 := r b2 (j := 1) rfl
  have d2 := r b2 (j := 2) rfl
  have d3 := r b2 (j := 3) rfl
  have d4 := r b2 (j := 4) rfl
  have d5 := r b2 (j := 5) rfl
  refine WDO.looks1 tyOk extOk 1 (ls := [⟨lkMove (.const (.bool false)), (some 4), none⟩]) (by kernel_rfl) (by simp (disch := omega) []; exact rfl) ?_
  refine WDO.nilS (WD.seqR ?_)
  refine WDO.looks1 tyOk extOk 47 (ls := [⟨⟨fAddr (.tmp 2) 0⟩, (some 5), none⟩, ⟨⟨ldA ⟨ld1⟩ (.tmp 5)⟩, (some 6), none⟩, ⟨⟨fAddr (.tmp 3) 0⟩, (some 7), none⟩, ⟨⟨ldA ⟨ld1⟩ (.tmp 7)⟩, (some 8), none⟩, ⟨⟨binStr skEql (.tmp 6) (.tmp 8)⟩, (some 9), none⟩, ⟨lkMove (.tmp 9), (some 10), none⟩, ⟨⟨fAddr (.tmp 2) 2⟩, (some 11), (some (10, true))⟩, ⟨⟨ldA ⟨ld1⟩ (.tmp 11)⟩, (some 12), (some (10, true))⟩, ⟨⟨fAddr (.tmp 3) 2⟩, (some 13), (some (10, true))⟩, ⟨⟨ldA ⟨ld1⟩ (.tmp 13)⟩, (some 14), (some (10, true))⟩, ⟨⟨binEq ⟨eqBool⟩ false (.tmp 12) (.tmp 14)⟩, (some 15), (some (10, true))⟩, ⟨⟨pickA (.tmp 10) (.tmp 15) (.const (.bool false))⟩, (some 16), none⟩, ⟨lkMove (.tmp 16), (some 17), none⟩, ⟨⟨fAddr (.tmp 2) 3⟩, (some 18), (some (17, true))⟩, ⟨⟨ldA ⟨ld1⟩ (.tmp 18)⟩, (some 19), (some (17, true))⟩, ⟨⟨fAddr (.tmp 3) 3⟩, (some 20), (some (17, true))⟩, ⟨⟨ldA ⟨ld1⟩ (.tmp 20)⟩, (some 21), (some (17, true))⟩, ⟨⟨binEq ⟨eqBool⟩ false (.tmp 19) (.tmp 21)⟩, (some 22), (some (17, true))⟩, ⟨⟨pickA (.tmp 17) (.tmp 22) (.const (.bool false))⟩, (some 23), none⟩, ⟨lkMove (.tmp 23), (some 24), none⟩, ⟨⟨fAddr (.tmp 2) 1⟩, (some 25), (some (24, true))⟩, ⟨⟨ldA ⟨ld1⟩ (.tmp 25)⟩, (some 26), (some (24, true))⟩, ⟨⟨cvStr (.tmp 26)⟩, (some 27), (some (24, true))⟩, ⟨⟨fAddr (.tmp 3) 1⟩, (some 28), (some (24, true))⟩, ⟨⟨ldA ⟨ld1⟩ (.tmp 28)⟩, (some 29), (some (24, true))⟩, ⟨⟨cvStr (.tmp 29)⟩, (some 30), (some (24, true))⟩, ⟨⟨binStr skEql (.tmp 27) (.tmp 30)⟩, (some 31), (some (24, true))⟩, ⟨⟨pickA (.tmp 24) (.tmp 31) (.const (.bool false))⟩, (some 32), none⟩, ⟨lkMove (.tmp 32), (some 33), none⟩, ⟨⟨fAddr (.tmp 2) 4⟩, (some 34), (some (33, true))⟩, ⟨⟨ldA ⟨ld1⟩ (.tmp 34)⟩, (some 35), (some (33, true))⟩, ⟨⟨cvStr (.tmp 35)⟩, (some 36), (some (33, true))⟩, ⟨⟨fAddr (.tmp 3) 4⟩, (some 37), (some (33, true))⟩, ⟨⟨ldA ⟨ld1⟩ (.tmp 37)⟩, (some 38), (some (33, true))⟩, ⟨⟨cvStr (.tmp 38)⟩, (some 39), (some (33, true))⟩, ⟨⟨binStr skEql (.tmp 36) (.tmp 39)⟩, (some 40), (some (33, true))⟩, ⟨⟨pickA (.tmp 33) (.tmp 40) (.const (.bool false))⟩, (some 41), none⟩, ⟨lkMove (.tmp 41), (some 42), none⟩, ⟨⟨fAddr (.tmp 2) 5⟩, (some 43), (some (42, true))⟩, ⟨⟨ldA ⟨ld1⟩ (.tmp 43)⟩, (some 44), (some (42, true))⟩, ⟨⟨cvStr (.tmp 44)⟩, (some 45), (some (42, true))⟩, ⟨⟨fAddr (.tmp 3) 5⟩, (some 46), (some (42, true))⟩, ⟨⟨ldA ⟨ld1⟩ (.tmp 46)⟩, (some 47), (some (42, true))⟩, ⟨⟨cvStr (.tmp 47)⟩, (some 48), (some (42, true))⟩, ⟨⟨binStr skEql (.tmp 45) (.tmp 48)⟩, (some 49), (some (42, true))⟩, ⟨⟨pickA (.tmp 42) (.tmp 49) (.const (.bool false))⟩, (some 50), none⟩, ⟨lkMove (.tmp 50), (some 4), none⟩]) (by kernel_rfl) (by simp (disch := omega) [g1, g2, a0, a1, a2, a3, a4, a5, d0, d1, d2, d3, d4, d5, h1.tr, h2.tr, h1.was, h2.was, h1.is, h2.is, h1.key.str, h2.key.str, h1.old.str, h2.old.str, h1.new.str, h2.new.str]; exact rfl) ?_
  exact WDO.nilS (WD.ret (endR _ (by simp; rfl) ⟨rfl, hk⟩))
def turnC (c : Cv) : Cv := ⟨c.tr, c.key, c.is, c.was, c.new, c.old⟩
theorem cells_turn {c : Cv} (hc : ∀ v ∈ encC c, isCell v = true) : ∀ v ∈ encC (turnC c), isCell v = true := by
  intro v hv
  simp only [encC, turnC, List.mem_cons, List.not_mem_nil, or_false] at hv
  rcases hv with rfl | rfl | rfl | rfl | rfl | rfl
  · rfl
  · exact hc _ (by simp [encC])
  · rfl
  · rfl
  · exact hc _ (by simp [encC])
  · exact hc _ (by simp [encC])
theorem turned_ok {H : AH} {c : Cv} (hc : ∀ v ∈ encC c, isCell v = true) : DC Tryz.prog .normal 25 (.cons (chA c) .nil) H fun v' H2 => v' = chA (turnC c) ∧ Keep noB H H2 := by
  refine DC.of_wd (re := reCell ⟨ldN 6⟩ 2 reNil) tyOk Tryz.func25 (by kernel_rfl) rfl (by kernel_rfl) (by kernel_rfl) ?_
  rw [tl_nil, argsT_cons, argsT_nil]
  refine WD.seqR ?_
  obtain ⟨o1, e1, b1⟩ := frBox_el (enc := encC) (e := 55) (z := zC) encC_len (x := .tmp 0) (T := tl [(0, chA c)]) (b0 := H.next) (a := c) (by simp; rfl)
  refine WDO.fresh1 tyOk (k := ⟨frBox ⟨mkCs 55 6 (.cons (.str 0 0) (.cons .snil (.cons (.bool false) (.cons (.bool false) (.cons .snil (.cons .snil .nil))))))⟩ (.tmp 0)⟩) (by kernel_rfl) rfl (by kernel_rfl) e1 ?_
  have b2 := ElB.zeros (enc := encC) (e := 55) (es := 6) (op := false) (z := zC) encC_len (a := ⟨[], .snil, false, false, .snil, .snil⟩) rfl 1
  generalize ho2 : AObj.cs 55 6 (1 * 6) false zC .e = o2 at b2
  refine WDO.fresh1 tyOk (k := ⟨frAlloc (.cs 55 6 6 false (.cons (.str 0 0) (.cons .snil (.cons (.bool false) (.cons (.bool false) (.cons .snil (.cons .snil .nil)))))) .e)⟩) (by kernel_rfl) rfl (by kernel_rfl) (x := o2) (by rw [← ho2]; rfl) ?_
  have r : ∀ {j : Nat} {v : AV}, (encC c)[j]? = some v → rdCell o1 j = some v := fun hv => by
    have := b1.cell (k := 0) rfl hv
    simpa using this
  have a0 := r (j := 0) rfl
  have a1 := r (j := 1) rfl
  have a2 := r (j := 2) rfl
  have a3 := r (j := 3) rfl
  have a4 := r (j := 4) rfl
  have a5 := r (j := 5) rfl
  have g1 : ((H.new o1).new o2).get H.next = some o1 := by rw [AH.get_new, if_neg (by simp), get_new_same]
  have g2 : ((H.new o1).new o2).get (H.next + 1) = some o2 := by rw [AH.get_new, if_pos (by simp)]
  have c1 : cellsA c.key = .cons c.key .nil := cellsA_cell (hc _ (by simp [encC]))
  have c4 : cellsA c.old = .cons c.old .nil := cellsA_cell (hc _ (by simp [encC]))
  have c5 : cellsA c.new = .cons c.new .nil := cellsA_cell (hc _ (by simp [encC]))
  refine WDO.nilS (WD.seqR ?_)
  refine WDO.looks1 tyOk extOk 13 (ls := [⟨⟨fAddr (.tmp 1) 0⟩, (some 3), none⟩, ⟨⟨ldA ⟨ld1⟩ (.tmp 3)⟩, (some 4), none⟩, ⟨⟨fAddr (.tmp 1) 1⟩, (some 5), none⟩, ⟨⟨ldA ⟨ld1⟩ (.tmp 5)⟩, (some 6), none⟩, ⟨⟨fAddr (.tmp 1) 3⟩, (some 7), none⟩, ⟨⟨ldA ⟨ld1⟩ (.tmp 7)⟩, (some 8), none⟩, ⟨⟨fAddr (.tmp 1) 2⟩, (some 9), none⟩, ⟨⟨ldA ⟨ld1⟩ (.tmp 9)⟩, (some 10), none⟩, ⟨⟨fAddr (.tmp 1) 5⟩, (some 11), none⟩, ⟨⟨ldA ⟨ld1⟩ (.tmp 11)⟩, (some 12), none⟩, ⟨⟨fAddr (.tmp 1) 4⟩, (some 13), none⟩, ⟨⟨ldA ⟨ld1⟩ (.tmp 13)⟩, (some 14), none⟩, ⟨⟨buildA (.cons (.str 0 0) (.cons .snil (.cons (.bool false) (.cons (.bool false) (.cons .snil (.cons .snil .nil)))))) ⟨fill1 (.tmp 4) 0 1 ⟨fill1 (.tmp 6) 1 1 ⟨fill1 (.tmp 8) 2 1 ⟨fill1 (.tmp 10) 3 1 ⟨fill1 (.tmp 12) 4 1 ⟨fill1 (.tmp 14) 5 1 flEnd⟩⟩⟩⟩⟩⟩⟩, (some 15), none⟩]) (by kernel_rfl) (by simp (disch := omega) [g1, a0, a1, a2, a3, a4, a5, c1, c4, c5]; exact rfl) ?_
  obtain ⟨o3, s1, s2⟩ := stN_el encC_len b2 (a := turnC c) (b := H.next + 1) g2 (i := 0) (by simp) (cells_turn hc)
  refine WDO.heavy1 tyOk extOk (k := ⟨hvStore ⟨stN 6⟩ (.tmp 2) (.tmp 15)⟩) (by kernel_rfl) rfl (by kernel_rfl) (v := undefA) (H2 := ((H.new o1).new o2).set (H.next + 1) o3) ?_ ?_
  · have s1' : stN 6 ((H.new o1).new o2) (.agg (avl (encC (turnC c)))) (.ptr (H.next + 1) 0) = some (((H.new o1).new o2).set (H.next + 1) o3) := by simpa using s1
    simp only [encC, turnC, avl_cons, avl_nil] at s1'
    simp [s1']
  have r3 : rdCells o3 6 0 = some (avl (encC (turnC c))) := by
    have := s2.rd.elem (k := 0) (a := turnC c) rfl rfl
    simpa using this
  refine WDO.nilS (WD.ret (endR _ (l := .cons (chA (turnC c)) .nil) (by simp [r3, chA]) ⟨rfl, ?_⟩))
  refine ((Keep.new noB H o1).trans (Keep.new _ _ o2)).trans' (Keep.set (S := fun b => b = H.next + 1) _ fun _ => rfl) fun b hb h => ?_
  subst h; exact absurd hb (by omega)
end
end Go.Proofs.YtnffppehomofmaaGreatDoor
namespace Go.Proofs.YtnffppehomofmaaGreatDoor
open Go.Xq
noncomputable section
/-- what stands behind bytes that are lent -/
def tail9 : List UInt8 := [200, 201, 202, 203, 204, 205, 206, 207, 208]
theorem tail9_get {j : Nat} (h : j < 9) : tail9[j]? = some (UInt8.ofNat (200 + j)) := by
  have : ∀ j : Fin 9, tail9[j.val]? = some (UInt8.ofNat (200 + j.val)) := by decide
  exact this ⟨j, h⟩
theorem copyA_bb {H : AH} {b e m n : Nat} {cap : Option Nat} {o : Bool} {k l : List UInt8} {v : AV} (hb : H.get b = some (bb e o k)) (hk : k.length = m) (hn : n ≤ m) (h : RdS H v l) (hl : l.length ≤ n) :
    copyA H 1 (.sl b 0 n cap) v = some (.int .i64 (l.length : Int), if l = [] then H else H.set b (bb e o (l ++ k.drop l.length))) := by
  unfold copyA
  rw [h.lengthA, ob_some', onSl_sl]
  have hmin : Nat.min l.length n = l.length := Nat.min_eq_left hl
  rw [hmin]
  by_cases hz : l = []
  · subst hz; rfl
  · rw [if_neg hz]
    obtain ⟨j, hj⟩ : ∃ j, l.length = j + 1 := ⟨l.length - 1, by have := List.length_pos_iff.2 hz; omega⟩
    rw [hj, nc_succ, ← hj]
    have : layA H 1 b 0 l.length v = some (H.set b (bb e o (l ++ k.drop l.length))) := by
      unfold layA
      rw [hb, ob_some']
      show bt (Nat.beq 1 1) (ob (bytesA H v) fun r => ob (overBlk 0 l.length r.2 e k.length o (leNat k)) fun o' => some (H.set b o')) none = _
      rw [Nat.beq_refl, bt_true, h.bytesA, ob_some']
      have hov : overBlk 0 l.length (leNat l) e k.length o (leNat k) = some (bb e o (l ++ k.drop l.length)) := by
        unfold overBlk
        rw [ble_true (by show 0 + l.length ≤ k.length; omega), bt_true]
        have hp : Nat.shiftLeft 1 (Nat.mul 8 l.length) = 256 ^ l.length := by rw [shift_bytes, Nat.mul_one]
        have hmod : Nat.mod (leNat l) (Nat.shiftLeft 1 (Nat.mul 8 l.length)) = leNat l := by rw [hp]; exact Nat.mod_eq_of_lt (leNat_lt l)
        rw [hmod]
        have hlen : (l ++ k.drop l.length).length = k.length := by simp; omega
        have hle : overN (leNat k) 0 l.length (leNat l) = leNat (l ++ k.drop l.length) := by
          refine leNat_ext hlen (overN_lt (by omega) (leNat_lt l) (leNat_lt k)) fun i hi => ?_
          rw [byteAt_over _ _ _ _ _ (leNat_lt l)]
          by_cases h1 : i < l.length
          · refine ⟨l[i], by rw [List.getElem?_append_left h1, List.getElem?_eq_getElem h1], ?_⟩
            rw [if_neg (by omega), if_pos (by omega), Nat.sub_zero]
            exact byteAt_leNat (List.getElem?_eq_getElem h1)
          · refine ⟨k[i], by rw [List.getElem?_append_right (by omega), List.getElem?_drop, show l.length + (i - l.length) = i by omega, List.getElem?_eq_getElem hi], ?_⟩
            rw [if_neg (by omega), if_neg (by omega)]
            exact byteAt_leNat (List.getElem?_eq_getElem hi)
        rw [hle, bb, hlen]
      rw [hov, ob_some']
    rw [this, ob_some']; rfl
theorem fill_step {t : List UInt8} {j n : Nat} {x y : UInt8} (ht : t.length = n) (hj : j < n) (hx : t[j]? = some x) : (t.take j ++ List.replicate (n - j) y).set j x = t.take (j + 1) ++ List.replicate (n - (j + 1)) y := by
  have h1 : (t.take j).length = j := by simp; omega
  have h2 : List.replicate (n - j) y = y :: List.replicate (n - (j + 1)) y := by rw [show n - j = (n - (j + 1)) + 1 from by omega, List.replicate_succ]
  have h3 : t.take (j + 1) = t.take j ++ [x] := by rw [List.take_add_one, hx]; rfl
  rw [List.set_append, if_neg (by omega), h1, Nat.sub_self, h2, List.set_cons_zero, h3, List.append_assoc]; rfl
theorem mkZero5 (m : Nat) : mkZero E 5 m = some (.bys 5 m false 0) := by kernel_rfl
theorem lent_ok {H : AH} {v : AV} {l : List UInt8} (h : RdS H v l) (hl : l.length ≤ 1048576) : DC Tryz.prog .normal 20 (.cons v .nil) H fun v' H2 =>
    v' = .sl H.next 0 l.length (some (l.length + 9)) ∧ H2.next = H.next + 1 ∧ H2.get H.next = some (bb 5 false (l ++ tail9)) ∧ Keep noB H H2 := by
  refine DC.of_wd (re := reTmp 2 reNil) tyOk Tryz.func20 (by kernel_rfl) rfl (by kernel_rfl) (by kernel_rfl) ?_
  rw [tl_nil, argsT_cons, argsT_nil]
  have hlen := h.len
  refine WD.seqR ?_
  refine WDO.looks1 tyOk extOk 1 (ls := [⟨lkMove (.const (.slice none 0 0)), (some 2), none⟩]) (by kernel_rfl) (by simp (disch := omega) []; exact rfl) ?_
  refine WDO.nilS (WD.seqR ?_)
  refine WDO.looks1 tyOk extOk 3 (ls := [⟨lkMove (.tmp 0), (some 5), none⟩, ⟨⟨lenSl (.tmp 5)⟩, (some 6), none⟩, ⟨⟨binInt akAdd (.tmp 6) (.const (.int .i64 9))⟩, (some 7), none⟩]) (by kernel_rfl) (by simp (disch := omega) [hlen]; exact rfl) ?_
  refine WDO.fresh1 tyOk (k := ⟨frMake E 5 1 (.tmp 7) (.tmp 7)⟩) (by kernel_rfl) rfl (by kernel_rfl) (v := .sl H.next 0 (l.length + 9) (some (l.length + 9))) (x := bb 5 false (List.replicate (l.length + 9) 0)) ?_ ?_
  · dsimp only
    refine frMake_u8 (E := E) (e := 5) (bytes := 1) (l := .tmp 7) (c := .tmp 7) (n := l.length + 9) (m := l.length + 9) (mkZero5 _) ?_ ?_ (Nat.le_refl _) (by omega) (by omega)
    · simp
    · simp
  refine WDO.looks1 tyOk extOk 1 (ls := [⟨lkMove (.tmp 8), (some 3), none⟩]) (by kernel_rfl) (by simp (disch := omega) []; exact rfl) ?_
  refine WDO.nilS (WD.seqR ?_)
  refine WDO.looks1 tyOk extOk 2 (ls := [⟨lkMove (.tmp 3), (some 9), none⟩, ⟨lkMove (.tmp 0), (some 10), none⟩]) (by kernel_rfl) (by simp (disch := omega) []; exact rfl) ?_
  have hk0 := Keep.new noB H (bb 5 false (List.replicate (l.length + 9) 0))
  have hx := h.keep hk0 fun _ _ => id
  have hcp := copyA_bb (n := l.length + 9) (cap := some (l.length + 9)) (get_new_same H (bb 5 false (List.replicate (l.length + 9) 0))) (m := l.length + 9) (by simp) (Nat.le_refl _) hx (by omega)
  obtain ⟨H2, hcp, hn2, hg2, hk2⟩ : ∃ H2, copyA (H.new (bb 5 false (List.replicate (l.length + 9) 0))) 1 (.sl H.next 0 (l.length + 9) (some (l.length + 9))) v = some (.int .i64 (l.length : Int), H2) ∧ H2.next = H.next + 1 ∧
      H2.get H.next = some (bb 5 false (l ++ List.replicate 9 0)) ∧ Keep noB H H2 := by
    refine ⟨_, hcp, ?_⟩
    by_cases hz : l = []
    · subst hz; rw [if_pos rfl]; exact ⟨by simp, by simp, hk0⟩
    · rw [if_neg hz]
      refine ⟨by simp, by simp, hk0.trans' (Keep.set (S := fun b => b = H.next) _ fun _ => rfl) fun b hb h => ?_⟩
      subst h; exact absurd hb (by omega)
  refine WDO.heavy1 tyOk extOk (k := ⟨hvCopy 1 (.tmp 9) (.tmp 10)⟩) (by kernel_rfl) rfl (by kernel_rfl) (by simp; exact hcp) ?_
  refine WDO.nilS (WD.seq (WD.seqR ?_))
  refine WDO.looks1 tyOk extOk 3 (ls := [⟨lkMove (.tmp 0), (some 12), none⟩, ⟨⟨lenSl (.tmp 12)⟩, (some 13), none⟩, ⟨lkMove (.tmp 13), (some 4), none⟩]) (by kernel_rfl) (by simp (disch := omega) [hlen]; exact rfl) ?_
  refine WDO.nilS (WD.forE (σ := Nat) (fun j => [(0, v), (3, .sl H.next 0 (l.length + 9) (some (l.length + 9))), (4, .int .i64 ((l.length : Int) + (j : Int)))])
    (fun j H' => j ≤ 9 ∧ H'.next = H.next + 1 ∧ H'.get H.next = some (bb 5 false (l ++ (tail9.take j ++ List.replicate (9 - j) 0))) ∧ Keep noB H H') (fun j => 9 - j) 0 ⟨by omega, hn2, by simpa using hg2, hk2⟩ (by simp) ?_)
  rintro j H' ⟨hj, hn', hg', hk'⟩
  refine WDO.looks1 tyOk extOk 4 (ls := [⟨lkMove (.tmp 4), (some 14), none⟩, ⟨lkMove (.tmp 3), (some 15), none⟩, ⟨⟨lenSl (.tmp 15)⟩, (some 16), none⟩, ⟨⟨binInt akLss (.tmp 14) (.tmp 16)⟩, (some 17), none⟩]) (by kernel_rfl) (by simp (disch := omega) []; exact rfl) ?_
  refine WDO.nil ⟨decide ((j : Int) < 9), _, rfl, by simp, fun hc => ?_, fun hc => ?_⟩
  · have hc : j = 9 := by have := of_decide_eq_false hc; omega
    subst hc
    refine WD.seqR ?_
    refine WDO.looks1 tyOk extOk 5 (ls := [⟨lkMove (.tmp 3), (some 29), none⟩, ⟨lkMove (.tmp 0), (some 30), none⟩, ⟨⟨lenSl (.tmp 30)⟩, (some 31), none⟩, ⟨⟨slSl 1 (.tmp 29) none (some (.tmp 31)) none⟩, (some 32), none⟩, ⟨lkMove (.tmp 32), (some 2), none⟩]) (by kernel_rfl) (by simp (disch := omega) [hlen]; exact rfl) ?_
    exact WDO.nilS (WD.ret (endR _ (by simp; rfl) ⟨rfl, hn', by simpa [tail9] using hg', hk'⟩))
  · have hc : j < 9 := by have := of_decide_eq_true hc; omega
    refine WD.region ?_
    obtain ⟨x, hb, hx⟩ : ∃ x : UInt8, ((200 : Int) + ((l.length : Int) + (j : Int)) - (l.length : Int)) % 256 = (x.toNat : Int) ∧ tail9[j]? = some x :=
      ⟨UInt8.ofNat (200 + j), by rw [u8_of]; congr 1; omega, tail9_get hc⟩
    refine WDO.looks1 tyOk extOk 9 (ls := [⟨lkMove (.tmp 3), (some 20), none⟩, ⟨lkMove (.tmp 4), (some 21), none⟩, ⟨lkMove (.tmp 4), (some 22), none⟩, ⟨⟨binInt akAdd (.const (.int .i64 200)) (.tmp 22)⟩, (some 23), none⟩, ⟨lkMove (.tmp 0), (some 24), none⟩, ⟨⟨lenSl (.tmp 24)⟩, (some 25), none⟩, ⟨⟨binInt akSub (.tmp 23) (.tmp 25)⟩, (some 26), none⟩, ⟨⟨cvInt .u8 (.tmp 26)⟩, (some 27), none⟩, ⟨⟨ixSl 1 (.tmp 20) (.tmp 21)⟩, (some 28), none⟩]) (by kernel_rfl) (by simp (disch := omega) [hlen, hb]; exact rfl) ?_
    have hst := st1'_bb x hg' (i := l.length + j) (by simp [tail9]; omega)
    refine WDO.heavy1 tyOk extOk (k := ⟨hvStore ⟨st1'⟩ (.tmp 28) (.tmp 27)⟩) (by kernel_rfl) rfl (by kernel_rfl) (by simp [hst]; exact ⟨rfl, rfl⟩) ?_
    refine WDO.nil ?_
    refine WDO.looks1 tyOk extOk 3 (ls := [⟨lkMove (.tmp 4), (some 18), none⟩, ⟨⟨binInt akAdd (.tmp 18) (.const (.int .i64 1))⟩, (some 19), none⟩, ⟨lkMove (.tmp 19), (some 4), none⟩]) (by kernel_rfl) (by simp (disch := omega) []; exact rfl) ?_
    refine WDO.nil ⟨rfl, j + 1, _, rfl, by simp [Int.add_assoc], ⟨by omega, by simp [hn'], ?_, hk'.trans' (Keep.set (S := fun b => b = H.next) _ fun _ => rfl) fun b hb h => ?_⟩, by omega⟩
    · rw [get_set_same]
      rw [fill_step (n := 9) rfl hc hx]
    · subst h; exact absurd hb (by omega)
end
end Go.Proofs.YtnffppehomofmaaGreatDoor
namespace Go.Proofs.YtnffppehomofmaaGreatDoor
open Go.Xq
noncomputable section
/-- written over up to the j-th place -/
def over77 (j : Nat) (l : List UInt8) : List UInt8 := List.replicate j 77 ++ l.drop j
theorem over77_zero (l : List UInt8) : over77 0 l = l := by simp [over77]
theorem over77_set {j : Nat} {l : List UInt8} (h : j < l.length) : (over77 j l).set j 77 = over77 (j + 1) l := by
  have h2 : l.drop j = l[j] :: l.drop (j + 1) := List.drop_eq_getElem_cons h
  unfold over77
  rw [List.set_append, if_neg (by simp), List.length_replicate, Nat.sub_self, h2, List.set_cons_zero, List.replicate_succ', List.append_assoc]; rfl
theorem over77_len {j : Nat} {l : List UInt8} (h : j ≤ l.length) : (over77 j l).length = l.length := by simp [over77]; omega
theorem over77_get {j : Nat} {l : List UInt8} : (over77 j l)[j]? = l[j]? := by
  unfold over77
  rw [List.getElem?_append_right (by simp), List.length_replicate, Nat.sub_self, List.getElem?_drop, Nat.add_zero]
theorem rd_bb' {e : Nat} {o : Bool} {l : List UInt8} {i : Nat} {x : UInt8} (h : l[i]? = some x) : rdCell (bb e o l) i = some (AV.int .u8 (x.toNat : Int)) := by
  have := bytesAt_bb e o l i x h
  rwa [Nat.zero_add] at this
theorem asLent_ok {H : AH} {b : Nat} {l : List UInt8} {w : AV} (hg : H.get b = some (bb 5 false (l ++ tail9))) (hb : b < H.next) (hw : RdS H w l) (hl : l.length ≤ 1048576) :
    DC Tryz.prog .normal 23 (.cons (.sl b 0 l.length (some (l.length + 9))) (.cons w .nil)) H fun v' H2 => v' = .bool true ∧ H2.next = H.next ∧ Keep (fun c => c = b) H H2 := by
  refine DC.of_wd (re := reTmp 4 reNil) tyOk Tryz.func23 (by kernel_rfl) rfl (by kernel_rfl) (by kernel_rfl) ?_
  rw [tl_nil, argsT_cons, argsT_cons, argsT_nil]
  have hlen := hw.len
  have hstr := hw.str
  have hx : RdS H (.sl b 0 l.length (some (l.length + 9))) l := .bb rfl hb hg
  have hstr2 : (ob (bytesSl H b 0 l.length) fun r => some (AV.str r.1 r.2)) = some (sb l) := hx.str
  have h9 : (l ++ tail9).length = l.length + 9 := by simp [tail9]
  refine WD.seqR ?_
  refine WDO.looks1 tyOk extOk 1 (ls := [⟨lkMove (.const (.bool false)), (some 4), none⟩]) (by kernel_rfl) (by simp (disch := omega) []; exact rfl) ?_
  refine WDO.nilS (WD.seq (WD.seqR ?_))
  refine WDO.looks1 tyOk extOk 5 (ls := [⟨lkMove (.tmp 0), (some 8), none⟩, ⟨⟨lenSl (.tmp 8)⟩, (some 9), none⟩, ⟨lkMove (.tmp 1), (some 10), none⟩, ⟨⟨lenSl (.tmp 10)⟩, (some 11), none⟩, ⟨⟨binInt akNeq (.tmp 9) (.tmp 11)⟩, (some 12), none⟩]) (by kernel_rfl) (by simp (disch := omega) [hlen]; exact rfl) ?_
  refine WDO.nilS (WD.cond (t := false) (by simp) (by simp) fun _ => WD.skip (.inl rfl) ?_)
  refine WD.seqR ?_
  refine WDO.looks1 tyOk extOk 6 (ls := [⟨lkMove (.tmp 0), (some 13), none⟩, ⟨lkMove (.tmp 1), (some 14), none⟩, ⟨⟨lenSl (.tmp 14)⟩, (some 15), none⟩, ⟨⟨binInt akAdd (.tmp 15) (.const (.int .i64 9))⟩, (some 16), none⟩, ⟨⟨slSl 1 (.tmp 13) none (some (.tmp 16)) none⟩, (some 17), none⟩, ⟨lkMove (.tmp 17), (some 5), none⟩]) (by kernel_rfl) (by simp (disch := omega) [hlen]; exact rfl) ?_
  refine WDO.nilS (WD.seqR ?_)
  refine WDO.looks1 tyOk extOk 6 (ls := [⟨lkMove (.tmp 0), (some 18), none⟩, ⟨⟨cvStr (.tmp 18)⟩, (some 19), none⟩, ⟨lkMove (.tmp 1), (some 20), none⟩, ⟨⟨cvStr (.tmp 20)⟩, (some 21), none⟩, ⟨⟨binStr skEql (.tmp 19) (.tmp 21)⟩, (some 22), none⟩, ⟨lkMove (.tmp 22), (some 6), none⟩]) (by kernel_rfl) (by simp (disch := omega) [hstr, hstr2]; exact rfl) ?_
  refine WDO.nilS (WD.seq (WD.seqR ?_))
  refine WDO.looks1 tyOk extOk 1 (ls := [⟨lkMove (.const (.int .i64 0)), (some 7), none⟩]) (by kernel_rfl) (by simp (disch := omega) []; exact rfl) ?_
  refine WDO.nilS (WD.forE (σ := Nat) (fun j => [(1, w), (5, .sl b 0 (l.length + 9) (some (l.length + 9))), (6, .bool true), (7, .int .i64 (j : Int))])
    (fun j H' => j ≤ l.length + 9 ∧ H'.next = H.next ∧ H'.get b = some (bb 5 false (over77 j (l ++ tail9))) ∧ Keep (fun c => c = b) H H') (fun j => l.length + 9 - j) 0 ⟨by omega, rfl, by rw [over77_zero]; exact hg, Keep.refl _ _⟩ (by simp) ?_)
  rintro j H' ⟨hj, hn', hg', hk'⟩
  refine WDO.looks1 tyOk extOk 4 (ls := [⟨lkMove (.tmp 7), (some 23), none⟩, ⟨lkMove (.tmp 5), (some 24), none⟩, ⟨⟨lenSl (.tmp 24)⟩, (some 25), none⟩, ⟨⟨binInt akLss (.tmp 23) (.tmp 25)⟩, (some 26), none⟩]) (by kernel_rfl) (by simp (disch := omega) []; exact rfl) ?_
  refine WDO.nil ⟨decide ((j : Int) < (l.length : Int) + 9), _, rfl, by simp, fun hc => ?_, fun hc => ?_⟩
  · refine WD.seqR ?_
    refine WDO.looks1 tyOk extOk 2 (ls := [⟨lkMove (.tmp 6), (some 49), none⟩, ⟨lkMove (.tmp 49), (some 4), none⟩]) (by kernel_rfl) (by simp (disch := omega) []; exact rfl) ?_
    exact WDO.nilS (WD.ret (endR _ (by simp; rfl) ⟨rfl, hn', hk'⟩))
  · have hc : j < l.length + 9 := by have := of_decide_eq_true hc; omega
    have hst := st1'_bb (77 : UInt8) hg' (i := j) (by rw [over77_len (by omega), h9]; exact hc)
    rw [over77_set (by rw [h9]; exact hc)] at hst
    refine WD.seq (WD.seqR ?_)
    have hst' : st1' H' (.int .u8 77) (.ptr b j) = some (H'.set b (bb 5 false (over77 (j + 1) (l ++ tail9)))) := hst
    by_cases hjl : j < l.length
    · refine WDO.looks1 tyOk extOk 17 (ls := [⟨lkMove (.tmp 7), (some 29), none⟩, ⟨lkMove (.tmp 1), (some 30), none⟩, ⟨⟨lenSl (.tmp 30)⟩, (some 31), none⟩, ⟨⟨binInt akGeq (.tmp 29) (.tmp 31)⟩, (some 32), none⟩, ⟨lkMove (.tmp 32), (some 33), none⟩, ⟨lkMove (.tmp 5), (some 34), (some (33, true))⟩, ⟨lkMove (.tmp 7), (some 35), (some (33, true))⟩, ⟨⟨ixSl 1 (.tmp 34) (.tmp 35)⟩, (some 36), (some (33, true))⟩, ⟨⟨ldA ⟨ld1⟩ (.tmp 36)⟩, (some 37), (some (33, true))⟩, ⟨lkMove (.tmp 7), (some 38), (some (33, true))⟩, ⟨⟨binInt akAdd (.const (.int .i64 200)) (.tmp 38)⟩, (some 39), (some (33, true))⟩, ⟨lkMove (.tmp 1), (some 40), (some (33, true))⟩, ⟨⟨lenSl (.tmp 40)⟩, (some 41), (some (33, true))⟩, ⟨⟨binInt akSub (.tmp 39) (.tmp 41)⟩, (some 42), (some (33, true))⟩, ⟨⟨cvInt .u8 (.tmp 42)⟩, (some 43), (some (33, true))⟩, ⟨⟨binInt akNeq (.tmp 37) (.tmp 43)⟩, (some 44), (some (33, true))⟩, ⟨⟨pickA (.tmp 33) (.tmp 44) (.const (.bool false))⟩, (some 45), none⟩]) (by kernel_rfl) (by simp (disch := omega) [hlen, hjl]; exact rfl) ?_
      refine WDO.nilS (WD.cond (t := false) (by simp) (by simp) fun _ => WD.skip (.inl rfl) (WD.region ?_))
      refine WDO.looks1 tyOk extOk 3 (ls := [⟨lkMove (.tmp 5), (some 46), none⟩, ⟨lkMove (.tmp 7), (some 47), none⟩, ⟨⟨ixSl 1 (.tmp 46) (.tmp 47)⟩, (some 48), none⟩]) (by kernel_rfl) (by simp (disch := omega) []; exact rfl) ?_
      refine WDO.heavy1 tyOk extOk (k := ⟨hvStore ⟨st1'⟩ (.tmp 48) (.const (.int .u8 77))⟩) (by kernel_rfl) rfl (by kernel_rfl) (by simp [hst']; exact ⟨rfl, rfl⟩) ?_
      refine WDO.nil ?_
      refine WDO.looks1 tyOk extOk 3 (ls := [⟨lkMove (.tmp 7), (some 27), none⟩, ⟨⟨binInt akAdd (.tmp 27) (.const (.int .i64 1))⟩, (some 28), none⟩, ⟨lkMove (.tmp 28), (some 7), none⟩]) (by kernel_rfl) (by simp (disch := omega) []; exact rfl) ?_
      refine WDO.nil ⟨rfl, j + 1, _, rfl, by simp, ⟨by omega, by simp [hn'], by simp, hk'.trans (Keep.set _ fun _ => rfl)⟩, by omega⟩
    · obtain ⟨k, rfl⟩ : ∃ k, j = l.length + k := ⟨j - l.length, by omega⟩
      have hge : ¬ ((l.length : Int) + (k : Int) < (l.length : Int)) := by omega
      obtain ⟨x, hb, hx⟩ : ∃ x : UInt8, ((200 : Int) + ((l.length : Int) + (k : Int)) - (l.length : Int)) % 256 = (x.toNat : Int) ∧ tail9[k]? = some x :=
        ⟨UInt8.ofNat (200 + k), by rw [u8_of]; congr 1; omega, tail9_get (by omega)⟩
      have hrd : rdCell (bb 5 false (over77 (l.length + k) (l ++ tail9))) (l.length + k) = some (.int .u8 (x.toNat : Int)) :=
        rd_bb' (by rw [over77_get, List.getElem?_append_right (by omega), Nat.add_sub_cancel_left]; exact hx)
      refine WDO.looks1 tyOk extOk 17 (ls := [⟨lkMove (.tmp 7), (some 29), none⟩, ⟨lkMove (.tmp 1), (some 30), none⟩, ⟨⟨lenSl (.tmp 30)⟩, (some 31), none⟩, ⟨⟨binInt akGeq (.tmp 29) (.tmp 31)⟩, (some 32), none⟩, ⟨lkMove (.tmp 32), (some 33), none⟩, ⟨lkMove (.tmp 5), (some 34), (some (33, true))⟩, ⟨lkMove (.tmp 7), (some 35), (some (33, true))⟩, ⟨⟨ixSl 1 (.tmp 34) (.tmp 35)⟩, (some 36), (some (33, true))⟩, ⟨⟨ldA ⟨ld1⟩ (.tmp 36)⟩, (some 37), (some (33, true))⟩, ⟨lkMove (.tmp 7), (some 38), (some (33, true))⟩, ⟨⟨binInt akAdd (.const (.int .i64 200)) (.tmp 38)⟩, (some 39), (some (33, true))⟩, ⟨lkMove (.tmp 1), (some 40), (some (33, true))⟩, ⟨⟨lenSl (.tmp 40)⟩, (some 41), (some (33, true))⟩, ⟨⟨binInt akSub (.tmp 39) (.tmp 41)⟩, (some 42), (some (33, true))⟩, ⟨⟨cvInt .u8 (.tmp 42)⟩, (some 43), (some (33, true))⟩, ⟨⟨binInt akNeq (.tmp 37) (.tmp 43)⟩, (some 44), (some (33, true))⟩, ⟨⟨pickA (.tmp 33) (.tmp 44) (.const (.bool false))⟩, (some 45), none⟩]) (by kernel_rfl) (by simp (disch := omega) [hlen, hge, hb, hrd, hg']; exact rfl) ?_
      refine WDO.nilS (WD.cond (t := false) (by simp) (by simp) fun _ => WD.skip (.inl rfl) (WD.region ?_))
      refine WDO.looks1 tyOk extOk 3 (ls := [⟨lkMove (.tmp 5), (some 46), none⟩, ⟨lkMove (.tmp 7), (some 47), none⟩, ⟨⟨ixSl 1 (.tmp 46) (.tmp 47)⟩, (some 48), none⟩]) (by kernel_rfl) (by simp (disch := omega) []; exact rfl) ?_
      refine WDO.heavy1 tyOk extOk (k := ⟨hvStore ⟨st1'⟩ (.tmp 48) (.const (.int .u8 77))⟩) (by kernel_rfl) rfl (by kernel_rfl) (by simp [hst']; exact ⟨rfl, rfl⟩) ?_
      refine WDO.nil ?_
      refine WDO.looks1 tyOk extOk 3 (ls := [⟨lkMove (.tmp 7), (some 27), none⟩, ⟨⟨binInt akAdd (.tmp 27) (.const (.int .i64 1))⟩, (some 28), none⟩, ⟨lkMove (.tmp 28), (some 7), none⟩]) (by kernel_rfl) (by simp (disch := omega) []; exact rfl) ?_
      refine WDO.nil ⟨rfl, l.length + k + 1, _, rfl, by simp [Int.add_assoc], ⟨by omega, by simp [hn'], by simp, hk'.trans (Keep.set _ fun _ => rfl)⟩, by omega⟩
end
end Go.Proofs.YtnffppehomofmaaGreatDoor
namespace Go.Proofs.YtnffppehomofmaaGreatDoor
open Go.Xq
noncomputable section
def enc2 (p : AV × AV) : List AV := [p.1, p.2]
theorem enc2_len (p : AV × AV) : (enc2 p).length = 2 := rfl
def z1 : AV := .cons .snil .nil
def z2 : AV := .cons .snil (.cons .snil .nil)
/-- the book: its lists of bytes, its lists of changes -/
structure BookAt (H : AH) (B pb : Nat) (S L : List AV) where
  bl : AV
  ll : AV
  o : AObj
  low : B ≤ pb
  lt : pb < H.next
  get : H.get pb = some o
  el : ElB enc2 32 2 false z2 [(bl, ll)] o
  bytes : LstAt enc1 45 1 z1 H B bl S
  lists : LstAt enc1 22 1 z1 H B ll L
  d1 : ∀ b, blk bl = some b → b ≠ pb ∧ blk ll ≠ some b
  d2 : ∀ b, blk ll = some b → b ≠ pb
theorem BookAt.r0 {H : AH} {B pb : Nat} {S L : List AV} (h : BookAt H B pb S L) : rdCell h.o 0 = some h.bl := by
  have := h.el.cell (k := 0) (j := 0) rfl rfl
  simpa using this
theorem BookAt.r1 {H : AH} {B pb : Nat} {S L : List AV} (h : BookAt H B pb S L) : rdCell h.o 1 = some h.ll := by
  have := h.el.cell (k := 0) (j := 1) rfl rfl
  simpa using this
theorem BookAt.next {H : AH} {B pb : Nat} {S L : List AV} (h : BookAt H B pb S L) : B ≤ H.next := Nat.le_trans h.low (Nat.le_of_lt h.lt)
def BookAt.keep {H H2 : AH} {B pb : Nat} {S L : List AV} {W : Nat → Prop} (h : BookAt H B pb S L) (hk : Keep W H H2) (hw : ∀ b, B ≤ b → ¬ W b) : BookAt H2 B pb S L :=
  ⟨h.bl, h.ll, h.o, h.low, Nat.lt_of_lt_of_le h.lt hk.1, hk.get h.lt (hw _ h.low) h.get, h.el, h.bytes.keep hk (fun _ e => hw _ (h.bytes.low e).1), h.lists.keep hk (fun _ e => hw _ (h.lists.low e).1), h.d1, h.d2⟩
theorem take03_ok {H : AH} {B pb : Nat} {S L : List AV} {v : AV} (h : BookAt H B pb S L) (hv : isCell v = true) (hS : S.length < 536870912) :
    DC Tryz.prog .normal 55 (.cons (.ptr pb 0) (.cons v .nil)) H fun _ H2 => ∃ h2 : BookAt H2 B pb (S ++ [v]) L, h2.ll = h.ll ∧ (∀ b, blk h2.bl = some b → H.next ≤ b) ∧ Keep (fun b => b = pb ∨ blk h.bl = some b) H H2 := by
  refine DC.of_wd (re := reNil) tyOk Tryz.func55 (by kernel_rfl) rfl (by kernel_rfl) (by kernel_rfl) ?_
  rw [tl_nil, argsT_cons, argsT_cons, argsT_nil]
  have hg := h.get
  have r0 := h.r0
  have hn := h.next
  refine WD.region ?_
  refine WDO.looks1 tyOk extOk 6 (ls := [⟨lkMove (.tmp 0), (some 4), none⟩, ⟨lkMove (.tmp 0), (some 5), none⟩, ⟨⟨nilChk E (.tmp 5)⟩, (some 6), none⟩, ⟨⟨fAddr (.tmp 6) 0⟩, (some 7), none⟩, ⟨⟨ldA ⟨ld1⟩ (.tmp 7)⟩, (some 8), none⟩, ⟨lkMove (.tmp 1), (some 9), none⟩]) (by kernel_rfl) (by simp (disch := omega) [hg, r0]; exact rfl) ?_
  obtain ⟨o1, e1, b1⟩ := frSlice_el (enc := enc1) (e := 45) (z := z1) enc1_len (x := .tmp 9) (T := tl [(9, v), (8, h.bl), (7, .ptr pb 0), (6, .ptr pb 0), (5, .ptr pb 0), (4, .ptr pb 0), (1, v), (0, .ptr pb 0)]) (b0 := H.next) (a := v) (z0 := z1) (by simp; rfl) (by rw [cellsA_cell hv]; rfl) (by rfl) (by rfl)
  refine WDO.fresh1 tyOk (k := ⟨frSlice 1 (zerosA (.cons .snil .nil) 1) ⟨fill1 (.tmp 9) 0 1 flEnd⟩ ⟨mkCs 45 1 (.cons .snil .nil)⟩⟩) (by kernel_rfl) rfl (by kernel_rfl) e1 ?_
  have hk1 := Keep.new noB H o1
  have h1 := h.bytes.keep hk1 fun _ _ => id
  have g1 : (H.new o1).get H.next = some o1 := get_new_same _ _
  obtain ⟨v', H2, a1, a2, a3, a4, a5⟩ := h1.app enc1_len (by omega) (by simp; omega) (cells1 hv) (One.of (cap := some 1) g1 b1) hS
  refine WDO.heavy1 tyOk extOk (k := ⟨hvAppend ⟨grownCs 1 ⟨mkCs 45 1 (.cons .snil .nil)⟩⟩ 1 (.tmp 8) (.tmp 10)⟩) (by kernel_rfl) rfl (by kernel_rfl) (by simp; exact a1) ?_
  refine WDO.looks1 tyOk extOk 2 (ls := [⟨⟨nilChk E (.tmp 4)⟩, (some 12), none⟩, ⟨⟨fAddr (.tmp 12) 0⟩, (some 13), none⟩]) (by kernel_rfl) (by simp (disch := omega) []; exact rfl) ?_
  have hp2 : H2.get pb = some h.o := a5.get (by have := h.lt; simp; omega) (fun e => (h.d1 pb e).1 rfl) (hk1.get h.lt id h.get)
  obtain ⟨o3, s1, s2⟩ := st1_el (a' := (v', h.ll)) (v := v') (f := 0) enc2_len h.el hp2 (i := 0) rfl (by omega) rfl a2.cell
  refine WDO.heavy1 tyOk extOk (k := ⟨hvStore ⟨st1'⟩ (.tmp 13) (.tmp 11)⟩) (by kernel_rfl) rfl (by kernel_rfl) (by simp at s1; simp [s1]; exact ⟨rfl, rfl⟩) ?_
  have hk2 : Keep (fun b => b = pb ∨ blk h.bl = some b) H H2 := (hk1.mono fun _ _ e => e.elim).trans (a5.mono fun b _ e => .inr e)
  have hlt := h.lt
  have hn2 : H2.next = H.next + 2 := by rw [a4]; simp
  have hks : Keep (fun b => b = pb) H2 (H2.set pb o3) := Keep.set _ fun _ => rfl
  refine WDO.nil (endN _ rfl ⟨⟨v', h.ll, o3, h.low, by simp [hn2]; omega, get_set_same _ _ _, s2, ?_, ?_, ?_, h.d2⟩, rfl, ?_, hk2.trans (hks.mono fun b _ e => .inl e)⟩)
  · exact a2.keep hks fun b e e2 => by rw [a3] at e; cases e; simp at e2; omega
  · refine ((h.lists.keep hk1 fun _ _ => id).keep a5 fun b e e2 => (h.d1 b e2).2 e).keep hks fun b e e2 => h.d2 b e e2
  · intro b e
    rw [a3] at e
    cases e
    refine ⟨by simp; omega, fun e2 => ?_⟩
    have := (h.lists.low e2).2
    simp at this
    omega
  · intro b e
    have e : blk v' = some b := e
    rw [a3] at e
    cases e
    simp
theorem BookAt.keep_bl {H H2 : AH} {B pb : Nat} {S L : List AV} {W : Nat → Prop} (h : BookAt H B pb S L) (hk : Keep W H H2) (hw : ∀ b, B ≤ b → ¬ W b) : (h.keep hk hw).bl = h.bl := rfl
theorem extFree (g : Nat) (l : AV) (H : AH) (h : Nat.beq g 230 = false) (h2 : Nat.beq g 88 = false) (h3 : Nat.beq g 417 = false) : E.ext g l H = none := by
  show extFn g l H = none
  unfold extFn
  rw [h, h2, h3]
theorem take22_ok {H : AH} {B pb : Nat} {S L : List AV} {c : Cv} (h : BookAt H B pb S L) (hc : ∀ v ∈ encC c, isCell v = true) (hS : S.length < 268435456) :
    DC Tryz.prog .normal 26 (.cons (.ptr pb 0) (.cons (chA c) .nil)) H fun _ H2 => ∃ _ : BookAt H2 B pb (S ++ [c.key, c.old, c.new]) L, Keep (fun b => B ≤ b) H H2 := by
  refine DC.of_wd (re := reNil) tyOk Tryz.func26 (by kernel_rfl) rfl (by kernel_rfl) (by kernel_rfl) ?_
  rw [tl_nil, argsT_cons, argsT_cons, argsT_nil]
  refine WD.seqR ?_
  obtain ⟨o1, e1, b1⟩ := frBox_el (enc := encC) (e := 55) (z := zC) encC_len (x := .tmp 1) (T := tl [(1, chA c), (0, .ptr pb 0)]) (b0 := H.next) (a := c) (by simp; rfl)
  refine WDO.fresh1 tyOk (k := ⟨frBox ⟨mkCs 55 6 (.cons (.str 0 0) (.cons .snil (.cons (.bool false) (.cons (.bool false) (.cons .snil (.cons .snil .nil))))))⟩ (.tmp 1)⟩) (by kernel_rfl) rfl (by kernel_rfl) e1 ?_
  have r : ∀ {j : Nat} {v : AV}, (encC c)[j]? = some v → rdCell o1 j = some v := fun hv => by
    have := b1.cell (k := 0) rfl hv
    simpa using this
  have a1 := r (j := 1) rfl
  have a4 := r (j := 4) rfl
  have a5 := r (j := 5) rfl
  have hk1 := Keep.new noB H o1
  have g1 : (H.new o1).get H.next = some o1 := get_new_same _ _
  obtain ⟨h1, hbl1⟩ : ∃ h1 : BookAt (H.new o1) B pb S L, h1.bl = h.bl := ⟨h.keep hk1 fun _ _ => id, rfl⟩
  have hc1 : isCell c.key = true := hc _ (by simp [encC])
  refine WDO.nil (WD.seq ?_)
  obtain ⟨R, hR, hRc⟩ := specR_ex Tryz.prog (fun _ _ _ _ H2 => ∃ h2 : BookAt H2 B pb (S ++ [c.key]) L, h2.ll = h1.ll ∧ (∀ b, blk h2.bl = some b → (H.new o1).next ≤ b) ∧ Keep (fun b => b = pb ∨ blk h1.bl = some b) (H.new o1) H2)
  refine WD.drawnK tyOk extOk (by kernel_rfl) (ls := [⟨[0], .look (lkMove (.tmp 0)), (some 4), none, 0, 1, true, false⟩, ⟨[4], .look (⟨nilChk E (.tmp 4)⟩), (some 5), none, 0, 1, true, false⟩, ⟨[5], .look (⟨fAddr (.tmp 5) 0⟩), (some 6), none, 0, 1, true, false⟩, ⟨[3], .look (⟨fAddr (.tmp 3) 1⟩), (some 7), none, 0, 1, true, false⟩, ⟨[7], .look (⟨ldA ⟨ld1⟩ (.tmp 7)⟩), (some 8), none, 0, 1, false, false⟩, ⟨[6, 8], .heavy ⟨hvCallF E 55 (opnds [(.tmp 6), (.tmp 8)])⟩, (some 9), none, 0, 2, false, true⟩]) (by kernel_rfl) hR fun K hK => ?_
  simp (disch := omega) [g1, a1]
  obtain ⟨u2, H2, c2, h2, q1, q2, q3⟩ := hRc 55 _ _ (take03_ok h1 hc1 (by omega))
  have hpb : pb ≠ H.next := by have := h.lt; omega
  have g2 : H2.get H.next = some o1 := q3.get (by simp) (fun e => e.elim (fun e => hpb e.symm) fun e => by rw [hbl1] at e; have := (h.bytes.low e).2; omega) g1
  have w1 : Keep (fun b => B ≤ b) (H.new o1) H2 := q3.mono fun b _ e => e.elim (fun e => e ▸ h.low) fun e => (h1.bytes.low e).1
  refine diCall (by simp) (extFree _ _ _ rfl rfl rfl) c2 q3.1 ?_
  simp [g1, a1]
  refine hK _ _ (WD.seq ?_)
  clear hK hRc hR c2
  obtain ⟨R, hR, hRc⟩ := specR_ex Tryz.prog (fun _ _ _ _ H3 => ∃ h3 : BookAt H3 B pb (S ++ [c.key] ++ [c.old]) L, h3.ll = h2.ll ∧ (∀ b, blk h3.bl = some b → H2.next ≤ b) ∧ Keep (fun b => b = pb ∨ blk h2.bl = some b) H2 H3)
  refine WD.drawnK tyOk extOk (by kernel_rfl) (ls := [⟨[0], .look (lkMove (.tmp 0)), (some 10), none, 0, 1, true, false⟩, ⟨[10], .look (⟨nilChk E (.tmp 10)⟩), (some 11), none, 0, 1, true, false⟩, ⟨[11], .look (⟨fAddr (.tmp 11) 0⟩), (some 12), none, 0, 1, true, false⟩, ⟨[3], .look (⟨fAddr (.tmp 3) 4⟩), (some 13), none, 0, 1, true, false⟩, ⟨[13], .look (⟨ldA ⟨ld1⟩ (.tmp 13)⟩), (some 14), none, 0, 1, false, false⟩, ⟨[12, 14], .heavy ⟨hvCallF E 55 (opnds [(.tmp 12), (.tmp 14)])⟩, (some 15), none, 0, 2, false, true⟩]) (by kernel_rfl) hR fun K hK => ?_
  simp (disch := omega) [g2, a4]
  obtain ⟨u3, H3, c3, h3, q4, q5, q6⟩ := hRc 55 _ _ (take03_ok h2 (v := c.old) (hc _ (by simp [encC])) (by simp; omega))
  have hb2 : ∀ b, blk h2.bl = some b → H.next + 1 ≤ b := fun b e => by have := q2 b e; simpa using this
  have hn2 := w1.1
  have g3 : H3.get H.next = some o1 := q6.get (by simp at hn2; omega) (fun e => e.elim (fun e => hpb e.symm) fun e => by have := hb2 _ e; omega) g2
  have w2 : Keep (fun b => B ≤ b) H2 H3 := q6.mono fun b _ e => e.elim (fun e => e ▸ h.low) fun e => (h2.bytes.low e).1
  refine diCall (by simp) (extFree _ _ _ rfl rfl rfl) c3 q6.1 ?_
  simp [g2, a4]
  refine hK _ _ ?_
  clear hK hRc hR c3
  obtain ⟨R, hR, hRc⟩ := specR_ex Tryz.prog (fun _ _ _ _ H4 => ∃ h4 : BookAt H4 B pb (S ++ [c.key] ++ [c.old] ++ [c.new]) L, h4.ll = h3.ll ∧ (∀ b, blk h4.bl = some b → H3.next ≤ b) ∧ Keep (fun b => b = pb ∨ blk h3.bl = some b) H3 H4)
  refine WD.drawnK tyOk extOk (by kernel_rfl) (ls := [⟨[0], .look (lkMove (.tmp 0)), (some 16), none, 0, 1, true, false⟩, ⟨[16], .look (⟨nilChk E (.tmp 16)⟩), (some 17), none, 0, 1, true, false⟩, ⟨[17], .look (⟨fAddr (.tmp 17) 0⟩), (some 18), none, 0, 1, true, false⟩, ⟨[3], .look (⟨fAddr (.tmp 3) 5⟩), (some 19), none, 0, 1, true, false⟩, ⟨[19], .look (⟨ldA ⟨ld1⟩ (.tmp 19)⟩), (some 20), none, 0, 1, false, false⟩, ⟨[18, 20], .heavy ⟨hvCallF E 55 (opnds [(.tmp 18), (.tmp 20)])⟩, (some 21), none, 0, 2, false, true⟩]) (by kernel_rfl) hR fun K hK => ?_
  simp (disch := omega) [g3, a5]
  obtain ⟨u4, H4, c4, h4, q7, q8, q9⟩ := hRc 55 _ _ (take03_ok h3 (v := c.new) (hc _ (by simp [encC])) (by simp; omega))
  have w3 : Keep (fun b => B ≤ b) H3 H4 := q9.mono fun b _ e => e.elim (fun e => e ▸ h.low) fun e => (h3.bytes.low e).1
  refine diCall (by simp) (extFree _ _ _ rfl rfl rfl) c4 q9.1 ?_
  simp [g3, a5]
  refine hK _ _ (endN _ rfl ⟨?_, ((hk1.mono fun _ _ e => e.elim).trans w1).trans (w2.trans w3)⟩)
  rw [show S ++ [c.key, c.old, c.new] = S ++ [c.key] ++ [c.old] ++ [c.new] by simp]
  exact h4
end
end Go.Proofs.YtnffppehomofmaaGreatDoor
