/- A part of the proof of this seat's statement: what is particular to its program. Its conditions stand in each theorem. -/
import Derived.Test.YtoigokkeaddceaaGreatDoorK7
namespace Go.Proofs.YtoigokkeaddceaaGreatDoor
open Go.Xq
noncomputable section
def bulkP (ps : List (Int × List UInt8)) : Nat := (ps.map fun p => 40 + p.2.length).sum
def bulkD (d : Dl) : Nat := d.meta_.length + bulkP d.pages
theorem bulkP_take {ps : List (Int × List UInt8)} {i : Nat} {p : Int × List UInt8} (hp : ps[i]? = some p) : bulkP (ps.take (i + 1)) = bulkP (ps.take i) + 40 + p.2.length := by
  unfold bulkP
  rw [List.take_add_one, hp]
  simp
  omega
theorem bulkP_le (ps : List (Int × List UInt8)) (i : Nat) : bulkP (ps.take i) ≤ bulkP ps := by
  have e : bulkP ps = bulkP (ps.take i) + bulkP (ps.drop i) := by
    unfold bulkP
    rw [← List.sum_append_nat, ← List.map_append, List.take_append_drop]
  omega
theorem flat_bulk (ps : List (Int × List UInt8)) : (ps.flatMap pageL).length ≤ bulkP ps := by
  induction ps with
  | nil => simp
  | cons q r ih =>
    unfold bulkP at ih ⊢
    rw [List.flatMap_cons, List.length_append, List.map_cons, List.sum_cons]
    have : (pageL q).length = 4 + q.2.length := by simp [pageL, fixedL_len]
    omega
theorem body_bulk (d : Dl) : (bodyD d).length ≤ 32 + bulkD d := by
  have e : bodyD d = headD d ++ d.pages.flatMap pageL := rfl
  rw [e, List.length_append, headD_len]
  have := flat_bulk d.pages
  unfold bulkD
  omega
set_option maxRecDepth 20000 in
set_option maxHeartbeats 4000000 in
theorem great_ok {H : AH} {d : Dl} {pv mv : AV} {cs : List (Int × AV)} (h : DlAt H d pv mv cs) (hm : d.meta_.length < 4611686018427387904) (hp : d.pages.length < 4611686018427387904) (hpl : ∀ p ∈ d.pages, p.2.length < 4611686018427387904) :
    DC Tryz.prog .normal 7 (.cons (dlA d pv mv) .nil) H fun v' H2 => v' = .bool (decide (4194304 < bulkD d)) ∧ Keep noB H H2 := by
  refine DC.of_wd (re := reTmp 2 reNil) tyOk Tryz.func7 (by kernel_rfl) rfl (by kernel_rfl) (by kernel_rfl) ?_
  rw [tl_nil, argsT_cons, argsT_nil]
  refine WD.seqR ?_
  obtain ⟨o1, e1, hD, hk1⟩ := Bx.box (enc := encDv) (e := 25) (z := zDv) encDv_len (H := H) (a := d.dv pv mv h.c1 h.c2) (x := .tmp 0) (T := tl [(0, dlA d pv mv)]) (by simp; rfl)
  refine WDO.fresh1 tyOk (k := ⟨frBox ⟨mkCs 25 6 (.cons (.int .i64 0) (.cons (.int .i64 0) (.cons (.int .i64 0) (.cons (.int .i64 0) (.cons .snil (.cons .snil .nil))))))⟩ (.tmp 0)⟩) (by kernel_rfl) rfl (by kernel_rfl) e1 ?_
  have hlt : H.next < (H.new o1).next := by simp
  generalize H.new o1 = H1 at hD hk1 hlt ⊢
  generalize H.next = N at hD hlt ⊢
  obtain ⟨oD, gD, d0, d1, d2, d3, d4, d5, dc⟩ := hD.dv
  simp only [Dl.dv] at d0 d1 d2 d3 d4 d5
  have h1 := h.keep hk1
  have hml := h1.meta_.len
  have hln := SaysP.ln h1.pages
  refine WDO.looks1 tyOk extOk 1 (ls := [⟨lkMove (.const (.bool false)), (some 2), none⟩]) (by kernel_rfl) (by simp (disch := omega) []; exact rfl) ?_
  refine WDO.nilS (WD.seqR ?_)
  refine WDO.looks1 tyOk extOk 4 (ls := [⟨⟨fAddr (.tmp 1) 5⟩, (some 5), none⟩, ⟨⟨ldA ⟨ld1⟩ (.tmp 5)⟩, (some 6), none⟩, ⟨⟨lenSl (.tmp 6)⟩, (some 7), none⟩, ⟨lkMove (.tmp 7), (some 3), none⟩]) (by kernel_rfl) (by simp (disch := omega) [gD, d5, hml]; exact rfl) ?_
  refine WDO.nilS (WD.seq (WD.seqR ?_))
  refine WDO.looks1 tyOk extOk 1 (ls := [⟨lkMove (.const (.int .i64 0)), (some 4), none⟩]) (by kernel_rfl) (by simp (disch := omega) []; exact rfl) ?_
  refine WDO.nilS (WD.forE (σ := Nat) (fun i => [(1, .ptr N 0), (3, .int .i64 ((d.meta_.length + bulkP (d.pages.take i) : Nat) : Int)), (4, .int .i64 (i : Int))])
    (fun i H' => i ≤ d.pages.length ∧ H' = H1 ∧ (i = 0 ∨ ∃ j p, i = j + 1 ∧ d.pages[j]? = some p ∧ d.meta_.length + bulkP (d.pages.take j) ≤ 4194304)) (fun i => d.pages.length - i) 0 ⟨by omega, rfl, .inl rfl⟩ (by simp [bulkP]) ?_)
  rintro i _ ⟨hi, rfl, hbd⟩
  have hsm : d.meta_.length + bulkP (d.pages.take i) < 9000000000000000000 := by
    rcases hbd with rfl | ⟨j, p, rfl, hpj, hle⟩
    · simp [bulkP]; omega
    · rw [bulkP_take hpj]
      have := hpl p (List.mem_of_getElem? hpj)
      omega
  have htot := bulkP_le d.pages i
  obtain ⟨s, hs⟩ : ∃ s, s = d.meta_.length + bulkP (d.pages.take i) := ⟨_, rfl⟩
  rw [← hs] at hsm ⊢
  by_cases hc : i < d.pages.length
  · by_cases hn : s ≤ 4194304
    · have hnI : ¬ (4194304 : Int) < (s : Int) := by omega
      have hcI : (i : Int) < (d.pages.length : Int) := by omega
      refine WDO.looks1 tyOk extOk 9 (ls := [⟨lkMove (.tmp 4), (some 8), none⟩, ⟨⟨fAddr (.tmp 1) 4⟩, (some 9), none⟩, ⟨⟨ldA ⟨ld1⟩ (.tmp 9)⟩, (some 10), none⟩, ⟨⟨lenSl (.tmp 10)⟩, (some 11), none⟩, ⟨⟨binInt akLss (.tmp 8) (.tmp 11)⟩, (some 12), none⟩, ⟨lkMove (.tmp 12), (some 13), none⟩, ⟨lkMove (.tmp 3), (some 14), (some (13, true))⟩, ⟨⟨binInt akLeq (.tmp 14) (.const (.int .i64 4194304))⟩, (some 15), (some (13, true))⟩, ⟨⟨pickA (.tmp 13) (.tmp 15) (.const (.bool false))⟩, (some 16), none⟩]) (by kernel_rfl) (by simp (disch := omega) [gD, d4, hln, hcI, hnI]; exact rfl) ?_
      refine WDO.nil ⟨true, _, rfl, by simp, (by simp), fun _ => ?_⟩
      have hp1 : d.pages[i]? = some (d.pages[i]) := List.getElem?_eq_getElem hc
      generalize d.pages[i] = pg at hp1
      obtain ⟨b, off, cap, o, u, q1, q2, q3, q4, q5, q6, q7, q8, q9⟩ := h1.pages.get hp1
      have hul := q6.len
      have hpl1 := hpl pg (List.mem_of_getElem? hp1)
      refine WD.region ?_
      refine WDO.looks1 tyOk extOk 11 (ls := [⟨lkMove (.tmp 3), (some 19), none⟩, ⟨⟨binInt akAdd (.tmp 19) (.const (.int .i64 40))⟩, (some 20), none⟩, ⟨⟨fAddr (.tmp 1) 4⟩, (some 21), none⟩, ⟨⟨ldA ⟨ld1⟩ (.tmp 21)⟩, (some 22), none⟩, ⟨lkMove (.tmp 4), (some 23), none⟩, ⟨⟨ixSl 2 (.tmp 22) (.tmp 23)⟩, (some 24), none⟩, ⟨⟨fAddr (.tmp 24) 1⟩, (some 25), none⟩, ⟨⟨ldA ⟨ld1⟩ (.tmp 25)⟩, (some 26), none⟩, ⟨⟨lenSl (.tmp 26)⟩, (some 27), none⟩, ⟨⟨binInt akAdd (.tmp 20) (.tmp 27)⟩, (some 28), none⟩, ⟨lkMove (.tmp 28), (some 3), none⟩]) (by kernel_rfl) (by simp (disch := omega) [gD, d4, q1, q2, q4, hul]; exact rfl) ?_
      refine WDO.nil ?_
      refine WDO.looks1 tyOk extOk 3 (ls := [⟨lkMove (.tmp 4), (some 17), none⟩, ⟨⟨binInt akAdd (.tmp 17) (.const (.int .i64 1))⟩, (some 18), none⟩, ⟨lkMove (.tmp 18), (some 4), none⟩]) (by kernel_rfl) (by simp (disch := omega) []; exact rfl) ?_
      refine WDO.nil ⟨rfl, i + 1, _, rfl, ?_, ⟨by omega, rfl, .inr ⟨i, pg, rfl, hp1, by omega⟩⟩, by omega⟩
      simp
      rw [bulkP_take hp1]
      omega
    · have hnI : (4194304 : Int) < (s : Int) := by omega
      have hcI : (i : Int) < (d.pages.length : Int) := by omega
      refine WDO.looks1 tyOk extOk 9 (ls := [⟨lkMove (.tmp 4), (some 8), none⟩, ⟨⟨fAddr (.tmp 1) 4⟩, (some 9), none⟩, ⟨⟨ldA ⟨ld1⟩ (.tmp 9)⟩, (some 10), none⟩, ⟨⟨lenSl (.tmp 10)⟩, (some 11), none⟩, ⟨⟨binInt akLss (.tmp 8) (.tmp 11)⟩, (some 12), none⟩, ⟨lkMove (.tmp 12), (some 13), none⟩, ⟨lkMove (.tmp 3), (some 14), (some (13, true))⟩, ⟨⟨binInt akLeq (.tmp 14) (.const (.int .i64 4194304))⟩, (some 15), (some (13, true))⟩, ⟨⟨pickA (.tmp 13) (.tmp 15) (.const (.bool false))⟩, (some 16), none⟩]) (by kernel_rfl) (by simp (disch := omega) [gD, d4, hln, hcI, hnI]; exact rfl) ?_
      refine WDO.nil ⟨false, _, rfl, by simp, fun _ => ?_, (by simp)⟩
      refine WD.seqR ?_
      refine WDO.looks1 tyOk extOk 3 (ls := [⟨lkMove (.tmp 3), (some 29), none⟩, ⟨⟨binInt akGtr (.tmp 29) (.const (.int .i64 4194304))⟩, (some 30), none⟩, ⟨lkMove (.tmp 30), (some 2), none⟩]) (by kernel_rfl) (by simp (disch := omega) [hnI]; exact rfl) ?_
      have hbig : 4194304 < bulkD d := by unfold bulkD; omega
      exact WDO.nilS (WD.ret (endR _ (by simp; rfl) ⟨by rw [decide_eq_true hbig]; rfl, hk1⟩))
  · have hie : i = d.pages.length := by omega
    subst hie
    rw [List.take_length] at hs
    have hcI : ¬ (d.pages.length : Int) < (d.pages.length : Int) := by omega
    refine WDO.looks1 tyOk extOk 9 (ls := [⟨lkMove (.tmp 4), (some 8), none⟩, ⟨⟨fAddr (.tmp 1) 4⟩, (some 9), none⟩, ⟨⟨ldA ⟨ld1⟩ (.tmp 9)⟩, (some 10), none⟩, ⟨⟨lenSl (.tmp 10)⟩, (some 11), none⟩, ⟨⟨binInt akLss (.tmp 8) (.tmp 11)⟩, (some 12), none⟩, ⟨lkMove (.tmp 12), (some 13), none⟩, ⟨lkMove (.tmp 3), (some 14), (some (13, true))⟩, ⟨⟨binInt akLeq (.tmp 14) (.const (.int .i64 4194304))⟩, (some 15), (some (13, true))⟩, ⟨⟨pickA (.tmp 13) (.tmp 15) (.const (.bool false))⟩, (some 16), none⟩]) (by kernel_rfl) (by simp (disch := omega) [gD, d4, hln, hcI]; exact rfl) ?_
    refine WDO.nil ⟨false, _, rfl, by simp, fun _ => ?_, (by simp)⟩
    refine WD.seqR ?_
    refine WDO.looks1 tyOk extOk 3 (ls := [⟨lkMove (.tmp 3), (some 29), none⟩, ⟨⟨binInt akGtr (.tmp 29) (.const (.int .i64 4194304))⟩, (some 30), none⟩, ⟨lkMove (.tmp 30), (some 2), none⟩]) (by kernel_rfl) (by simp (disch := omega) []; exact rfl) ?_
    refine WDO.nilS (WD.ret (endR _ (by simp; rfl) ⟨?_, hk1⟩))
    rw [resultA_one]
    congr 1
    rw [hs]
    unfold bulkD
    apply decide_eq_decide.2
    omega
end
end Go.Proofs.YtoigokkeaddceaaGreatDoor
namespace Go.Proofs.YtoigokkeaddceaaGreatDoor
open Go.Xq
noncomputable section
def lentP (M i : Nat) (p : Int × List UInt8) : Pv := ⟨p.1, .sl (M + 2 + i) 0 p.2.length (some (p.2.length + 9)), rfl⟩
def behindP : Pv := ⟨-7, .snil, rfl⟩
def rowP (M : Nat) (ps : List (Int × List UInt8)) (i : Nat) : Pv := match ps[i]? with
  | some p => lentP M i p
  | none => behindP
def allP (M : Nat) (ps : List (Int × List UInt8)) : List Pv := (List.range (ps.length + 2)).map (rowP M ps)
structure LentAt (H : AH) (M : Nat) (d : Dl) (els : List Pv) (n : Nat) : Prop where
  meta_ : H.get M = some (bb 5 false (d.meta_ ++ tail9))
  el : ∃ o, H.get (M + 1) = some o ∧ ElB encPv 67 2 false zPv els o
  data : ∀ (i : Nat) (p : Int × List UInt8), i < n → d.pages[i]? = some p → H.get (M + 2 + i) = some (bb 5 false (p.2 ++ tail9))
def lentA (M : Nat) (d : Dl) : AV := dlA d (.sl (M + 1) 0 d.pages.length (some (d.pages.length + 2))) (.sl M 0 d.meta_.length (some (d.meta_.length + 9)))
end
end Go.Proofs.YtoigokkeaddceaaGreatDoor
namespace Go.Proofs.YtoigokkeaddceaaGreatDoor
open Go.Xq
noncomputable section
def overP : Pv := ⟨-8, .snil, rfl⟩
def lentW (M n : Nat) : Nat → Prop := fun b => M ≤ b ∧ b < M + 2 + n
end
end Go.Proofs.YtoigokkeaddceaaGreatDoor
