/- A part of the proof of this seat's statement: what is particular to its program. Its conditions stand in each theorem. -/
import Derived.Test.YtoigokkeaddceaaGreatDoorK7
namespace Go.Proofs.YtoigokkeaddceaaGreatDoor
open Go.Xq
noncomputable section
def bulkP (ps : List (Int × List UInt8)) : Nat := (ps.map fun p => 40 + p.2.length).sum
def bulkD (d : Dl) : Nat := d.meta_.length + bulkP d.pages
theorem bulkP_take {ps : List (Int × List UInt8)} {i : Nat} {p : Int × List UInt8} (hp : ps[i]? = some p) : bulkP (ps.take (i + 1)) = bulkP (ps.take i) + 40 + p.2.length := by
  unfold bulkP
  rw [List.take_add_one, hp]
  simp
  omega
theorem bulkP_le (ps : List (Int × List UInt8)) (i : Nat) : bulkP (ps.take i) ≤ bulkP ps := by
  have e : bulkP ps = bulkP (ps.take i) + bulkP (ps.drop i) := by
    unfold bulkP
    rw [← List.sum_append_nat, ← List.map_append, List.take_append_drop]
  omega
theorem bulk_mem {ps : List (Int × List UInt8)} {p : Int × List UInt8} (h : p ∈ ps) : 40 + p.2.length ≤ bulkP ps := by
  induction ps with
  | nil => cases h
  | cons q r ih =>
    unfold bulkP at ih ⊢
    rw [List.map_cons, List.sum_cons]
    rcases List.mem_cons.1 h with rfl | h
    · omega
    · have := ih h
      omega
theorem bulk_len (ps : List (Int × List UInt8)) : 40 * ps.length ≤ bulkP ps := by
  induction ps with
  | nil => simp
  | cons q r ih =>
    unfold bulkP at ih ⊢
    rw [List.map_cons, List.sum_cons, List.length_cons]
    omega
theorem flat_bulk (ps : List (Int × List UInt8)) : (ps.flatMap pageL).length ≤ bulkP ps := by
  induction ps with
  | nil => simp
  | cons q r ih =>
    unfold bulkP at ih ⊢
    rw [List.flatMap_cons, List.length_append, List.map_cons, List.sum_cons]
    have : (pageL q).length = 4 + q.2.length := by simp [pageL, fixedL_len]
    omega
theorem body_bulk (d : Dl) : (bodyD d).length ≤ 32 + bulkD d := by
  have e : bodyD d = headD d ++ d.pages.flatMap pageL := rfl
  rw [e, List.length_append, headD_len]
  have := flat_bulk d.pages
  unfold bulkD
  omega
set_option maxRecDepth 20000 in
set_option maxHeartbeats 4000000 in
theorem great_ok {H : AH} {d : Dl} {pv mv : AV} {cs : List (Int × AV)} (h : DlAt H d pv mv cs) (hm : d.meta_.length < 4611686018427387904) (hp : d.pages.length < 4611686018427387904) (hpl : ∀ p ∈ d.pages, p.2.length < 4611686018427387904) :
    DC Tryz.prog .normal 7 (.cons (dlA d pv mv) .nil) H fun v' H2 => v' = .bool (decide (4194304 < bulkD d)) ∧ Keep noB H H2 := by
  refine DC.of_wd (re := reTmp 2 reNil) tyOk Tryz.func7 (by kernel_rfl) rfl (by kernel_rfl) (by kernel_rfl) ?_
  rw [tl_nil, argsT_cons, argsT_nil]
  refine WD.seqR ?_
  obtain ⟨o1, e1, hD, hk1⟩ := Bx.box (enc := encDv) (e := 25) (z := zDv) encDv_len (H := H) (a := d.dv pv mv h.c1 h.c2) (x := .tmp 0) (T := tl [(0, dlA d pv mv)]) (by simp; rfl)
  refine WDO.fresh1 tyOk (k := ⟨frBox ⟨mkCs 25 6 (.cons (.int .i64 0) (.cons (.int .i64 0) (.cons (.int .i64 0) (.cons (.int .i64 0) (.cons .snil (.cons .snil .nil))))))⟩ (.tmp 0)⟩) (by kernel_rfl) rfl (by kernel_rfl) e1 ?_
  have hlt : H.next < (H.new o1).next := by simp
  generalize H.new o1 = H1 at hD hk1 hlt ⊢
  generalize H.next = N at hD hlt ⊢
  obtain ⟨oD, gD, d0, d1, d2, d3, d4, d5, dc⟩ := hD.dv
  simp only [Dl.dv] at d0 d1 d2 d3 d4 d5
  have h1 := h.keep hk1
  have hml := h1.meta_.len
  have hln := SaysP.ln h1.pages
  refine WDO.looks1 tyOk extOk 1 (ls := [⟨lkMove (.const (.bool false)), (some 2), none⟩]) (by kernel_rfl) (by simp (disch := omega) []; exact rfl) ?_
  refine WDO.nilS (WD.seqR ?_)
  refine WDO.looks1 tyOk extOk 4 (ls := [⟨⟨fAddr (.tmp 1) 5⟩, (some 5), none⟩, ⟨⟨ldA ⟨ld1⟩ (.tmp 5)⟩, (some 6), none⟩, ⟨⟨lenSl (.tmp 6)⟩, (some 7), none⟩, ⟨lkMove (.tmp 7), (some 3), none⟩]) (by kernel_rfl) (by simp (disch := omega) [gD, d5, hml]; exact rfl) ?_
  refine WDO.nilS (WD.seq (WD.seqR ?_))
  refine WDO.looks1 tyOk extOk 1 (ls := [⟨lkMove (.const (.int .i64 0)), (some 4), none⟩]) (by kernel_rfl) (by simp (disch := omega) []; exact rfl) ?_
  refine WDO.nilS (WD.forE (σ := Nat) (fun i => [(1, .ptr N 0), (3, .int .i64 ((d.meta_.length + bulkP (d.pages.take i) : Nat) : Int)), (4, .int .i64 (i : Int))])
    (fun i H' => i ≤ d.pages.length ∧ H' = H1 ∧ (i = 0 ∨ ∃ j p, i = j + 1 ∧ d.pages[j]? = some p ∧ d.meta_.length + bulkP (d.pages.take j) ≤ 4194304)) (fun i => d.pages.length - i) 0 ⟨by omega, rfl, .inl rfl⟩ (by simp [bulkP]) ?_)
  rintro i _ ⟨hi, rfl, hbd⟩
  have hsm : d.meta_.length + bulkP (d.pages.take i) < 9000000000000000000 := by
    rcases hbd with rfl | ⟨j, p, rfl, hpj, hle⟩
    · simp [bulkP]; omega
    · rw [bulkP_take hpj]
      have := hpl p (List.mem_of_getElem? hpj)
      omega
  have htot := bulkP_le d.pages i
  obtain ⟨s, hs⟩ : ∃ s, s = d.meta_.length + bulkP (d.pages.take i) := ⟨_, rfl⟩
  rw [← hs] at hsm ⊢
  by_cases hc : i < d.pages.length
  · by_cases hn : s ≤ 4194304
    · have hnI : ¬ (4194304 : Int) < (s : Int) := by omega
      have hcI : (i : Int) < (d.pages.length : Int) := by omega
      refine WDO.looks1 tyOk extOk 9 (ls := [⟨lkMove (.tmp 4), (some 8), none⟩, ⟨⟨fAddr (.tmp 1) 4⟩, (some 9), none⟩, ⟨⟨ldA ⟨ld1⟩ (.tmp 9)⟩, (some 10), none⟩, ⟨⟨lenSl (.tmp 10)⟩, (some 11), none⟩, ⟨⟨binInt akLss (.tmp 8) (.tmp 11)⟩, (some 12), none⟩, ⟨lkMove (.tmp 12), (some 13), none⟩, ⟨lkMove (.tmp 3), (some 14), (some (13, true))⟩, ⟨⟨binInt akLeq (.tmp 14) (.const (.int .i64 4194304))⟩, (some 15), (some (13, true))⟩, ⟨⟨pickA (.tmp 13) (.tmp 15) (.const (.bool false))⟩, (some 16), none⟩]) (by kernel_rfl) (by simp (disch := omega) [gD, d4, hln, hcI, hnI]; exact rfl) ?_
      refine WDO.nil ⟨true, _, rfl, by simp, (by simp), fun _ => ?_⟩
      have hp1 : d.pages[i]? = some (d.pages[i]) := List.getElem?_eq_getElem hc
      generalize d.pages[i] = pg at hp1
      obtain ⟨b, off, cap, o, u, q1, q2, q3, q4, q5, q6, q7, q8, q9⟩ := h1.pages.get hp1
      have hul := q6.len
      have hpl1 := hpl pg (List.mem_of_getElem? hp1)
      refine WD.region ?_
      refine WDO.looks1 tyOk extOk 11 (ls := [⟨lkMove (.tmp 3), (some 19), none⟩, ⟨⟨binInt akAdd (.tmp 19) (.const (.int .i64 40))⟩, (some 20), none⟩, ⟨⟨fAddr (.tmp 1) 4⟩, (some 21), none⟩, ⟨⟨ldA ⟨ld1⟩ (.tmp 21)⟩, (some 22), none⟩, ⟨lkMove (.tmp 4), (some 23), none⟩, ⟨⟨ixSl 2 (.tmp 22) (.tmp 23)⟩, (some 24), none⟩, ⟨⟨fAddr (.tmp 24) 1⟩, (some 25), none⟩, ⟨⟨ldA ⟨ld1⟩ (.tmp 25)⟩, (some 26), none⟩, ⟨⟨lenSl (.tmp 26)⟩, (some 27), none⟩, ⟨⟨binInt akAdd (.tmp 20) (.tmp 27)⟩, (some 28), none⟩, ⟨lkMove (.tmp 28), (some 3), none⟩]) (by kernel_rfl) (by simp (disch := omega) [gD, d4, q1, q2, q4, hul]; exact rfl) ?_
      refine WDO.nil ?_
      refine WDO.looks1 tyOk extOk 3 (ls := [⟨lkMove (.tmp 4), (some 17), none⟩, ⟨⟨binInt akAdd (.tmp 17) (.const (.int .i64 1))⟩, (some 18), none⟩, ⟨lkMove (.tmp 18), (some 4), none⟩]) (by kernel_rfl) (by simp (disch := omega) []; exact rfl) ?_
      refine WDO.nil ⟨rfl, i + 1, _, rfl, ?_, ⟨by omega, rfl, .inr ⟨i, pg, rfl, hp1, by omega⟩⟩, by omega⟩
      simp
      rw [bulkP_take hp1]
      omega
    · have hnI : (4194304 : Int) < (s : Int) := by omega
      have hcI : (i : Int) < (d.pages.length : Int) := by omega
      refine WDO.looks1 tyOk extOk 9 (ls := [⟨lkMove (.tmp 4), (some 8), none⟩, ⟨⟨fAddr (.tmp 1) 4⟩, (some 9), none⟩, ⟨⟨ldA ⟨ld1⟩ (.tmp 9)⟩, (some 10), none⟩, ⟨⟨lenSl (.tmp 10)⟩, (some 11), none⟩, ⟨⟨binInt akLss (.tmp 8) (.tmp 11)⟩, (some 12), none⟩, ⟨lkMove (.tmp 12), (some 13), none⟩, ⟨lkMove (.tmp 3), (some 14), (some (13, true))⟩, ⟨⟨binInt akLeq (.tmp 14) (.const (.int .i64 4194304))⟩, (some 15), (some (13, true))⟩, ⟨⟨pickA (.tmp 13) (.tmp 15) (.const (.bool false))⟩, (some 16), none⟩]) (by kernel_rfl) (by simp (disch := omega) [gD, d4, hln, hcI, hnI]; exact rfl) ?_
      refine WDO.nil ⟨false, _, rfl, by simp, fun _ => ?_, (by simp)⟩
      refine WD.seqR ?_
      refine WDO.looks1 tyOk extOk 3 (ls := [⟨lkMove (.tmp 3), (some 29), none⟩, ⟨⟨binInt akGtr (.tmp 29) (.const (.int .i64 4194304))⟩, (some 30), none⟩, ⟨lkMove (.tmp 30), (some 2), none⟩]) (by kernel_rfl) (by simp (disch := omega) [hnI]; exact rfl) ?_
      have hbig : 4194304 < bulkD d := by unfold bulkD; omega
      exact WDO.nilS (WD.ret (endR _ (by simp; rfl) ⟨by rw [decide_eq_true hbig]; rfl, hk1⟩))
  · have hie : i = d.pages.length := by omega
    subst hie
    rw [List.take_length] at hs
    have hcI : ¬ (d.pages.length : Int) < (d.pages.length : Int) := by omega
    refine WDO.looks1 tyOk extOk 9 (ls := [⟨lkMove (.tmp 4), (some 8), none⟩, ⟨⟨fAddr (.tmp 1) 4⟩, (some 9), none⟩, ⟨⟨ldA ⟨ld1⟩ (.tmp 9)⟩, (some 10), none⟩, ⟨⟨lenSl (.tmp 10)⟩, (some 11), none⟩, ⟨⟨binInt akLss (.tmp 8) (.tmp 11)⟩, (some 12), none⟩, ⟨lkMove (.tmp 12), (some 13), none⟩, ⟨lkMove (.tmp 3), (some 14), (some (13, true))⟩, ⟨⟨binInt akLeq (.tmp 14) (.const (.int .i64 4194304))⟩, (some 15), (some (13, true))⟩, ⟨⟨pickA (.tmp 13) (.tmp 15) (.const (.bool false))⟩, (some 16), none⟩]) (by kernel_rfl) (by simp (disch := omega) [gD, d4, hln, hcI]; exact rfl) ?_
    refine WDO.nil ⟨false, _, rfl, by simp, fun _ => ?_, (by simp)⟩
    refine WD.seqR ?_
    refine WDO.looks1 tyOk extOk 3 (ls := [⟨lkMove (.tmp 3), (some 29), none⟩, ⟨⟨binInt akGtr (.tmp 29) (.const (.int .i64 4194304))⟩, (some 30), none⟩, ⟨lkMove (.tmp 30), (some 2), none⟩]) (by kernel_rfl) (by simp (disch := omega) []; exact rfl) ?_
    refine WDO.nilS (WD.ret (endR _ (by simp; rfl) ⟨?_, hk1⟩))
    rw [resultA_one]
    congr 1
    rw [hs]
    unfold bulkD
    apply decide_eq_decide.2
    omega
end
end Go.Proofs.YtoigokkeaddceaaGreatDoor
namespace Go.Proofs.YtoigokkeaddceaaGreatDoor
open Go.Xq
noncomputable section
theorem frMake_cs {E : Env} {e es bytes : Nat} {l c : Operand} {T : Tr AV} {b0 n m : Nat} {z : AV} (hz : mkZero E e m = some (.cs e es (m * es) false z .e)) (h1 : opnd l T = some (.int .i64 (n : Int))) (h2 : opnd c T = some (.int .i64 (m : Int))) (hn : n ≤ m) (hb : bytes * m ≤ 281474976710656)
    (hm : m ≤ 281474976710656) : frMake E e bytes l c T b0 = some (.sl b0 0 n (some m), .cs e es (m * es) false z .e) := by
  unfold frMake
  rw [h1, h2]
  simp only [ob_some', natOf_cast]
  rw [ble_true hn, bt_true, ble_true (a := Nat.mul bytes m) hb, bt_true, ble_true hm, bt_true, hz, ob_some']
theorem mkZero67 (m : Nat) : mkZero E 67 m = some (.cs 67 2 (m * 2) false zPv .e) := by kernel_rfl
def lentP (M i : Nat) (p : Int × List UInt8) : Pv := ⟨p.1, .sl (M + 2 + i) 0 p.2.length (some (p.2.length + 9)), rfl⟩
def behindP : Pv := ⟨-7, .snil, rfl⟩
def rowP (M : Nat) (ps : List (Int × List UInt8)) (i : Nat) : Pv := match ps[i]? with
  | some p => lentP M i p
  | none => behindP
def allP (M : Nat) (ps : List (Int × List UInt8)) : List Pv := (List.range (ps.length + 2)).map (rowP M ps)
theorem allP_len (M : Nat) (ps : List (Int × List UInt8)) : (allP M ps).length = ps.length + 2 := by simp [allP]
theorem allP_get (M : Nat) (ps : List (Int × List UInt8)) {i : Nat} (hi : i < ps.length + 2) : (allP M ps)[i]? = some (rowP M ps i) := by
  simp [allP, List.getElem?_range hi]
theorem rowP_lo {M i : Nat} {ps : List (Int × List UInt8)} {p : Int × List UInt8} (hp : ps[i]? = some p) : rowP M ps i = lentP M i p := by unfold rowP; rw [hp]
theorem rowP_hi {M i : Nat} {ps : List (Int × List UInt8)} (hp : ps.length ≤ i) : rowP M ps i = behindP := by unfold rowP; rw [List.getElem?_eq_none hp]
theorem fillX {α : Type} {t : List α} {j n : Nat} {x y : α} (ht : t.length = n) (hj : j < n) (hx : t[j]? = some x) : (t.take j ++ List.replicate (n - j) y).set j x = t.take (j + 1) ++ List.replicate (n - (j + 1)) y := by
  have h1 : (t.take j).length = j := by simp; omega
  have h2 : List.replicate (n - j) y = y :: List.replicate (n - (j + 1)) y := by rw [show n - j = (n - (j + 1)) + 1 from by omega, List.replicate_succ]
  have h3 : t.take (j + 1) = t.take j ++ [x] := by rw [List.take_add_one, hx]; rfl
  rw [List.set_append, if_neg (by omega), h1, Nat.sub_self, h2, List.set_cons_zero, h3, List.append_assoc]; rfl
structure LentAt (H : AH) (M : Nat) (d : Dl) (els : List Pv) (n : Nat) : Prop where
  meta_ : H.get M = some (bb 5 false (d.meta_ ++ tail9))
  el : ∃ o, H.get (M + 1) = some o ∧ ElB encPv 67 2 false zPv els o
  data : ∀ (i : Nat) (p : Int × List UInt8), i < n → d.pages[i]? = some p → H.get (M + 2 + i) = some (bb 5 false (p.2 ++ tail9))
def lentA (M : Nat) (d : Dl) : AV := dlA d (.sl (M + 1) 0 d.pages.length (some (d.pages.length + 2))) (.sl M 0 d.meta_.length (some (d.meta_.length + 9)))
set_option maxRecDepth 20000 in
set_option maxHeartbeats 4000000 in
theorem lentD_ok {H : AH} {d : Dl} {pv mv : AV} {cs : List (Int × AV)} (h : DlAt H d pv mv cs) (hm : d.meta_.length ≤ 8388608) (hp : d.pages.length ≤ 8388608) (hpl : ∀ p ∈ d.pages, p.2.length ≤ 8388608) :
    DC Tryz.prog .normal 9 (.cons (dlA d pv mv) .nil) H fun v' H2 => v' = lentA (H.next + 3) d ∧ H2.next = H.next + 5 + d.pages.length ∧ LentAt H2 (H.next + 3) d (allP (H.next + 3) d.pages) d.pages.length ∧ Keep noB H H2 := by
  refine DC.of_wd (re := reCell ⟨ldN 6⟩ 2 reNil) tyOk Tryz.func9 (by kernel_rfl) rfl (by kernel_rfl) (by kernel_rfl) ?_
  rw [tl_nil, argsT_cons, argsT_nil]
  refine WD.seqR ?_
  obtain ⟨o1, e1, hD, hk1⟩ := Bx.box (enc := encDv) (e := 25) (z := zDv) encDv_len (H := H) (a := d.dv pv mv h.c1 h.c2) (x := .tmp 0) (T := tl [(0, dlA d pv mv)]) (by simp; rfl)
  refine WDO.fresh1 tyOk (k := ⟨frBox ⟨mkCs 25 6 (.cons (.int .i64 0) (.cons (.int .i64 0) (.cons (.int .i64 0) (.cons (.int .i64 0) (.cons .snil (.cons .snil .nil))))))⟩ (.tmp 0)⟩) (by kernel_rfl) rfl (by kernel_rfl) e1 ?_
  have n1 : (H.new o1).next = H.next + 1 := by simp
  generalize H.new o1 = H1 at hD hk1 n1 ⊢
  obtain ⟨N, hN⟩ : ∃ N, N = H.next := ⟨_, rfl⟩
  rw [← hN] at hD n1 ⊢
  refine WDO.fresh1 tyOk (k := ⟨frAlloc (.cs 25 6 6 false (.cons (.int .i64 0) (.cons (.int .i64 0) (.cons (.int .i64 0) (.cons (.int .i64 0) (.cons .snil (.cons .snil .nil)))))) .e)⟩) (by kernel_rfl) rfl (by kernel_rfl) (v := .ptr H1.next 0) (x := .cs 25 6 6 false zDv .e) ?_ ?_
  · exact rfl
  have hR : Bx encDv 25 6 zDv (H1.new (.cs 25 6 6 false zDv .e)) H1.next zeroDv := Bx.new (z := zDv) (a := zeroDv) encDv_len rfl H1 rfl
  have k2 : Keep noB H1 (H1.new (.cs 25 6 6 false zDv .e)) := Keep.new _ _ _
  have n2 : (H1.new (.cs 25 6 6 false zDv .e)).next = N + 2 := by simp [n1]
  have hD2 := hD.keep k2 (by omega) id
  rw [n1] at hR
  rw [n1]
  have kk2 := hk1.trans k2
  generalize H1.new (.cs 25 6 6 false zDv .e) = H2 at hR k2 n2 hD2 kk2 ⊢
  obtain ⟨oD, gD, d0, d1, d2, d3, d4, d5, dc⟩ := hD2.dv
  simp only [Dl.dv] at d0 d1 d2 d3 d4 d5
  refine WDO.nilS (WD.seqR ?_)
  refine WDO.looks1 tyOk extOk 1 (ls := [⟨⟨ldA ⟨ldN 6⟩ (.tmp 1)⟩, (some 6), none⟩]) (by kernel_rfl) (by simp (disch := omega) [gD, dc]; exact rfl) ?_
  refine WDO.fresh1 tyOk (k := ⟨frAlloc (.cs 25 6 6 false (.cons (.int .i64 0) (.cons (.int .i64 0) (.cons (.int .i64 0) (.cons (.int .i64 0) (.cons .snil (.cons .snil .nil)))))) .e)⟩) (by kernel_rfl) rfl (by kernel_rfl) (v := .ptr H2.next 0) (x := .cs 25 6 6 false zDv .e) ?_ ?_
  · exact rfl
  have k3 : Keep noB H2 (H2.new (.cs 25 6 6 false zDv .e)) := Keep.new _ _ _
  have hO0 : Bx encDv 25 6 zDv (H2.new (.cs 25 6 6 false zDv .e)) H2.next zeroDv := Bx.new (z := zDv) (a := zeroDv) encDv_len rfl H2 rfl
  have n3 : (H2.new (.cs 25 6 6 false zDv .e)).next = N + 3 := by simp [n2]
  rw [n2] at hO0 ⊢
  obtain ⟨H4, s1, s2, s3, s4⟩ := hO0.store encDv_len (d.dv pv mv h.c1 h.c2) (cells_dv _)
  refine WDO.heavy1 tyOk extOk (k := ⟨hvStore ⟨stN 6⟩ (.tmp 3) (.tmp 6)⟩) (by kernel_rfl) rfl (by kernel_rfl) (by simp; exact stN_ob s1) ?_
  have n4 : H4.next = N + 3 := by omega
  have gD4 := s4.get (b := N) (by omega) (by omega) (k3.get (by omega) id gD)
  have hR4 := (hR.keep k3 (by omega) id).keep s4 (by omega) (by omega)
  have kk4 : Keep noB H H4 := (kk2.trans k3).trans' s4 fun b hb e => absurd e (by omega)
  clear hO0 s1 s2 s4 k3 k2
  refine WDO.nilS (WD.seqR ?_)
  refine WDO.looks1 tyOk extOk 2 (ls := [⟨⟨fAddr (.tmp 1) 5⟩, (some 7), none⟩, ⟨⟨ldA ⟨ld1⟩ (.tmp 7)⟩, (some 8), none⟩]) (by kernel_rfl) (by simp (disch := omega) [gD4, d5]; exact rfl) ?_
  refine WDO.callF (g := 15) rfl rfl rfl (by kernel_rfl) (l := .cons mv .nil) (by simp) (lent_ok (h.keep kk4).meta_ hm) fun u H5 ⟨hu, n5, g5, k5⟩ => ?_
  rw [n4] at hu n5 g5
  subst hu
  have gD5 := k5.get (by omega) id gD4
  have hR5 := hR4.keep k5 (by omega) id
  have hO5 := s3.keep k5 (by omega) id
  have kk5 := kk4.trans k5
  refine WDO.looks1 tyOk extOk 1 (ls := [⟨⟨fAddr (.tmp 3) 5⟩, (some 10), none⟩]) (by kernel_rfl) (by simp (disch := omega) []; exact rfl) ?_
  obtain ⟨H6, t1, t2, t3, t4⟩ := hO5.store1 encDv_len ⟨d.engine, d.page, d.frm, d.to, pv, .sl (N + 3) 0 d.meta_.length (some (d.meta_.length + 9)), h.c1, rfl⟩ (f := 5) (v := .sl (N + 3) 0 d.meta_.length (some (d.meta_.length + 9))) (by omega) rfl rfl
  refine WDO.heavy1 tyOk extOk (k := ⟨hvStore ⟨st1'⟩ (.tmp 10) (.tmp 9)⟩) (by kernel_rfl) rfl (by kernel_rfl) (by simp; exact st1_ob t1) ?_
  have n6 : H6.next = N + 4 := by omega
  have gD6 := t4.get (b := N) (by omega) (by omega) gD5
  have hR6 := hR5.keep t4 (by omega) (by omega)
  have g6 := t4.get (b := N + 3) (by omega) (by omega) g5
  have kk6 : Keep noB H H6 := kk5.trans' t4 fun b hb e => absurd e (by omega)
  clear t1 t2 t4 hO5 hR5 gD5 g5 k5 hR4 gD4 s3
  refine WDO.nilS (WD.seqR ?_)
  have hln6 := SaysP.ln (h.keep kk6).pages
  refine WDO.looks1 tyOk extOk 4 (ls := [⟨⟨fAddr (.tmp 1) 4⟩, (some 11), none⟩, ⟨⟨ldA ⟨ld1⟩ (.tmp 11)⟩, (some 12), none⟩, ⟨⟨lenSl (.tmp 12)⟩, (some 13), none⟩, ⟨⟨binInt akAdd (.tmp 13) (.const (.int .i64 2))⟩, (some 14), none⟩]) (by kernel_rfl) (by simp (disch := omega) [gD6, d4, hln6]; exact rfl) ?_
  have hz := ElB.zeros (enc := encPv) (e := 67) (es := 2) (op := false) (z := zPv) encPv_len (a := zeroPv) rfl (d.pages.length + 2)
  generalize ho0 : AObj.cs 67 2 ((d.pages.length + 2) * 2) false zPv .e = o0 at hz
  refine WDO.fresh1 tyOk (k := ⟨frMake E 67 32 (.tmp 14) (.tmp 14)⟩) (by kernel_rfl) rfl (by kernel_rfl) (v := .sl H6.next 0 (d.pages.length + 2) (some (d.pages.length + 2))) (x := o0) ?_ ?_
  · dsimp only
    rw [← ho0]
    refine frMake_cs (E := E) (e := 67) (es := 2) (bytes := 32) (l := .tmp 14) (c := .tmp 14) (n := d.pages.length + 2) (m := d.pages.length + 2) (mkZero67 _) ?_ ?_ (Nat.le_refl _) (by omega) (by omega)
    · simp
    · simp
  have k7 : Keep noB H6 (H6.new o0) := Keep.new _ _ _
  have g7 : (H6.new o0).get H6.next = some o0 := get_new_same _ _
  have n7 : (H6.new o0).next = N + 5 := by simp [n6]
  rw [n6] at g7 ⊢
  generalize H6.new o0 = H7 at k7 g7 n7 ⊢
  have gD7 := k7.get (by omega) id gD6
  have hR7 := hR6.keep k7 (by omega) id
  have hO7 := t3.keep k7 (by omega) id
  have gm7 := k7.get (by omega) id g6
  have kk7 := kk6.trans k7
  clear k7 gD6 hR6 t3 g6
  refine WDO.looks1 tyOk extOk 1 (ls := [⟨lkMove (.tmp 15), (some 4), none⟩]) (by kernel_rfl) (by simp (disch := omega) []; exact rfl) ?_
  refine WDO.nilS (WD.seq (WD.seqR ?_))
  refine WDO.looks1 tyOk extOk 1 (ls := [⟨lkMove (.const (.int .i64 0)), (some 5), none⟩]) (by kernel_rfl) (by simp (disch := omega) []; exact rfl) ?_
  refine WDO.nilS (WD.forE (σ := Nat) (fun i => [(1, .ptr N 0), (2, .ptr (N + 1) 0), (3, .ptr (N + 2) 0), (4, .sl (N + 4) 0 (d.pages.length + 2) (some (d.pages.length + 2))), (5, .int .i64 (i : Int))])
    (fun i H' => i ≤ d.pages.length + 2 ∧ H'.next = N + 5 + min i d.pages.length ∧ LentAt H' (N + 3) d ((allP (N + 3) d.pages).take i ++ List.replicate (d.pages.length + 2 - i) zeroPv) (min i d.pages.length) ∧ H'.get N = some oD ∧ Bx encDv 25 6 zDv H' (N + 1) zeroDv ∧
      Bx encDv 25 6 zDv H' (N + 2) ⟨d.engine, d.page, d.frm, d.to, pv, .sl (N + 3) 0 d.meta_.length (some (d.meta_.length + 9)), h.c1, rfl⟩ ∧ Keep noB H H') (fun i => d.pages.length + 2 - i) 0
    ⟨by omega, by simp [n7], ⟨gm7, ⟨o0, g7, by simpa using hz⟩, fun i p hi => by omega⟩, gD7, hR7, hO7, kk7⟩ (by simp) ?_)
  rintro i H' ⟨hi, hn', hla, hg', hR', hO', hk'⟩
  refine WDO.looks1 tyOk extOk 4 (ls := [⟨lkMove (.tmp 5), (some 16), none⟩, ⟨lkMove (.tmp 4), (some 17), none⟩, ⟨⟨lenSl (.tmp 17)⟩, (some 18), none⟩, ⟨⟨binInt akLss (.tmp 16) (.tmp 18)⟩, (some 19), none⟩]) (by kernel_rfl) (by simp (disch := omega) []; exact rfl) ?_
  refine WDO.nil ⟨decide ((i : Int) < (d.pages.length : Int) + 2), _, rfl, by simp, fun hc => ?_, fun hc => ?_⟩
  · have hc : i = d.pages.length + 2 := by have := of_decide_eq_false hc; omega
    subst hc
    have hln' := SaysP.ln (h.keep hk').pages
    refine WD.seqR ?_
    refine WDO.looks1 tyOk extOk 6 (ls := [⟨lkMove (.tmp 4), (some 48), none⟩, ⟨⟨fAddr (.tmp 1) 4⟩, (some 49), none⟩, ⟨⟨ldA ⟨ld1⟩ (.tmp 49)⟩, (some 50), none⟩, ⟨⟨lenSl (.tmp 50)⟩, (some 51), none⟩, ⟨⟨slSl 2 (.tmp 48) none (some (.tmp 51)) none⟩, (some 52), none⟩, ⟨⟨fAddr (.tmp 3) 4⟩, (some 53), none⟩]) (by kernel_rfl) (by simp (disch := omega) [hg', d4, hln']; exact rfl) ?_
    obtain ⟨H8, t1, t2, t3, t4⟩ := hO'.store1 encDv_len ⟨d.engine, d.page, d.frm, d.to, .sl (N + 4) 0 d.pages.length (some (d.pages.length + 2)), .sl (N + 3) 0 d.meta_.length (some (d.meta_.length + 9)), rfl, rfl⟩ (f := 4) (v := .sl (N + 4) 0 d.pages.length (some (d.pages.length + 2))) (by omega) rfl rfl
    refine WDO.heavy1 tyOk extOk (k := ⟨hvStore ⟨st1'⟩ (.tmp 53) (.tmp 52)⟩) (by kernel_rfl) rfl (by kernel_rfl) (by simp; exact st1_ob t1) ?_
    have hR8 := hR'.keep t4 (by omega) (by omega)
    obtain ⟨oo, go, _, _, _, _, _, _, oc⟩ := t3.dv
    refine WDO.nilS (WD.seqR ?_)
    refine WDO.looks1 tyOk extOk 1 (ls := [⟨⟨ldA ⟨ldN 6⟩ (.tmp 3)⟩, (some 54), none⟩]) (by kernel_rfl) (by simp (disch := omega) [go, oc]; exact rfl) ?_
    obtain ⟨H9, u1, u2, u3, u4⟩ := hR8.store encDv_len ⟨d.engine, d.page, d.frm, d.to, .sl (N + 4) 0 d.pages.length (some (d.pages.length + 2)), .sl (N + 3) 0 d.meta_.length (some (d.meta_.length + 9)), rfl, rfl⟩ (cells_dv _)
    obtain ⟨oz, gz, _, _, _, _, _, _, zc⟩ := u3.dv
    refine WDO.heavy1 tyOk extOk (k := ⟨hvStore ⟨stN 6⟩ (.tmp 2) (.tmp 54)⟩) (by kernel_rfl) rfl (by kernel_rfl) (by simp; exact stN_ob u1) ?_
    refine WDO.nilS (WD.ret (endR _ (by simp [gz, zc]; rfl) ⟨rfl, by rw [u2, t2, hn']; omega, ?_, (hk'.trans' t4 fun b hb e => absurd e (by omega)).trans' u4 fun b hb e => absurd e (by omega)⟩))
    rw [show min (d.pages.length + 2) d.pages.length = d.pages.length by omega, List.take_of_length_le (by rw [allP_len]; omega), Nat.sub_self, List.replicate_zero, List.append_nil] at hla
    obtain ⟨oe, ge, he⟩ := hla.el
    refine ⟨u4.get (by omega) (by omega) (t4.get (by omega) (by omega) hla.meta_), ⟨oe, u4.get (by omega) (by omega) (t4.get (by omega) (by omega) ge), he⟩, fun j p hj hp => ?_⟩
    exact u4.get (by omega) (by omega) (t4.get (by omega) (by omega) (hla.data j p hj hp))
  · have hc : i < d.pages.length + 2 := by have := of_decide_eq_true hc; omega
    have hlenE : ((allP (N + 3) d.pages).take i ++ List.replicate (d.pages.length + 2 - i) zeroPv).length = d.pages.length + 2 := by simp [allP_len]; omega
    obtain ⟨oe, ge, he⟩ := hla.el
    obtain ⟨oe1, f1, he1⟩ := stN_el encPv_len he ge (i := i) (a := behindP) (by rw [hlenE]; exact hc) (cells_pv _)
    have ks : Keep (fun b => b = N + 4) H' (H'.set (N + 4) oe1) := Keep.set _ fun _ => rfl
    have gs : (H'.set (N + 4) oe1).get (N + 4) = some oe1 := get_set_same _ _ _
    have ns : (H'.set (N + 4) oe1).next = H'.next := by simp
    have f1' : stN 2 H' (.agg (avl (encPv behindP))) (.ptr (N + 4) (i * 2)) = some (H'.set (N + 4) oe1) := f1
    generalize H'.set (N + 4) oe1 = H1' at ks gs ns f1'
    have kk1 : Keep noB H H1' := hk'.trans' ks fun b hb e => absurd e (by omega)
    refine WD.seqR ?_
    refine WDO.looks1 tyOk extOk 4 (ls := [⟨lkMove (.tmp 4), (some 22), none⟩, ⟨lkMove (.tmp 5), (some 23), none⟩, ⟨⟨buildA (.cons (.int .i64 0) (.cons .snil .nil)) ⟨fill1 (.const (.int .i64 (-7))) 0 1 flEnd⟩⟩, (some 24), none⟩, ⟨⟨ixSl 2 (.tmp 22) (.tmp 23)⟩, (some 25), none⟩]) (by kernel_rfl) (by simp (disch := omega) []; exact rfl) ?_
    refine WDO.heavy1 tyOk extOk (k := ⟨hvStore ⟨stN 2⟩ (.tmp 25) (.tmp 24)⟩) (by kernel_rfl) rfl (by kernel_rfl) (by simp; exact stN_ob f1') ?_
    have hg1 := ks.get (by omega) (by omega) hg'
    have hR1 := hR'.keep ks (by omega) (by omega)
    have hO1 := hO'.keep ks (by omega) (by omega)
    have gm1 := ks.get (b := N + 3) (by omega) (by omega) hla.meta_
    have hln1 := SaysP.ln (h.keep kk1).pages
    refine WDO.nilS (WD.seqR ?_)
    refine WDO.looks1 tyOk extOk 5 (ls := [⟨lkMove (.tmp 5), (some 26), none⟩, ⟨⟨fAddr (.tmp 1) 4⟩, (some 27), none⟩, ⟨⟨ldA ⟨ld1⟩ (.tmp 27)⟩, (some 28), none⟩, ⟨⟨lenSl (.tmp 28)⟩, (some 29), none⟩, ⟨⟨binInt akLss (.tmp 26) (.tmp 29)⟩, (some 30), none⟩]) (by kernel_rfl) (by simp (disch := omega) [hg1, d4, hln1]; exact rfl) ?_
    by_cases hil : i < d.pages.length
    · refine WDO.nilS (WD.cond (t := true) (by simp [hil]) (fun _ => ?_) (by simp))
      have hp1 : d.pages[i]? = some (d.pages[i]) := List.getElem?_eq_getElem hil
      have hpm := hpl (d.pages[i]) (List.getElem_mem _)
      generalize d.pages[i] = pg at hp1 hpm
      obtain ⟨b, off, cap, o, u, q1, q2, q3, q4, q5, q6, q7, q8, q9⟩ := h.pages.get hp1
      have qa := kk1.get q8 id q2
      rw [q1] at d4
      refine WD.keep (l := [(1, .ptr N 0), (2, .ptr (N + 1) 0), (3, .ptr (N + 2) 0), (4, .sl (N + 4) 0 (d.pages.length + 2) (some (d.pages.length + 2))), (5, .int .i64 (i : Int))]) ?_ (by simp)
      obtain ⟨R, hR, hRc⟩ := specR_ex Tryz.prog (fun _ a H v' H2 => v' = .sl H.next 0 pg.2.length (some (pg.2.length + 9)) ∧ H2.next = H.next + 1 ∧ H2.get H.next = some (bb 5 false (pg.2 ++ tail9)) ∧ Keep noB H H2)
      refine WD.drawnK tyOk extOk (by kernel_rfl) (ls := [⟨[4], .look (lkMove (.tmp 4)), (some 31), none, 0, 2, true, false⟩, ⟨[5], .look (lkMove (.tmp 5)), (some 32), none, 0, 2, true, false⟩, ⟨[1], .look (⟨fAddr (.tmp 1) 4⟩), (some 33), none, 0, 2, true, false⟩, ⟨[33], .look (⟨ldA ⟨ld1⟩ (.tmp 33)⟩), (some 34), none, 0, 2, false, false⟩, ⟨[5], .look (lkMove (.tmp 5)), (some 35), none, 0, 2, true, false⟩, ⟨[34, 35], .look (⟨ixSl 2 (.tmp 34) (.tmp 35)⟩), (some 36), none, 0, 2, true, false⟩, ⟨[36], .look (⟨fAddr (.tmp 36) 0⟩), (some 37), none, 0, 2, true, false⟩, ⟨[37], .look (⟨ldA ⟨ld1⟩ (.tmp 37)⟩), (some 38), none, 0, 2, false, false⟩, ⟨[1], .look (⟨fAddr (.tmp 1) 4⟩), (some 39), none, 0, 1, true, false⟩, ⟨[39], .look (⟨ldA ⟨ld1⟩ (.tmp 39)⟩), (some 40), none, 0, 1, false, false⟩, ⟨[5], .look (lkMove (.tmp 5)), (some 41), none, 0, 1, true, false⟩, ⟨[40, 41], .look (⟨ixSl 2 (.tmp 40) (.tmp 41)⟩), (some 42), none, 0, 1, true, false⟩, ⟨[42], .look (⟨fAddr (.tmp 42) 1⟩), (some 43), none, 0, 1, true, false⟩, ⟨[43], .look (⟨ldA ⟨ld1⟩ (.tmp 43)⟩), (some 44), none, 0, 1, false, false⟩, ⟨[44], .heavy ⟨hvCallF E 15 (opnds [(.tmp 44)])⟩, (some 45), none, 0, 2, false, true⟩, ⟨[38, 45], .look (⟨buildA (.cons (.int .i64 0) (.cons .snil .nil)) ⟨fill1 (.tmp 38) 0 1 ⟨fill1 (.tmp 45) 1 1 flEnd⟩⟩⟩), (some 46), none, 1, 1, true, false⟩, ⟨[31, 32], .look (⟨ixSl 2 (.tmp 31) (.tmp 32)⟩), (some 47), none, 1, 1, true, false⟩, ⟨[47, 46], .heavy ⟨hvStore ⟨stN 2⟩ (.tmp 47) (.tmp 46)⟩, none, none, 1, 2, false, true⟩]) (by kernel_rfl) hR fun K hK => ?_
      iterate 3 (refine diLookP (by simp [-resL_cons, resL_cc]; exact rfl) (by simp (disch := omega) []; exact rfl) ?_)
      refine diLookC (by simp [-resL_cons, resL_cc]; exact rfl) (by simp (disch := omega) [hg1, d4]; exact rfl) ?_
      iterate 3 (refine diLookP (by simp [-resL_cons, resL_cc]; exact rfl) (by simp (disch := omega) []; exact rfl) ?_)
      refine diLookC (by simp [-resL_cons, resL_cc]; exact rfl) (by simp (disch := omega) [qa, q3]; exact rfl) ?_
      refine diLookP (by simp [-resL_cons, resL_cc]; exact rfl) (by simp (disch := omega) []; exact rfl) ?_
      refine diLookC (by simp [-resL_cons, resL_cc]; exact rfl) (by simp (disch := omega) [hg1, d4]; exact rfl) ?_
      iterate 3 (refine diLookP (by simp [-resL_cons, resL_cc]; exact rfl) (by simp (disch := omega) []; exact rfl) ?_)
      refine diLookC (by simp [-resL_cons, resL_cc]; exact rfl) (by simp (disch := omega) [qa, q4]; exact rfl) ?_
      have q6' := q6.keep kk1 fun _ _ => id
      obtain ⟨u1, Hx, c1, hu1, nx, gx, kx⟩ := hRc 15 _ _ (lent_ok q6' hpm)
      have nb : H1'.next = N + 3 + 2 + i := by rw [ns, hn']; omega
      rw [nb] at hu1 gx nx
      subst hu1
      refine diCallF (by simp [-resL_cons, resL_cc]; exact rfl) (by simp) (extFree _ _ _ rfl rfl rfl) c1 (by omega) ?_
      iterate 2 (refine diLookP (by simp [-resL_cons, resL_cc]; exact rfl) (by simp (disch := omega) []; exact rfl) ?_)
      obtain ⟨oe2, f2, he2⟩ := stN_el (H := Hx) encPv_len he1 (kx.get (by omega) id gs) (i := i) (a := lentP (N + 3) i pg) (by rw [List.length_set, hlenE]; exact hc) (cells_pv _)
      rw [List.set_set] at he2
      have ky : Keep (fun b => b = N + 4) Hx (Hx.set (N + 4) oe2) := Keep.set _ fun _ => rfl
      have gy : (Hx.set (N + 4) oe2).get (N + 4) = some oe2 := get_set_same _ _ _
      have ny : (Hx.set (N + 4) oe2).next = Hx.next := by simp
      have f2' : stN 2 Hx (.agg (avl (encPv (lentP (N + 3) i pg)))) (.ptr (N + 4) (i * 2)) = some (Hx.set (N + 4) oe2) := f2
      generalize Hx.set (N + 4) oe2 = Hy at ky gy ny f2'
      refine diHeavy (by simp [-resL_cons, resL_cc]; exact rfl) (v := undefA) (H2 := Hy) (by simp; exact stN_ob f2') (by omega) ?_
      have hgx := kx.get (by omega) id hg1
      have qx := kx.get (by have := kk1.1; omega) id qa
      simp only [diRun_nil, putA_none, List.reverse_cons, List.reverse_nil, List.nil_append, List.cons_append, chkAdd_f, atAll_s, atAll_z, and_true, true_and]
      refine ⟨by simp (disch := omega) [hgx, d4, qx, q3, hg1, qa, q4], hK _ _ ?_⟩
      refine WDO.looks1 tyOk extOk 3 (ls := [⟨lkMove (.tmp 5), (some 20), none⟩, ⟨⟨binInt akAdd (.tmp 20) (.const (.int .i64 1))⟩, (some 21), none⟩, ⟨lkMove (.tmp 21), (some 5), none⟩]) (by kernel_rfl) (by simp (disch := omega) []; exact rfl) ?_
      have kkx := kk1.trans kx
      have kky : Keep noB H Hy := kkx.trans' ky fun b hb e => absurd e (by omega)
      have hrow : rowP (N + 3) d.pages i = lentP (N + 3) i pg := rowP_lo hp1
      rw [fillX (allP_len _ _) hc (by rw [allP_get _ _ hc, hrow])] at he2
      refine WDO.nil ⟨rfl, i + 1, _, rfl, by simp, ⟨by omega, by rw [ny, nx]; omega, ⟨?_, ⟨oe2, gy, he2⟩, fun j p hj hp => ?_⟩, ?_, ?_, ?_, kky⟩, by omega⟩
      · exact ky.get (by omega) (by omega) (kx.get (by omega) id gm1)
      · by_cases hji : j < i
        · exact ky.get (by omega) (by omega) (kx.get (by omega) id (ks.get (by omega) (by omega) (hla.data j p (by omega) hp)))
        · have : j = i := by omega
          subst this
          rw [hp1] at hp
          cases hp
          exact ky.get (by omega) (by omega) gx
      · exact ky.get (by omega) (by omega) hgx
      · exact (hR1.keep kx (by omega) id).keep ky (by omega) (by omega)
      · exact (hO1.keep kx (by omega) id).keep ky (by omega) (by omega)
    · refine WDO.nilS (WD.cond (t := false) (by simp [hil]) (by simp) fun _ => WD.skip (.inl rfl) ?_)
      refine WDO.looks1 tyOk extOk 3 (ls := [⟨lkMove (.tmp 5), (some 20), none⟩, ⟨⟨binInt akAdd (.tmp 20) (.const (.int .i64 1))⟩, (some 21), none⟩, ⟨lkMove (.tmp 21), (some 5), none⟩]) (by kernel_rfl) (by simp (disch := omega) []; exact rfl) ?_
      rw [fillX (allP_len _ _) hc (by rw [allP_get _ _ hc, rowP_hi (by omega)])] at he1
      refine WDO.nil ⟨rfl, i + 1, _, rfl, by simp, ⟨by omega, by rw [ns, hn']; omega, ⟨gm1, ⟨oe1, gs, he1⟩, fun j p hj hp => ?_⟩, hg1, hR1, hO1, kk1⟩, by omega⟩
      exact ks.get (by omega) (by omega) (hla.data j p (by omega) hp)
end
end Go.Proofs.YtoigokkeaddceaaGreatDoor
namespace Go.Proofs.YtoigokkeaddceaaGreatDoor
open Go.Xq
noncomputable section
def overP : Pv := ⟨-8, .snil, rfl⟩
def lentW (M n : Nat) : Nat → Prop := fun b => M ≤ b ∧ b < M + 2 + n
theorem elPv {H : AH} {B i : Nat} {els : List Pv} {a : Pv} (h : ∃ o, H.get B = some o ∧ ElB encPv 67 2 false zPv els o) (ha : els[i]? = some a) : ∃ o, H.get B = some o ∧ ElB encPv 67 2 false zPv els o ∧ rdCell o (i * 2) = some (.int .i64 a.n) ∧ rdCell o (i * 2 + 1) = some a.v := by
  obtain ⟨o, h1, h2⟩ := h
  exact ⟨o, h1, h2, by simpa using h2.cell ha (j := 0) rfl, h2.cell ha (j := 1) rfl⟩
set_option maxRecDepth 20000 in
set_option maxHeartbeats 4000000 in
theorem asLentD_ok {H0 H : AH} {d : Dl} {pv mv : AV} {cs : List (Int × AV)} {M : Nat} (h0 : DlAt H0 d pv mv cs) (k0 : Keep noB H0 H) (hla : LentAt H M d (allP M d.pages) d.pages.length) (hM0 : H0.next ≤ M) (hM : M + 2 + d.pages.length ≤ H.next)
    (hm : d.meta_.length ≤ 8388608) (hp : d.pages.length ≤ 8388608) (hpl : ∀ p ∈ d.pages, p.2.length ≤ 8388608) :
    DC Tryz.prog .normal 11 (.cons (lentA M d) (.cons (dlA d pv mv) .nil)) H fun v' H2 => v' = .bool true ∧ Keep (lentW M d.pages.length) H H2 := by
  refine DC.of_wd (re := reTmp 4 reNil) tyOk Tryz.func11 (by kernel_rfl) rfl (by kernel_rfl) (by kernel_rfl) ?_
  rw [tl_nil, argsT_cons, argsT_cons, argsT_nil]
  refine WD.seqR ?_
  obtain ⟨o1, e1, hL, hk1⟩ := Bx.box (enc := encDv) (e := 25) (z := zDv) encDv_len (H := H) (a := ⟨d.engine, d.page, d.frm, d.to, .sl (M + 1) 0 d.pages.length (some (d.pages.length + 2)), .sl M 0 d.meta_.length (some (d.meta_.length + 9)), rfl, rfl⟩) (x := .tmp 0) (T := tl [(1, dlA d pv mv), (0, lentA M d)]) (by simp; rfl)
  refine WDO.fresh1 tyOk (k := ⟨frBox ⟨mkCs 25 6 (.cons (.int .i64 0) (.cons (.int .i64 0) (.cons (.int .i64 0) (.cons (.int .i64 0) (.cons .snil (.cons .snil .nil))))))⟩ (.tmp 0)⟩) (by kernel_rfl) rfl (by kernel_rfl) e1 ?_
  have n1 : (H.new o1).next = H.next + 1 := by simp
  generalize H.new o1 = H1 at hL hk1 n1 ⊢
  obtain ⟨N, hN⟩ : ∃ N, N = H.next := ⟨_, rfl⟩
  rw [← hN] at hL n1 ⊢
  obtain ⟨o2, e2, hD, hk2⟩ := Bx.box (enc := encDv) (e := 25) (z := zDv) encDv_len (H := H1) (a := d.dv pv mv h0.c1 h0.c2) (x := .tmp 1) (T := tl [(2, .ptr N 0), (1, dlA d pv mv), (0, lentA M d)]) (by simp; rfl)
  refine WDO.fresh1 tyOk (k := ⟨frBox ⟨mkCs 25 6 (.cons (.int .i64 0) (.cons (.int .i64 0) (.cons (.int .i64 0) (.cons (.int .i64 0) (.cons .snil (.cons .snil .nil))))))⟩ (.tmp 1)⟩) (by kernel_rfl) rfl (by kernel_rfl) e2 ?_
  have n2 : (H1.new o2).next = N + 2 := by simp [n1]
  rw [n1] at hD ⊢
  have kk2 := hk1.trans hk2
  have hL2 := hL.keep hk2 (by omega) id
  generalize H1.new o2 = H2 at hD hk2 n2 kk2 hL2 ⊢
  obtain ⟨oL, gL, l0, l1, l2, l3, l4, l5, _⟩ := hL2.dv
  obtain ⟨oD, gD, d0, d1, d2, d3, d4, d5, _⟩ := hD.dv
  simp only [Dl.dv] at d0 d1 d2 d3 d4 d5
  dsimp only at l4 l5
  refine WDO.looks1 tyOk extOk 1 (ls := [⟨lkMove (.const (.bool false)), (some 4), none⟩]) (by kernel_rfl) (by simp (disch := omega) []; exact rfl) ?_
  refine WDO.nilS (WD.seqR ?_)
  refine WDO.looks1 tyOk extOk 4 (ls := [⟨⟨fAddr (.tmp 2) 5⟩, (some 10), none⟩, ⟨⟨ldA ⟨ld1⟩ (.tmp 10)⟩, (some 11), none⟩, ⟨⟨fAddr (.tmp 3) 5⟩, (some 12), none⟩, ⟨⟨ldA ⟨ld1⟩ (.tmp 12)⟩, (some 13), none⟩]) (by kernel_rfl) (by simp (disch := omega) [gL, l5, gD, d5]; exact rfl) ?_
  have gm2 := kk2.get (by omega) id hla.meta_
  refine WDO.callF (g := 17) rfl rfl rfl (by kernel_rfl) (l := .cons (.sl M 0 d.meta_.length (some (d.meta_.length + 9))) (.cons mv .nil)) (by simp) (asLent_ok gm2 (by omega) (h0.keep (k0.trans kk2)).meta_ hm) fun u H3 ⟨hu, n3, k3⟩ => ?_
  subst hu
  have gL3 := k3.get (by omega) (by omega) gL
  have gD3 := k3.get (by omega) (by omega) gD
  have kk3 : Keep (lentW M d.pages.length) H H3 := (kk2.mono fun _ _ e => e.elim).trans (k3.mono fun b _ e => ⟨by omega, by omega⟩)
  have k03 : Keep noB H0 H3 := (k0.trans kk2).trans' k3 fun b hb e => absurd e (by omega)
  obtain ⟨oe, ge, he⟩ := hla.el
  have ge3 := k3.get (b := M + 1) (by omega) (by omega) (kk2.get (by omega) id ge)
  have hd3 : ∀ (j : Nat) (p : Int × List UInt8), d.pages[j]? = some p → H3.get (M + 2 + j) = some (bb 5 false (p.2 ++ tail9)) := fun j p hp => by
    have hj := get_lt hp
    exact k3.get (by omega) (by omega) (kk2.get (by omega) id (hla.data j p hj hp))
  have hln3 := SaysP.ln (h0.keep k03).pages
  refine WDO.looks1 tyOk extOk 1 (ls := [⟨lkMove (.tmp 14), (some 5), none⟩]) (by kernel_rfl) (by simp (disch := omega) []; exact rfl) ?_
  refine WDO.nilS (WD.seqR ?_)
  refine WDO.looks1 tyOk extOk 8 (ls := [⟨⟨fAddr (.tmp 2) 4⟩, (some 15), none⟩, ⟨⟨ldA ⟨ld1⟩ (.tmp 15)⟩, (some 16), none⟩, ⟨⟨fAddr (.tmp 3) 4⟩, (some 17), none⟩, ⟨⟨ldA ⟨ld1⟩ (.tmp 17)⟩, (some 18), none⟩, ⟨⟨lenSl (.tmp 18)⟩, (some 19), none⟩, ⟨⟨binInt akAdd (.tmp 19) (.const (.int .i64 2))⟩, (some 20), none⟩, ⟨⟨slSl 2 (.tmp 16) none (some (.tmp 20)) none⟩, (some 21), none⟩, ⟨lkMove (.tmp 21), (some 6), none⟩]) (by kernel_rfl) (by simp (disch := omega) [gL3, l4, gD3, d4, hln3]; exact rfl) ?_
  refine WDO.nilS (WD.seq (WD.seqR ?_))
  refine WDO.looks1 tyOk extOk 1 (ls := [⟨lkMove (.const (.int .i64 0)), (some 7), none⟩]) (by kernel_rfl) (by simp (disch := omega) []; exact rfl) ?_
  refine WDO.nilS (WD.forE (σ := Nat) (fun i => [(2, .ptr N 0), (3, .ptr (N + 1) 0), (5, .bool true), (6, .sl (M + 1) 0 (d.pages.length + 2) (some (d.pages.length + 2))), (7, .int .i64 (i : Int))])
    (fun i H' => i ≤ d.pages.length + 2 ∧ (∃ els, (∃ o, H'.get (M + 1) = some o ∧ ElB encPv 67 2 false zPv els o) ∧ els.length = d.pages.length + 2 ∧ ∀ j, i ≤ j → els[j]? = (allP M d.pages)[j]?) ∧ (∀ (j : Nat) (p : Int × List UInt8), i ≤ j → d.pages[j]? = some p → H'.get (M + 2 + j) = some (bb 5 false (p.2 ++ tail9))) ∧
      H'.get (N + 1) = some oD ∧ N + 2 ≤ H'.next ∧ Keep (lentW M d.pages.length) H H' ∧ Keep noB H0 H') (fun i => d.pages.length + 2 - i) 0
    ⟨by omega, ⟨_, ⟨oe, ge3, he⟩, allP_len _ _, fun _ _ => rfl⟩, fun j p _ hp => hd3 j p hp, gD3, by omega, kk3, k03⟩ (by simp) ?_)
  rintro i H' ⟨hi, ⟨els, hel, hlen, hels⟩, hdat, gD', hnx, kk', k0'⟩
  refine WDO.looks1 tyOk extOk 4 (ls := [⟨lkMove (.tmp 7), (some 22), none⟩, ⟨lkMove (.tmp 6), (some 23), none⟩, ⟨⟨lenSl (.tmp 23)⟩, (some 24), none⟩, ⟨⟨binInt akLss (.tmp 22) (.tmp 24)⟩, (some 25), none⟩]) (by kernel_rfl) (by simp (disch := omega) []; exact rfl) ?_
  refine WDO.nil ⟨decide ((i : Int) < (d.pages.length : Int) + 2), _, rfl, by simp, fun hc => ?_, fun hc => ?_⟩
  · refine WD.seqR ?_
    refine WDO.looks1 tyOk extOk 2 (ls := [⟨lkMove (.tmp 5), (some 83), none⟩, ⟨lkMove (.tmp 83), (some 4), none⟩]) (by kernel_rfl) (by simp (disch := omega) []; exact rfl) ?_
    exact WDO.nilS (WD.ret (endR _ (by simp; rfl) ⟨rfl, kk'⟩))
  · have hc : i < d.pages.length + 2 := by have := of_decide_eq_true hc; omega
    have hei := hels i (Nat.le_refl _)
    rw [allP_get _ _ hc] at hei
    obtain ⟨oE, gE, bE, r0, r1⟩ := elPv hel hei
    have hln' := SaysP.ln (h0.keep k0').pages
    have fin : ∀ (H4 : AH), Keep (fun b => b = M + 2 + i) H' H4 → H'.next ≤ H4.next → ∃ o', stN 2 H4 (.agg (avl (encPv overP))) (.ptr (M + 1) (i * 2)) = some (H4.set (M + 1) o') ∧ ElB encPv 67 2 false zPv (els.set i overP) o' := fun H4 k4 n4 =>
      stN_el encPv_len bE (k4.get (by omega) (by omega) gE) (i := i) (a := overP) (by omega) (cells_pv _)
    refine WD.seqR ?_
    by_cases hil : i < d.pages.length
    · have hp1 : d.pages[i]? = some (d.pages[i]) := List.getElem?_eq_getElem hil
      have hpm := hpl (d.pages[i]) (List.getElem_mem _)
      generalize d.pages[i] = pg at hp1 hpm
      rw [rowP_lo hp1] at r0 r1
      simp only [lentP] at r0 r1
      obtain ⟨b, off, cap, o, u, q1, q2, q3, q4, q5, q6, q7, q8, q9⟩ := h0.pages.get hp1
      have qa := k0'.get q8 id q2
      rw [q1] at d4
      obtain ⟨x, l', hrun, hsub⟩ : ∃ (x : Bool) (l' : List (Nat × AV)), runLk [⟨lkMove (.tmp 6), (some 28), none⟩, ⟨lkMove (.tmp 7), (some 29), none⟩, ⟨⟨ixSl 2 (.tmp 28) (.tmp 29)⟩, (some 30), none⟩, ⟨⟨fAddr (.tmp 30) 0⟩, (some 31), none⟩, ⟨⟨ldA ⟨ld1⟩ (.tmp 31)⟩, (some 32), none⟩, ⟨⟨binInt akEql (.tmp 32) (.const (.int .i64 (-7)))⟩, (some 33), none⟩, ⟨lkMove (.tmp 33), (some 34), none⟩, ⟨lkMove (.tmp 6), (some 35), (some (34, true))⟩, ⟨lkMove (.tmp 7), (some 36), (some (34, true))⟩, ⟨⟨ixSl 2 (.tmp 35) (.tmp 36)⟩, (some 37), (some (34, true))⟩, ⟨⟨fAddr (.tmp 37) 1⟩, (some 38), (some (34, true))⟩, ⟨⟨ldA ⟨ld1⟩ (.tmp 38)⟩, (some 39), (some (34, true))⟩, ⟨⟨lenSl (.tmp 39)⟩, (some 40), (some (34, true))⟩, ⟨⟨binInt akEql (.tmp 40) (.const (.int .i64 0))⟩, (some 41), (some (34, true))⟩, ⟨⟨pickA (.tmp 34) (.tmp 41) (.const (.bool false))⟩, (some 42), none⟩, ⟨lkMove (.tmp 42), (some 8), none⟩] (tl [(25, .bool (decide ((i : Int) < (d.pages.length : Int) + 2))), (24, .int .i64 ((d.pages.length : Int) + 2)), (23, .sl (M + 1) 0 (d.pages.length + 2) (some (d.pages.length + 2))), (22, .int .i64 (i : Int)), (2, .ptr N 0), (3, .ptr (N + 1) 0), (5, .bool true), (6, .sl (M + 1) 0 (d.pages.length + 2) (some (d.pages.length + 2))), (7, .int .i64 (i : Int))]) H' = some (tl l') ∧ lsub [(2, .ptr N 0), (3, .ptr (N + 1) 0), (5, .bool true), (6, .sl (M + 1) 0 (d.pages.length + 2) (some (d.pages.length + 2))), (7, .int .i64 (i : Int)), (8, .bool x)] l' := by
        by_cases c1 : pg.1 = -7
        · by_cases c2 : pg.2.length = 0
          · have c2' : (pg.2.length : Int) = 0 := by omega
            exact ⟨true, _, by simp (disch := omega) [gE, r0, r1, c1, c2]; exact rfl, by simp⟩
          · have c2' : ¬ (pg.2.length : Int) = 0 := by omega
            exact ⟨false, _, by simp (disch := omega) [gE, r0, r1, c1, c2]; exact rfl, by simp⟩
        · exact ⟨false, _, by simp (disch := omega) [gE, r0, c1]; exact rfl, by simp⟩
      refine WDO.looks1 tyOk extOk 16 (ls := [⟨lkMove (.tmp 6), (some 28), none⟩, ⟨lkMove (.tmp 7), (some 29), none⟩, ⟨⟨ixSl 2 (.tmp 28) (.tmp 29)⟩, (some 30), none⟩, ⟨⟨fAddr (.tmp 30) 0⟩, (some 31), none⟩, ⟨⟨ldA ⟨ld1⟩ (.tmp 31)⟩, (some 32), none⟩, ⟨⟨binInt akEql (.tmp 32) (.const (.int .i64 (-7)))⟩, (some 33), none⟩, ⟨lkMove (.tmp 33), (some 34), none⟩, ⟨lkMove (.tmp 6), (some 35), (some (34, true))⟩, ⟨lkMove (.tmp 7), (some 36), (some (34, true))⟩, ⟨⟨ixSl 2 (.tmp 35) (.tmp 36)⟩, (some 37), (some (34, true))⟩, ⟨⟨fAddr (.tmp 37) 1⟩, (some 38), (some (34, true))⟩, ⟨⟨ldA ⟨ld1⟩ (.tmp 38)⟩, (some 39), (some (34, true))⟩, ⟨⟨lenSl (.tmp 39)⟩, (some 40), (some (34, true))⟩, ⟨⟨binInt akEql (.tmp 40) (.const (.int .i64 0))⟩, (some 41), (some (34, true))⟩, ⟨⟨pickA (.tmp 34) (.tmp 41) (.const (.bool false))⟩, (some 42), none⟩, ⟨lkMove (.tmp 42), (some 8), none⟩]) (by kernel_rfl) hrun ?_
      refine WDO.nilS (WD.keep (WD.seq (WD.seqR ?_)) hsub)
      clear hrun hsub l'
      refine WDO.looks1 tyOk extOk 5 (ls := [⟨lkMove (.tmp 7), (some 43), none⟩, ⟨⟨fAddr (.tmp 3) 4⟩, (some 44), none⟩, ⟨⟨ldA ⟨ld1⟩ (.tmp 44)⟩, (some 45), none⟩, ⟨⟨lenSl (.tmp 45)⟩, (some 46), none⟩, ⟨⟨binInt akLss (.tmp 43) (.tmp 46)⟩, (some 47), none⟩]) (by kernel_rfl) (by simp (disch := omega) [gD', d4]; exact rfl) ?_
      refine WDO.nilS (WD.cond (t := true) (by simp [hil]) (fun _ => ?_) (by simp))
      refine WD.keep (l := [(2, .ptr N 0), (3, .ptr (N + 1) 0), (5, .bool true), (6, .sl (M + 1) 0 (d.pages.length + 2) (some (d.pages.length + 2))), (7, .int .i64 (i : Int))]) (WD.seq ?_) (by simp)
      obtain ⟨R, hR, hRc⟩ := specR_ex Tryz.prog (fun _ a H v' H2 => v' = .bool true ∧ H2.next = H.next ∧ Keep (fun c => c = M + 2 + i) H H2)
      refine WD.drawnK tyOk extOk (by kernel_rfl) (ls := [⟨[6], .look (lkMove (.tmp 6)), (some 48), none, 0, 1, true, false⟩, ⟨[7], .look (lkMove (.tmp 7)), (some 49), none, 0, 1, true, false⟩, ⟨[48, 49], .look (⟨ixSl 2 (.tmp 48) (.tmp 49)⟩), (some 50), none, 0, 1, true, false⟩, ⟨[50], .look (⟨fAddr (.tmp 50) 1⟩), (some 51), none, 0, 1, true, false⟩, ⟨[51], .look (⟨ldA ⟨ld1⟩ (.tmp 51)⟩), (some 52), none, 0, 1, false, false⟩, ⟨[3], .look (⟨fAddr (.tmp 3) 4⟩), (some 53), none, 0, 1, true, false⟩, ⟨[53], .look (⟨ldA ⟨ld1⟩ (.tmp 53)⟩), (some 54), none, 0, 1, false, false⟩, ⟨[7], .look (lkMove (.tmp 7)), (some 55), none, 0, 1, true, false⟩, ⟨[54, 55], .look (⟨ixSl 2 (.tmp 54) (.tmp 55)⟩), (some 56), none, 0, 1, true, false⟩, ⟨[56], .look (⟨fAddr (.tmp 56) 1⟩), (some 57), none, 0, 1, true, false⟩, ⟨[57], .look (⟨ldA ⟨ld1⟩ (.tmp 57)⟩), (some 58), none, 0, 1, false, false⟩, ⟨[52, 58], .heavy ⟨hvCallF E 17 (opnds [(.tmp 52), (.tmp 58)])⟩, (some 59), none, 0, 2, false, true⟩, ⟨[59], .look (lkMove (.tmp 59)), (some 9), none, 1, 1, true, false⟩]) (by kernel_rfl) hR fun K hK => ?_
      iterate 4 (refine diLookP (by simp [-resL_cons, resL_cc]; exact rfl) (by simp (disch := omega) []; exact rfl) ?_)
      refine diLookC (by simp [-resL_cons, resL_cc]; exact rfl) (by simp (disch := omega) [gE, r1]; exact rfl) ?_
      refine diLookP (by simp [-resL_cons, resL_cc]; exact rfl) (by simp (disch := omega) []; exact rfl) ?_
      refine diLookC (by simp [-resL_cons, resL_cc]; exact rfl) (by simp (disch := omega) [gD', d4]; exact rfl) ?_
      iterate 3 (refine diLookP (by simp [-resL_cons, resL_cc]; exact rfl) (by simp (disch := omega) []; exact rfl) ?_)
      refine diLookC (by simp [-resL_cons, resL_cc]; exact rfl) (by simp (disch := omega) [qa, q4]; exact rfl) ?_
      obtain ⟨u1, Hx, c1, hu1, nx, kx⟩ := hRc 17 _ _ (asLent_ok (hdat i pg (Nat.le_refl _) hp1) (by omega) (q6.keep k0' fun _ _ => id) hpm)
      subst hu1
      refine diCallF (by simp [-resL_cons, resL_cc]; exact rfl) (by simp) (extFree _ _ _ rfl rfl rfl) c1 (by omega) ?_
      refine diLookP (by simp [-resL_cons, resL_cc]; exact rfl) (by simp (disch := omega) []; exact rfl) ?_
      simp only [diRun_nil, List.reverse_cons, List.reverse_nil, List.nil_append, List.cons_append, chkAdd_f, atAll_s, atAll_z, and_true, true_and]
      refine ⟨by simp (disch := omega) [gE, r1, gD', d4, qa, q4], hK _ _ ?_⟩
      clear hK hRc hR c1
      have gEx := kx.get (by omega) (by omega) gE
      have gDx := kx.get (by omega) (by omega) gD'
      have qx := kx.get (by have := k0'.1; omega) (by omega) qa
      refine WD.keep (l := [(2, .ptr N 0), (3, .ptr (N + 1) 0), (5, .bool true), (6, .sl (M + 1) 0 (d.pages.length + 2) (some (d.pages.length + 2))), (7, .int .i64 (i : Int)), (9, .bool true)]) ?_ (by simp)
      obtain ⟨l', hrun, hsub⟩ : ∃ (l' : List (Nat × AV)), runDk [⟨[9], lkMove (.tmp 9), (some 60), none⟩, ⟨[60], lkMove (.tmp 60), (some 61), none⟩, ⟨[6, 61], lkMove (.tmp 6), (some 62), (some (61, true))⟩, ⟨[7, 61], lkMove (.tmp 7), (some 63), (some (61, true))⟩, ⟨[62, 63, 61], ⟨ixSl 2 (.tmp 62) (.tmp 63)⟩, (some 64), (some (61, true))⟩, ⟨[64, 61], ⟨fAddr (.tmp 64) 0⟩, (some 65), (some (61, true))⟩, ⟨[65, 61], ⟨ldA ⟨ld1⟩ (.tmp 65)⟩, (some 66), (some (61, true))⟩, ⟨[3, 61], ⟨fAddr (.tmp 3) 4⟩, (some 67), (some (61, true))⟩, ⟨[67, 61], ⟨ldA ⟨ld1⟩ (.tmp 67)⟩, (some 68), (some (61, true))⟩, ⟨[7, 61], lkMove (.tmp 7), (some 69), (some (61, true))⟩, ⟨[68, 69, 61], ⟨ixSl 2 (.tmp 68) (.tmp 69)⟩, (some 70), (some (61, true))⟩, ⟨[70, 61], ⟨fAddr (.tmp 70) 0⟩, (some 71), (some (61, true))⟩, ⟨[71, 61], ⟨ldA ⟨ld1⟩ (.tmp 71)⟩, (some 72), (some (61, true))⟩, ⟨[66, 72, 61], ⟨binInt akEql (.tmp 66) (.tmp 72)⟩, (some 73), (some (61, true))⟩, ⟨[61, 73], ⟨pickA (.tmp 61) (.tmp 73) (.const (.bool false))⟩, (some 74), none⟩, ⟨[74], lkMove (.tmp 74), (some 8), none⟩] (tl [(2, .ptr N 0), (3, .ptr (N + 1) 0), (5, .bool true), (6, .sl (M + 1) 0 (d.pages.length + 2) (some (d.pages.length + 2))), (7, .int .i64 (i : Int)), (9, .bool true)]) Hx = some (tl l') ∧ lsub [(2, .ptr N 0), (3, .ptr (N + 1) 0), (5, .bool true), (6, .sl (M + 1) 0 (d.pages.length + 2) (some (d.pages.length + 2))), (7, .int .i64 (i : Int)), (8, .bool true)] l' := by
        exact ⟨_, by
          iterate 16 (first | (refine dkSkip ?_ ?_; focus (simp; done)) | refine dkStep (by first | rfl | (simp [-resL_cons, resL_cc]; exact rfl)) (by simp) (by simp (disch := omega) [gEx, r0, gDx, d4, qx, q3]; exact rfl) ?_)
          exact rfl, by simp⟩
      refine WD.drawLooks tyOk extOk (by kernel_rfl) (ls := [⟨[9], lkMove (.tmp 9), (some 60), none⟩, ⟨[60], lkMove (.tmp 60), (some 61), none⟩, ⟨[6, 61], lkMove (.tmp 6), (some 62), (some (61, true))⟩, ⟨[7, 61], lkMove (.tmp 7), (some 63), (some (61, true))⟩, ⟨[62, 63, 61], ⟨ixSl 2 (.tmp 62) (.tmp 63)⟩, (some 64), (some (61, true))⟩, ⟨[64, 61], ⟨fAddr (.tmp 64) 0⟩, (some 65), (some (61, true))⟩, ⟨[65, 61], ⟨ldA ⟨ld1⟩ (.tmp 65)⟩, (some 66), (some (61, true))⟩, ⟨[3, 61], ⟨fAddr (.tmp 3) 4⟩, (some 67), (some (61, true))⟩, ⟨[67, 61], ⟨ldA ⟨ld1⟩ (.tmp 67)⟩, (some 68), (some (61, true))⟩, ⟨[7, 61], lkMove (.tmp 7), (some 69), (some (61, true))⟩, ⟨[68, 69, 61], ⟨ixSl 2 (.tmp 68) (.tmp 69)⟩, (some 70), (some (61, true))⟩, ⟨[70, 61], ⟨fAddr (.tmp 70) 0⟩, (some 71), (some (61, true))⟩, ⟨[71, 61], ⟨ldA ⟨ld1⟩ (.tmp 71)⟩, (some 72), (some (61, true))⟩, ⟨[66, 72, 61], ⟨binInt akEql (.tmp 66) (.tmp 72)⟩, (some 73), (some (61, true))⟩, ⟨[61, 73], ⟨pickA (.tmp 61) (.tmp 73) (.const (.bool false))⟩, (some 74), none⟩, ⟨[74], lkMove (.tmp 74), (some 8), none⟩]) (by kernel_rfl) hrun ?_
      refine WD.keep (WD.seqR ?_) hsub
      refine WDO.looks1 tyOk extOk 5 (ls := [⟨lkMove (.tmp 5), (some 75), none⟩, ⟨lkMove (.tmp 75), (some 76), none⟩, ⟨lkMove (.tmp 8), (some 77), (some (76, true))⟩, ⟨⟨pickA (.tmp 76) (.tmp 77) (.const (.bool false))⟩, (some 78), none⟩, ⟨lkMove (.tmp 78), (some 5), none⟩]) (by kernel_rfl) (by simp (disch := omega) []; exact rfl) ?_
      obtain ⟨oF, f1, bF⟩ := fin Hx kx (by omega)
      refine WDO.nilS (WD.region ?_)
      refine WDO.looks1 tyOk extOk 4 (ls := [⟨lkMove (.tmp 6), (some 79), none⟩, ⟨lkMove (.tmp 7), (some 80), none⟩, ⟨⟨buildA (.cons (.int .i64 0) (.cons .snil .nil)) ⟨fill1 (.const (.int .i64 (-8))) 0 1 flEnd⟩⟩, (some 81), none⟩, ⟨⟨ixSl 2 (.tmp 79) (.tmp 80)⟩, (some 82), none⟩]) (by kernel_rfl) (by simp (disch := omega) []; exact rfl) ?_
      refine WDO.heavy1 tyOk extOk (k := ⟨hvStore ⟨stN 2⟩ (.tmp 82) (.tmp 81)⟩) (by kernel_rfl) rfl (by kernel_rfl) (by simp; exact stN_ob f1) ?_
      refine WDO.nil ?_
      have ks : Keep (fun b => b = M + 1) Hx (Hx.set (M + 1) oF) := Keep.set _ fun _ => rfl
      have gs : (Hx.set (M + 1) oF).get (M + 1) = some oF := get_set_same _ _ _
      have ns : (Hx.set (M + 1) oF).next = Hx.next := by simp
      generalize Hx.set (M + 1) oF = Hs at ks gs ns ⊢
      refine WDO.looks1 tyOk extOk 3 (ls := [⟨lkMove (.tmp 7), (some 26), none⟩, ⟨⟨binInt akAdd (.tmp 26) (.const (.int .i64 1))⟩, (some 27), none⟩, ⟨lkMove (.tmp 27), (some 7), none⟩]) (by kernel_rfl) (by simp (disch := omega) []; exact rfl) ?_
      refine WDO.nil ⟨rfl, i + 1, _, rfl, by simp, ⟨by omega, ⟨_, ⟨oF, gs, bF⟩, by simpa using hlen, fun j hj => ?_⟩, fun j p hj hp => ?_, ks.get (by omega) (by omega) gDx, by omega, (kk'.trans (kx.mono fun b _ e => ⟨by omega, by omega⟩)).trans (ks.mono fun b _ e => ⟨by omega, by omega⟩), (k0'.trans' kx fun b hb e => absurd e (by omega)).trans' ks fun b hb e => absurd e (by omega)⟩, by omega⟩
      · rw [List.getElem?_set_ne (by omega)]
        exact hels j (by omega)
      · have hjl := get_lt hp
        have := kk'.1
        exact ks.get (by omega) (by omega) (kx.get (by omega) (by omega) (hdat j p (by omega) hp))
    · rw [rowP_hi (by omega)] at r0 r1
      simp only [behindP] at r0 r1
      have c3 : ¬ (i : Int) < (d.pages.length : Int) := by omega
      refine WDO.looks1 tyOk extOk 16 (ls := [⟨lkMove (.tmp 6), (some 28), none⟩, ⟨lkMove (.tmp 7), (some 29), none⟩, ⟨⟨ixSl 2 (.tmp 28) (.tmp 29)⟩, (some 30), none⟩, ⟨⟨fAddr (.tmp 30) 0⟩, (some 31), none⟩, ⟨⟨ldA ⟨ld1⟩ (.tmp 31)⟩, (some 32), none⟩, ⟨⟨binInt akEql (.tmp 32) (.const (.int .i64 (-7)))⟩, (some 33), none⟩, ⟨lkMove (.tmp 33), (some 34), none⟩, ⟨lkMove (.tmp 6), (some 35), (some (34, true))⟩, ⟨lkMove (.tmp 7), (some 36), (some (34, true))⟩, ⟨⟨ixSl 2 (.tmp 35) (.tmp 36)⟩, (some 37), (some (34, true))⟩, ⟨⟨fAddr (.tmp 37) 1⟩, (some 38), (some (34, true))⟩, ⟨⟨ldA ⟨ld1⟩ (.tmp 38)⟩, (some 39), (some (34, true))⟩, ⟨⟨lenSl (.tmp 39)⟩, (some 40), (some (34, true))⟩, ⟨⟨binInt akEql (.tmp 40) (.const (.int .i64 0))⟩, (some 41), (some (34, true))⟩, ⟨⟨pickA (.tmp 34) (.tmp 41) (.const (.bool false))⟩, (some 42), none⟩, ⟨lkMove (.tmp 42), (some 8), none⟩]) (by kernel_rfl) (by simp (disch := omega) [gE, r0, r1]; exact rfl) ?_
      refine WDO.nilS (WD.seq (WD.seqR ?_))
      refine WDO.looks1 tyOk extOk 5 (ls := [⟨lkMove (.tmp 7), (some 43), none⟩, ⟨⟨fAddr (.tmp 3) 4⟩, (some 44), none⟩, ⟨⟨ldA ⟨ld1⟩ (.tmp 44)⟩, (some 45), none⟩, ⟨⟨lenSl (.tmp 45)⟩, (some 46), none⟩, ⟨⟨binInt akLss (.tmp 43) (.tmp 46)⟩, (some 47), none⟩]) (by kernel_rfl) (by simp (disch := omega) [gD', d4, hln', c3]; exact rfl) ?_
      refine WDO.nilS (WD.cond (t := false) (by simp) (by simp) fun _ => WD.skip (.inl rfl) (WD.seqR ?_))
      refine WDO.looks1 tyOk extOk 5 (ls := [⟨lkMove (.tmp 5), (some 75), none⟩, ⟨lkMove (.tmp 75), (some 76), none⟩, ⟨lkMove (.tmp 8), (some 77), (some (76, true))⟩, ⟨⟨pickA (.tmp 76) (.tmp 77) (.const (.bool false))⟩, (some 78), none⟩, ⟨lkMove (.tmp 78), (some 5), none⟩]) (by kernel_rfl) (by simp (disch := omega) []; exact rfl) ?_
      obtain ⟨oF, f1, bF⟩ := fin H' (Keep.refl _ _) (Nat.le_refl _)
      refine WDO.nilS (WD.region ?_)
      refine WDO.looks1 tyOk extOk 4 (ls := [⟨lkMove (.tmp 6), (some 79), none⟩, ⟨lkMove (.tmp 7), (some 80), none⟩, ⟨⟨buildA (.cons (.int .i64 0) (.cons .snil .nil)) ⟨fill1 (.const (.int .i64 (-8))) 0 1 flEnd⟩⟩, (some 81), none⟩, ⟨⟨ixSl 2 (.tmp 79) (.tmp 80)⟩, (some 82), none⟩]) (by kernel_rfl) (by simp (disch := omega) []; exact rfl) ?_
      refine WDO.heavy1 tyOk extOk (k := ⟨hvStore ⟨stN 2⟩ (.tmp 82) (.tmp 81)⟩) (by kernel_rfl) rfl (by kernel_rfl) (by simp; exact stN_ob f1) ?_
      refine WDO.nil ?_
      have ks : Keep (fun b => b = M + 1) H' (H'.set (M + 1) oF) := Keep.set _ fun _ => rfl
      have gs : (H'.set (M + 1) oF).get (M + 1) = some oF := get_set_same _ _ _
      have ns : (H'.set (M + 1) oF).next = H'.next := by simp
      generalize H'.set (M + 1) oF = Hs at ks gs ns ⊢
      refine WDO.looks1 tyOk extOk 3 (ls := [⟨lkMove (.tmp 7), (some 26), none⟩, ⟨⟨binInt akAdd (.tmp 26) (.const (.int .i64 1))⟩, (some 27), none⟩, ⟨lkMove (.tmp 27), (some 7), none⟩]) (by kernel_rfl) (by simp (disch := omega) []; exact rfl) ?_
      refine WDO.nil ⟨rfl, i + 1, _, rfl, by simp, ⟨by omega, ⟨_, ⟨oF, gs, bF⟩, by simpa using hlen, fun j hj => ?_⟩, fun j p hj hp => ?_, ks.get (by omega) (by omega) gD', by omega, kk'.trans (ks.mono fun b _ e => ⟨by omega, by omega⟩), k0'.trans' ks fun b hb e => absurd e (by omega)⟩, by omega⟩
      · rw [List.getElem?_set_ne (by omega)]
        exact hels j (by omega)
      · have hjl := get_lt hp
        have := kk'.1
        exact ks.get (by omega) (by omega) (hdat j p (by omega) hp)
end
end Go.Proofs.YtoigokkeaddceaaGreatDoor
