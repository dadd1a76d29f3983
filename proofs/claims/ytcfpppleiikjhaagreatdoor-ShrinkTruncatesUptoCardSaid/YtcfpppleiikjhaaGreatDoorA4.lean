/- A part of the proof of this seat's statement: what is particular to its program. Its conditions stand in each theorem. -/
import Derived.Test.YtcfpppleiikjhaaGreatDoorS1
import Derived.Test.YtcfpppleiikjhaaGreatDoorY12
import Derived.Deep.OwnRows
import Derived.Laws.CopyOwn
namespace Go.Proofs.YtcfpppleiikjhaaGreatDoor
open Go.RowKit
theorem wrap_quo (n pg : Nat) (hn : n < 4294967296) : wrap64 ((n : Int) / (pg : Int)) = ((n / pg : Nat) : Int) := by
  have h1 : (n : Int) / (pg : Int) = ((n / pg : Nat) : Int) := by simp
  have h2 : n / pg ≤ n := Nat.div_le_self _ _
  rw [h1]
  generalize n / pg = q at h2
  simp only [wrap64]
  omega
set_option maxHeartbeats 800000 in
theorem pages_any (b o n c pg : Nat) (ad : Option Addr) (w : World) (hpg : 0 < pg) (hpg2 : pg < 4294967296) (hn : n < 4294967296)
    (hd : w.cell? ⟨b, o + 1, none⟩ = some (.slice ad n c)) (hp : w.cell? ⟨b, o, none⟩ = some (.int .i64 (pg : Int))) :
    Calls Tryz.prog 26 #[.pointer (some ⟨b, o, none⟩)] w fun e w' => e = .returned (.int .i64 ((n / pg : Nat) : Int)) ∧ Below w.heap.size w w' := by
  go_enter Tryz.func26, Tryz.ntmps26
  go_wp2
  go_region
  all_goals (try go_wp2)
  go_ret
  exact ⟨congrArg (fun q => Ending.returned (.int .i64 q)) (wrap_quo n pg hn), (Below.refl _ _).drew⟩
set_option maxHeartbeats 1600000 in
theorem place_any (b o n c pg k A sb so : Nat) (w : World) (hpg : 0 < pg) (hpg2 : pg < 4294967296) (hk2 : k < 4294967296) (hn : c < 4294967296) (hc : A + pg ≤ c)
    (hA : (k : Int) * (pg : Int) = (A : Int)) (hB : ((k : Int) + 1) * (pg : Int) = (A : Int) + (pg : Int))
    (hd : w.cell? ⟨b, o + 1, none⟩ = some (.slice (some ⟨sb, so, none⟩) n c)) (hp : w.cell? ⟨b, o, none⟩ = some (.int .i64 (pg : Int))) :
    Calls Tryz.prog 44 #[.pointer (some ⟨b, o, none⟩), .int .i64 (k : Int)] w fun e w' => e = .returned (.slice (some ⟨sb, so + A, none⟩) pg (c - A)) ∧ Below w.heap.size w w' := by
  go_enter Tryz.func44, Tryz.ntmps44
  go_wp2
  go_region
  all_goals (try go_wp2)
  go_ret
  exact ⟨congrArg (fun q => Ending.returned (.slice (some ⟨sb, so + A, none⟩) q (c - A))) (Nat.add_sub_cancel_left A pg), (Below.refl _ _).drew⟩
end Go.Proofs.YtcfpppleiikjhaaGreatDoor
namespace Go.Proofs.YtcfpppleiikjhaaGreatDoor
open Go.RowKit
def Alike (w w' : World) : Prop := w'.heap = w.heap ∧ w'.os = w.os ∧ w'.output = w.output
set_option maxHeartbeats 800000 in
theorem pages_alike (b o n c pg : Nat) (ad : Option Addr) (w : World) (hpg : 0 < pg) (hpg2 : pg < 4294967296) (hn : n < 4294967296)
    (hd : w.cell? ⟨b, o + 1, none⟩ = some (.slice ad n c)) (hp : w.cell? ⟨b, o, none⟩ = some (.int .i64 (pg : Int))) :
    Calls Tryz.prog 26 #[.pointer (some ⟨b, o, none⟩)] w fun e w' => e = .returned (.int .i64 ((n / pg : Nat) : Int)) ∧ Alike w w' := by
  go_enter Tryz.func26, Tryz.ntmps26
  go_wp2
  go_region
  all_goals (try go_wp2)
  go_ret
  exact ⟨congrArg (fun q => Ending.returned (.int .i64 q)) (wrap_quo n pg hn), rfl, rfl, rfl⟩
set_option maxHeartbeats 1600000 in
theorem place_alike (b o n c pg k A sb so : Nat) (w : World) (hpg : 0 < pg) (hpg2 : pg < 4294967296) (hk2 : k < 4294967296) (hn : c < 4294967296) (hc : A + pg ≤ c)
    (hA : (k : Int) * (pg : Int) = (A : Int)) (hB : ((k : Int) + 1) * (pg : Int) = (A : Int) + (pg : Int))
    (hd : w.cell? ⟨b, o + 1, none⟩ = some (.slice (some ⟨sb, so, none⟩) n c)) (hp : w.cell? ⟨b, o, none⟩ = some (.int .i64 (pg : Int))) :
    Calls Tryz.prog 44 #[.pointer (some ⟨b, o, none⟩), .int .i64 (k : Int)] w fun e w' => e = .returned (.slice (some ⟨sb, so + A, none⟩) pg (c - A)) ∧ Alike w w' := by
  go_enter Tryz.func44, Tryz.ntmps44
  go_wp2
  go_region
  all_goals (try go_wp2)
  go_ret
  exact ⟨congrArg (fun q => Ending.returned (.slice (some ⟨sb, so + A, none⟩) q (c - A))) (Nat.add_sub_cancel_left A pg), rfl, rfl, rfl⟩
set_option maxHeartbeats 1600000 in
theorem refused_alike (b o n c pg k : Nat) (ad : Option Addr) (w : World) (hpg : 0 < pg) (hpg2 : pg < 4294967296) (hn : n < 4294967296) (hk : k < n / pg)
    (hd : w.cell? ⟨b, o + 1, none⟩ = some (.slice ad n c)) (hp : w.cell? ⟨b, o, none⟩ = some (.int .i64 (pg : Int))) (hdn : w.cell? ⟨b, o + 4, none⟩ = some (.bool false)) :
    Calls Tryz.prog 20 #[.pointer (some ⟨b, o, none⟩), .int .i64 (k : Int)] w fun e w' => e = .returned (.int .i64 0) ∧ Alike w w' := by
  have hlt : n / pg ≤ n := Nat.div_le_self _ _
  have HP := pages_alike b o n c pg ad w hpg hpg2 hn hd hp
  generalize n / pg = q at hk hlt HP
  go_enter Tryz.func20, Tryz.ntmps20
  go_wp2_with fail
  refine HP.mono ?_
  rintro e w1 ⟨rfl, hb1⟩
  go_wp2
  go_ret
  exact ⟨rfl, hb1⟩
theorem lookup_none (mb cl : Nat) (k : Int) (w : World) (h : w.heap[mb]? = some (.map #[] cl)) : (Instr.lookup 55 (.map (some mb)) (.int .i64 k) true).run Tryz.prog w = .ok (.tuple #[.int .i64 0, .bool false]) w := by
  have h1 : (Instr.checkKey true 10000 3 (.int .i64 k)).run Tryz.prog w = .ok () w := by kernel_rfl
  have h2 : (Instr.findKey 3 (.int .i64 k) []).run Tryz.prog w = .ok none w := by kernel_rfl
  have h3 : (zeroValue 3).run Tryz.prog w = .ok (.int .i64 0) w := by kernel_rfl
  have h4 : (underlying 55).run Tryz.prog w = .ok (.map 3 3) w := by kernel_rfl
  have h5 : (#[] : Array MapEntry).isEmpty = true := rfl
  simp only [Instr.lookup, Sem.run_bind, h4, Result.andThen, Sem.run_pure, Xq.run_getObj h (by simp), h5, h1, h2, h3]
  rfl
theorem mapBlock {w : World} {b off mb : Nat} {v u : Value} {cl : Nat} {es : Array MapEntry} (hb : w.cell? ⟨b, off, none⟩ = some u) (hm : w.heap[mb]? = some (.map es cl)) (o2 : Nat) : (w.setCell ⟨b, o2, none⟩ v).heap[mb]? = some (.map es cl) := by
  have hc : ∃ c e fr, w.heap[b]? = some (.cells c e fr) := by
    unfold World.cell? at hb
    split at hb
    · rename_i c e fr hh; exact ⟨c, e, fr, hh⟩
    · cases hb
  obtain ⟨c, e, fr, hc⟩ := hc
  rw [Xq.setCell_heapB hc, Array.getElem?_setIfInBounds_ne]
  · exact hm
  · rintro rfl
    rw [hc] at hm
    cases hm
theorem setRow_last {w : World} {h : Array Obj} {c0 : Array Value} {t g : Nat} {fr : Nat × Nat} (hw : w.heap = h.push (.cells c0 t fr)) (hg : g = h.size) (x : Array Value) : (w.setRow g x).heap = h.push (.cells x t fr) := by
  subst hg
  unfold World.setRow
  apply Array.ext_getElem?
  intro i
  simp only [hw, Array.getElem?_modify, Array.getElem?_push]
  by_cases e : i = h.size
  · subst e; simp
  · rw [if_neg e, if_neg (fun hh => e hh.symm), if_neg e]
set_option maxRecDepth 20000 in
set_option maxHeartbeats 1600000 in
theorem read_any (b o n c pg k A sb so mb cl : Nat) (cnt : Nat) (w : World) (hpg : 0 < pg) (hpg2 : pg < 4294967296) (hk2 : k < 4294967296) (hn : n < 4294967296) (hcc : c < 4294967296) (hk : k < n / pg) (hc : A + pg ≤ c)
    (hA : (k : Int) * (pg : Int) = (A : Int)) (hB : ((k : Int) + 1) * (pg : Int) = (A : Int) + (pg : Int)) (hcnt : cnt < 4294967296)
    (hd : w.cell? ⟨b, o + 1, none⟩ = some (.slice (some ⟨sb, so, none⟩) n c)) (hp : w.cell? ⟨b, o, none⟩ = some (.int .i64 (pg : Int))) (hdn : w.cell? ⟨b, o + 4, none⟩ = some (.bool false))
    (hm : w.cell? ⟨b, o + 3, none⟩ = some (.map (some mb))) (hmb : w.heap[mb]? = some (.map #[] cl)) (hct : w.cell? ⟨b, o + 9, none⟩ = some (.int .i64 (cnt : Int))) (hfz : w.frozen? ⟨b, o + 9, none⟩ = false)
    (cs : List Value) (hcl : cs.length = pg) (hone : ∀ v ∈ cs, ∃ x : Int, v = .int .u8 x) (hsrc : ∀ j v, cs[j]? = some v → w.cell? ⟨sb, so + A + j, none⟩ = some v) :
    Calls Tryz.prog 85 #[.pointer (some ⟨b, o, none⟩), .int .i64 (k : Int)] w fun e w' => e = .returned (.tuple #[.slice (some ⟨w.heap.size, 0, none⟩) pg pg, .int .i64 0]) ∧
      w'.heap = (w.setCell ⟨b, o + 9, none⟩ (.int .i64 ((cnt : Int) + 1))).heap.push (.cells cs.toArray 5 (0, 0)) ∧ w'.os = w.os ∧ w'.output = w.output := by
  have HR := refused_alike b o n c pg k (some ⟨sb, so, none⟩) w hpg hpg2 hn hk hd hp hdn
  have hmk := run_make_row' (P := Tryz.prog) 22 5 (.int .u8 0) 1 Tryz.underlying22 (by kernel_rfl) rfl .i64 .i64 pg (by omega) (by omega)
  go_enter Tryz.func85, Tryz.ntmps85
  go_wp2_with fail
  refine HR.mono ?_
  rintro e w1 ⟨rfl, hb1, hb2, hb3⟩
  have ec : ∀ a, w1.cell? a = w.cell? a := fun a => by unfold World.cell?; rw [hb1]
  have hd1 := (ec _).trans hd
  have hp1 := (ec _).trans hp
  have hm1 := (ec _).trans hm
  have hct1 := (ec _).trans hct
  have hbl : b < w1.heap.size := by
    rcases Nat.lt_or_ge b w1.heap.size with h | h
    · exact h
    · simp [World.cell?, Array.getElem?_eq_none h] at hd1
  have h3 : ∀ v X, ((w1.setCell ⟨b, o + 9, none⟩ v).alloc X).cell? ⟨b, o + 3, none⟩ = some (.map (some mb)) := fun v X => by
    rw [World.cell?_alloc_lt _ _ _ (by simpa using hbl), World.cell?_setCell_other _ _ _ _ (by simp)]; exact hm1
  have hmb1 : w1.heap[mb]? = some (.map #[] cl) := by rw [hb1]; exact hmb
  have hmlt : mb < w1.heap.size := (Array.getElem?_eq_some_iff.1 hmb1).1
  have h4 : ∀ v X, (Instr.lookup 55 (.map (some mb)) (.int .i64 (k : Int)) true).run Tryz.prog ((w1.setCell ⟨b, o + 9, none⟩ v).alloc X).drew = .ok (.tuple #[.int .i64 0, .bool false]) ((w1.setCell ⟨b, o + 9, none⟩ v).alloc X).drew := fun v X => by
    refine lookup_none mb cl k _ ?_
    show ((w1.setCell ⟨b, o + 9, none⟩ v).heap.push X)[mb]? = _
    rw [Array.getElem?_push, if_neg (by simp; omega)]
    exact mapBlock hd1 hmb1 _
  have h5 : ∀ v X, ((w1.setCell ⟨b, o + 9, none⟩ v).alloc X).drew.cell? ⟨b, o + 1, none⟩ = some (.slice (some ⟨sb, so, none⟩) n c) := fun v X => by
    show ((w1.setCell ⟨b, o + 9, none⟩ v).alloc X).cell? ⟨b, o + 1, none⟩ = _
    rw [World.cell?_alloc_lt _ _ _ (by simpa using hbl), World.cell?_setCell_other _ _ _ _ (by simp)]; exact hd1
  have h6 : ∀ v X, ((w1.setCell ⟨b, o + 9, none⟩ v).alloc X).drew.cell? ⟨b, o, none⟩ = some (.int .i64 (pg : Int)) := fun v X => by
    show ((w1.setCell ⟨b, o + 9, none⟩ v).alloc X).cell? ⟨b, o, none⟩ = _
    rw [World.cell?_alloc_lt _ _ _ (by simpa using hbl), World.cell?_setCell_other _ _ _ _ (by simp)]; exact hp1
  have hfz1 : w1.frozen? ⟨b, o + 9, none⟩ = false := by unfold World.frozen? at hfz ⊢; rw [hb1]; exact hfz
  go_wp2_with fail
  go_region
  all_goals (try go_wp2_with fail)
  refine (place_alike b o n c pg k A sb so _ hpg hpg2 hk2 hcc hc hA hB (h5 _ _) (h6 _ _)).mono ?_
  rintro e w3 ⟨rfl, hc1, hc2, hc3⟩
  have hsz1 : ((w1.setCell ⟨b, o + 9, none⟩ (.int .i64 ((cnt : Int) + 1)))).heap.size = w.heap.size := by simp [hb1]
  have hh3 : w3.heap = (w1.setCell ⟨b, o + 9, none⟩ (.int .i64 ((cnt : Int) + 1))).heap.push (.cells (madeCells #[.int .u8 0] pg) 5 (0, 0)) := hc1
  have hg3 : w3.heap[w.heap.size]? = some (.cells (madeCells #[.int .u8 0] pg) 5 (0, 0)) := by rw [hh3, ← hsz1]; exact Array.getElem?_push_size
  have hs3 : ∀ j v, cs[j]? = some v → w3.cell? ((⟨sb, so + A, none⟩ : Addr).add j) = some v := fun j v hj => by
    have h0 := hsrc j v hj
    obtain ⟨x, rfl⟩ := hone v (List.mem_of_getElem? hj)
    have hne : (⟨b, o + 9, none⟩ : Addr) ≠ ⟨sb, so + A + j, none⟩ := by
      intro e
      rw [← e, hct] at h0
      cases h0
    have h1 : w1.cell? ⟨sb, so + A + j, none⟩ = some (.int .u8 x) := (ec _).trans h0
    have hlt : sb < w1.heap.size := by
      rcases Nat.lt_or_ge sb w1.heap.size with h | h
      · exact h
      · simp [World.cell?, Array.getElem?_eq_none h] at h1
    have e3 : w3.cell? ⟨sb, so + A + j, none⟩ = ((w1.setCell ⟨b, o + 9, none⟩ (.int .i64 ((cnt : Int) + 1))).alloc (.cells (madeCells #[.int .u8 0] pg) 5)).cell? ⟨sb, so + A + j, none⟩ := by
      unfold World.cell?; rw [hh3]; rfl
    rw [show (⟨sb, so + A, none⟩ : Addr).add j = ⟨sb, so + A + j, none⟩ from by simp [Addr.add], e3, World.cell?_alloc_lt _ _ _ (by simpa using hlt), World.cell?_setCell_other _ _ _ _ hne]
    exact h1
  have hcp := run_copy_row (P := Tryz.prog) w3 22 22 3 5 w.heap.size 0 pg pg ⟨sb, so + A, none⟩ pg (c - A) (madeCells #[.int .u8 0] pg) 5 cs Tryz.underlying22 (by kernel_rfl) hg3 (by simp [hcl]) hs3 (by rw [size_madeCells]; omega) (fun v hv => by obtain ⟨x, rfl⟩ := hone v hv; rfl)
  go_wp2_with fail
  go_ret2
  have hcs : cs ++ List.drop pg (madeCells #[Value.int IntKind.u8 0] pg).toList = cs := by
    rw [List.drop_eq_nil_of_le (by rw [Array.length_toList, size_madeCells]; exact Nat.le_refl _), List.append_nil]
  rw [hcs]
  have hw1 : (w1.setCell ⟨b, o + 9, none⟩ (.int .i64 ((cnt : Int) + 1))).heap = (w.setCell ⟨b, o + 9, none⟩ (.int .i64 ((cnt : Int) + 1))).heap := by unfold World.setCell; rw [hb1]
  refine ⟨rfl, ?_, hc2.trans hb2, hc3.trans hb3⟩
  rw [← hw1]
  exact setRow_last hh3 hsz1.symm cs.toArray
end Go.Proofs.YtcfpppleiikjhaaGreatDoor
