/- A part of the proof of this seat's statement: what is particular to its program. Its conditions stand in each theorem. -/
import Derived.Test.YtcfpppleiikjhaaGreatDoorK2
import Derived.Test.YtcfpppleiikjhaaGreatDoorZ6
namespace Go.Proofs.YtcfpppleiikjhaaGreatDoor
open Go.Xq
noncomputable section
theorem chA : True := trivial
@[simp] theorem onBool_undef (f : Bool → Option Bool) : onBool undefA f = none := rfl
@[simp] theorem oc_none' {α β : Type} (x : β) (f : α → β) : oc none x f = x := rfl
def encMt (m : Mt) : List AV := [.int .i64 m.engine, .int .i64 m.page, .int .i64 m.txn, .int .i64 m.root, .int .i64 m.count, .int .i64 m.free, .int .i64 m.listed, .int .i64 m.high]
theorem encMt_len (m : Mt) : (encMt m).length = 8 := rfl
def mA (m : Mt) : AV := .agg (avl (encMt m))
theorem cells_mt (m : Mt) : ∀ v ∈ encMt m, isCell v = true := by
  intro v hv
  simp only [encMt, List.mem_cons, List.not_mem_nil, or_false] at hv
  rcases hv with rfl | rfl | rfl | rfl | rfl | rfl | rfl | rfl <;> rfl
def zMt : AV := .cons (.int .i64 0) (.cons (.int .i64 0) (.cons (.int .i64 0) (.cons (.int .i64 0) (.cons (.int .i64 0) (.cons (.int .i64 0) (.cons (.int .i64 0) (.cons (.int .i64 0) .nil)))))))
structure RdM (H : AH) (b : Nat) (m : Mt) : Prop where
  ex : ∃ o, H.get b = some o ∧ ElB encMt 75 8 false zMt [m] o
theorem RdM.keep {S : Nat → Prop} {H H2 : AH} {b : Nat} {m : Mt} (h : RdM H b m) (hk : Keep S H H2) (hb : b < H.next) (hs : ¬ S b) : RdM H2 b m := by
  obtain ⟨o, h1, h2⟩ := h.ex
  exact ⟨o, hk.get hb hs h1, h2⟩
theorem RdM.all {H : AH} {b : Nat} {m : Mt} (h : RdM H b m) : ∃ o, H.get b = some o ∧ rdCell o 0 = some (.int .i64 m.engine) ∧ rdCell o 1 = some (.int .i64 m.page) ∧ rdCell o 2 = some (.int .i64 m.txn) ∧ rdCell o 3 = some (.int .i64 m.root) ∧
    rdCell o 4 = some (.int .i64 m.count) ∧ rdCell o 5 = some (.int .i64 m.free) ∧ rdCell o 6 = some (.int .i64 m.listed) ∧ rdCell o 7 = some (.int .i64 m.high) ∧ rdCells o 8 0 = some (avl (encMt m)) := by
  obtain ⟨o, h1, h2⟩ := h.ex
  have r : ∀ {j : Nat} {v : AV}, (encMt m)[j]? = some v → rdCell o j = some v := fun hv => by
    have := h2.cell (k := 0) rfl hv
    simpa using this
  have hc : rdCells o 8 0 = some (avl (encMt m)) := by
    have := h2.rd.elem (k := 0) (a := m) rfl rfl
    simpa using this
  exact ⟨o, h1, r rfl, r rfl, r rfl, r rfl, r rfl, r rfl, r rfl, r rfl, hc⟩
set_option maxRecDepth 20000 in
set_option maxHeartbeats 4000000 in
theorem check05_ok {H : AH} {m : Mt} (hh : -9223372036854775806 ≤ m.high) (hh2 : m.high < 9223372036854775808) :
    DC Tryz.prog .normal 126 (.cons (mA m) .nil) H fun v' H2 => (okM m → v' = .int .i64 0) ∧ (¬ okM m → v' = .int .i64 1) ∧ Keep noB H H2 := by
  refine DC.of_wd (re := reTmp 2 reNil) tyOk Tryz.func126 (by kernel_rfl) rfl (by kernel_rfl) (by kernel_rfl) ?_
  rw [tl_nil, argsT_cons, argsT_nil]
  refine WD.seqR ?_
  obtain ⟨o1, e1, b1⟩ := frBox_el (enc := encMt) (e := 75) (z := zMt) encMt_len (x := .tmp 0) (T := tl [(0, mA m)]) (b0 := H.next) (a := m) (by simp; rfl)
  refine WDO.fresh1 tyOk (k := ⟨frBox ⟨mkCs 75 8 (.cons (.int .i64 0) (.cons (.int .i64 0) (.cons (.int .i64 0) (.cons (.int .i64 0) (.cons (.int .i64 0) (.cons (.int .i64 0) (.cons (.int .i64 0) (.cons (.int .i64 0) .nil))))))))⟩ (.tmp 0)⟩) (by kernel_rfl) rfl (by kernel_rfl) e1 ?_
  have hk1 : Keep noB H (H.new o1) := Keep.new _ _ _
  have hrd : RdM (H.new o1) H.next m := ⟨o1, get_new_same _ _, b1⟩
  obtain ⟨o, g1, r0, r1, r2, r3, r4, r5, r6, r7, _⟩ := hrd.all
  generalize H.new o1 = H1 at g1 hk1 ⊢
  generalize H.next = N at g1 ⊢
  refine WDO.looks1 tyOk extOk 1 (ls := [⟨lkMove (.const (.int .i64 0)), (some 2), none⟩]) (by kernel_rfl) (by simp (disch := omega) []; exact rfl) ?_
  refine WDO.nilS (WD.seqR ?_)
  refine WDO.looks1 tyOk extOk 2 (ls := [⟨⟨fAddr (.tmp 1) 1⟩, (some 10), none⟩, ⟨⟨ldA ⟨ld1⟩ (.tmp 10)⟩, (some 11), none⟩]) (by kernel_rfl) (by simp (disch := omega) [g1, r1]; exact rfl) ?_
  refine WDO.callF (g := 184) rfl rfl rfl (by kernel_rfl) (l := .cons (.int .i64 m.page) .nil) (by simp) isPage05_ok fun u H2 ⟨hu, hH⟩ => ?_
  subst hu
  subst hH
  refine WDO.looks1 tyOk extOk 1 (ls := [⟨lkMove (.tmp 12), (some 3), none⟩]) (by kernel_rfl) (by simp (disch := omega) []; exact rfl) ?_
  refine WDO.nilS (WD.keep (l := [(1, .ptr N 0), (3, .bool (isPgI m.page))]) (WD.seqR ?_) (by simp))
  obtain ⟨b4, l', hb4, hrun, hsub⟩ : ∃ (b4 : Bool) (l' : List (Nat × AV)), (b4 = true ↔ (m.engine = 1 ∨ m.engine = 2)) ∧ runLk [⟨⟨fAddr (.tmp 1) 0⟩, (some 13), none⟩, ⟨⟨ldA ⟨ld1⟩ (.tmp 13)⟩, (some 14), none⟩, ⟨⟨binInt akEql (.tmp 14) (.const (.int .i64 1))⟩, (some 15), none⟩, ⟨lkMove (.tmp 15), (some 16), none⟩, ⟨⟨fAddr (.tmp 1) 0⟩, (some 17), (some (16, false))⟩, ⟨⟨ldA ⟨ld1⟩ (.tmp 17)⟩, (some 18), (some (16, false))⟩, ⟨⟨binInt akEql (.tmp 18) (.const (.int .i64 2))⟩, (some 19), (some (16, false))⟩, ⟨⟨pickA (.tmp 16) (.const (.bool true)) (.tmp 19)⟩, (some 20), none⟩, ⟨lkMove (.tmp 20), (some 4), none⟩] (tl [(1, .ptr N 0), (3, .bool (isPgI m.page))]) H2 = some (tl l') ∧ lsub [(1, .ptr N 0), (3, .bool (isPgI m.page)), (4, .bool b4)] l' := by
    by_cases c1 : m.engine = 1
    · exact ⟨true, _, by simp [c1], by simp (disch := omega) [g1, r0, c1]; exact rfl, by simp⟩
    · by_cases c2 : m.engine = 2
      · exact ⟨true, _, by simp [c2], by simp (disch := omega) [g1, r0, c2]; exact rfl, by simp⟩
      · exact ⟨false, _, by simp [c1, c2], by simp (disch := omega) [g1, r0, c1, c2]; exact rfl, by simp⟩
  refine WDO.looks1 tyOk extOk 9 (ls := [⟨⟨fAddr (.tmp 1) 0⟩, (some 13), none⟩, ⟨⟨ldA ⟨ld1⟩ (.tmp 13)⟩, (some 14), none⟩, ⟨⟨binInt akEql (.tmp 14) (.const (.int .i64 1))⟩, (some 15), none⟩, ⟨lkMove (.tmp 15), (some 16), none⟩, ⟨⟨fAddr (.tmp 1) 0⟩, (some 17), (some (16, false))⟩, ⟨⟨ldA ⟨ld1⟩ (.tmp 17)⟩, (some 18), (some (16, false))⟩, ⟨⟨binInt akEql (.tmp 18) (.const (.int .i64 2))⟩, (some 19), (some (16, false))⟩, ⟨⟨pickA (.tmp 16) (.const (.bool true)) (.tmp 19)⟩, (some 20), none⟩, ⟨lkMove (.tmp 20), (some 4), none⟩]) (by kernel_rfl) hrun ?_
  refine WDO.nilS (WD.keep (WD.seqR ?_) hsub)
  clear hrun hsub l'
  obtain ⟨b5, l', hb5, hrun, hsub⟩ : ∃ (b5 : Bool) (l' : List (Nat × AV)), (b5 = true ↔ (2 ≤ m.high ∧ m.high ≤ 65536)) ∧ runLk [⟨⟨fAddr (.tmp 1) 7⟩, (some 21), none⟩, ⟨⟨ldA ⟨ld1⟩ (.tmp 21)⟩, (some 22), none⟩, ⟨⟨binInt akGeq (.tmp 22) (.const (.int .i64 2))⟩, (some 23), none⟩, ⟨lkMove (.tmp 23), (some 24), none⟩, ⟨⟨fAddr (.tmp 1) 7⟩, (some 25), (some (24, true))⟩, ⟨⟨ldA ⟨ld1⟩ (.tmp 25)⟩, (some 26), (some (24, true))⟩, ⟨⟨binInt akLeq (.tmp 26) (.const (.int .i64 65536))⟩, (some 27), (some (24, true))⟩, ⟨⟨pickA (.tmp 24) (.tmp 27) (.const (.bool false))⟩, (some 28), none⟩, ⟨lkMove (.tmp 28), (some 5), none⟩] (tl [(1, .ptr N 0), (3, .bool (isPgI m.page)), (4, .bool b4)]) H2 = some (tl l') ∧ lsub [(1, .ptr N 0), (3, .bool (isPgI m.page)), (4, .bool b4), (5, .bool b5)] l' := by
    by_cases c1 : m.high < 2
    · exact ⟨false, _, by simp; omega, by simp (disch := omega) [g1, r7, c1]; exact rfl, by simp⟩
    · by_cases c2 : 65536 < m.high
      · exact ⟨false, _, by simp; omega, by simp (disch := omega) [g1, r7, c1, c2]; exact rfl, by simp⟩
      · exact ⟨true, _, by simp; omega, by simp (disch := omega) [g1, r7, c1, c2]; exact rfl, by simp⟩
  refine WDO.looks1 tyOk extOk 9 (ls := [⟨⟨fAddr (.tmp 1) 7⟩, (some 21), none⟩, ⟨⟨ldA ⟨ld1⟩ (.tmp 21)⟩, (some 22), none⟩, ⟨⟨binInt akGeq (.tmp 22) (.const (.int .i64 2))⟩, (some 23), none⟩, ⟨lkMove (.tmp 23), (some 24), none⟩, ⟨⟨fAddr (.tmp 1) 7⟩, (some 25), (some (24, true))⟩, ⟨⟨ldA ⟨ld1⟩ (.tmp 25)⟩, (some 26), (some (24, true))⟩, ⟨⟨binInt akLeq (.tmp 26) (.const (.int .i64 65536))⟩, (some 27), (some (24, true))⟩, ⟨⟨pickA (.tmp 24) (.tmp 27) (.const (.bool false))⟩, (some 28), none⟩, ⟨lkMove (.tmp 28), (some 5), none⟩]) (by kernel_rfl) hrun ?_
  refine WDO.nilS (WD.keep (WD.seqR ?_) hsub)
  clear hrun hsub l'
  obtain ⟨b6, l', hb6, hrun, hsub⟩ : ∃ (b6 : Bool) (l' : List (Nat × AV)), (b6 = true ↔ (m.root = 0 ∨ 2 ≤ m.root ∧ m.root < m.high)) ∧ runLk [⟨⟨fAddr (.tmp 1) 3⟩, (some 29), none⟩, ⟨⟨ldA ⟨ld1⟩ (.tmp 29)⟩, (some 30), none⟩, ⟨⟨binInt akEql (.tmp 30) (.const (.int .i64 0))⟩, (some 31), none⟩, ⟨lkMove (.tmp 31), (some 32), none⟩, ⟨⟨fAddr (.tmp 1) 3⟩, (some 33), (some (32, false))⟩, ⟨⟨ldA ⟨ld1⟩ (.tmp 33)⟩, (some 34), (some (32, false))⟩, ⟨⟨binInt akGeq (.tmp 34) (.const (.int .i64 2))⟩, (some 35), (some (32, false))⟩, ⟨lkMove (.tmp 35), (some 36), (some (32, false))⟩, ⟨⟨fAddr (.tmp 1) 3⟩, (some 37), (some (36, true))⟩, ⟨⟨ldA ⟨ld1⟩ (.tmp 37)⟩, (some 38), (some (36, true))⟩, ⟨⟨fAddr (.tmp 1) 7⟩, (some 39), (some (36, true))⟩, ⟨⟨ldA ⟨ld1⟩ (.tmp 39)⟩, (some 40), (some (36, true))⟩, ⟨⟨binInt akLss (.tmp 38) (.tmp 40)⟩, (some 41), (some (36, true))⟩, ⟨⟨pickA (.tmp 36) (.tmp 41) (.const (.bool false))⟩, (some 42), (some (32, false))⟩, ⟨⟨pickA (.tmp 32) (.const (.bool true)) (.tmp 42)⟩, (some 43), none⟩, ⟨lkMove (.tmp 43), (some 6), none⟩] (tl [(1, .ptr N 0), (3, .bool (isPgI m.page)), (4, .bool b4), (5, .bool b5)]) H2 = some (tl l') ∧ lsub [(1, .ptr N 0), (3, .bool (isPgI m.page)), (4, .bool b4), (5, .bool b5), (6, .bool b6)] l' := by
    by_cases c1 : m.root = 0
    · exact ⟨true, _, by simp [c1], by simp (disch := omega) [g1, r3, c1]; exact rfl, by simp⟩
    · by_cases c2 : m.root < 2
      · exact ⟨false, _, by simp; omega, by simp (disch := omega) [g1, r3, c1, c2]; exact rfl, by simp⟩
      · by_cases c3 : m.root < m.high
        · exact ⟨true, _, by simp; omega, by simp (disch := omega) [g1, r3, r7, c1, c2, c3]; exact rfl, by simp⟩
        · exact ⟨false, _, by simp; omega, by simp (disch := omega) [g1, r3, r7, c1, c2, c3]; exact rfl, by simp⟩
  refine WDO.looks1 tyOk extOk 16 (ls := [⟨⟨fAddr (.tmp 1) 3⟩, (some 29), none⟩, ⟨⟨ldA ⟨ld1⟩ (.tmp 29)⟩, (some 30), none⟩, ⟨⟨binInt akEql (.tmp 30) (.const (.int .i64 0))⟩, (some 31), none⟩, ⟨lkMove (.tmp 31), (some 32), none⟩, ⟨⟨fAddr (.tmp 1) 3⟩, (some 33), (some (32, false))⟩, ⟨⟨ldA ⟨ld1⟩ (.tmp 33)⟩, (some 34), (some (32, false))⟩, ⟨⟨binInt akGeq (.tmp 34) (.const (.int .i64 2))⟩, (some 35), (some (32, false))⟩, ⟨lkMove (.tmp 35), (some 36), (some (32, false))⟩, ⟨⟨fAddr (.tmp 1) 3⟩, (some 37), (some (36, true))⟩, ⟨⟨ldA ⟨ld1⟩ (.tmp 37)⟩, (some 38), (some (36, true))⟩, ⟨⟨fAddr (.tmp 1) 7⟩, (some 39), (some (36, true))⟩, ⟨⟨ldA ⟨ld1⟩ (.tmp 39)⟩, (some 40), (some (36, true))⟩, ⟨⟨binInt akLss (.tmp 38) (.tmp 40)⟩, (some 41), (some (36, true))⟩, ⟨⟨pickA (.tmp 36) (.tmp 41) (.const (.bool false))⟩, (some 42), (some (32, false))⟩, ⟨⟨pickA (.tmp 32) (.const (.bool true)) (.tmp 42)⟩, (some 43), none⟩, ⟨lkMove (.tmp 43), (some 6), none⟩]) (by kernel_rfl) hrun ?_
  refine WDO.nilS (WD.keep (WD.seqR ?_) hsub)
  clear hrun hsub l'
  obtain ⟨b7, l', hb7, hrun, hsub⟩ : ∃ (b7 : Bool) (l' : List (Nat × AV)), (b7 = true ↔ (m.free = 0 ∨ 2 ≤ m.free ∧ m.free < m.high)) ∧ runLk [⟨⟨fAddr (.tmp 1) 5⟩, (some 44), none⟩, ⟨⟨ldA ⟨ld1⟩ (.tmp 44)⟩, (some 45), none⟩, ⟨⟨binInt akEql (.tmp 45) (.const (.int .i64 0))⟩, (some 46), none⟩, ⟨lkMove (.tmp 46), (some 47), none⟩, ⟨⟨fAddr (.tmp 1) 5⟩, (some 48), (some (47, false))⟩, ⟨⟨ldA ⟨ld1⟩ (.tmp 48)⟩, (some 49), (some (47, false))⟩, ⟨⟨binInt akGeq (.tmp 49) (.const (.int .i64 2))⟩, (some 50), (some (47, false))⟩, ⟨lkMove (.tmp 50), (some 51), (some (47, false))⟩, ⟨⟨fAddr (.tmp 1) 5⟩, (some 52), (some (51, true))⟩, ⟨⟨ldA ⟨ld1⟩ (.tmp 52)⟩, (some 53), (some (51, true))⟩, ⟨⟨fAddr (.tmp 1) 7⟩, (some 54), (some (51, true))⟩, ⟨⟨ldA ⟨ld1⟩ (.tmp 54)⟩, (some 55), (some (51, true))⟩, ⟨⟨binInt akLss (.tmp 53) (.tmp 55)⟩, (some 56), (some (51, true))⟩, ⟨⟨pickA (.tmp 51) (.tmp 56) (.const (.bool false))⟩, (some 57), (some (47, false))⟩, ⟨⟨pickA (.tmp 47) (.const (.bool true)) (.tmp 57)⟩, (some 58), none⟩, ⟨lkMove (.tmp 58), (some 7), none⟩] (tl [(1, .ptr N 0), (3, .bool (isPgI m.page)), (4, .bool b4), (5, .bool b5), (6, .bool b6)]) H2 = some (tl l') ∧ lsub [(1, .ptr N 0), (3, .bool (isPgI m.page)), (4, .bool b4), (5, .bool b5), (6, .bool b6), (7, .bool b7)] l' := by
    by_cases c1 : m.free = 0
    · exact ⟨true, _, by simp [c1], by simp (disch := omega) [g1, r5, c1]; exact rfl, by simp⟩
    · by_cases c2 : m.free < 2
      · exact ⟨false, _, by simp; omega, by simp (disch := omega) [g1, r5, c1, c2]; exact rfl, by simp⟩
      · by_cases c3 : m.free < m.high
        · exact ⟨true, _, by simp; omega, by simp (disch := omega) [g1, r5, r7, c1, c2, c3]; exact rfl, by simp⟩
        · exact ⟨false, _, by simp; omega, by simp (disch := omega) [g1, r5, r7, c1, c2, c3]; exact rfl, by simp⟩
  refine WDO.looks1 tyOk extOk 16 (ls := [⟨⟨fAddr (.tmp 1) 5⟩, (some 44), none⟩, ⟨⟨ldA ⟨ld1⟩ (.tmp 44)⟩, (some 45), none⟩, ⟨⟨binInt akEql (.tmp 45) (.const (.int .i64 0))⟩, (some 46), none⟩, ⟨lkMove (.tmp 46), (some 47), none⟩, ⟨⟨fAddr (.tmp 1) 5⟩, (some 48), (some (47, false))⟩, ⟨⟨ldA ⟨ld1⟩ (.tmp 48)⟩, (some 49), (some (47, false))⟩, ⟨⟨binInt akGeq (.tmp 49) (.const (.int .i64 2))⟩, (some 50), (some (47, false))⟩, ⟨lkMove (.tmp 50), (some 51), (some (47, false))⟩, ⟨⟨fAddr (.tmp 1) 5⟩, (some 52), (some (51, true))⟩, ⟨⟨ldA ⟨ld1⟩ (.tmp 52)⟩, (some 53), (some (51, true))⟩, ⟨⟨fAddr (.tmp 1) 7⟩, (some 54), (some (51, true))⟩, ⟨⟨ldA ⟨ld1⟩ (.tmp 54)⟩, (some 55), (some (51, true))⟩, ⟨⟨binInt akLss (.tmp 53) (.tmp 55)⟩, (some 56), (some (51, true))⟩, ⟨⟨pickA (.tmp 51) (.tmp 56) (.const (.bool false))⟩, (some 57), (some (47, false))⟩, ⟨⟨pickA (.tmp 47) (.const (.bool true)) (.tmp 57)⟩, (some 58), none⟩, ⟨lkMove (.tmp 58), (some 7), none⟩]) (by kernel_rfl) hrun ?_
  refine WDO.nilS (WD.keep (WD.seqR ?_) hsub)
  clear hrun hsub l'
  obtain ⟨b8, l', hb8, hrun, hsub⟩ : ∃ (b8 : Bool) (l' : List (Nat × AV)), (b8 = true ↔ ((0 ≤ m.count ∧ m.count ≤ 256) ∧ (m.count = 0 ↔ m.root = 0))) ∧ runLk [⟨⟨fAddr (.tmp 1) 4⟩, (some 59), none⟩, ⟨⟨ldA ⟨ld1⟩ (.tmp 59)⟩, (some 60), none⟩, ⟨⟨binInt akGeq (.tmp 60) (.const (.int .i64 0))⟩, (some 61), none⟩, ⟨lkMove (.tmp 61), (some 62), none⟩, ⟨⟨fAddr (.tmp 1) 4⟩, (some 63), (some (62, true))⟩, ⟨⟨ldA ⟨ld1⟩ (.tmp 63)⟩, (some 64), (some (62, true))⟩, ⟨⟨binInt akLeq (.tmp 64) (.const (.int .i64 256))⟩, (some 65), (some (62, true))⟩, ⟨⟨pickA (.tmp 62) (.tmp 65) (.const (.bool false))⟩, (some 66), none⟩, ⟨lkMove (.tmp 66), (some 67), none⟩, ⟨⟨fAddr (.tmp 1) 4⟩, (some 68), (some (67, true))⟩, ⟨⟨ldA ⟨ld1⟩ (.tmp 68)⟩, (some 69), (some (67, true))⟩, ⟨⟨binInt akEql (.tmp 69) (.const (.int .i64 0))⟩, (some 70), (some (67, true))⟩, ⟨⟨fAddr (.tmp 1) 3⟩, (some 71), (some (67, true))⟩, ⟨⟨ldA ⟨ld1⟩ (.tmp 71)⟩, (some 72), (some (67, true))⟩, ⟨⟨binInt akEql (.tmp 72) (.const (.int .i64 0))⟩, (some 73), (some (67, true))⟩, ⟨⟨binEq ⟨eqBool⟩ false (.tmp 70) (.tmp 73)⟩, (some 74), (some (67, true))⟩, ⟨⟨pickA (.tmp 67) (.tmp 74) (.const (.bool false))⟩, (some 75), none⟩, ⟨lkMove (.tmp 75), (some 8), none⟩] (tl [(1, .ptr N 0), (3, .bool (isPgI m.page)), (4, .bool b4), (5, .bool b5), (6, .bool b6), (7, .bool b7)]) H2 = some (tl l') ∧ lsub [(1, .ptr N 0), (3, .bool (isPgI m.page)), (4, .bool b4), (5, .bool b5), (6, .bool b6), (7, .bool b7), (8, .bool b8)] l' := by
    by_cases c1 : m.count < 0
    · exact ⟨false, _, by simp; omega, by simp (disch := omega) [g1, r4, c1]; exact rfl, by simp⟩
    · by_cases c2 : 256 < m.count
      · exact ⟨false, _, by simp; omega, by simp (disch := omega) [g1, r4, c1, c2]; exact rfl, by simp⟩
      · by_cases c3 : m.count = 0
        · by_cases c4 : m.root = 0
          · exact ⟨true, _, by simp [c3, c4], by simp (disch := omega) [g1, r4, r3, c3, c4]; exact rfl, by simp⟩
          · exact ⟨false, _, by simp [c3, c4], by simp (disch := omega) [g1, r4, r3, c3, c4]; exact rfl, by simp⟩
        · by_cases c4 : m.root = 0
          · exact ⟨false, _, by simp [c3, c4], by simp (disch := omega) [g1, r4, r3, c1, c2, c3, c4]; exact rfl, by simp⟩
          · exact ⟨true, _, by simp [c3, c4]; omega, by simp (disch := omega) [g1, r4, r3, c1, c2, c3, c4]; exact rfl, by simp⟩
  refine WDO.looks1 tyOk extOk 18 (ls := [⟨⟨fAddr (.tmp 1) 4⟩, (some 59), none⟩, ⟨⟨ldA ⟨ld1⟩ (.tmp 59)⟩, (some 60), none⟩, ⟨⟨binInt akGeq (.tmp 60) (.const (.int .i64 0))⟩, (some 61), none⟩, ⟨lkMove (.tmp 61), (some 62), none⟩, ⟨⟨fAddr (.tmp 1) 4⟩, (some 63), (some (62, true))⟩, ⟨⟨ldA ⟨ld1⟩ (.tmp 63)⟩, (some 64), (some (62, true))⟩, ⟨⟨binInt akLeq (.tmp 64) (.const (.int .i64 256))⟩, (some 65), (some (62, true))⟩, ⟨⟨pickA (.tmp 62) (.tmp 65) (.const (.bool false))⟩, (some 66), none⟩, ⟨lkMove (.tmp 66), (some 67), none⟩, ⟨⟨fAddr (.tmp 1) 4⟩, (some 68), (some (67, true))⟩, ⟨⟨ldA ⟨ld1⟩ (.tmp 68)⟩, (some 69), (some (67, true))⟩, ⟨⟨binInt akEql (.tmp 69) (.const (.int .i64 0))⟩, (some 70), (some (67, true))⟩, ⟨⟨fAddr (.tmp 1) 3⟩, (some 71), (some (67, true))⟩, ⟨⟨ldA ⟨ld1⟩ (.tmp 71)⟩, (some 72), (some (67, true))⟩, ⟨⟨binInt akEql (.tmp 72) (.const (.int .i64 0))⟩, (some 73), (some (67, true))⟩, ⟨⟨binEq ⟨eqBool⟩ false (.tmp 70) (.tmp 73)⟩, (some 74), (some (67, true))⟩, ⟨⟨pickA (.tmp 67) (.tmp 74) (.const (.bool false))⟩, (some 75), none⟩, ⟨lkMove (.tmp 75), (some 8), none⟩]) (by kernel_rfl) hrun ?_
  refine WDO.nilS (WD.keep (WD.seqR ?_) hsub)
  clear hrun hsub l'
  obtain ⟨b9, l', hb9, hrun, hsub⟩ : ∃ (b9 : Bool) (l' : List (Nat × AV)), (b9 = true ↔ ((0 ≤ m.listed ∧ m.listed ≤ m.high - 2) ∧ (m.listed = 0 ∨ m.free ≠ 0))) ∧ runLk [⟨⟨fAddr (.tmp 1) 6⟩, (some 76), none⟩, ⟨⟨ldA ⟨ld1⟩ (.tmp 76)⟩, (some 77), none⟩, ⟨⟨binInt akGeq (.tmp 77) (.const (.int .i64 0))⟩, (some 78), none⟩, ⟨lkMove (.tmp 78), (some 79), none⟩, ⟨⟨fAddr (.tmp 1) 6⟩, (some 80), (some (79, true))⟩, ⟨⟨ldA ⟨ld1⟩ (.tmp 80)⟩, (some 81), (some (79, true))⟩, ⟨⟨fAddr (.tmp 1) 7⟩, (some 82), (some (79, true))⟩, ⟨⟨ldA ⟨ld1⟩ (.tmp 82)⟩, (some 83), (some (79, true))⟩, ⟨⟨binInt akSub (.tmp 83) (.const (.int .i64 2))⟩, (some 84), (some (79, true))⟩, ⟨⟨binInt akLeq (.tmp 81) (.tmp 84)⟩, (some 85), (some (79, true))⟩, ⟨⟨pickA (.tmp 79) (.tmp 85) (.const (.bool false))⟩, (some 86), none⟩, ⟨lkMove (.tmp 86), (some 87), none⟩, ⟨⟨fAddr (.tmp 1) 6⟩, (some 88), (some (87, true))⟩, ⟨⟨ldA ⟨ld1⟩ (.tmp 88)⟩, (some 89), (some (87, true))⟩, ⟨⟨binInt akEql (.tmp 89) (.const (.int .i64 0))⟩, (some 90), (some (87, true))⟩, ⟨lkMove (.tmp 90), (some 91), (some (87, true))⟩, ⟨⟨fAddr (.tmp 1) 5⟩, (some 92), (some (91, false))⟩, ⟨⟨ldA ⟨ld1⟩ (.tmp 92)⟩, (some 93), (some (91, false))⟩, ⟨⟨binInt akNeq (.tmp 93) (.const (.int .i64 0))⟩, (some 94), (some (91, false))⟩, ⟨⟨pickA (.tmp 91) (.const (.bool true)) (.tmp 94)⟩, (some 95), (some (87, true))⟩, ⟨⟨pickA (.tmp 87) (.tmp 95) (.const (.bool false))⟩, (some 96), none⟩, ⟨lkMove (.tmp 96), (some 9), none⟩] (tl [(1, .ptr N 0), (3, .bool (isPgI m.page)), (4, .bool b4), (5, .bool b5), (6, .bool b6), (7, .bool b7), (8, .bool b8)]) H2 = some (tl l') ∧ lsub [(1, .ptr N 0), (3, .bool (isPgI m.page)), (4, .bool b4), (5, .bool b5), (6, .bool b6), (7, .bool b7), (8, .bool b8), (9, .bool b9)] l' := by
    by_cases c1 : m.listed < 0
    · exact ⟨false, _, by simp; omega, by simp (disch := omega) [g1, r6, c1]; exact rfl, by simp⟩
    · by_cases c2 : m.high - 2 < m.listed
      · exact ⟨false, _, by simp; omega, by simp (disch := omega) [g1, r6, r7, c1, c2]; exact rfl, by simp⟩
      · by_cases c3 : m.listed = 0
        · have c2' : ¬ m.high - 2 < 0 := by omega
          exact ⟨true, _, by simp [c3]; omega, by simp (disch := omega) [g1, r6, r7, c2', c3]; exact rfl, by simp⟩
        · by_cases c4 : m.free = 0
          · exact ⟨false, _, by simp [c3, c4], by simp (disch := omega) [g1, r5, r6, r7, c1, c2, c3, c4]; exact rfl, by simp⟩
          · exact ⟨true, _, by simp [c3, c4]; omega, by simp (disch := omega) [g1, r5, r6, r7, c1, c2, c3, c4]; exact rfl, by simp⟩
  refine WDO.looks1 tyOk extOk 22 (ls := [⟨⟨fAddr (.tmp 1) 6⟩, (some 76), none⟩, ⟨⟨ldA ⟨ld1⟩ (.tmp 76)⟩, (some 77), none⟩, ⟨⟨binInt akGeq (.tmp 77) (.const (.int .i64 0))⟩, (some 78), none⟩, ⟨lkMove (.tmp 78), (some 79), none⟩, ⟨⟨fAddr (.tmp 1) 6⟩, (some 80), (some (79, true))⟩, ⟨⟨ldA ⟨ld1⟩ (.tmp 80)⟩, (some 81), (some (79, true))⟩, ⟨⟨fAddr (.tmp 1) 7⟩, (some 82), (some (79, true))⟩, ⟨⟨ldA ⟨ld1⟩ (.tmp 82)⟩, (some 83), (some (79, true))⟩, ⟨⟨binInt akSub (.tmp 83) (.const (.int .i64 2))⟩, (some 84), (some (79, true))⟩, ⟨⟨binInt akLeq (.tmp 81) (.tmp 84)⟩, (some 85), (some (79, true))⟩, ⟨⟨pickA (.tmp 79) (.tmp 85) (.const (.bool false))⟩, (some 86), none⟩, ⟨lkMove (.tmp 86), (some 87), none⟩, ⟨⟨fAddr (.tmp 1) 6⟩, (some 88), (some (87, true))⟩, ⟨⟨ldA ⟨ld1⟩ (.tmp 88)⟩, (some 89), (some (87, true))⟩, ⟨⟨binInt akEql (.tmp 89) (.const (.int .i64 0))⟩, (some 90), (some (87, true))⟩, ⟨lkMove (.tmp 90), (some 91), (some (87, true))⟩, ⟨⟨fAddr (.tmp 1) 5⟩, (some 92), (some (91, false))⟩, ⟨⟨ldA ⟨ld1⟩ (.tmp 92)⟩, (some 93), (some (91, false))⟩, ⟨⟨binInt akNeq (.tmp 93) (.const (.int .i64 0))⟩, (some 94), (some (91, false))⟩, ⟨⟨pickA (.tmp 91) (.const (.bool true)) (.tmp 94)⟩, (some 95), (some (87, true))⟩, ⟨⟨pickA (.tmp 87) (.tmp 95) (.const (.bool false))⟩, (some 96), none⟩, ⟨lkMove (.tmp 96), (some 9), none⟩]) (by kernel_rfl) hrun ?_
  refine WDO.nilS (WD.keep (WD.seq (WD.seqR ?_)) hsub)
  clear hrun hsub l'
  obtain ⟨bz, l', hbz, hrun, hsub⟩ : ∃ (bz : Bool) (l' : List (Nat × AV)), (bz = true ↔ ¬ okM m) ∧ runLk [⟨lkMove (.tmp 3), (some 97), none⟩, ⟨lkUn ukNot (.tmp 97), (some 98), none⟩, ⟨lkMove (.tmp 98), (some 99), none⟩, ⟨lkMove (.tmp 4), (some 100), (some (99, false))⟩, ⟨lkUn ukNot (.tmp 100), (some 101), (some (99, false))⟩, ⟨⟨pickA (.tmp 99) (.const (.bool true)) (.tmp 101)⟩, (some 102), none⟩, ⟨lkMove (.tmp 102), (some 103), none⟩, ⟨lkMove (.tmp 5), (some 104), (some (103, false))⟩, ⟨lkUn ukNot (.tmp 104), (some 105), (some (103, false))⟩, ⟨⟨pickA (.tmp 103) (.const (.bool true)) (.tmp 105)⟩, (some 106), none⟩, ⟨lkMove (.tmp 106), (some 107), none⟩, ⟨lkMove (.tmp 6), (some 108), (some (107, false))⟩, ⟨lkUn ukNot (.tmp 108), (some 109), (some (107, false))⟩, ⟨⟨pickA (.tmp 107) (.const (.bool true)) (.tmp 109)⟩, (some 110), none⟩, ⟨lkMove (.tmp 110), (some 111), none⟩, ⟨lkMove (.tmp 7), (some 112), (some (111, false))⟩, ⟨lkUn ukNot (.tmp 112), (some 113), (some (111, false))⟩, ⟨⟨pickA (.tmp 111) (.const (.bool true)) (.tmp 113)⟩, (some 114), none⟩, ⟨lkMove (.tmp 114), (some 115), none⟩, ⟨lkMove (.tmp 8), (some 116), (some (115, false))⟩, ⟨lkUn ukNot (.tmp 116), (some 117), (some (115, false))⟩, ⟨⟨pickA (.tmp 115) (.const (.bool true)) (.tmp 117)⟩, (some 118), none⟩, ⟨lkMove (.tmp 118), (some 119), none⟩, ⟨lkMove (.tmp 9), (some 120), (some (119, false))⟩, ⟨lkUn ukNot (.tmp 120), (some 121), (some (119, false))⟩, ⟨⟨pickA (.tmp 119) (.const (.bool true)) (.tmp 121)⟩, (some 122), none⟩, ⟨lkMove (.tmp 122), (some 123), none⟩, ⟨⟨fAddr (.tmp 1) 2⟩, (some 124), (some (123, false))⟩, ⟨⟨ldA ⟨ld1⟩ (.tmp 124)⟩, (some 125), (some (123, false))⟩, ⟨⟨binInt akLss (.tmp 125) (.const (.int .i64 0))⟩, (some 126), (some (123, false))⟩, ⟨⟨pickA (.tmp 123) (.const (.bool true)) (.tmp 126)⟩, (some 127), none⟩, ⟨lkMove (.tmp 127), (some 128), none⟩, ⟨⟨fAddr (.tmp 1) 2⟩, (some 129), (some (128, false))⟩, ⟨⟨ldA ⟨ld1⟩ (.tmp 129)⟩, (some 130), (some (128, false))⟩, ⟨⟨binInt akGtr (.tmp 130) (.const (.int .i64 1099511627776))⟩, (some 131), (some (128, false))⟩, ⟨⟨pickA (.tmp 128) (.const (.bool true)) (.tmp 131)⟩, (some 132), none⟩, ⟨lkMove (.tmp 132), (some 133), none⟩, ⟨⟨fAddr (.tmp 1) 3⟩, (some 134), (some (133, false))⟩, ⟨⟨ldA ⟨ld1⟩ (.tmp 134)⟩, (some 135), (some (133, false))⟩, ⟨⟨fAddr (.tmp 1) 5⟩, (some 136), (some (133, false))⟩, ⟨⟨ldA ⟨ld1⟩ (.tmp 136)⟩, (some 137), (some (133, false))⟩, ⟨⟨binInt akEql (.tmp 135) (.tmp 137)⟩, (some 138), (some (133, false))⟩, ⟨lkMove (.tmp 138), (some 139), (some (133, false))⟩, ⟨⟨fAddr (.tmp 1) 3⟩, (some 140), (some (139, true))⟩, ⟨⟨ldA ⟨ld1⟩ (.tmp 140)⟩, (some 141), (some (139, true))⟩, ⟨⟨binInt akNeq (.tmp 141) (.const (.int .i64 0))⟩, (some 142), (some (139, true))⟩, ⟨⟨pickA (.tmp 139) (.tmp 142) (.const (.bool false))⟩, (some 143), (some (133, false))⟩, ⟨⟨pickA (.tmp 133) (.const (.bool true)) (.tmp 143)⟩, (some 144), none⟩] (tl [(1, .ptr N 0), (3, .bool (isPgI m.page)), (4, .bool b4), (5, .bool b5), (6, .bool b6), (7, .bool b7), (8, .bool b8), (9, .bool b9)]) H2 = some (tl l') ∧ lsub [(144, .bool bz)] l' := by
    have hok : okM m ↔ (b4 = true ∧ isPgI m.page = true ∧ (0 ≤ m.txn ∧ m.txn ≤ 1099511627776) ∧ b5 = true ∧ b6 = true ∧ b7 = true ∧ ¬ (m.root = m.free ∧ m.root ≠ 0) ∧ b8 = true ∧ b9 = true) := by
      rw [hb4, hb5, hb6, hb7, hb8, hb9]
      unfold okM
      exact ⟨fun ⟨p1, p2, p3, p4, p5, p6, p7, p8, p9, p10, p11⟩ => ⟨p1, p2, p3, p4, p5, p6, p7, ⟨p8, p9⟩, p10, p11⟩, fun ⟨p1, p2, p3, p4, p5, p6, p7, ⟨p8, p9⟩, p10, p11⟩ => ⟨p1, p2, p3, p4, p5, p6, p7, p8, p9, p10, p11⟩⟩
    generalize isPgI m.page = b3 at hok ⊢
    rw [hok]
    clear hok hb4 hb5 hb6 hb7 hb8 hb9
    cases b3
    · exact ⟨true, _, by simp, by simp (disch := omega) []; exact rfl, by simp⟩
    cases b4
    · exact ⟨true, _, by simp, by simp (disch := omega) []; exact rfl, by simp⟩
    cases b5
    · exact ⟨true, _, by simp, by simp (disch := omega) []; exact rfl, by simp⟩
    cases b6
    · exact ⟨true, _, by simp, by simp (disch := omega) []; exact rfl, by simp⟩
    cases b7
    · exact ⟨true, _, by simp, by simp (disch := omega) []; exact rfl, by simp⟩
    cases b8
    · exact ⟨true, _, by simp, by simp (disch := omega) []; exact rfl, by simp⟩
    cases b9
    · exact ⟨true, _, by simp, by simp (disch := omega) []; exact rfl, by simp⟩
    by_cases c1 : m.txn < 0
    · exact ⟨true, _, by simp; omega, by simp (disch := omega) [g1, r2, c1]; exact rfl, by simp⟩
    by_cases c2 : 1099511627776 < m.txn
    · exact ⟨true, _, by simp; omega, by simp (disch := omega) [g1, r2, c1, c2]; exact rfl, by simp⟩
    by_cases c3 : m.root = m.free
    · by_cases c4 : m.free = 0
      · exact ⟨false, _, by simp [c3, c4]; omega, by simp (disch := omega) [g1, r2, r3, r5, c1, c2, c3, c4]; exact rfl, by simp⟩
      · exact ⟨true, _, by simp [c3, c4], by simp (disch := omega) [g1, r2, r3, r5, c1, c2, c3, c4]; exact rfl, by simp⟩
    · exact ⟨false, _, by simp [c3]; omega, by simp (disch := omega) [g1, r2, r3, r5, c1, c2, c3]; exact rfl, by simp⟩
  refine WDO.looks1 tyOk extOk 48 (ls := [⟨lkMove (.tmp 3), (some 97), none⟩, ⟨lkUn ukNot (.tmp 97), (some 98), none⟩, ⟨lkMove (.tmp 98), (some 99), none⟩, ⟨lkMove (.tmp 4), (some 100), (some (99, false))⟩, ⟨lkUn ukNot (.tmp 100), (some 101), (some (99, false))⟩, ⟨⟨pickA (.tmp 99) (.const (.bool true)) (.tmp 101)⟩, (some 102), none⟩, ⟨lkMove (.tmp 102), (some 103), none⟩, ⟨lkMove (.tmp 5), (some 104), (some (103, false))⟩, ⟨lkUn ukNot (.tmp 104), (some 105), (some (103, false))⟩, ⟨⟨pickA (.tmp 103) (.const (.bool true)) (.tmp 105)⟩, (some 106), none⟩, ⟨lkMove (.tmp 106), (some 107), none⟩, ⟨lkMove (.tmp 6), (some 108), (some (107, false))⟩, ⟨lkUn ukNot (.tmp 108), (some 109), (some (107, false))⟩, ⟨⟨pickA (.tmp 107) (.const (.bool true)) (.tmp 109)⟩, (some 110), none⟩, ⟨lkMove (.tmp 110), (some 111), none⟩, ⟨lkMove (.tmp 7), (some 112), (some (111, false))⟩, ⟨lkUn ukNot (.tmp 112), (some 113), (some (111, false))⟩, ⟨⟨pickA (.tmp 111) (.const (.bool true)) (.tmp 113)⟩, (some 114), none⟩, ⟨lkMove (.tmp 114), (some 115), none⟩, ⟨lkMove (.tmp 8), (some 116), (some (115, false))⟩, ⟨lkUn ukNot (.tmp 116), (some 117), (some (115, false))⟩, ⟨⟨pickA (.tmp 115) (.const (.bool true)) (.tmp 117)⟩, (some 118), none⟩, ⟨lkMove (.tmp 118), (some 119), none⟩, ⟨lkMove (.tmp 9), (some 120), (some (119, false))⟩, ⟨lkUn ukNot (.tmp 120), (some 121), (some (119, false))⟩, ⟨⟨pickA (.tmp 119) (.const (.bool true)) (.tmp 121)⟩, (some 122), none⟩, ⟨lkMove (.tmp 122), (some 123), none⟩, ⟨⟨fAddr (.tmp 1) 2⟩, (some 124), (some (123, false))⟩, ⟨⟨ldA ⟨ld1⟩ (.tmp 124)⟩, (some 125), (some (123, false))⟩, ⟨⟨binInt akLss (.tmp 125) (.const (.int .i64 0))⟩, (some 126), (some (123, false))⟩, ⟨⟨pickA (.tmp 123) (.const (.bool true)) (.tmp 126)⟩, (some 127), none⟩, ⟨lkMove (.tmp 127), (some 128), none⟩, ⟨⟨fAddr (.tmp 1) 2⟩, (some 129), (some (128, false))⟩, ⟨⟨ldA ⟨ld1⟩ (.tmp 129)⟩, (some 130), (some (128, false))⟩, ⟨⟨binInt akGtr (.tmp 130) (.const (.int .i64 1099511627776))⟩, (some 131), (some (128, false))⟩, ⟨⟨pickA (.tmp 128) (.const (.bool true)) (.tmp 131)⟩, (some 132), none⟩, ⟨lkMove (.tmp 132), (some 133), none⟩, ⟨⟨fAddr (.tmp 1) 3⟩, (some 134), (some (133, false))⟩, ⟨⟨ldA ⟨ld1⟩ (.tmp 134)⟩, (some 135), (some (133, false))⟩, ⟨⟨fAddr (.tmp 1) 5⟩, (some 136), (some (133, false))⟩, ⟨⟨ldA ⟨ld1⟩ (.tmp 136)⟩, (some 137), (some (133, false))⟩, ⟨⟨binInt akEql (.tmp 135) (.tmp 137)⟩, (some 138), (some (133, false))⟩, ⟨lkMove (.tmp 138), (some 139), (some (133, false))⟩, ⟨⟨fAddr (.tmp 1) 3⟩, (some 140), (some (139, true))⟩, ⟨⟨ldA ⟨ld1⟩ (.tmp 140)⟩, (some 141), (some (139, true))⟩, ⟨⟨binInt akNeq (.tmp 141) (.const (.int .i64 0))⟩, (some 142), (some (139, true))⟩, ⟨⟨pickA (.tmp 139) (.tmp 142) (.const (.bool false))⟩, (some 143), (some (133, false))⟩, ⟨⟨pickA (.tmp 133) (.const (.bool true)) (.tmp 143)⟩, (some 144), none⟩]) (by kernel_rfl) hrun ?_
  refine WDO.nilS (WD.keep (l := [(144, .bool bz)]) (WD.cond (t := bz) (by simp) (fun ht => WD.seqR ?_) fun ht => WD.skip (.inl rfl) (WD.seqR ?_)) hsub)
  · refine WDO.looks1 tyOk extOk 1 (ls := [⟨lkMove (.const (.int .i64 1)), (some 2), none⟩]) (by kernel_rfl) (by simp (disch := omega) []; exact rfl) ?_
    exact WDO.nilS (WD.ret (endR _ (by simp; rfl) ⟨fun h => absurd h (hbz.1 ht), fun _ => rfl, hk1⟩))
  · refine WDO.looks1 tyOk extOk 1 (ls := [⟨lkMove (.const (.int .i64 0)), (some 2), none⟩]) (by kernel_rfl) (by simp (disch := omega) []; exact rfl) ?_
    exact WDO.nilS (WD.ret (endR _ (by simp; rfl) ⟨fun _ => rfl, fun h => (by rw [hbz.2 h] at ht; cases ht), hk1⟩))
end
end Go.Proofs.YtcfpppleiikjhaaGreatDoor
namespace Go.Proofs.YtcfpppleiikjhaaGreatDoor
open Go.Xq
noncomputable section
theorem byteI_int (n : Int) : ((byteI n).toNat : Int) = n % 256 := by
  unfold byteI
  rw [UInt8.toNat_ofNat']
  omega
theorem boxM {H : AH} {m : Mt} {T : Tr AV} (hT : opnd (.tmp 0) T = some (mA m)) : ∃ o, frBox ⟨mkCs 75 8 zMt⟩ (.tmp 0) T H.next = some (.ptr H.next 0, o) ∧ RdM (H.new o) H.next m ∧ Keep noB H (H.new o) := by
  obtain ⟨o1, e1, b1⟩ := frBox_el (enc := encMt) (e := 75) (z := zMt) encMt_len (x := .tmp 0) (T := T) (b0 := H.next) (a := m) hT
  exact ⟨o1, e1, ⟨o1, get_new_same _ _, b1⟩, Keep.new _ _ _⟩
def restM (m : Mt) : List Int := [m.root, m.count, m.free, m.listed, m.high]
def encI (n : Int) : List AV := [.int .i64 n]
theorem encI_len (n : Int) : (encI n).length = 1 := rfl
def headM0 (m : Mt) : List UInt8 := [1, byteI m.engine, 0, 0, 69, 83, 80, 76] ++ fixedL (u64 m.page) 4 ++ fixedL (u64 m.txn) 8
theorem headM_rest (m : Mt) : headM m = headM0 m ++ (restM m).flatMap fun n => fixedL (u64 n) 4 := by
  simp [headM, headM0, restM]
theorem flat4_len (l : List Int) : (l.flatMap fun n => fixedL (u64 n) 4).length = l.length * 4 := by
  induction l with
  | nil => rfl
  | cons x r ih => rw [List.flatMap_cons, List.length_append, ih, fixedL_len, List.length_cons]; omega
theorem sumL_lt (l : List UInt8) : sumL l < 4294967296 := by
  rw [sumL, sumN_reg]
  exact xor_lt32 (regN_lt l (by omega)) (by omega)
set_option maxRecDepth 20000 in
set_option maxHeartbeats 4000000 in
theorem encode05_ok {H : AH} {m : Mt} (hh : -9223372036854775806 ≤ m.high) (hh2 : m.high < 9223372036854775808) :
    DC Tryz.prog .normal 84 (.cons (mA m) .nil) H fun v' H2 => (okM m → ∃ v, v' = .tup (.cons v (.cons (.int .i64 0) .nil)) ∧ OwnB 5 H2 H.next v (encM m)) ∧ (¬ okM m → v' = .tup (.cons .snil (.cons (.int .i64 1) .nil))) ∧ Keep noB H H2 := by
  refine DC.of_wd (re := reTmp 2 (reTmp 3 reNil)) tyOk Tryz.func84 (by kernel_rfl) rfl (by kernel_rfl) (by kernel_rfl) ?_
  rw [tl_nil, argsT_cons, argsT_nil]
  refine WD.seqR ?_
  obtain ⟨o1, e1, hrd, hk1⟩ := boxM (H := H) (m := m) (T := tl [(0, mA m)]) (by simp)
  refine WDO.fresh1 tyOk (k := ⟨frBox ⟨mkCs 75 8 (.cons (.int .i64 0) (.cons (.int .i64 0) (.cons (.int .i64 0) (.cons (.int .i64 0) (.cons (.int .i64 0) (.cons (.int .i64 0) (.cons (.int .i64 0) (.cons (.int .i64 0) .nil))))))))⟩ (.tmp 0)⟩) (by kernel_rfl) rfl (by kernel_rfl) e1 ?_
  have hN : H.next < (H.new o1).next := by simp
  have hNk : H.next ≤ H.next := Nat.le_refl _
  generalize H.new o1 = H1 at hrd hk1 hN ⊢
  generalize hNN : H.next = N at hrd hN hNk ⊢
  obtain ⟨o, g1, r0, r1, r2, r3, r4, r5, r6, r7, rc⟩ := hrd.all
  refine lkD 2 [⟨lkMove (.const (.slice none 0 0)), (some 2), none⟩, ⟨lkMove (.const (.int .i64 0)), (some 3), none⟩] (by simp (disch := omega) []; exact rfl) ?_
  refine WDO.nilS (WD.seqR ?_)
  refine lkD 1 [⟨⟨ldA ⟨ldN 8⟩ (.tmp 1)⟩, (some 9), none⟩] (by simp (disch := omega) [g1, rc]; exact rfl) ?_
  refine WDO.callF (g := 126) rfl rfl rfl (by kernel_rfl) (l := .cons (mA m) .nil) (by simp [mA]) (check05_ok hh hh2) fun u H2 ⟨hu1, hu2, k2⟩ => ?_
  have kk2 := hk1.trans k2
  have g2 := k2.get hN id g1
  have hn2 := k2.1
  by_cases hok : okM m
  · have hu := hu1 hok
    subst hu
    have hpg := pgI_cases hok.2.1
    refine lkD 1 [xM 10 4] (by simp (disch := omega) []; exact rfl) ?_
    refine WDO.nilS (WD.seq (WD.seqR ?_))
    refine lkD 2 [xM 4 11, xC akNeq 11 0 12] (by simp (disch := omega) []; exact rfl) ?_
    refine WDO.nilS (WD.cond (t := false) (by simp) (by simp) fun _ => WD.skip (.inl rfl) (WD.seqR ?_))
    have hby := byteI_int m.engine
    have hhd : headM0 m = [1, byteI m.engine, 0, 0, 69, 83, 80, 76] ++ fixedL (u64 m.page) 4 ++ fixedL (u64 m.txn) 8 := rfl
    generalize byteI m.engine = y at hby hhd
    refine lkD 3 [xF 1 0 14, xL 14 15, ⟨⟨cvInt .u8 (.tmp 15)⟩, (some 16), none⟩] (by simp (disch := omega) [g2, r0, hby.symm]; exact rfl) ?_
    refine WDO.fresh1 tyOk (k := ⟨frSlice 8 (zerosA (.cons (.int .u8 0) .nil) 8) ⟨fill1 (.const (.int .u8 1)) 0 1 ⟨fill1 (.tmp 16) 1 1 ⟨fill1 (.const (.int .u8 0)) 2 1 ⟨fill1 (.const (.int .u8 0)) 3 1 ⟨fill1 (.const (.int .u8 69)) 4 1 ⟨fill1 (.const (.int .u8 83)) 5 1 ⟨fill1 (.const (.int .u8 80)) 6 1 ⟨fill1 (.const (.int .u8 76)) 7 1 flEnd⟩⟩⟩⟩⟩⟩⟩⟩ ⟨mkBy 5⟩⟩) (by kernel_rfl) rfl (by kernel_rfl) (v := .sl H2.next 0 8 (some 8)) (x := bb 5 false [1, y, 0, 0, 69, 83, 80, 76]) ?_ ?_
    · dsimp only
      have := leA_bytes [1, y, 0, 0, 69, 83, 80, 76]
      simp only [List.map_cons, List.map_nil, avl_cons, avl_nil] at this
      simp at this
      simp [mkBy, this, bb]
    have k3 : Keep noB H2 (H2.new (bb 5 false [1, y, 0, 0, 69, 83, 80, 76])) := Keep.new _ _ _
    have hs3 : RdS (H2.new (bb 5 false [1, y, 0, 0, 69, 83, 80, 76])) (.sl H2.next 0 8 (some 8)) [1, y, 0, 0, 69, 83, 80, 76] := .bb' rfl (by simp) (get_new_same _ _)
    generalize hH3 : H2.new (bb 5 false [1, y, 0, 0, 69, 83, 80, 76]) = H3 at k3 hs3 ⊢
    generalize H2.next = B0 at hs3 ⊢
    have g3 := k3.get (by omega) id g2
    have hn3 := k3.1
    refine lkD 1 [xM 17 5] (by simp (disch := omega) []; exact rfl) ?_
    refine WDO.nilS (WD.seqR ?_)
    have c1 := mkInt_cv m.page
    have c1l := u64_lt m.page
    refine lkD 4 [xM 5 18, xF 1 1 19, xL 19 20, ⟨⟨cvInt .u64 (.tmp 20)⟩, (some 21), none⟩] (by simp (disch := omega) [g3, r1, c1]; exact rfl) ?_
    refine WDO.callF (g := 127) rfl rfl rfl (by kernel_rfl) (l := .cons (.int .u64 ((u64 m.page : Nat) : Int)) (.cons (.int .i64 4) .nil)) (by simp) (fixed01_ok c1l (w := 4) (by omega) (by omega)) fun f1 H4 ⟨hf1, k4⟩ => ?_
    have hn4 := k4.1
    obtain ⟨v1, H5, a1, a2, a3, a4⟩ := appB_first (e := 5) (lo := N + 1) (hs3.keep k4 fun _ _ => id) rfl hf1.rd (by intro e; have := congrArg List.length e; rw [fixedL_len] at this; cases this) (by omega) (by rw [fixedL_len]; omega)
    refine WDO.heavy1 tyOk extOk (k := ⟨hvAppend ⟨grownBy 5⟩ 1 (.tmp 18) (.tmp 22)⟩) (by kernel_rfl) rfl (by kernel_rfl) (by simp; exact a1) ?_
    refine lkD 1 [xM 23 5] (by simp (disch := omega) []; exact rfl) ?_
    have kk5 := ((kk2.trans k3).trans k4).trans a3
    have g5 := a3.get (by omega) id (k4.get (by omega) id g3)
    have hn5 := a3.1
    refine WDO.nilS (WD.seqR ?_)
    have c2 := mkInt_cv m.txn
    have c2l := u64_lt m.txn
    refine lkD 4 [xM 5 24, xF 1 2 25, xL 25 26, ⟨⟨cvInt .u64 (.tmp 26)⟩, (some 27), none⟩] (by simp (disch := omega) [g5, r2, c2]; exact rfl) ?_
    refine WDO.callF (g := 127) rfl rfl rfl (by kernel_rfl) (l := .cons (.int .u64 ((u64 m.txn : Nat) : Int)) (.cons (.int .i64 8) .nil)) (by simp) (fixed01_ok c2l (w := 8) (by omega) (by omega)) fun f2 H6 ⟨hf2, k6⟩ => ?_
    have hn6 := k6.1
    have a26 := a2.keep k6 fun _ _ => id
    obtain ⟨v2, H7, b1, b2, b3, b4⟩ := a26.app (by omega) hf2.rd (by simp [fixedL_len])
    refine WDO.heavy1 tyOk extOk (k := ⟨hvAppend ⟨grownBy 5⟩ 1 (.tmp 24) (.tmp 28)⟩) (by kernel_rfl) rfl (by kernel_rfl) (by simp; exact b1) ?_
    refine lkD 1 [xM 29 5] (by simp (disch := omega) []; exact rfl) ?_
    have hn7 := b3.1
    have kk7 := (kk5.trans k6).trans' b3 fun b hb e => absurd (a26.low e).1 (by omega)
    have g7 := b3.get (by omega) (fun e => absurd (a26.low e).1 (by omega)) (k6.get (by omega) id g5)
    refine WDO.nilS (WD.seqR ?_)
    refine lkD 10 [xF 1 3 30, xL 30 31, xF 1 4 32, xL 32 33, xF 1 5 34, xL 34 35, xF 1 6 36, xL 36 37, xF 1 7 38, xL 38 39] (by simp (disch := omega) [g7, r3, r4, r5, r6, r7]; exact rfl) ?_
    obtain ⟨o5, e5, el5⟩ := ElB.new (enc := encI) (e := 3) (es := 1) (op := false) (z := .cons (.int .i64 0) .nil) encI_len (restM m)
    refine WDO.fresh1 tyOk (k := ⟨frSlice 5 (zerosA (.cons (.int .i64 0) .nil) 5) ⟨fill1 (.tmp 31) 0 1 ⟨fill1 (.tmp 33) 1 1 ⟨fill1 (.tmp 35) 2 1 ⟨fill1 (.tmp 37) 3 1 ⟨fill1 (.tmp 39) 4 1 flEnd⟩⟩⟩⟩⟩ ⟨mkCs 3 1 (.cons (.int .i64 0) .nil)⟩⟩) (by kernel_rfl) rfl (by kernel_rfl) (v := .sl H7.next 0 5 (some 5)) (x := o5) ?_ ?_
    · dsimp only
      simp [restM, encI] at e5
      simp [e5]
    have k8 : Keep noB H7 (H7.new o5) := Keep.new _ _ _
    have g85 : (H7.new o5).get H7.next = some o5 := get_new_same _ _
    have hv2b : ∀ b, blk v2 = some b → b < H7.next := fun b e => (b2.low e).2
    have b28 := b2.keep k8 fun _ _ => id
    have g8 := k8.get (by omega) id g7
    have hn8 := k8.1
    have hh8 : H7.next < (H7.new o5).next := by simp
    have kk8 := kk7.trans k8
    generalize H7.new o5 = H8 at k8 g85 b28 g8 hn8 hh8 kk8 ⊢
    generalize H7.next = N6 at *
    rw [← hhd] at b28
    refine lkD 1 [xM 40 6] (by simp (disch := omega) []; exact rfl) ?_
    refine WDO.nilS (WD.seq (WD.seqR ?_))
    refine lkD 1 [⟨lkMove (.const (.int .i64 0)), (some 7), none⟩] (by simp (disch := omega) []; exact rfl) ?_
    refine WDO.nilS (WD.forE (σ := Nat × AV) (fun s => [(1, .ptr N 0), (5, s.2), (6, .sl N6 0 5 (some 5)), (7, .int .i64 (s.1 : Int))])
      (fun s H' => s.1 ≤ 5 ∧ OwnB 5 H' (N + 1) s.2 (headM0 m ++ ((restM m).take s.1).flatMap fun n => fixedL (u64 n) 4) ∧ (∀ b, blk s.2 = some b → b ≠ N6) ∧ H'.get N = some o ∧ H'.get N6 = some o5 ∧ H8.next ≤ H'.next ∧ Keep noB H H') (fun s => 5 - s.1) (0, v2)
      ⟨by omega, by simpa using b28, fun b e => by have := hv2b b e; omega, g8, g85, Nat.le_refl _, kk8⟩ (by simp) ?_)
    rintro ⟨i, cur⟩ H' ⟨hi, hcu, hne, gN, gN6, hnx, kk'⟩
    simp only at hi hcu hne
    refine lkD 4 [xM 7 41, xM 6 42, xN 42 43, xB akLss 41 43 44] (by simp (disch := omega) []; exact rfl) ?_
    refine WDO.nil ⟨decide ((i : Int) < 5), _, rfl, by simp, fun hc => ?_, fun hc => ?_⟩
    · have hc : i = 5 := by have := of_decide_eq_false hc; omega
      subst hc
      rw [List.take_of_length_le (by simp [restM]), ← headM_rest] at hcu
      have hpn : (m.page.toNat : Int) = m.page := by omega
      refine WD.seq (WD.keep (l := [(1, .ptr N 0), (5, cur)]) ?_ (by simp))
      refine WD.forW (σ := Nat × AV) (fun s => [(1, .ptr N 0), (5, s.2)])
        (fun s H'' => s.1 ≤ m.page.toNat - 44 ∧ OwnB 5 H'' (N + 1) s.2 (headM m ++ List.replicate s.1 0) ∧ H''.get N = some o ∧ H'.next ≤ H''.next ∧ Keep noB H H'') (fun s => m.page.toNat - 44 - s.1) (0, cur)
        ⟨by omega, by simpa using hcu, gN, Nat.le_refl _, kk'⟩ (by simp) ?_
      rintro ⟨j, cur2⟩ H'' ⟨hj, hcu2, gN2, hnx2, kk2'⟩
      simp only at hj hcu2
      have hl2 := hcu2.rd.len
      have hml := headM_len m
      simp only [List.length_append, List.length_replicate, hml] at hl2
      have hcs : ((40 + j : Nat) : Int) = 40 + (j : Int) := by omega
      have r1' := r1
      rw [← hpn] at r1'
      generalize hP : m.page.toNat = Pg at *
      refine lkD 6 [xM 5 55, xN 55 56, xF 1 1 57, xL 57 58, xC akSub 58 4 59, xB akLss 56 59 60] (by simp (disch := omega) [hl2, gN2, r1', hcs]; exact rfl) ?_
      refine WDO.nil ⟨decide ((40 : Int) + (j : Int) < (Pg : Int) - 4), _, rfl, by simp, fun hc => ?_, fun hc => ?_⟩
      · have hc : j = Pg - 44 := by have := of_decide_eq_false hc; omega
        subst hc
        have hbd : headM m ++ List.replicate (Pg - 44) 0 = bodyM m := by rw [bodyM, hP]
        rw [hbd] at hcu2
        have hbl := bodyM_len hok
        rw [hP] at hbl
        refine WD.seqR ?_
        refine lkD 1 [xM 5 64] (by simp (disch := omega) []; exact rfl) ?_
        refine WDO.callF (g := 128) rfl rfl rfl (by kernel_rfl) (l := .cons cur2 .nil) (by simp) (sumOf_ok hcu2.rd (by omega)) fun u H11 ⟨hu, hH⟩ => ?_
        subst hu
        subst hH
        refine lkD 1 [xM 65 8] (by simp (disch := omega) []; exact rfl) ?_
        have hsl : sumL (bodyM m) < 4294967296 := sumL_lt _
        have henc : encM m = bodyM m ++ fixedL (sumL (bodyM m)) 4 := rfl
        generalize sumL (bodyM m) = sv at hsl henc ⊢
        have c4 : mkInt .u64 (sv : Int) = some (.int .u64 (sv : Int)) := mkInt_u64n (by omega)
        refine WDO.nilS (WD.seqR ?_)
        refine lkD 3 [xM 5 66, xM 8 67, ⟨⟨cvInt .u64 (.tmp 67)⟩, (some 68), none⟩] (by simp (disch := omega) [c4]; exact rfl) ?_
        refine WDO.callF (g := 127) rfl rfl rfl (by kernel_rfl) (l := .cons (.int .u64 (sv : Int)) (.cons (.int .i64 4) .nil)) (by simp) (fixed01_ok (n := sv) (by omega) (w := 4) (by omega) (by omega)) fun f4 H12 ⟨hf4, k12⟩ => ?_
        have hn12 := k12.1
        have hcu12 := hcu2.keep k12 fun _ _ => id
        obtain ⟨v4, H13, d1, d2, d3, d4⟩ := hcu12.app (by omega) hf4.rd (by rw [fixedL_len]; omega)
        refine WDO.heavy1 tyOk extOk (k := ⟨hvAppend ⟨grownBy 5⟩ 1 (.tmp 66) (.tmp 69)⟩) (by kernel_rfl) rfl (by kernel_rfl) (by simp; exact d1) ?_
        refine lkD 2 [xM 70 2, ⟨lkMove (.const (.int .i64 0)), (some 3), none⟩] (by simp (disch := omega) []; exact rfl) ?_
        refine WDO.nilS (WD.ret (endR _ (by simp; rfl) ⟨fun _ => ⟨v4, rfl, ?_⟩, fun h => absurd hok h, (kk2'.trans k12).trans' d3 fun b hb e => absurd (hcu12.low e).1 (by omega)⟩))
        rw [henc]
        rcases d2 with d2 | ⟨b, q1, q2, q3, q4⟩
        · exact .inl d2
        · exact .inr ⟨b, q1, q2, by omega, q4⟩
      · have hc : j < Pg - 44 := by have := of_decide_eq_true hc; omega
        refine WD.region ?_
        refine lkD 1 [xM 5 61] (by simp (disch := omega) []; exact rfl) ?_
        refine WDO.fresh1 tyOk (k := ⟨frSlice 1 (zerosA (.cons (.int .u8 0) .nil) 1) ⟨fill1 (.const (.int .u8 0)) 0 1 flEnd⟩ ⟨mkBy 5⟩⟩) (by kernel_rfl) rfl (by kernel_rfl) (v := .sl H''.next 0 1 (some 1)) (x := bb 5 false [0]) ?_ ?_
        · dsimp only
          have := leA_bytes [0]
          simp only [List.map_cons, List.map_nil, avl_cons, avl_nil] at this
          simp at this
          simp [mkBy, this, bb]
        have kn : Keep noB H'' (H''.new (bb 5 false [0])) := Keep.new _ _ _
        have ho2 := hcu2.keep kn fun _ _ => id
        obtain ⟨v', H14, d1, d2, d3, d4⟩ := ho2.app (l := [0]) (x := .sl H''.next 0 1 (some 1)) (by simp; omega) (.bb' rfl (by simp) (get_new_same _ _)) (by simp [hml]; omega)
        refine WDO.heavy1 tyOk extOk (k := ⟨hvAppend ⟨grownBy 5⟩ 1 (.tmp 61) (.tmp 62)⟩) (by kernel_rfl) rfl (by kernel_rfl) (by simp; exact d1) ?_
        refine lkD 1 [xM 63 5] (by simp (disch := omega) []; exact rfl) ?_
        have hn14 := d3.1
        simp at hn14
        refine WDO.nil ⟨rfl, (j + 1, v'), _, rfl, by simp, ⟨by first | omega | (simp only; omega), ?_, d3.get (by simp; omega) (fun e => absurd (ho2.low e).1 (by omega)) (kn.get (by omega) id gN2), by omega, (kk2'.trans kn).trans' d3 fun b hb e => absurd (ho2.low e).1 (by omega)⟩, by first | omega | (simp only; omega)⟩
        simp only
        rw [List.replicate_succ', ← List.append_assoc]
        exact d2
    · have hc : i < 5 := by have := of_decide_eq_true hc; omega
      have hx : (restM m)[i]? = some ((restM m)[i]'(by simpa [restM] using hc)) := List.getElem?_eq_getElem _
      generalize (restM m)[i]'_ = z at hx
      have hcell := el5.cell (k := i) (a := z) (j := 0) hx rfl
      rw [Nat.mul_one, Nat.add_zero] at hcell
      have c3 := mkInt_cv z
      have c3l := u64_lt z
      refine WD.region ?_
      refine lkD 6 [xM 5 47, xM 6 48, xM 7 49, xI 1 48 49 50, xL 50 51, ⟨⟨cvInt .u64 (.tmp 51)⟩, (some 52), none⟩] (by simp (disch := omega) [gN6, hcell, hc, c3]; exact rfl) ?_
      refine WDO.callF (g := 127) rfl rfl rfl (by kernel_rfl) (l := .cons (.int .u64 ((u64 z : Nat) : Int)) (.cons (.int .i64 4) .nil)) (by simp) (fixed01_ok c3l (w := 4) (by omega) (by omega)) fun f3 H9 ⟨hf3, k9⟩ => ?_
      have hn9 := k9.1
      have hcu9 := hcu.keep k9 fun _ _ => id
      have hfl : (((restM m).take i).flatMap fun n => fixedL (u64 n) 4).length = ((restM m).take i).length * 4 := flat4_len _
      have hfl2 : ((restM m).take i).length ≤ 5 := by rw [List.length_take]; omega
      have hfl3 : (headM0 m).length = 20 := by simp [headM0, fixedL_len]
      obtain ⟨v3, H10, d1, d2, d3, d4⟩ := hcu9.app (by omega) hf3.rd (by rw [List.length_append, hfl, fixedL_len]; omega)
      refine WDO.heavy1 tyOk extOk (k := ⟨hvAppend ⟨grownBy 5⟩ 1 (.tmp 47) (.tmp 53)⟩) (by kernel_rfl) rfl (by kernel_rfl) (by simp; exact d1) ?_
      refine lkD 1 [xM 54 5] (by simp (disch := omega) []; exact rfl) ?_
      refine WDO.nil ?_
      refine lkD 3 [xM 7 45, xC akAdd 45 1 46, xM 46 7] (by simp (disch := omega) []; exact rfl) ?_
      have hn10 := d3.1
      refine WDO.nil ⟨rfl, (i + 1, v3), _, rfl, by simp, ⟨by first | omega | (simp only; omega), ?_, fun b e => ?_, d3.get (by omega) (fun e => absurd (hcu9.low e).1 (by omega)) (k9.get (by omega) id gN), d3.get (by omega) (fun e => hne _ e rfl) (k9.get (by omega) id gN6), by omega, (kk'.trans k9).trans' d3 fun b hb e => absurd (hcu9.low e).1 (by omega)⟩, by first | omega | (simp only; omega)⟩
      · simp only
        rw [List.take_add_one, hx, List.flatMap_append, ← List.append_assoc]
        simpa using d2
      · rcases d4 b e with e2 | e2
        · exact hne b e2
        · omega
  · have hu := hu2 hok
    subst hu
    refine lkD 1 [xM 10 4] (by simp (disch := omega) []; exact rfl) ?_
    refine WDO.nilS (WD.seq (WD.seqR ?_))
    refine lkD 2 [xM 4 11, xC akNeq 11 0 12] (by simp (disch := omega) []; exact rfl) ?_
    refine WDO.nilS (WD.cond (t := true) (by simp) (fun _ => WD.seqR ?_) (by simp))
    refine lkD 3 [xM 4 13, ⟨lkMove (.const (.slice none 0 0)), (some 2), none⟩, xM 13 3] (by simp (disch := omega) []; exact rfl) ?_
    exact WDO.nilS (WD.ret (endR _ (by simp; rfl) ⟨fun h => absurd h hok, fun _ => rfl, kk2⟩))
end
end Go.Proofs.YtcfpppleiikjhaaGreatDoor
namespace Go.Proofs.YtcfpppleiikjhaaGreatDoor
open Go.Xq
noncomputable section
@[simp] theorem natOf_one : natOf (.int .i64 1) = some 1 := rfl
@[simp] theorem natOf_four : natOf (.int .i64 4) = some 4 := rfl
@[simp] theorem natOf_twelve : natOf (.int .i64 12) = some 12 := rfl
theorem extFree (g : Nat) (l : AV) (H : AH) (h : Nat.beq g 230 = false) (h2 : Nat.beq g 112 = false) (h3 : Nat.beq g 415 = false) : E.ext g l H = none := by
  show extFn g l H = none
  unfold extFn
  rw [h, h2, h3]
theorem newM (H : AH) : RdM (H.new (.cs 75 8 8 false zMt .e)) H.next zeroM :=
  ⟨_, get_new_same _ _, ElB.zeros (enc := encMt) (e := 75) (es := 8) (op := false) (z := zMt) encMt_len (a := zeroM) rfl 1⟩
theorem storeM {H : AH} {N : Nat} {m : Mt} (m' : Mt) (h : RdM H N m) : ∃ H2, stN 8 H (mA m') (.ptr N 0) = some H2 ∧ H2.next = H.next ∧ RdM H2 N m' ∧ Keep (fun b => b = N) H H2 := by
  obtain ⟨o, h1, h2⟩ := h.ex
  obtain ⟨o', s1, s2⟩ := stN_el encMt_len h2 h1 (i := 0) (by simp) (cells_mt m')
  exact ⟨_, by simpa [mA] using s1, by simp, ⟨o', get_set_same _ _ _, by simpa using s2⟩, Keep.set _ fun _ => rfl⟩
theorem readL_foldl : ∀ (r : List UInt8) (n : Nat), r.foldl (fun n x => 256 * n + x.toNat) n = n * 256 ^ r.length + readL r
  | [], n => by simp [readL]
  | x :: r, n => by
    rw [List.foldl_cons, readL_foldl r]
    have e : readL (x :: r) = x.toNat * 256 ^ r.length + readL r := by
      show (x :: r).foldl _ 0 = _
      rw [List.foldl_cons, readL_foldl r, Nat.mul_zero, Nat.zero_add]
    rw [e, List.length_cons, Nat.pow_succ, Nat.add_mul]
    have : 256 * n * 256 ^ r.length = n * (256 ^ r.length * 256) := by rw [Nat.mul_comm 256 n, Nat.mul_assoc, Nat.mul_comm 256]
    omega
theorem readL_cons (x : UInt8) (r : List UInt8) : readL (x :: r) = x.toNat * 256 ^ r.length + readL r := by
  show (x :: r).foldl _ 0 = _
  rw [List.foldl_cons, readL_foldl r, Nat.mul_zero, Nat.zero_add]
theorem sub_cons {b : List UInt8} {at_ w : Nat} {x : UInt8} (h : b[at_]? = some x) : sub b at_ (w + 1) = x :: sub b (at_ + 1) w := by
  have hl := get_lt h
  unfold sub
  rw [List.drop_eq_getElem_cons hl, List.take_succ_cons]
  rw [List.getElem?_eq_getElem hl] at h
  cases h; rfl
theorem i64_small {n : Nat} (h : n < 9223372036854775808) : i64 n = (n : Int) := by unfold i64; rw [if_pos h]
theorem i64_big {n : Nat} (h : 9223372036854775808 ≤ n) (h2 : n < 18446744073709551616) : i64 n < 0 := by unfold i64; rw [if_neg (by omega)]; omega
theorem read4_lt {b : List UInt8} {at_ : Nat} (h : at_ + 4 ≤ b.length) : readL (sub b at_ 4) < 4294967296 := readL_lt 4 _ (sub_len h)
def numV (l : List UInt8) : AV → AV
  | .cons _ (.cons (.int _ a) (.cons (.int _ w) .nil)) => .int .i64 ((readL (sub l a.toNat w.toNat) : Nat) : Int)
  | _ => .snil
set_option maxRecDepth 20000 in
set_option maxHeartbeats 4000000 in
theorem decode05_ok {H : AH} {v : AV} {l : List UInt8} (h : RdS H v l) (hl : l.length < 4611686018427387904) :
    DC Tryz.prog .normal 49 (.cons v .nil) H fun v' H2 => (saysM l → v' = .tup (.cons (mA (fldsM l)) (.cons (.int .i64 0) .nil))) ∧ (¬ saysM l → v' = .tup (.cons (mA zeroM) (.cons (.int .i64 50) .nil))) ∧ Keep noB H H2 := by
  refine DC.of_wd (re := reCell ⟨ldN 8⟩ 2 (reTmp 3 reNil)) tyOk Tryz.func49 (by kernel_rfl) rfl (by kernel_rfl) (by kernel_rfl) ?_
  rw [tl_nil, argsT_cons, argsT_nil]
  have hlen := h.len
  refine WD.seqR ?_
  refine WDO.fresh1 tyOk (k := ⟨frAlloc (.cs 75 8 8 false (.cons (.int .i64 0) (.cons (.int .i64 0) (.cons (.int .i64 0) (.cons (.int .i64 0) (.cons (.int .i64 0) (.cons (.int .i64 0) (.cons (.int .i64 0) (.cons (.int .i64 0) .nil)))))))) .e)⟩) (by kernel_rfl) rfl (by kernel_rfl) (v := .ptr H.next 0) (x := .cs 75 8 8 false zMt .e) ?_ ?_
  · simp [zMt]
  have hN := newM H
  have hk1 : Keep noB H (H.new (.cs 75 8 8 false zMt .e)) := Keep.new _ _ _
  have hlt : H.next < (H.new (.cs 75 8 8 false zMt .e)).next := by simp
  have hNe : H.next ≤ H.next := Nat.le_refl _
  generalize H.new (.cs 75 8 8 false zMt .e) = H1 at hN hk1 hlt ⊢
  generalize hHN : H.next = N at hN hlt hNe ⊢
  have h1 := h.keep hk1 fun _ _ => id
  refine lkD 1 [⟨lkMove (.const (.int .i64 0)), (some 3), none⟩] (by simp (disch := omega) []; exact rfl) ?_
  refine WDO.nilS (WD.seq (WD.seqR ?_))
  have bad : ∀ (T : List (Nat × AV)), True := fun _ => trivial
  obtain ⟨o, g1, _, _, _, _, _, _, _, _, rc⟩ := hN.all
  by_cases hA : l.length < 512
  · have hno : ¬ saysM l := fun hs => by have := hs.1; omega
    have f1 : (l.length : Int) < 512 := by omega
    refine lkD 9 [xM 0 7, xN 7 8, xC akLss 8 512 9, xM 9 10, yM 0 11 10 false, ⟨⟨ixSl 1 (.tmp 11) (.const (.int .i64 12))⟩, (some 12), (some (10, false))⟩, yL 12 13 10 false, ⟨⟨binInt akGtr (.tmp 13) (.const (.int .u8 127))⟩, (some 14), (some (10, false))⟩, xP 10 14 15 true] (by simp (disch := omega) [hlen, f1]; exact rfl) ?_
    refine WDO.nilS (WD.cond (t := true) (by simp) (fun _ => WD.seqR ?_) (by simp))
    refine lkD 1 [⟨⟨buildA (.cons (.int .i64 0) (.cons (.int .i64 0) (.cons (.int .i64 0) (.cons (.int .i64 0) (.cons (.int .i64 0) (.cons (.int .i64 0) (.cons (.int .i64 0) (.cons (.int .i64 0) .nil)))))))) flEnd⟩, (some 16), none⟩] (by simp (disch := omega) []; exact rfl) ?_
    obtain ⟨H2, s1, s2, s3, s4⟩ := storeM zeroM hN
    obtain ⟨o2, g2, _, _, _, _, _, _, _, _, rc2⟩ := s3.all
    refine WDO.heavy1 tyOk extOk (k := ⟨hvStore ⟨stN 8⟩ (.tmp 2) (.tmp 16)⟩) (by kernel_rfl) rfl (by kernel_rfl) (by simp only [mA, zeroM, encMt, avl_cons, avl_nil] at s1; simp [s1]; exact ⟨rfl, rfl⟩) ?_
    refine lkD 1 [⟨lkMove (.const (.int .i64 50)), (some 3), none⟩] (by simp (disch := omega) []; exact rfl) ?_
    refine WDO.nilS (WD.ret (endR _ (by simp [g2, rc2]; rfl) ⟨fun hs => absurd hs hno, fun _ => rfl, hk1.trans' s4 fun b hb e => absurd e (by omega)⟩))
  · have f1 : ¬ (l.length : Int) < 512 := by omega
    have hx12 : l[12]? = some (l[12]'(by omega)) := List.getElem?_eq_getElem _
    generalize l[12]'_ = x12 at hx12
    obtain ⟨b, off, cap, o', hv, hb', ho, hby⟩ := h1.pos (by omega)
    have hrd := hby _ _ hx12
    have f0 : 12 < l.length := by omega
    have h12 : readL (sub l 12 8) = x12.toNat * 256 ^ 7 + readL (sub l 13 7) := by
      rw [sub_cons hx12 (w := 7), readL_cons, sub_len (by omega)]
    have h12b : readL (sub l 12 8) < 18446744073709551616 := readL_lt 8 _ (sub_len (by omega))
    have h13 : readL (sub l 13 7) < 256 ^ 7 := readL_lt 7 _ (sub_len (by omega))
    have e7 : (256 : Nat) ^ 7 = 72057594037927936 := by decide
    rw [e7] at h12 h13
    by_cases hB : 127 < x12.toNat
    · have hno : ¬ saysM l := fun hs => by
        have h3 := hs.2.1.2.2.1.1
        have : i64 (readL (sub l 12 8)) < 0 := i64_big (by omega) h12b
        have h3 : 0 ≤ i64 (readL (sub l 12 8)) := h3
        omega
      have f2 : (127 : Int) < (x12.toNat : Int) := by omega
      refine lkD 9 [xM 0 7, xN 7 8, xC akLss 8 512 9, xM 9 10, yM 0 11 10 false, ⟨⟨ixSl 1 (.tmp 11) (.const (.int .i64 12))⟩, (some 12), (some (10, false))⟩, yL 12 13 10 false, ⟨⟨binInt akGtr (.tmp 13) (.const (.int .u8 127))⟩, (some 14), (some (10, false))⟩, xP 10 14 15 true] (by simp (disch := omega) [hv, ho, hrd, f1, f2]; exact rfl) ?_
      refine WDO.nilS (WD.cond (t := true) (by simp) (fun _ => WD.seqR ?_) (by simp))
      refine lkD 1 [⟨⟨buildA (.cons (.int .i64 0) (.cons (.int .i64 0) (.cons (.int .i64 0) (.cons (.int .i64 0) (.cons (.int .i64 0) (.cons (.int .i64 0) (.cons (.int .i64 0) (.cons (.int .i64 0) .nil)))))))) flEnd⟩, (some 16), none⟩] (by simp (disch := omega) []; exact rfl) ?_
      obtain ⟨H2, s1, s2, s3, s4⟩ := storeM zeroM hN
      obtain ⟨o2, g2, _, _, _, _, _, _, _, _, rc2⟩ := s3.all
      refine WDO.heavy1 tyOk extOk (k := ⟨hvStore ⟨stN 8⟩ (.tmp 2) (.tmp 16)⟩) (by kernel_rfl) rfl (by kernel_rfl) (by simp only [mA, zeroM, encMt, avl_cons, avl_nil] at s1; simp [s1]; exact ⟨rfl, rfl⟩) ?_
      refine lkD 1 [⟨lkMove (.const (.int .i64 50)), (some 3), none⟩] (by simp (disch := omega) []; exact rfl) ?_
      refine WDO.nilS (WD.ret (endR _ (by simp [g2, rc2]; rfl) ⟨fun hs => absurd hs hno, fun _ => rfl, hk1.trans' s4 fun b hb e => absurd e (by omega)⟩))
    · have f2 : ¬ (127 : Int) < (x12.toNat : Int) := by omega
      refine lkD 9 [xM 0 7, xN 7 8, xC akLss 8 512 9, xM 9 10, yM 0 11 10 false, ⟨⟨ixSl 1 (.tmp 11) (.const (.int .i64 12))⟩, (some 12), (some (10, false))⟩, yL 12 13 10 false, ⟨⟨binInt akGtr (.tmp 13) (.const (.int .u8 127))⟩, (some 14), (some (10, false))⟩, xP 10 14 15 true] (by simp (disch := omega) [hv, ho, hrd, f1, f2]; exact rfl) ?_
      refine WDO.nilS (WD.cond (t := false) (by simp) (by simp) fun _ => WD.skip (.inl rfl) (WD.seq ?_))
      have hx1 : l[1]? = some (l[1]'(by omega)) := List.getElem?_eq_getElem _
      have hfe : (fldsM l).engine = ((l[1]'(by omega)).toNat : Int) := by simp [fldsM, hx1]
      generalize l[1]'_ = x1 at hx1 hfe
      have hrd1 := hby _ _ hx1
      have f3 : 1 < l.length := by omega
      have hx1l := x1.toNat_lt
      have gc : mkInt .i64 (x1.toNat : Int) = some (.int .i64 (x1.toNat : Int)) := mkInt_i64 (by omega) (by omega)
      have hnum : ∀ (a w : Nat), a + w ≤ l.length → readL (sub l a w) < 9223372036854775808 → w ≤ 8 → a ≤ 1000 → DC Tryz.prog .normal 83 (.cons v (.cons (.int .i64 (a : Int)) (.cons (.int .i64 (w : Int)) .nil))) (H1.new (.cs 75 8 8 false zMt .e)) (fun u H2 => u = numV l (.cons v (.cons (.int .i64 (a : Int)) (.cons (.int .i64 (w : Int)) .nil))) ∧ H2 = H1.new (.cs 75 8 8 false zMt .e)) := fun a w p1 p2 p3 p4 =>
        (number05_ok (h1.keep (Keep.new noB H1 _) fun _ _ => id) p1 p2 p3 p4).mono fun u H2 ⟨hu, hH⟩ => ⟨by rw [hu]; simp [numV], hH⟩
      rw [hv] at hnum
      obtain ⟨R, hR, hRc⟩ := specR_ex Tryz.prog (fun _ a H u H2 => u = numV l a ∧ H2 = H)
      refine WD.drawnK tyOk extOk (by kernel_rfl) (ls := [zM 0 17 0 8, ⟨[17], .look (⟨ixSl 1 (.tmp 17) (.const (.int .i64 1))⟩), (some 18), none, 0, 8, true, false⟩, zL 18 19 0 8, ⟨[19], .look (⟨cvInt .i64 (.tmp 19)⟩), (some 20), none, 0, 8, false, false⟩, zM 0 21 0 1, zM 0 23 0 2, zM 0 25 0 3, zM 0 27 0 4, zM 0 29 0 5, zM 0 31 0 6, zM 0 33 0 7, ⟨[], .fresh ⟨frAlloc (.cs 75 8 8 false (.cons (.int .i64 0) (.cons (.int .i64 0) (.cons (.int .i64 0) (.cons (.int .i64 0) (.cons (.int .i64 0) (.cons (.int .i64 0) (.cons (.int .i64 0) (.cons (.int .i64 0) .nil)))))))) .e)⟩, (some 4), none, 0, 8, false, false⟩, ⟨[21], .heavy ⟨hvCallF E 83 (opnds [(.tmp 21), (.const (.int .i64 8)), (.const (.int .i64 4))])⟩, (some 22), none, 0, 2, false, true⟩, ⟨[23], .heavy ⟨hvCallF E 83 (opnds [(.tmp 23), (.const (.int .i64 12)), (.const (.int .i64 8))])⟩, (some 24), none, 1, 2, false, true⟩, ⟨[25], .heavy ⟨hvCallF E 83 (opnds [(.tmp 25), (.const (.int .i64 20)), (.const (.int .i64 4))])⟩, (some 26), none, 2, 2, false, true⟩, ⟨[27], .heavy ⟨hvCallF E 83 (opnds [(.tmp 27), (.const (.int .i64 24)), (.const (.int .i64 4))])⟩, (some 28), none, 3, 2, false, true⟩, ⟨[29], .heavy ⟨hvCallF E 83 (opnds [(.tmp 29), (.const (.int .i64 28)), (.const (.int .i64 4))])⟩, (some 30), none, 4, 2, false, true⟩, ⟨[31], .heavy ⟨hvCallF E 83 (opnds [(.tmp 31), (.const (.int .i64 32)), (.const (.int .i64 4))])⟩, (some 32), none, 5, 2, false, true⟩, ⟨[33], .heavy ⟨hvCallF E 83 (opnds [(.tmp 33), (.const (.int .i64 36)), (.const (.int .i64 4))])⟩, (some 34), none, 6, 2, false, true⟩, ⟨[20, 22, 24, 26, 28, 30, 32, 34], .look (⟨buildA (.cons (.int .i64 0) (.cons (.int .i64 0) (.cons (.int .i64 0) (.cons (.int .i64 0) (.cons (.int .i64 0) (.cons (.int .i64 0) (.cons (.int .i64 0) (.cons (.int .i64 0) .nil)))))))) ⟨fill1 (.tmp 20) 0 1 ⟨fill1 (.tmp 22) 1 1 ⟨fill1 (.tmp 24) 2 1 ⟨fill1 (.tmp 26) 3 1 ⟨fill1 (.tmp 28) 4 1 ⟨fill1 (.tmp 30) 5 1 ⟨fill1 (.tmp 32) 6 1 ⟨fill1 (.tmp 34) 7 1 flEnd⟩⟩⟩⟩⟩⟩⟩⟩⟩), (some 35), none, 7, 1, true, false⟩, ⟨[4, 35], .heavy ⟨hvStore ⟨stN 8⟩ (.tmp 4) (.tmp 35)⟩, none, none, 7, 2, false, true⟩]) (by kernel_rfl) hR fun K hK => ?_
      simp (disch := omega) [ho, hrd1, gc]
      refine diFr_in (o := .cs 75 8 8 false zMt .e) (v := .ptr H1.next 0) (by simp [zMt]) ?_
      simp
      obtain ⟨u1, Hx, c1, hu1, rfl⟩ := hRc 83 _ _ (hnum 8 4 (by omega) (by have := read4_lt (b := l) (at_ := 8) (by omega); omega) (by omega) (by omega))
      refine diCall (by simp) (extFree _ _ _ rfl rfl rfl) c1 (Nat.le_refl _) ?_
      simp
      replace hu1 : u1 = .int .i64 ((readL (sub l 8 4) : Nat) : Int) := hu1
      obtain ⟨u2, Hx, c2, hu2, rfl⟩ := hRc 83 _ _ (hnum 12 8 (by omega) (by omega) (by omega) (by omega))
      refine diCall (by simp) (extFree _ _ _ rfl rfl rfl) c2 (Nat.le_refl _) ?_
      simp
      replace hu2 : u2 = .int .i64 ((readL (sub l 12 8) : Nat) : Int) := hu2
      obtain ⟨u3, Hx, c3, hu3, rfl⟩ := hRc 83 _ _ (hnum 20 4 (by omega) (by have := read4_lt (b := l) (at_ := 20) (by omega); omega) (by omega) (by omega))
      refine diCall (by simp) (extFree _ _ _ rfl rfl rfl) c3 (Nat.le_refl _) ?_
      simp
      replace hu3 : u3 = .int .i64 ((readL (sub l 20 4) : Nat) : Int) := hu3
      obtain ⟨u4, Hx, c4, hu4, rfl⟩ := hRc 83 _ _ (hnum 24 4 (by omega) (by have := read4_lt (b := l) (at_ := 24) (by omega); omega) (by omega) (by omega))
      refine diCall (by simp) (extFree _ _ _ rfl rfl rfl) c4 (Nat.le_refl _) ?_
      simp
      replace hu4 : u4 = .int .i64 ((readL (sub l 24 4) : Nat) : Int) := hu4
      obtain ⟨u5, Hx, c5, hu5, rfl⟩ := hRc 83 _ _ (hnum 28 4 (by omega) (by have := read4_lt (b := l) (at_ := 28) (by omega); omega) (by omega) (by omega))
      refine diCall (by simp) (extFree _ _ _ rfl rfl rfl) c5 (Nat.le_refl _) ?_
      simp
      replace hu5 : u5 = .int .i64 ((readL (sub l 28 4) : Nat) : Int) := hu5
      obtain ⟨u6, Hx, c6, hu6, rfl⟩ := hRc 83 _ _ (hnum 32 4 (by omega) (by have := read4_lt (b := l) (at_ := 32) (by omega); omega) (by omega) (by omega))
      refine diCall (by simp) (extFree _ _ _ rfl rfl rfl) c6 (Nat.le_refl _) ?_
      simp
      replace hu6 : u6 = .int .i64 ((readL (sub l 32 4) : Nat) : Int) := hu6
      obtain ⟨u7, Hx, c7, hu7, rfl⟩ := hRc 83 _ _ (hnum 36 4 (by omega) (by have := read4_lt (b := l) (at_ := 36) (by omega); omega) (by omega) (by omega))
      refine diCall (by simp) (extFree _ _ _ rfl rfl rfl) c7 (Nat.le_refl _) ?_
      simp
      replace hu7 : u7 = .int .i64 ((readL (sub l 36 4) : Nat) : Int) := hu7
      subst hu1 hu2 hu3 hu4 hu5 hu6 hu7
      have q1 := read4_lt (b := l) (at_ := 8) (by omega)
      have q3 := read4_lt (b := l) (at_ := 20) (by omega)
      have q4 := read4_lt (b := l) (at_ := 24) (by omega)
      have q5 := read4_lt (b := l) (at_ := 28) (by omega)
      have q6 := read4_lt (b := l) (at_ := 32) (by omega)
      have q7 := read4_lt (b := l) (at_ := 36) (by omega)
      have q2 : readL (sub l 12 8) < 9223372036854775808 := by omega
      have hf : fldsM l = ⟨(x1.toNat : Int), ((readL (sub l 8 4) : Nat) : Int), ((readL (sub l 12 8) : Nat) : Int), ((readL (sub l 20 4) : Nat) : Int), ((readL (sub l 24 4) : Nat) : Int), ((readL (sub l 28 4) : Nat) : Int), ((readL (sub l 32 4) : Nat) : Int), ((readL (sub l 36 4) : Nat) : Int)⟩ := by
        unfold fldsM
        rw [hx1, i64_small (n := readL (sub l 8 4)) (by omega), i64_small q2, i64_small (n := readL (sub l 20 4)) (by omega), i64_small (n := readL (sub l 24 4)) (by omega), i64_small (n := readL (sub l 28 4)) (by omega), i64_small (n := readL (sub l 32 4)) (by omega), i64_small (n := readL (sub l 36 4)) (by omega)]
        rfl
      have hpgl : (fldsM l).page < 4294967296 := by rw [hf]; simp only; omega
      have hhi : 0 ≤ (fldsM l).high ∧ (fldsM l).high < 4294967296 := by rw [hf]; simp only; omega
      simp
      obtain ⟨H3, s1, s2, s3, s4⟩ := storeM (fldsM l) (newM H1)
      have ho2 := (Keep.new noB H1 (.cs 75 8 8 false zMt .e)).get hb' id ho
      refine diHv_in (v := undefA) (H2 := H3) ?_ (by omega) ?_
      · rw [hf] at s1
        simp only [mA, encMt, avl_cons, avl_nil] at s1
        simp [s1]
      simp (disch := omega) [hrd1, gc, ho2]
      have h1' := h1
      rw [hv] at h1'
      have kn : Keep noB H1 (H1.new (.cs 75 8 8 false zMt .e)) := Keep.new _ _ _
      have hN3 : RdM H3 N zeroM := (hN.keep kn hlt id).keep s4 (by simp; omega) (by omega)
      have kk3 : Keep noB H H3 := (hk1.trans kn).trans' s4 fun b hb e => absurd e (by omega)
      have h3 : RdS H3 (.sl b off l.length cap) l := (h1'.keep kn fun _ _ => id).keep s4 fun b e e2 => by cases e; omega
      have hn3 : N < H3.next := by rw [s2]; simp; omega
      have hn4 : H1.next < H3.next := by rw [s2]; simp
      refine ⟨trivial, hK _ _ (WD.keep (l := [(0, .sl b off l.length cap), (2, .ptr N 0), (3, .int .i64 0), (4, .ptr H1.next 0)]) (WD.seq (WD.seqR ?_)) (by simp))⟩
      clear hK hRc hR c1 c2 c3 c4 c5 c6 c7 hnum
      generalize H1.next = N4 at s3 hn4 ⊢
      obtain ⟨o4, g4, _, mp, _, _, _, _, _, _, rc4⟩ := s3.all
      by_cases hC : (fldsM l).page = (l.length : Int)
      · refine lkD 5 [xF 4 1 36, xL 36 37, xM 0 38, xN 38 39, xB akNeq 37 39 40] (by simp (disch := omega) [g4, mp, hC]; exact rfl) ?_
        refine WDO.nilS (WD.cond (t := false) (by simp) (by simp) fun _ => WD.skip (.inl rfl) (WD.seqR ?_))
        refine lkD 1 [⟨⟨ldA ⟨ldN 8⟩ (.tmp 4)⟩, (some 43), none⟩] (by simp (disch := omega) [g4, rc4]; exact rfl) ?_
        refine WDO.callF (g := 84) rfl rfl rfl (by kernel_rfl) (l := .cons (mA (fldsM l)) .nil) (by simp [mA]) (encode05_ok (m := fldsM l) (by omega) (by omega)) fun u H5 ⟨e1, e2, k5⟩ => ?_
        have h5 := h3.keep k5 fun _ _ => id
        have hs2 := h5.str
        simp only [onSl_sl] at hs2
        have hN5 := hN3.keep k5 hn3 id
        have hM5 := s3.keep k5 hn4 id
        have kk5 := kk3.trans k5
        obtain ⟨o5, g5, _, _, _, _, _, _, _, _, rc5⟩ := hM5.all
        by_cases hok : okM (fldsM l)
        · obtain ⟨ev, hu, hown⟩ := e1 hok
          subst hu
          have hs1 := hown.rd.str
          refine lkD 5 [xM 44 42, ⟨⟨exA (.tmp 42) 0⟩, (some 45), none⟩, ⟨⟨exA (.tmp 42) 1⟩, (some 46), none⟩, xM 45 5, xM 46 6] (by simp (disch := omega) []; exact rfl) ?_
          refine WDO.nilS (WD.seq (WD.seqR ?_))
          by_cases hE : encM (fldsM l) = l
          · refine lkD 9 [xM 6 47, xC akNeq 47 0 48, xM 48 49, yM 5 50 49 false, ⟨⟨cvStr (.tmp 50)⟩, (some 51), (some (49, false))⟩, yM 0 52 49 false, ⟨⟨cvStr (.tmp 52)⟩, (some 53), (some (49, false))⟩, ⟨⟨binStr skNeq (.tmp 51) (.tmp 53)⟩, (some 54), (some (49, false))⟩, xP 49 54 55 true] (by simp (disch := omega) [hs1, hs2, hE]; exact rfl) ?_
            refine WDO.nilS (WD.cond (t := false) (by simp) (by simp) fun _ => WD.skip (.inl rfl) (WD.seqR ?_))
            have hyes : saysM l := ⟨by omega, hok, hE⟩
            refine lkD 1 [⟨⟨ldA ⟨ldN 8⟩ (.tmp 4)⟩, (some 57), none⟩] (by simp (disch := omega) [g5, rc5]; exact rfl) ?_
            obtain ⟨Hz, z1, z2, z3, z4⟩ := storeM (fldsM l) hN5
            obtain ⟨oz, gz, _, _, _, _, _, _, _, _, rcz⟩ := z3.all
            refine WDO.heavy1 tyOk extOk (k := ⟨hvStore ⟨stN 8⟩ (.tmp 2) (.tmp 57)⟩) (by kernel_rfl) rfl (by kernel_rfl) (by simp only [mA] at z1; simp [z1]; exact ⟨rfl, rfl⟩) ?_
            refine lkD 1 [⟨lkMove (.const (.int .i64 0)), (some 3), none⟩] (by simp (disch := omega) []; exact rfl) ?_
            exact WDO.nilS (WD.ret (endR _ (by simp [gz, rcz]; rfl) ⟨fun _ => rfl, fun hs => absurd hyes hs, kk5.trans' z4 fun b hb e => absurd e (by omega)⟩))
          · have hno : ¬ saysM l := fun hs => hE hs.2.2
            refine lkD 9 [xM 6 47, xC akNeq 47 0 48, xM 48 49, yM 5 50 49 false, ⟨⟨cvStr (.tmp 50)⟩, (some 51), (some (49, false))⟩, yM 0 52 49 false, ⟨⟨cvStr (.tmp 52)⟩, (some 53), (some (49, false))⟩, ⟨⟨binStr skNeq (.tmp 51) (.tmp 53)⟩, (some 54), (some (49, false))⟩, xP 49 54 55 true] (by simp (disch := omega) [hs1, hs2, hE]; exact rfl) ?_
            refine WDO.nilS (WD.cond (t := true) (by simp) (fun _ => WD.seqR ?_) (by simp))
            refine lkD 1 [⟨⟨buildA (.cons (.int .i64 0) (.cons (.int .i64 0) (.cons (.int .i64 0) (.cons (.int .i64 0) (.cons (.int .i64 0) (.cons (.int .i64 0) (.cons (.int .i64 0) (.cons (.int .i64 0) .nil)))))))) flEnd⟩, (some 56), none⟩] (by simp (disch := omega) []; exact rfl) ?_
            obtain ⟨Hz, z1, z2, z3, z4⟩ := storeM zeroM hN5
            obtain ⟨oz, gz, _, _, _, _, _, _, _, _, rcz⟩ := z3.all
            refine WDO.heavy1 tyOk extOk (k := ⟨hvStore ⟨stN 8⟩ (.tmp 2) (.tmp 56)⟩) (by kernel_rfl) rfl (by kernel_rfl) (by simp only [mA, zeroM, encMt, avl_cons, avl_nil] at z1; simp [z1]; exact ⟨rfl, rfl⟩) ?_
            refine lkD 1 [⟨lkMove (.const (.int .i64 50)), (some 3), none⟩] (by simp (disch := omega) []; exact rfl) ?_
            exact WDO.nilS (WD.ret (endR _ (by simp [gz, rcz]; rfl) ⟨fun hs => absurd hs hno, fun _ => rfl, kk5.trans' z4 fun b hb e => absurd e (by omega)⟩))
        · have hu := e2 hok
          subst hu
          have hno : ¬ saysM l := fun hs => hok hs.2.1
          refine lkD 5 [xM 44 42, ⟨⟨exA (.tmp 42) 0⟩, (some 45), none⟩, ⟨⟨exA (.tmp 42) 1⟩, (some 46), none⟩, xM 45 5, xM 46 6] (by simp (disch := omega) []; exact rfl) ?_
          refine WDO.nilS (WD.seq (WD.seqR ?_))
          refine lkD 9 [xM 6 47, xC akNeq 47 0 48, xM 48 49, yM 5 50 49 false, ⟨⟨cvStr (.tmp 50)⟩, (some 51), (some (49, false))⟩, yM 0 52 49 false, ⟨⟨cvStr (.tmp 52)⟩, (some 53), (some (49, false))⟩, ⟨⟨binStr skNeq (.tmp 51) (.tmp 53)⟩, (some 54), (some (49, false))⟩, xP 49 54 55 true] (by simp (disch := omega) []; exact rfl) ?_
          refine WDO.nilS (WD.cond (t := true) (by simp) (fun _ => WD.seqR ?_) (by simp))
          refine lkD 1 [⟨⟨buildA (.cons (.int .i64 0) (.cons (.int .i64 0) (.cons (.int .i64 0) (.cons (.int .i64 0) (.cons (.int .i64 0) (.cons (.int .i64 0) (.cons (.int .i64 0) (.cons (.int .i64 0) .nil)))))))) flEnd⟩, (some 56), none⟩] (by simp (disch := omega) []; exact rfl) ?_
          obtain ⟨Hz, z1, z2, z3, z4⟩ := storeM zeroM hN5
          obtain ⟨oz, gz, _, _, _, _, _, _, _, _, rcz⟩ := z3.all
          refine WDO.heavy1 tyOk extOk (k := ⟨hvStore ⟨stN 8⟩ (.tmp 2) (.tmp 56)⟩) (by kernel_rfl) rfl (by kernel_rfl) (by simp only [mA, zeroM, encMt, avl_cons, avl_nil] at z1; simp [z1]; exact ⟨rfl, rfl⟩) ?_
          refine lkD 1 [⟨lkMove (.const (.int .i64 50)), (some 3), none⟩] (by simp (disch := omega) []; exact rfl) ?_
          exact WDO.nilS (WD.ret (endR _ (by simp [gz, rcz]; rfl) ⟨fun hs => absurd hs hno, fun _ => rfl, kk5.trans' z4 fun b hb e => absurd e (by omega)⟩))
      · have hno : ¬ saysM l := fun hs => hC (by
          have := hs.len
          have := pgI_cases hs.2.1.2.1
          omega)
        refine lkD 5 [xF 4 1 36, xL 36 37, xM 0 38, xN 38 39, xB akNeq 37 39 40] (by simp (disch := omega) [g4, mp, hC]; exact rfl) ?_
        refine WDO.nilS (WD.cond (t := true) (by simp) (fun _ => WD.seqR ?_) (by simp))
        refine lkD 1 [⟨⟨buildA (.cons (.int .i64 0) (.cons (.int .i64 0) (.cons (.int .i64 0) (.cons (.int .i64 0) (.cons (.int .i64 0) (.cons (.int .i64 0) (.cons (.int .i64 0) (.cons (.int .i64 0) .nil)))))))) flEnd⟩, (some 41), none⟩] (by simp (disch := omega) []; exact rfl) ?_
        obtain ⟨Hz, z1, z2, z3, z4⟩ := storeM zeroM hN3
        obtain ⟨oz, gz, _, _, _, _, _, _, _, _, rcz⟩ := z3.all
        refine WDO.heavy1 tyOk extOk (k := ⟨hvStore ⟨stN 8⟩ (.tmp 2) (.tmp 41)⟩) (by kernel_rfl) rfl (by kernel_rfl) (by simp only [mA, zeroM, encMt, avl_cons, avl_nil] at z1; simp [z1]; exact ⟨rfl, rfl⟩) ?_
        refine lkD 1 [⟨lkMove (.const (.int .i64 50)), (some 3), none⟩] (by simp (disch := omega) []; exact rfl) ?_
        exact WDO.nilS (WD.ret (endR _ (by simp [gz, rcz]; rfl) ⟨fun hs => absurd hs hno, fun _ => rfl, kk3.trans' z4 fun b hb e => absurd e (by omega)⟩))
end
end Go.Proofs.YtcfpppleiikjhaaGreatDoor
