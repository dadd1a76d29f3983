/- A part of the proof of this seat's statement: what is particular to its program. Its conditions stand in each theorem. -/
import Derived.Test.YtnffppehomofmaaGreatDoorD1
import Derived.Test.YtnffppehomofmaaGreatDoorZ4
namespace Go.Proofs.YtnffppehomofmaaGreatDoor
open Go.Xq
noncomputable section
/-- a slice of changes reads as these -/
def RdL (H : AH) (v : AV) (cs : List Cv) : Prop :=
  (v = .snil ∧ cs = []) ∨ ∃ b off cap, v = .sl b off cs.length cap ∧ (cs ≠ [] → b < H.next ∧ ∃ o, H.get b = some o ∧ RdE encC 6 off cs o)
theorem RdL.len {H : AH} {v : AV} {cs : List Cv} (h : RdL H v cs) : onSl v (some (AV.int .i64 0)) (fun _ _ n _ => some (.int .i64 (n : Int))) = some (.int .i64 (cs.length : Int)) := by
  rcases h with ⟨rfl, rfl⟩ | ⟨b, off, cap, rfl, _⟩ <;> rfl
theorem RdL.cell {H : AH} {v : AV} {cs : List Cv} (h : RdL H v cs) : isCell v = true := by
  rcases h with ⟨rfl, _⟩ | ⟨b, off, cap, rfl, _⟩ <;> rfl
theorem RdL.keep {S : Nat → Prop} {H H2 : AH} {v : AV} {cs : List Cv} (h : RdL H v cs) (hk : Keep S H H2) (hs : ∀ b, blk v = some b → ¬ S b) : RdL H2 v cs := by
  rcases h with h | ⟨b, off, cap, rfl, h⟩
  · exact .inl h
  · refine .inr ⟨b, off, cap, rfl, fun hn => ?_⟩
    obtain ⟨h1, o, h2, h3⟩ := h hn
    exact ⟨Nat.lt_of_lt_of_le h1 hk.1, o, hk.get h1 (hs b rfl) h2, h3⟩
theorem RdL.at {H : AH} {v : AV} {cs : List Cv} (h : RdL H v cs) {k : Nat} {c : Cv} (hc : cs[k]? = some c) :
    ∃ b off cap o, v = .sl b off cs.length cap ∧ b < H.next ∧ H.get b = some o ∧ rdCells o 6 (off + k * 6) = some (avl (encC c)) ∧ k < cs.length ∧ ∀ j u, (encC c)[j]? = some u → rdCell o (off + k * 6 + j) = some u := by
  rcases h with ⟨rfl, rfl⟩ | ⟨b, off, cap, rfl, h⟩
  · simp at hc
  · obtain ⟨h1, o, h2, h3⟩ := h (by rintro rfl; simp at hc)
    exact ⟨b, off, cap, o, rfl, h1, h2, h3.elem hc rfl, get_lt hc, h3 k c hc⟩
def fields (c : Cv) : List AV := [c.key, c.old, c.new]
theorem take_fields {cs : List Cv} {i : Nat} {c : Cv} (hc : cs[i]? = some c) (S : List AV) : S ++ (cs.take (i + 1)).flatMap fields = S ++ (cs.take i).flatMap fields ++ fields c := by
  rw [List.take_add_one, hc]
  simp
theorem takeAll_ok {H : AH} {B pb : Nat} {S L : List AV} {v : AV} {cs : List Cv} (h : BookAt H B pb S L) (hv : RdL H v cs) (hlow : ∀ b, blk v = some b → b < B) (hcs : ∀ c ∈ cs, ∀ u ∈ encC c, isCell u = true) (hS : S.length + cs.length * 3 < 268435456) (hL : L.length < 268435456) :
    DC Tryz.prog .normal 10 (.cons (.ptr pb 0) (.cons v .nil)) H fun _ H2 => ∃ _ : BookAt H2 B pb (S ++ cs.flatMap fields) (L ++ [v]), Keep (fun b => B ≤ b) H H2 := by
  refine DC.of_wd (re := reNil) tyOk Tryz.func10 (by kernel_rfl) rfl (by kernel_rfl) (by kernel_rfl) ?_
  rw [tl_nil, argsT_cons, argsT_cons, argsT_nil]
  have hlen := hv.len
  refine WD.seq (WD.seqR ?_)
  refine WDO.looks1 tyOk extOk 1 (ls := [⟨lkMove (.const (.int .i64 0)), (some 4), none⟩]) (by kernel_rfl) (by simp (disch := omega) []; exact rfl) ?_
  refine WDO.nilS (WD.forE (σ := Nat) (fun i => [(0, .ptr pb 0), (1, v), (4, .int .i64 (i : Int))])
    (fun i H' => i ≤ cs.length ∧ (∃ _ : BookAt H' B pb (S ++ (cs.take i).flatMap fields) L, True) ∧ Keep (fun b => B ≤ b) H H') (fun i => cs.length - i) 0 ⟨by omega, ⟨by simpa using h, trivial⟩, Keep.refl _ _⟩ (by simp) ?_)
  rintro i H' ⟨hi, ⟨h', _⟩, hk'⟩
  refine WDO.looks1 tyOk extOk 4 (ls := [⟨lkMove (.tmp 4), (some 5), none⟩, ⟨lkMove (.tmp 1), (some 6), none⟩, ⟨⟨lenSl (.tmp 6)⟩, (some 7), none⟩, ⟨⟨binInt akLss (.tmp 5) (.tmp 7)⟩, (some 8), none⟩]) (by kernel_rfl) (by simp (disch := omega) [hlen]; exact rfl) ?_
  refine WDO.nil ⟨decide (i < cs.length), _, rfl, by simp, fun hc => ?_, fun hc => ?_⟩
  · have hc : i = cs.length := by have := of_decide_eq_false hc; omega
    subst hc
    rw [List.take_length] at h'
    have hg := h'.get
    have r1 := h'.r1
    have hn := h'.next
    refine WD.region ?_
    refine WDO.looks1 tyOk extOk 6 (ls := [⟨lkMove (.tmp 0), (some 17), none⟩, ⟨lkMove (.tmp 0), (some 18), none⟩, ⟨⟨nilChk E (.tmp 18)⟩, (some 19), none⟩, ⟨⟨fAddr (.tmp 19) 1⟩, (some 20), none⟩, ⟨⟨ldA ⟨ld1⟩ (.tmp 20)⟩, (some 21), none⟩, ⟨lkMove (.tmp 1), (some 22), none⟩]) (by kernel_rfl) (by simp (disch := omega) [hg, r1]; exact rfl) ?_
    have hvc := hv.cell
    obtain ⟨o1, f1, b1⟩ := frSlice_el (enc := enc1) (e := 22) (z := z1) enc1_len (x := .tmp 22) (T := tl [(22, v), (21, h'.ll), (20, .ptr pb 1), (19, .ptr pb 0), (18, .ptr pb 0), (17, .ptr pb 0), (8, .bool false), (7, .int .i64 cs.length), (6, v), (5, .int .i64 cs.length), (0, .ptr pb 0), (1, v), (4, .int .i64 cs.length)]) (b0 := H'.next) (a := v) (z0 := z1) (by simp; rfl) (by rw [cellsA_cell hvc]; rfl) (by rfl) (by rfl)
    refine WDO.fresh1 tyOk (k := ⟨frSlice 1 (zerosA (.cons .snil .nil) 1) ⟨fill1 (.tmp 22) 0 1 flEnd⟩ ⟨mkCs 22 1 (.cons .snil .nil)⟩⟩) (by kernel_rfl) rfl (by kernel_rfl) f1 ?_
    have hk1 := Keep.new noB H' o1
    have g1 : (H'.new o1).get H'.next = some o1 := get_new_same _ _
    obtain ⟨v', H3, a1, a2, a3, a4, a5⟩ := (h'.lists.keep hk1 fun _ _ => id).app enc1_len (by omega) (by simp; omega) (cells1 hvc) (One.of (cap := some 1) g1 b1) (by omega)
    refine WDO.heavy1 tyOk extOk (k := ⟨hvAppend ⟨grownCs 1 ⟨mkCs 22 1 (.cons .snil .nil)⟩⟩ 1 (.tmp 21) (.tmp 23)⟩) (by kernel_rfl) rfl (by kernel_rfl) (by simp; exact a1) ?_
    refine WDO.looks1 tyOk extOk 2 (ls := [⟨⟨nilChk E (.tmp 17)⟩, (some 25), none⟩, ⟨⟨fAddr (.tmp 25) 1⟩, (some 26), none⟩]) (by kernel_rfl) (by simp (disch := omega) []; exact rfl) ?_
    have hlt := h'.lt
    have hp2 : H3.get pb = some h'.o := a5.get (by simp; omega) (fun e => h'.d2 pb e rfl) (hk1.get h'.lt id h'.get)
    obtain ⟨o3, s1, s2⟩ := st1_el (a' := (h'.bl, v')) (v := v') (f := 1) enc2_len h'.el hp2 (i := 0) rfl (by omega) rfl a2.cell
    refine WDO.heavy1 tyOk extOk (k := ⟨hvStore ⟨st1'⟩ (.tmp 26) (.tmp 24)⟩) (by kernel_rfl) rfl (by kernel_rfl) (by simp at s1; simp [s1]; exact ⟨rfl, rfl⟩) ?_
    have hn3 : H3.next = H'.next + 2 := by rw [a4]; simp
    have hks : Keep (fun b => b = pb) H3 (H3.set pb o3) := Keep.set _ fun _ => rfl
    refine WDO.nil (endN _ rfl ⟨⟨h'.bl, v', o3, h'.low, by simp [hn3]; omega, get_set_same _ _ _, s2, ?_, ?_, ?_, ?_⟩, ?_⟩)
    · refine ((h'.bytes.keep hk1 fun _ _ => id).keep a5 fun b e e2 => (h'.d1 b e).2 e2).keep hks fun b e e2 => (h'.d1 b e).1 e2
    · exact a2.keep hks fun b e e2 => by rw [a3] at e; cases e; simp at e2; omega
    · intro b e
      refine ⟨(h'.d1 b e).1, fun e2 => ?_⟩
      have e2 : blk v' = some b := e2
      rw [a3] at e2
      cases e2
      have := (h'.bytes.low e).2
      simp at this
      omega
    · intro b e
      have e : blk v' = some b := e
      rw [a3] at e
      cases e
      simp; omega
    · exact ((hk'.trans (hk1.mono fun _ _ e => e.elim)).trans (a5.mono fun b _ e => (h'.lists.low e).1)).trans (hks.mono fun b _ e => e ▸ h'.low)
  · have hc : i < cs.length := of_decide_eq_true hc
    have hci : cs[i]? = some (cs[i]) := List.getElem?_eq_getElem hc
    generalize cs[i] = c at hci
    obtain ⟨b, off, cap, o, e1, e2, e3, e4, _⟩ := (hv.keep hk' fun b e => by have := hlow b e; omega).at hci
    refine WD.region ?_
    refine WDO.looks1 tyOk extOk 5 (ls := [⟨lkMove (.tmp 0), (some 11), none⟩, ⟨lkMove (.tmp 1), (some 12), none⟩, ⟨lkMove (.tmp 4), (some 13), none⟩, ⟨⟨ixSl 6 (.tmp 12) (.tmp 13)⟩, (some 14), none⟩, ⟨⟨ldA ⟨ldN 6⟩ (.tmp 14)⟩, (some 15), none⟩]) (by kernel_rfl) (by simp (disch := omega) [e1, e3, e4]; exact rfl) ?_
    have hcl : (S ++ (cs.take i).flatMap fields).length < 268435456 := by
      have : ((cs.take i).flatMap fields).length = (cs.take i).length * 3 := length_flatMap (es := 3) (fun _ => rfl) _
      rw [List.length_append, this, List.length_take]; omega
    refine WDO.callF (g := 26) rfl rfl rfl (by kernel_rfl) (l := .cons (.ptr pb 0) (.cons (chA c) .nil)) (by simp [chA]) (take22_ok h' (hcs c (List.mem_of_getElem? hci)) hcl) fun u H2 ⟨h2, w2⟩ => ?_
    refine WDO.nil ?_
    refine WDO.looks1 tyOk extOk 3 (ls := [⟨lkMove (.tmp 4), (some 9), none⟩, ⟨⟨binInt akAdd (.tmp 9) (.const (.int .i64 1))⟩, (some 10), none⟩, ⟨lkMove (.tmp 10), (some 4), none⟩]) (by kernel_rfl) (by simp (disch := omega) []; exact rfl) ?_
    refine WDO.nil ⟨rfl, i + 1, _, rfl, by simp [e1], ⟨by omega, ⟨?_, trivial⟩, hk'.trans w2⟩, by omega⟩
    rw [take_fields hci]; exact h2
end
end Go.Proofs.YtnffppehomofmaaGreatDoor
namespace Go.Proofs.YtnffppehomofmaaGreatDoor
open Go.Xq
noncomputable section
/-- a slice of changes says this -/
structure Says (H : AH) (v : AV) (cs : List Cv) (gl : List Ch) : Prop where
  rd : RdL H v cs
  len : cs.length = gl.length
  at_ : ∀ (i : Nat) (c : Cv) (g : Ch), cs[i]? = some c → gl[i]? = some g → RdC H c g
theorem Says.cells {H : AH} {v : AV} {cs : List Cv} {gl : List Ch} (h : Says H v cs gl) : ∀ c ∈ cs, ∀ u ∈ encC c, isCell u = true := by
  intro c hc
  obtain ⟨i, hi⟩ := List.mem_iff_getElem?.1 hc
  have hlt := get_lt hi
  exact (h.at_ i c (gl[i]'(by have := h.len; omega)) hi (List.getElem?_eq_getElem _)).cells
theorem Says.keep {S : Nat → Prop} {H H2 : AH} {v : AV} {cs : List Cv} {gl : List Ch} (h : Says H v cs gl) (hk : Keep S H H2) (hs : ∀ b, blk v = some b → ¬ S b) (ho : ∀ c ∈ cs, OutC S c) : Says H2 v cs gl :=
  ⟨h.rd.keep hk hs, h.len, fun i c g hc hg => (h.at_ i c g hc hg).keep hk (ho c (List.mem_of_getElem? hc))⟩
theorem Says.keep0 {H H2 : AH} {v : AV} {cs : List Cv} {gl : List Ch} (h : Says H v cs gl) (hk : Keep noB H H2) : Says H2 v cs gl := h.keep hk (fun _ _ => id) fun _ _ => OutC.no _
theorem sameAll_ok {H : AH} {v w : AV} {cs ds : List Cv} {gl : List Ch} (h1 : Says H v cs gl) (h2 : Says H w ds gl) (hmax : gl.length ≤ 1048576) :
    DC Tryz.prog .normal 8 (.cons v (.cons w .nil)) H fun v' H2 => v' = .bool true ∧ Keep noB H H2 := by
  refine DC.of_wd (re := reTmp 4 reNil) tyOk Tryz.func8 (by kernel_rfl) rfl (by kernel_rfl) (by kernel_rfl) ?_
  rw [tl_nil, argsT_cons, argsT_cons, argsT_nil]
  have l1 := h1.rd.len
  have l2 := h2.rd.len
  rw [h1.len] at l1
  rw [h2.len] at l2
  refine WD.seqR ?_
  refine WDO.looks1 tyOk extOk 1 (ls := [⟨lkMove (.const (.bool false)), (some 4), none⟩]) (by kernel_rfl) (by simp (disch := omega) []; exact rfl) ?_
  refine WDO.nilS (WD.seq (WD.seqR ?_))
  refine WDO.looks1 tyOk extOk 5 (ls := [⟨lkMove (.tmp 0), (some 7), none⟩, ⟨⟨lenSl (.tmp 7)⟩, (some 8), none⟩, ⟨lkMove (.tmp 1), (some 9), none⟩, ⟨⟨lenSl (.tmp 9)⟩, (some 10), none⟩, ⟨⟨binInt akNeq (.tmp 8) (.tmp 10)⟩, (some 11), none⟩]) (by kernel_rfl) (by simp (disch := omega) [l1, l2]; exact rfl) ?_
  refine WDO.nilS (WD.cond (t := false) (by simp) (by simp) fun _ => WD.skip (.inl rfl) ?_)
  refine WD.seq (WD.seqR ?_)
  refine WDO.looks1 tyOk extOk 1 (ls := [⟨lkMove (.const (.int .i64 0)), (some 5), none⟩]) (by kernel_rfl) (by simp (disch := omega) []; exact rfl) ?_
  refine WDO.nilS (WD.forE (σ := Nat) (fun i => [(0, v), (1, w), (5, .int .i64 (i : Int))]) (fun i H' => i ≤ gl.length ∧ Keep noB H H') (fun i => gl.length - i) 0 ⟨by omega, Keep.refl _ _⟩ (by simp) ?_)
  rintro i H' ⟨hi, hk'⟩
  refine WDO.looks1 tyOk extOk 4 (ls := [⟨lkMove (.tmp 5), (some 12), none⟩, ⟨lkMove (.tmp 0), (some 13), none⟩, ⟨⟨lenSl (.tmp 13)⟩, (some 14), none⟩, ⟨⟨binInt akLss (.tmp 12) (.tmp 14)⟩, (some 15), none⟩]) (by kernel_rfl) (by simp (disch := omega) [l1]; exact rfl) ?_
  refine WDO.nil ⟨decide (i < gl.length), _, rfl, by simp, fun hc => ?_, fun hc => ?_⟩
  · refine WD.seqR ?_
    refine WDO.looks1 tyOk extOk 1 (ls := [⟨lkMove (.const (.bool true)), (some 4), none⟩]) (by kernel_rfl) (by simp (disch := omega) []; exact rfl) ?_
    exact WDO.nilS (WD.ret (endR _ (by simp; rfl) ⟨rfl, hk'⟩))
  · have hc : i < gl.length := of_decide_eq_true hc
    have h1' := h1.keep0 hk'
    have h2' := h2.keep0 hk'
    have hg : gl[i]? = some (gl[i]) := List.getElem?_eq_getElem hc
    have hc1 : cs[i]? = some (cs[i]'(by have := h1.len; omega)) := List.getElem?_eq_getElem _
    have hc2 : ds[i]? = some (ds[i]'(by have := h2.len; omega)) := List.getElem?_eq_getElem _
    generalize gl[i] = g at hg
    generalize cs[i]'_ = c at hc1
    generalize ds[i]'_ = d at hc2
    obtain ⟨b, off, cap, o, e1, _, e3, e4, e5, _⟩ := h1'.rd.at hc1
    obtain ⟨b', off', cap', o', f1, _, f3, f4, f5, _⟩ := h2'.rd.at hc2
    refine WD.seq ?_
    obtain ⟨R, hR, hRc⟩ := specR_ex Tryz.prog (fun _ _ _ v' H2 => v' = .bool true ∧ Keep noB H' H2)
    refine WD.drawnK tyOk extOk (by kernel_rfl) (ls := [⟨[0], .look (lkMove (.tmp 0)), (some 18), none, 0, 1, true, false⟩, ⟨[5], .look (lkMove (.tmp 5)), (some 19), none, 0, 1, true, false⟩, ⟨[18, 19], .look (⟨ixSl 6 (.tmp 18) (.tmp 19)⟩), (some 20), none, 0, 1, true, false⟩, ⟨[20], .look (⟨ldA ⟨ldN 6⟩ (.tmp 20)⟩), (some 21), none, 0, 1, false, false⟩, ⟨[1], .look (lkMove (.tmp 1)), (some 22), none, 0, 1, true, false⟩, ⟨[5], .look (lkMove (.tmp 5)), (some 23), none, 0, 1, true, false⟩, ⟨[22, 23], .look (⟨ixSl 6 (.tmp 22) (.tmp 23)⟩), (some 24), none, 0, 1, true, false⟩, ⟨[24], .look (⟨ldA ⟨ldN 6⟩ (.tmp 24)⟩), (some 25), none, 0, 1, false, false⟩, ⟨[21, 25], .heavy ⟨hvCallF E 24 (opnds [(.tmp 21), (.tmp 25)])⟩, (some 26), none, 0, 2, false, true⟩, ⟨[26], .look (lkMove (.tmp 26)), (some 6), none, 1, 1, true, false⟩]) (by kernel_rfl) hR fun K hK => ?_
    simp (disch := omega) [e1, e3, e4, e5, f1, f3, f4, f5]
    obtain ⟨u, H2, c2, rfl, hk2⟩ := hRc 24 _ _ (same_ok (h1'.at_ i c g hc1 hg) (h2'.at_ i d g hc2 hg))
    refine diCall (by simp [chA]) (extFree _ _ _ rfl rfl rfl) c2 hk2.1 ?_
    simp (disch := omega) [e1, e3, e4, e5, f1, f3, f4, f5]
    refine hK _ _ (WD.seqR ?_)
    refine WDO.looks1 tyOk extOk 2 (ls := [⟨lkMove (.tmp 6), (some 27), none⟩, ⟨lkUn ukNot (.tmp 27), (some 28), none⟩]) (by kernel_rfl) (by simp (disch := omega) []; exact rfl) ?_
    refine WDO.nilS (WD.cond (t := false) (by simp) (by simp) fun _ => WD.skip (.inl rfl) ?_)
    refine WDO.looks1 tyOk extOk 3 (ls := [⟨lkMove (.tmp 5), (some 16), none⟩, ⟨⟨binInt akAdd (.tmp 16) (.const (.int .i64 1))⟩, (some 17), none⟩, ⟨lkMove (.tmp 17), (some 5), none⟩]) (by kernel_rfl) (by simp (disch := omega) []; exact rfl) ?_
    exact WDO.nil ⟨rfl, i + 1, _, rfl, by simp [e1, f1], ⟨by omega, hk'.trans hk2⟩, by omega⟩
end
end Go.Proofs.YtnffppehomofmaaGreatDoor
namespace Go.Proofs.YtnffppehomofmaaGreatDoor
open Go.Xq
noncomputable section
def turnG (g : Ch) : Ch := ⟨g.t, g.k, g.is, g.was, g.w, g.o⟩
theorem RdC.turn {H : AH} {c : Cv} {g : Ch} (h : RdC H c g) : RdC H (turnC c) (turnG g) := ⟨h.tr, h.is, h.was, h.key, h.new, h.old⟩
theorem Says.rev {H : AH} {v v' : AV} {cs : List Cv} {gl : List Ch} (h : Says H v cs gl) (h2 : RdL H v' (cs.map turnC).reverse) : Says H v' (cs.map turnC).reverse (gl.map turnG).reverse := by
  refine ⟨h2, by simp [h.len], fun i c g hc hg => ?_⟩
  have hl := h.len
  have hi := get_lt hc
  simp at hi
  rw [List.getElem?_reverse (by simpa using hi)] at hc
  rw [List.getElem?_reverse (by simp; omega)] at hg
  simp only [List.length_map, List.getElem?_map] at hc hg
  rw [← hl] at hg
  cases e1 : cs[cs.length - 1 - i]? with
  | none => rw [e1] at hc; cases hc
  | some c0 =>
    cases e2 : gl[cs.length - 1 - i]? with
    | none => rw [e2] at hg; cases hg
    | some g0 =>
      rw [e1] at hc; rw [e2] at hg
      cases hc; cases hg
      exact (h.at_ _ c0 g0 e1 e2).turn
theorem LstAt.rdL {H : AH} {lo : Nat} {v : AV} {cs : List Cv} (h : LstAt encC 55 6 zC H lo v cs) : RdL H v cs := by
  rcases h with h | ⟨b, o, rfl, h1, h2, h3, h4, h5⟩
  · exact .inl h
  · exact .inr ⟨b, 0, none, rfl, fun _ => ⟨h3, o, h4, h5.rd⟩⟩
theorem refTurn_ok {H : AH} {v : AV} {cs : List Cv} {gl : List Ch} (h : Says H v cs gl) (hmax : gl.length ≤ 1048576) :
    DC Tryz.prog .normal 9 (.cons v .nil) H fun v' H2 => Says H2 v' (cs.map turnC).reverse (gl.map turnG).reverse ∧ Keep noB H H2 := by
  refine DC.of_wd (re := reTmp 2 reNil) tyOk Tryz.func9 (by kernel_rfl) rfl (by kernel_rfl) (by kernel_rfl) ?_
  rw [tl_nil, argsT_cons, argsT_nil]
  have hlen := h.rd.len
  have hl := h.len
  refine WD.seqR ?_
  refine WDO.looks1 tyOk extOk 1 (ls := [⟨lkMove (.const (.slice none 0 0)), (some 2), none⟩]) (by kernel_rfl) (by simp (disch := omega) []; exact rfl) ?_
  refine WDO.nilS (WD.seqR ?_)
  refine WDO.looks1 tyOk extOk 1 (ls := [⟨lkMove (.const (.slice none 0 0)), (some 3), none⟩]) (by kernel_rfl) (by simp (disch := omega) []; exact rfl) ?_
  refine WDO.nilS (WD.seq (WD.seqR ?_))
  refine WDO.looks1 tyOk extOk 4 (ls := [⟨lkMove (.tmp 0), (some 5), none⟩, ⟨⟨lenSl (.tmp 5)⟩, (some 6), none⟩, ⟨⟨binInt akSub (.tmp 6) (.const (.int .i64 1))⟩, (some 7), none⟩, ⟨lkMove (.tmp 7), (some 4), none⟩]) (by kernel_rfl) (by simp (disch := omega) [hlen]; exact rfl) ?_
  refine WDO.nilS (WD.forE (σ := Nat × AV) (fun s => [(0, v), (3, s.2), (4, .int .i64 ((s.1 : Int) - 1))])
    (fun s H' => s.1 ≤ cs.length ∧ LstAt encC 55 6 zC H' H.next s.2 (((cs.drop s.1).map turnC).reverse) ∧ Keep noB H H') (fun s => s.1) (cs.length, .snil) ⟨by simp, .inl ⟨rfl, by simp⟩, Keep.refl _ _⟩ (by simp) ?_)
  rintro ⟨j, lv⟩ H' ⟨hj, hlv, hk'⟩
  refine WDO.looks1 tyOk extOk 2 (ls := [⟨lkMove (.tmp 4), (some 8), none⟩, ⟨⟨binInt akGeq (.tmp 8) (.const (.int .i64 0))⟩, (some 9), none⟩]) (by kernel_rfl) (by simp (disch := omega) []; exact rfl) ?_
  refine WDO.nil ⟨!decide ((j : Int) - 1 < 0), _, rfl, by simp, fun hc => ?_, fun hc => ?_⟩
  · have hc : j = 0 := by simp at hc; omega
    subst hc
    refine WD.seqR ?_
    refine WDO.looks1 tyOk extOk 2 (ls := [⟨lkMove (.tmp 3), (some 20), none⟩, ⟨lkMove (.tmp 20), (some 2), none⟩]) (by kernel_rfl) (by simp (disch := omega) []; exact rfl) ?_
    refine WDO.nilS (WD.ret (endR _ (by simp; rfl) ⟨?_, hk'⟩))
    have := LstAt.rdL hlv
    simp only [List.drop_zero] at this
    exact (h.keep0 hk').rev this
  · obtain ⟨k, rfl⟩ : ∃ k, j = k + 1 := ⟨j - 1, by simp at hc; omega⟩
    simp only at hj hlv
    have hck : cs[k]? = some (cs[k]) := List.getElem?_eq_getElem (by omega)
    have hdrop : cs.drop k = cs[k] :: cs.drop (k + 1) := List.drop_eq_getElem_cons (by omega)
    generalize cs[k] = c at hck hdrop
    have h' := h.keep0 hk'
    obtain ⟨b, off, cap, o, e1, _, e3, e4, e5, _⟩ := h'.rd.at hck
    have hcc := h.cells c (List.mem_of_getElem? hck)
    refine WD.region ?_
    refine WDO.looks1 tyOk extOk 5 (ls := [⟨lkMove (.tmp 3), (some 12), none⟩, ⟨lkMove (.tmp 0), (some 13), none⟩, ⟨lkMove (.tmp 4), (some 14), none⟩, ⟨⟨ixSl 6 (.tmp 13) (.tmp 14)⟩, (some 15), none⟩, ⟨⟨ldA ⟨ldN 6⟩ (.tmp 15)⟩, (some 16), none⟩]) (by kernel_rfl) (by simp (disch := omega) [e1, e3, e4]; exact rfl) ?_
    refine WDO.callF (g := 25) rfl rfl rfl (by kernel_rfl) (l := .cons (chA c) .nil) (by simp [chA]) (turned_ok hcc) fun u H2 ⟨hu, w2⟩ => ?_
    subst hu
    refine WDO.slice1 (enc := encC) (a := turnC c) tyOk encC_len (by kernel_rfl : freshK E _ = some ⟨frSlice 1 (zerosA (.cons (.str 0 0) (.cons .snil (.cons (.bool false) (.cons (.bool false) (.cons .snil (.cons .snil .nil)))))) 1) ⟨fill1 (.tmp 17) 0 6 flEnd⟩ ⟨mkCs 55 6 (.cons (.str 0 0) (.cons .snil (.cons (.bool false) (.cons (.bool false) (.cons .snil (.cons .snil .nil))))))⟩⟩) rfl (by kernel_rfl) (by simp; rfl) (by first | rfl | simp [encC, chA] | (rw [cellsA_cell (by assumption)]; rfl)) (by rfl) (by rfl) fun o1 b1 => ?_
    have hlv2 : LstAt encC 55 6 zC (H2.new o1) H.next lv (((cs.drop (k + 1)).map turnC).reverse) := (hlv.keep w2 fun _ _ => id).keep (Keep.new noB _ _) fun _ _ => id
    have hn : H.next ≤ H2.next := Nat.le_trans hk'.1 w2.1
    obtain ⟨lv', H3, a1, a2, a3, a4, a5⟩ := hlv2.app encC_len (by omega) (by simp; omega) (cells_turn hcc) (One.of (cap := some 1) (get_new_same _ _) b1) (by simp; omega)
    refine WDO.heavy1 tyOk extOk (k := ⟨hvAppend ⟨grownCs 6 ⟨mkCs 55 6 (.cons (.str 0 0) (.cons .snil (.cons (.bool false) (.cons (.bool false) (.cons .snil (.cons .snil .nil))))))⟩⟩ 6 (.tmp 12) (.tmp 18)⟩) (by kernel_rfl) rfl (by kernel_rfl) (by simp; exact a1) ?_
    refine WDO.looks1 tyOk extOk 1 (ls := [⟨lkMove (.tmp 19), (some 3), none⟩]) (by kernel_rfl) (by simp (disch := omega) []; exact rfl) ?_
    refine WDO.nil ?_
    refine WDO.looks1 tyOk extOk 3 (ls := [⟨lkMove (.tmp 4), (some 10), none⟩, ⟨⟨binInt akSub (.tmp 10) (.const (.int .i64 1))⟩, (some 11), none⟩, ⟨lkMove (.tmp 11), (some 4), none⟩]) (by kernel_rfl) (by simp (disch := omega) []; exact rfl) ?_
    refine WDO.nil ⟨rfl, (k, lv'), _, rfl, by simp [e1], ⟨by simp; omega, ?_, ?_⟩, by simp⟩
    · simp only [hdrop, List.map_cons, List.reverse_cons]; exact a2
    · refine ((hk'.trans w2).trans (Keep.new _ _ _)).trans' a5 fun b hb e => ?_
      have := (hlv2.low e).1; omega
end
end Go.Proofs.YtnffppehomofmaaGreatDoor
namespace Go.Proofs.YtnffppehomofmaaGreatDoor
open Go.Xq
noncomputable section
def lentV (b : Nat) (l : List UInt8) : AV := .sl b 0 l.length (some (l.length + 9))
def lentC (N i : Nat) (g : Ch) : Cv := ⟨g.t, lentV (N + 1 + 3 * i) g.k, g.was, g.is, lentV (N + 2 + 3 * i) g.o, lentV (N + 3 + 3 * i) g.w⟩
def lentL (N : Nat) (gl : List Ch) : List Cv := gl.mapIdx (lentC N)
def zeroC : Cv := ⟨[], .snil, false, false, .snil, .snil⟩
def namedC (l : List UInt8) : Cv := ⟨l, .snil, false, false, .snil, .snil⟩
def behindC : Cv := namedC [98, 101, 104, 105, 110, 100]
/-- all that was lent -/
def allL (N : Nat) (gl : List Ch) : List Cv := lentL N gl ++ List.replicate 3 behindC
theorem allL_len (N : Nat) (gl : List Ch) : (allL N gl).length = gl.length + 3 := by simp [allL, lentL]
theorem allL_lo {N : Nat} {gl : List Ch} {i : Nat} {g : Ch} (h : gl[i]? = some g) : (allL N gl)[i]? = some (lentC N i g) := by
  have hi := get_lt h
  rw [allL, List.getElem?_append_left (by simpa [lentL] using hi)]
  simp [lentL, List.getElem?_mapIdx, h]
theorem allL_hi {N : Nat} {gl : List Ch} {i : Nat} (h : gl.length ≤ i) (h2 : i < gl.length + 3) : (allL N gl)[i]? = some behindC := by
  rw [allL, List.getElem?_append_right (by simpa [lentL] using h)]
  rw [List.getElem?_replicate_of_lt (by simp [lentL]; omega)]
/-- the list's block, and the blocks of the bytes -/
structure LentAt (H : AH) (N : Nat) (gl : List Ch) (els : List Cv) (n : Nat) : Prop where
  el : ∃ o, H.get N = some o ∧ ElB encC 55 6 false zC els o
  k : ∀ i g, i < n → gl[i]? = some g → H.get (N + 1 + 3 * i) = some (bb 5 false (g.k ++ tail9)) ∧ H.get (N + 2 + 3 * i) = some (bb 5 false (g.o ++ tail9)) ∧ H.get (N + 3 + 3 * i) = some (bb 5 false (g.w ++ tail9))
theorem fillE {α : Type} {t : List α} {j n : Nat} {x y : α} (ht : t.length = n) (hj : j < n) (hx : t[j]? = some x) : (t.take j ++ List.replicate (n - j) y).set j x = t.take (j + 1) ++ List.replicate (n - (j + 1)) y := by
  have h1 : (t.take j).length = j := by simp; omega
  have h2 : List.replicate (n - j) y = y :: List.replicate (n - (j + 1)) y := by rw [show n - j = (n - (j + 1)) + 1 from by omega, List.replicate_succ]
  have h3 : t.take (j + 1) = t.take j ++ [x] := by rw [List.take_add_one, hx]; rfl
  rw [List.set_append, if_neg (by omega), h1, Nat.sub_self, h2, List.set_cons_zero, h3, List.append_assoc]; rfl
theorem stE {H : AH} {N i : Nat} {els : List Cv} {a : Cv} (h : ∃ o, H.get N = some o ∧ ElB encC 55 6 false zC els o) (hi : i < els.length) (hc : ∀ v ∈ encC a, isCell v = true) :
    ∃ H2, stN 6 H (chA a) (.ptr N (i * 6)) = some H2 ∧ H2.next = H.next ∧ (∃ o, H2.get N = some o ∧ ElB encC 55 6 false zC (els.set i a) o) ∧ ∀ b, b ≠ N → H2.get b = H.get b := by
  obtain ⟨o, h1, h2⟩ := h
  obtain ⟨o', s1, s2⟩ := stN_el encC_len h2 h1 hi hc
  exact ⟨_, s1, by simp, ⟨o', get_set_same _ _ _, s2⟩, fun b hb => by rw [AH.get_set, if_neg hb]⟩
theorem stF {H : AH} {N i f : Nat} {els : List Cv} {a a' : Cv} {v : AV} (h : ∃ o, H.get N = some o ∧ ElB encC 55 6 false zC els o) (hi : els[i]? = some a) (hf : f < 6) (ha : encC a' = (encC a).set f v) (hv : isCell v = true) :
    ∃ H2, st1' H v (.ptr N (i * 6 + f)) = some H2 ∧ H2.next = H.next ∧ (∃ o, H2.get N = some o ∧ ElB encC 55 6 false zC (els.set i a') o) ∧ ∀ b, b ≠ N → H2.get b = H.get b := by
  obtain ⟨o, h1, h2⟩ := h
  obtain ⟨o', s1, s2⟩ := st1_el encC_len h2 h1 hi hf ha hv
  exact ⟨_, s1, by simp, ⟨o', get_set_same _ _ _, s2⟩, fun b hb => by rw [AH.get_set, if_neg hb]⟩
theorem keepN {H0 H H2 : AH} {N : Nat} (hk : Keep noB H0 H) (hN : H0.next ≤ N) (hn : H2.next = H.next) (ho : ∀ b, b ≠ N → H2.get b = H.get b) : Keep noB H0 H2 :=
  ⟨by rw [hn]; exact hk.1, fun b hb hs => by rw [ho b (by omega), hk.2 b hb hs]⟩
theorem mkZero55 (m : Nat) : mkZero E 55 m = some (.cs 55 6 (m * 6) false zC .e) := by kernel_rfl
theorem cells_named (l : List UInt8) : ∀ v ∈ encC (namedC l), isCell v = true := by
  intro v hv
  simp only [encC, namedC, List.mem_cons, List.not_mem_nil, or_false] at hv
  rcases hv with rfl | rfl | rfl | rfl | rfl | rfl <;> rfl
end
end Go.Proofs.YtnffppehomofmaaGreatDoor
namespace Go.Proofs.YtnffppehomofmaaGreatDoor
open Go.Xq
noncomputable section
theorem frMake_cs {E : Env} {e es bytes : Nat} {l c : Operand} {T : Tr AV} {b0 n m : Nat} {z : AV} (hz : mkZero E e m = some (.cs e es (m * es) false z .e)) (h1 : opnd l T = some (.int .i64 (n : Int))) (h2 : opnd c T = some (.int .i64 (m : Int))) (hn : n ≤ m) (hb : bytes * m ≤ 281474976710656)
    (hm : m ≤ 281474976710656) : frMake E e bytes l c T b0 = some (.sl b0 0 n (some m), .cs e es (m * es) false z .e) := by
  unfold frMake
  rw [h1, h2]
  simp only [ob_some', natOf_cast]
  rw [ble_true hn, bt_true, ble_true (a := Nat.mul bytes m) hb, bt_true, ble_true hm, bt_true, hz, ob_some']
theorem set_get {α : Type} {l : List α} {i : Nat} {a : α} (h : i < l.length) : (l.set i a)[i]? = some a := by rw [List.getElem?_set_self h]
/-- bounds of what is handed in -/
structure Small (gl : List Ch) : Prop where
  n : gl.length ≤ 1048576
  k : ∀ g ∈ gl, g.k.length ≤ 1048576 ∧ g.o.length ≤ 1048576 ∧ g.w.length ≤ 1048576
theorem lent22_ok {H : AH} {v : AV} {cs : List Cv} {gl : List Ch} (h : Says H v cs gl) (hs : Small gl) :
    DC Tryz.prog .normal 5 (.cons v .nil) H fun v' H2 => v' = .sl H.next 0 gl.length (some (gl.length + 3)) ∧ H2.next = H.next + 1 + 3 * gl.length ∧ LentAt H2 H.next gl (allL H.next gl) gl.length ∧ Keep noB H H2 := by
  have hmax := hs.n
  refine DC.of_wd (re := reTmp 2 reNil) tyOk Tryz.func5 (by kernel_rfl) rfl (by kernel_rfl) (by kernel_rfl) ?_
  rw [tl_nil, argsT_cons, argsT_nil]
  have hlen := h.rd.len
  rw [h.len] at hlen
  refine WD.seqR ?_
  refine WDO.looks1 tyOk extOk 1 (ls := [⟨lkMove (.const (.slice none 0 0)), (some 2), none⟩]) (by kernel_rfl) (by simp (disch := omega) []; exact rfl) ?_
  refine WDO.nilS (WD.seqR ?_)
  refine WDO.looks1 tyOk extOk 3 (ls := [⟨lkMove (.tmp 0), (some 6), none⟩, ⟨⟨lenSl (.tmp 6)⟩, (some 7), none⟩, ⟨lkMove (.tmp 7), (some 3), none⟩]) (by kernel_rfl) (by simp (disch := omega) [hlen]; exact rfl) ?_
  refine WDO.nilS (WD.seqR ?_)
  refine WDO.looks1 tyOk extOk 2 (ls := [⟨lkMove (.tmp 3), (some 8), none⟩, ⟨⟨binInt akAdd (.tmp 8) (.const (.int .i64 3))⟩, (some 9), none⟩]) (by kernel_rfl) (by simp (disch := omega) []; exact rfl) ?_
  have hz := ElB.zeros (enc := encC) (e := 55) (es := 6) (op := false) (z := zC) encC_len (a := zeroC) rfl (gl.length + 3)
  generalize ho0 : AObj.cs 55 6 ((gl.length + 3) * 6) false zC .e = o0 at hz
  refine WDO.fresh1 tyOk (k := ⟨frMake E 55 96 (.tmp 9) (.tmp 9)⟩) (by kernel_rfl) rfl (by kernel_rfl) (v := .sl H.next 0 (gl.length + 3) (some (gl.length + 3))) (x := o0) ?_ ?_
  · dsimp only
    rw [← ho0]
    refine frMake_cs (E := E) (e := 55) (es := 6) (bytes := 96) (l := .tmp 9) (c := .tmp 9) (n := gl.length + 3) (m := gl.length + 3) (mkZero55 _) ?_ ?_ (Nat.le_refl _) (by omega) (by omega)
    · simp
    · simp
  refine WDO.looks1 tyOk extOk 1 (ls := [⟨lkMove (.tmp 10), (some 4), none⟩]) (by kernel_rfl) (by simp (disch := omega) []; exact rfl) ?_
  refine WDO.nilS (WD.seq (WD.seqR ?_))
  refine WDO.looks1 tyOk extOk 1 (ls := [⟨lkMove (.const (.int .i64 0)), (some 5), none⟩]) (by kernel_rfl) (by simp (disch := omega) []; exact rfl) ?_
  refine WDO.nilS (WD.forE (σ := Nat) (fun i => [(0, v), (3, .int .i64 (gl.length : Int)), (4, .sl H.next 0 (gl.length + 3) (some (gl.length + 3))), (5, .int .i64 (i : Int))])
    (fun i H' => i ≤ gl.length + 3 ∧ H'.next = H.next + 1 + 3 * min i gl.length ∧ LentAt H' H.next gl ((allL H.next gl).take i ++ List.replicate (gl.length + 3 - i) zeroC) (min i gl.length) ∧ Keep noB H H') (fun i => gl.length + 3 - i) 0
    ⟨by omega, by simp, ⟨⟨o0, get_new_same _ _, by simpa using hz⟩, fun i g hi => by omega⟩, Keep.new _ _ _⟩ (by simp) ?_)
  rintro i H' ⟨hi, hn', hla, hk'⟩
  refine WDO.looks1 tyOk extOk 4 (ls := [⟨lkMove (.tmp 5), (some 11), none⟩, ⟨lkMove (.tmp 4), (some 12), none⟩, ⟨⟨lenSl (.tmp 12)⟩, (some 13), none⟩, ⟨⟨binInt akLss (.tmp 11) (.tmp 13)⟩, (some 14), none⟩]) (by kernel_rfl) (by simp (disch := omega) []; exact rfl) ?_
  refine WDO.nil ⟨decide ((i : Int) < (gl.length : Int) + 3), _, rfl, by simp, fun hc => ?_, fun hc => ?_⟩
  · have hc : i = gl.length + 3 := by have := of_decide_eq_false hc; omega
    subst hc
    refine WD.seqR ?_
    refine WDO.looks1 tyOk extOk 4 (ls := [⟨lkMove (.tmp 4), (some 61), none⟩, ⟨lkMove (.tmp 3), (some 62), none⟩, ⟨⟨slSl 6 (.tmp 61) none (some (.tmp 62)) none⟩, (some 63), none⟩, ⟨lkMove (.tmp 63), (some 2), none⟩]) (by kernel_rfl) (by simp (disch := omega) []; exact rfl) ?_
    refine WDO.nilS (WD.ret (endR _ (by simp; rfl) ⟨rfl, by rw [hn']; omega, ?_, hk'⟩))
    rw [show min (gl.length + 3) gl.length = gl.length by omega, List.take_of_length_le (by rw [allL_len]; omega), Nat.sub_self, List.replicate_zero, List.append_nil] at hla
    exact hla
  · have hc : i < gl.length + 3 := by have := of_decide_eq_true hc; omega
    have hlenE : ((allL H.next gl).take i ++ List.replicate (gl.length + 3 - i) zeroC).length = gl.length + 3 := by simp [allL_len]; omega
    obtain ⟨H1, s1, n1, b1, f1⟩ := stE hla.el (i := i) (a := behindC) (by rw [hlenE]; exact hc) (cells_named _)
    have hk1 := keepN hk' (Nat.le_refl _) n1 f1
    refine WD.seqR ?_
    refine WDO.looks1 tyOk extOk 4 (ls := [⟨lkMove (.tmp 4), (some 17), none⟩, ⟨lkMove (.tmp 5), (some 18), none⟩, ⟨⟨buildA (.cons (.str 0 0) (.cons .snil (.cons (.bool false) (.cons (.bool false) (.cons .snil (.cons .snil .nil)))))) ⟨fill1 (.const (.string ⟨#[98, 101, 104, 105, 110, 100]⟩)) 0 1 flEnd⟩⟩, (some 19), none⟩, ⟨⟨ixSl 6 (.tmp 17) (.tmp 18)⟩, (some 20), none⟩]) (by kernel_rfl) (by simp (disch := omega) []; exact rfl) ?_
    refine WDO.heavy1 tyOk extOk (k := ⟨hvStore ⟨stN 6⟩ (.tmp 20) (.tmp 19)⟩) (by kernel_rfl) rfl (by kernel_rfl) (v := undefA) (H2 := H1) ?_ ?_
    · have s1' := s1
      simp only [chA, encC, behindC, namedC, avl_cons, avl_nil] at s1'
      simp [s1']
    refine WDO.nilS (WD.seqR ?_)
    refine WDO.looks1 tyOk extOk 3 (ls := [⟨lkMove (.tmp 5), (some 21), none⟩, ⟨lkMove (.tmp 3), (some 22), none⟩, ⟨⟨binInt akLss (.tmp 21) (.tmp 22)⟩, (some 23), none⟩]) (by kernel_rfl) (by simp (disch := omega) []; exact rfl) ?_
    by_cases hil : i < gl.length
    · have hg : gl[i]? = some (gl[i]) := List.getElem?_eq_getElem hil
      have hci : cs[i]? = some (cs[i]'(by have := h.len; omega)) := List.getElem?_eq_getElem _
      have hsm := hs.k (gl[i]) (List.getElem_mem _)
      generalize gl[i] = g at hg hsm
      generalize cs[i]'_ = c at hci
      refine WDO.nilS (WD.cond (t := true) (by simp [hil]) (fun _ => WD.seqR ?_) (by simp))
      obtain ⟨b, off, cap, o, e1, e2, e3, e4, e5, e6⟩ := h.rd.at hci
      have q1 := e6 1 _ rfl
      have q4 := e6 4 _ rfl
      have q5 := e6 5 _ rfl
      have g1 := hk1.get e2 id e3
      refine WDO.looks1 tyOk extOk 7 (ls := [⟨lkMove (.tmp 4), (some 24), none⟩, ⟨lkMove (.tmp 5), (some 25), none⟩, ⟨lkMove (.tmp 0), (some 26), none⟩, ⟨lkMove (.tmp 5), (some 27), none⟩, ⟨⟨ixSl 6 (.tmp 26) (.tmp 27)⟩, (some 28), none⟩, ⟨⟨ldA ⟨ldN 6⟩ (.tmp 28)⟩, (some 29), none⟩, ⟨⟨ixSl 6 (.tmp 24) (.tmp 25)⟩, (some 30), none⟩]) (by kernel_rfl) (by simp (disch := omega) [e1, g1, e4]; exact rfl) ?_
      obtain ⟨H2, s2, n2, b2, f2⟩ := stE b1 (i := i) (a := c) (by rw [List.length_set, hlenE]; exact hc) (h.cells c (List.mem_of_getElem? hci))
      rw [List.set_set] at b2
      have hk2 := keepN hk1 (Nat.le_refl _) n2 f2
      refine WDO.heavy1 tyOk extOk (k := ⟨hvStore ⟨stN 6⟩ (.tmp 30) (.tmp 29)⟩) (by kernel_rfl) rfl (by kernel_rfl) (by have s2' := s2; simp only [chA] at s2'; simp [s2']; exact ⟨rfl, rfl⟩) ?_
      refine WDO.nilS (WD.seqR ?_)
      have g2 := hk2.get e2 id e3
      refine WDO.looks1 tyOk extOk 7 (ls := [⟨lkMove (.tmp 4), (some 31), none⟩, ⟨lkMove (.tmp 5), (some 32), none⟩, ⟨lkMove (.tmp 0), (some 33), none⟩, ⟨lkMove (.tmp 5), (some 34), none⟩, ⟨⟨ixSl 6 (.tmp 33) (.tmp 34)⟩, (some 35), none⟩, ⟨⟨fAddr (.tmp 35) 1⟩, (some 36), none⟩, ⟨⟨ldA ⟨ld1⟩ (.tmp 36)⟩, (some 37), none⟩]) (by kernel_rfl) (by simp (disch := omega) [e1, g2, q1]; exact rfl) ?_
      have hr2 := ((h.keep0 hk2).at_ i c g hci hg).key
      refine WDO.callF (g := 20) rfl rfl rfl (by kernel_rfl) (l := .cons c.key .nil) (by simp) (lent_ok hr2 hsm.1) fun u H3 ⟨hu, nc2, bc2, kc2⟩ => ?_
      have nx2 : H2.next = H.next + 1 + 3 * i := by rw [n2, n1, hn']; omega
      rw [nx2] at hu bc2
      subst hu
      have kk2 := hk2.trans kc2
      obtain ⟨o2, p2, r2⟩ := b2
      obtain ⟨H4, t2, n3, b3, f3⟩ := stF (H := H3) (N := H.next) (i := i) (f := 1) (a' := ⟨c.tr, lentV (H.next + 1 + 3 * i) g.k, c.was, c.is, c.old, c.new⟩) (v := lentV (H.next + 1 + 3 * i) g.k) ⟨o2, kc2.get (by omega) id p2, r2⟩ (set_get (by rw [hlenE]; exact hc)) (by omega) rfl rfl
      rw [List.set_set] at b3
      have hk3 := keepN kk2 (Nat.le_refl _) n3 f3
      refine WDO.looks1 tyOk extOk 2 (ls := [⟨⟨ixSl 6 (.tmp 31) (.tmp 32)⟩, (some 39), none⟩, ⟨⟨fAddr (.tmp 39) 1⟩, (some 40), none⟩]) (by kernel_rfl) (by simp (disch := omega) []; exact rfl) ?_
      refine WDO.heavy1 tyOk extOk (k := ⟨hvStore ⟨st1'⟩ (.tmp 40) (.tmp 38)⟩) (by kernel_rfl) rfl (by kernel_rfl) (by simp only [lentV] at t2; simp [t2]; exact ⟨rfl, rfl⟩) ?_
      refine WDO.nilS (WD.seqR ?_)
      have g3 := hk3.get e2 id e3
      refine WDO.looks1 tyOk extOk 7 (ls := [⟨lkMove (.tmp 4), (some 41), none⟩, ⟨lkMove (.tmp 5), (some 42), none⟩, ⟨lkMove (.tmp 0), (some 43), none⟩, ⟨lkMove (.tmp 5), (some 44), none⟩, ⟨⟨ixSl 6 (.tmp 43) (.tmp 44)⟩, (some 45), none⟩, ⟨⟨fAddr (.tmp 45) 4⟩, (some 46), none⟩, ⟨⟨ldA ⟨ld1⟩ (.tmp 46)⟩, (some 47), none⟩]) (by kernel_rfl) (by simp (disch := omega) [e1, g3, q4]; exact rfl) ?_
      have hr3 := ((h.keep0 hk3).at_ i c g hci hg).old
      refine WDO.callF (g := 20) rfl rfl rfl (by kernel_rfl) (l := .cons c.old .nil) (by simp) (lent_ok hr3 hsm.2.1) fun u H5 ⟨hu, nc3, bc3, kc3⟩ => ?_
      have nx3 : H4.next = H.next + 2 + 3 * i := by rw [n3, nc2, n2, n1, hn']; omega
      rw [nx3] at hu bc3
      subst hu
      have kk3 := hk3.trans kc3
      obtain ⟨o3, p3, r3⟩ := b3
      obtain ⟨H6, t3, n4, b4, f4⟩ := stF (H := H5) (N := H.next) (i := i) (f := 4) (a' := ⟨c.tr, lentV (H.next + 1 + 3 * i) g.k, c.was, c.is, lentV (H.next + 2 + 3 * i) g.o, c.new⟩) (v := lentV (H.next + 2 + 3 * i) g.o) ⟨o3, kc3.get (by omega) id p3, r3⟩ (set_get (by rw [hlenE]; exact hc)) (by omega) rfl rfl
      rw [List.set_set] at b4
      have hk4 := keepN kk3 (Nat.le_refl _) n4 f4
      refine WDO.looks1 tyOk extOk 2 (ls := [⟨⟨ixSl 6 (.tmp 41) (.tmp 42)⟩, (some 49), none⟩, ⟨⟨fAddr (.tmp 49) 4⟩, (some 50), none⟩]) (by kernel_rfl) (by simp (disch := omega) []; exact rfl) ?_
      refine WDO.heavy1 tyOk extOk (k := ⟨hvStore ⟨st1'⟩ (.tmp 50) (.tmp 48)⟩) (by kernel_rfl) rfl (by kernel_rfl) (by simp only [lentV] at t3; simp [t3]; exact ⟨rfl, rfl⟩) ?_
      refine WDO.nilS (WD.region ?_)
      have g4 := hk4.get e2 id e3
      refine WDO.looks1 tyOk extOk 7 (ls := [⟨lkMove (.tmp 4), (some 51), none⟩, ⟨lkMove (.tmp 5), (some 52), none⟩, ⟨lkMove (.tmp 0), (some 53), none⟩, ⟨lkMove (.tmp 5), (some 54), none⟩, ⟨⟨ixSl 6 (.tmp 53) (.tmp 54)⟩, (some 55), none⟩, ⟨⟨fAddr (.tmp 55) 5⟩, (some 56), none⟩, ⟨⟨ldA ⟨ld1⟩ (.tmp 56)⟩, (some 57), none⟩]) (by kernel_rfl) (by simp (disch := omega) [e1, g4, q5]; exact rfl) ?_
      have hr4 := ((h.keep0 hk4).at_ i c g hci hg).new
      refine WDO.callF (g := 20) rfl rfl rfl (by kernel_rfl) (l := .cons c.new .nil) (by simp) (lent_ok hr4 hsm.2.2) fun u H7 ⟨hu, nc4, bc4, kc4⟩ => ?_
      have nx4 : H6.next = H.next + 3 + 3 * i := by rw [n4, nc3, n3, nc2, n2, n1, hn']; omega
      rw [nx4] at hu bc4
      subst hu
      have kk4 := hk4.trans kc4
      obtain ⟨o4, p4, r4⟩ := b4
      obtain ⟨H8, t4, n5, b5, f5⟩ := stF (H := H7) (N := H.next) (i := i) (f := 5) (a' := ⟨c.tr, lentV (H.next + 1 + 3 * i) g.k, c.was, c.is, lentV (H.next + 2 + 3 * i) g.o, lentV (H.next + 3 + 3 * i) g.w⟩) (v := lentV (H.next + 3 + 3 * i) g.w) ⟨o4, kc4.get (by omega) id p4, r4⟩ (set_get (by rw [hlenE]; exact hc)) (by omega) rfl rfl
      rw [List.set_set] at b5
      have hk5 := keepN kk4 (Nat.le_refl _) n5 f5
      refine WDO.looks1 tyOk extOk 2 (ls := [⟨⟨ixSl 6 (.tmp 51) (.tmp 52)⟩, (some 59), none⟩, ⟨⟨fAddr (.tmp 59) 5⟩, (some 60), none⟩]) (by kernel_rfl) (by simp (disch := omega) []; exact rfl) ?_
      refine WDO.heavy1 tyOk extOk (k := ⟨hvStore ⟨st1'⟩ (.tmp 60) (.tmp 58)⟩) (by kernel_rfl) rfl (by kernel_rfl) (by simp only [lentV] at t4; simp [t4]; exact ⟨rfl, rfl⟩) ?_
      
      have u8 : ∀ x, x ≠ H.next → x < H.next + 3 + 3 * i → H8.get x = H6.get x := fun x h1 h2 => by rw [f5 x h1, kc4.2 x (by omega) id]
      have u6 : ∀ x, x ≠ H.next → x < H.next + 2 + 3 * i → H6.get x = H4.get x := fun x h1 h2 => by rw [f4 x h1, kc3.2 x (by omega) id]
      have u4 : ∀ x, x ≠ H.next → x < H.next + 1 + 3 * i → H4.get x = H'.get x := fun x h1 h2 => by rw [f3 x h1, kc2.2 x (by omega) id, f2 x h1, f1 x h1]
      refine WDO.nil ?_
      refine WDO.looks1 tyOk extOk 3 (ls := [⟨lkMove (.tmp 5), (some 15), none⟩, ⟨⟨binInt akAdd (.tmp 15) (.const (.int .i64 1))⟩, (some 16), none⟩, ⟨lkMove (.tmp 16), (some 5), none⟩]) (by kernel_rfl) (by simp (disch := omega) []; exact rfl) ?_
      have hd := h.at_ i c g hci hg
      refine WDO.nil ⟨rfl, i + 1, _, rfl, by simp [e1], ⟨by omega, by rw [n5, nc4, nx4]; omega, ⟨?_, ?_⟩, hk5⟩, by omega⟩
      · have e : (⟨c.tr, lentV (H.next + 1 + 3 * i) g.k, c.was, c.is, lentV (H.next + 2 + 3 * i) g.o, lentV (H.next + 3 + 3 * i) g.w⟩ : Cv) = lentC H.next i g := by
          simp [lentC, hd.tr, hd.was, hd.is]
        rw [e, fillE (allL_len _ _) hc (allL_lo hg)] at b5
        exact b5
      · intro j gj hj hgj
        by_cases hji : j < i
        · have := hla.k j gj (by omega) hgj
          rw [u8 _ (by omega) (by omega), u6 _ (by omega) (by omega), u4 _ (by omega) (by omega), u8 _ (by omega) (by omega), u6 _ (by omega) (by omega), u4 _ (by omega) (by omega), u8 _ (by omega) (by omega), u6 _ (by omega) (by omega), u4 _ (by omega) (by omega)]
          exact this
        · have : j = i := by omega
          subst this
          rw [hg] at hgj
          cases hgj
          refine ⟨?_, ?_, ?_⟩
          · rw [u8 _ (by omega) (by omega), u6 _ (by omega) (by omega), f3 _ (by omega)]; exact bc2
          · rw [u8 _ (by omega) (by omega), f4 _ (by omega)]; exact bc3
          · rw [f5 _ (by omega)]; exact bc4
    · refine WDO.nilS (WD.cond (t := false) (by simp [hil]) (by simp) fun _ => WD.skip (.inl rfl) ?_)
      refine WDO.looks1 tyOk extOk 3 (ls := [⟨lkMove (.tmp 5), (some 15), none⟩, ⟨⟨binInt akAdd (.tmp 15) (.const (.int .i64 1))⟩, (some 16), none⟩, ⟨lkMove (.tmp 16), (some 5), none⟩]) (by kernel_rfl) (by simp (disch := omega) []; exact rfl) ?_
      refine WDO.nil ⟨rfl, i + 1, _, rfl, by simp, ⟨by omega, by rw [n1, hn']; omega, ?_, hk1⟩, by omega⟩
      rw [fillE (allL_len _ _) hc (allL_hi (by omega) hc)] at b1
      refine ⟨b1, fun j g hj hg => ?_⟩
      have := hla.k j g (by omega) hg
      rw [f1 _ (by omega), f1 _ (by omega), f1 _ (by omega)]
      exact this
end
end Go.Proofs.YtnffppehomofmaaGreatDoor
namespace Go.Proofs.YtnffppehomofmaaGreatDoor
open Go.Xq
noncomputable section
def overE {α : Type} (a : α) (i : Nat) (l : List α) : List α := List.replicate i a ++ l.drop i
theorem overE_zero {α : Type} (a : α) (l : List α) : overE a 0 l = l := by simp [overE]
theorem overE_set {α : Type} {a : α} {j : Nat} {l : List α} (h : j < l.length) : (overE a j l).set j a = overE a (j + 1) l := by
  have h2 : l.drop j = l[j] :: l.drop (j + 1) := List.drop_eq_getElem_cons h
  unfold overE
  rw [List.set_append, if_neg (by simp), List.length_replicate, Nat.sub_self, h2, List.set_cons_zero, List.replicate_succ', List.append_assoc]; rfl
theorem overE_len {α : Type} {a : α} {j : Nat} {l : List α} (h : j ≤ l.length) : (overE a j l).length = l.length := by simp [overE]; omega
theorem overE_get {α : Type} {a : α} {j : Nat} {l : List α} : (overE a j l)[j]? = l[j]? := by
  unfold overE
  rw [List.getElem?_append_right (by simp), List.length_replicate, Nat.sub_self, List.getElem?_drop, Nat.add_zero]
def overC : Cv := namedC [111, 118, 101, 114]
/-- the blocks that were lent -/
def lentW (N n : Nat) : Nat → Prop := fun b => N ≤ b ∧ b < N + 1 + 3 * n
/-- what of it is not yet written over -/
structure LeftAt (H : AH) (N : Nat) (gl : List Ch) (els : List Cv) (i : Nat) : Prop where
  el : ∃ o, H.get N = some o ∧ ElB encC 55 6 false zC els o
  k : ∀ j g, i ≤ j → gl[j]? = some g → H.get (N + 1 + 3 * j) = some (bb 5 false (g.k ++ tail9)) ∧ H.get (N + 2 + 3 * j) = some (bb 5 false (g.o ++ tail9)) ∧ H.get (N + 3 + 3 * j) = some (bb 5 false (g.w ++ tail9))
theorem asLent22_ok {H : AH} {N : Nat} {w : AV} {cs : List Cv} {gl : List Ch} (hla : LentAt H N gl (allL N gl) gl.length) (hN : N + 1 + 3 * gl.length ≤ H.next) (h : Says H w cs gl) (hw : ∀ b, blk w = some b → ¬ lentW N gl.length b) (hcs : ∀ c ∈ cs, OutC (lentW N gl.length) c) (hs : Small gl) :
    DC Tryz.prog .normal 7 (.cons (.sl N 0 gl.length (some (gl.length + 3))) (.cons w .nil)) H fun v' H2 => v' = .bool true ∧ Keep (lentW N gl.length) H H2 := by
  have hmax := hs.n
  refine DC.of_wd (re := reTmp 4 reNil) tyOk Tryz.func7 (by kernel_rfl) rfl (by kernel_rfl) (by kernel_rfl) ?_
  rw [tl_nil, argsT_cons, argsT_cons, argsT_nil]
  have hlen := h.rd.len
  rw [h.len] at hlen
  refine WD.seqR ?_
  refine WDO.looks1 tyOk extOk 1 (ls := [⟨lkMove (.const (.bool false)), (some 4), none⟩]) (by kernel_rfl) (by simp (disch := omega) []; exact rfl) ?_
  refine WDO.nilS (WD.seqR ?_)
  refine WDO.looks1 tyOk extOk 3 (ls := [⟨lkMove (.tmp 1), (some 14), none⟩, ⟨⟨lenSl (.tmp 14)⟩, (some 15), none⟩, ⟨lkMove (.tmp 15), (some 5), none⟩]) (by kernel_rfl) (by simp (disch := omega) [hlen]; exact rfl) ?_
  refine WDO.nilS (WD.seq (WD.seqR ?_))
  refine WDO.looks1 tyOk extOk 4 (ls := [⟨lkMove (.tmp 0), (some 16), none⟩, ⟨⟨lenSl (.tmp 16)⟩, (some 17), none⟩, ⟨lkMove (.tmp 5), (some 18), none⟩, ⟨⟨binInt akNeq (.tmp 17) (.tmp 18)⟩, (some 19), none⟩]) (by kernel_rfl) (by simp (disch := omega) []; exact rfl) ?_
  refine WDO.nilS (WD.cond (t := false) (by simp) (by simp) fun _ => WD.skip (.inl rfl) ?_)
  refine WD.seqR ?_
  refine WDO.looks1 tyOk extOk 5 (ls := [⟨lkMove (.tmp 0), (some 20), none⟩, ⟨lkMove (.tmp 5), (some 21), none⟩, ⟨⟨binInt akAdd (.tmp 21) (.const (.int .i64 3))⟩, (some 22), none⟩, ⟨⟨slSl 6 (.tmp 20) none (some (.tmp 22)) none⟩, (some 23), none⟩, ⟨lkMove (.tmp 23), (some 6), none⟩]) (by kernel_rfl) (by simp (disch := omega) []; exact rfl) ?_
  refine WDO.nilS (WD.seqR ?_)
  refine WDO.looks1 tyOk extOk 1 (ls := [⟨lkMove (.const (.bool true)), (some 7), none⟩]) (by kernel_rfl) (by simp (disch := omega) []; exact rfl) ?_
  refine WDO.nilS (WD.seq (WD.seqR ?_))
  refine WDO.looks1 tyOk extOk 1 (ls := [⟨lkMove (.const (.int .i64 0)), (some 8), none⟩]) (by kernel_rfl) (by simp (disch := omega) []; exact rfl) ?_
  refine WDO.nilS (WD.forE (σ := Nat) (fun i => [(1, w), (5, .int .i64 (gl.length : Int)), (6, .sl N 0 (gl.length + 3) (some (gl.length + 3))), (7, .bool true), (8, .int .i64 (i : Int))])
    (fun i H' => i ≤ gl.length + 3 ∧ LeftAt H' N gl (overE overC i (allL N gl)) i ∧ Keep (lentW N gl.length) H H') (fun i => gl.length + 3 - i) 0
    ⟨by omega, ⟨by rw [overE_zero]; exact hla.el, fun j g _ hg => hla.k j g (get_lt hg) hg⟩, Keep.refl _ _⟩ (by simp) ?_)
  rintro i H' ⟨hi, hle, hk'⟩
  refine WDO.looks1 tyOk extOk 4 (ls := [⟨lkMove (.tmp 8), (some 24), none⟩, ⟨lkMove (.tmp 6), (some 25), none⟩, ⟨⟨lenSl (.tmp 25)⟩, (some 26), none⟩, ⟨⟨binInt akLss (.tmp 24) (.tmp 26)⟩, (some 27), none⟩]) (by kernel_rfl) (by simp (disch := omega) []; exact rfl) ?_
  refine WDO.nil ⟨decide ((i : Int) < (gl.length : Int) + 3), _, rfl, by simp, fun hc => ?_, fun hc => ?_⟩
  · refine WD.seqR ?_
    refine WDO.looks1 tyOk extOk 2 (ls := [⟨lkMove (.tmp 7), (some 127), none⟩, ⟨lkMove (.tmp 127), (some 4), none⟩]) (by kernel_rfl) (by simp (disch := omega) []; exact rfl) ?_
    exact WDO.nilS (WD.ret (endR _ (by simp; rfl) ⟨rfl, hk'⟩))
  · have hc : i < gl.length + 3 := by have := of_decide_eq_true hc; omega
    have hE : (overE overC i (allL N gl)).length = gl.length + 3 := by rw [overE_len (by rw [allL_len]; omega), allL_len]
    obtain ⟨oN, gN, bN⟩ := hle.el
    have hNW : lentW N gl.length N := ⟨by omega, by omega⟩
    refine WD.seqR ?_
    by_cases hil : i < gl.length
    · have hg : gl[i]? = some (gl[i]) := List.getElem?_eq_getElem hil
      have hci : cs[i]? = some (cs[i]'(by have := h.len; omega)) := List.getElem?_eq_getElem _
      have hsm := hs.k (gl[i]) (List.getElem_mem _)
      generalize gl[i] = g at hg hsm
      generalize cs[i]'_ = c at hci
      have hcm := List.mem_of_getElem? hci
      have h' := h.keep hk' hw hcs
      have hd := h'.at_ i c g hci hg
      obtain ⟨b, off, cap, o, e1, e2, e3, e4, e5, e6⟩ := h'.rd.at hci
      have q0 := e6 0 _ rfl
      have q1 := e6 1 _ rfl
      have q2 := e6 2 _ rfl
      have q3 := e6 3 _ rfl
      have q4 := e6 4 _ rfl
      have q5 := e6 5 _ rfl
      have hbW : ¬ lentW N gl.length b := hw b (by rw [e1]; rfl)
      have hEi : (overE overC i (allL N gl))[i]? = some (lentC N i g) := by rw [overE_get]; exact allL_lo hg
      have r0 := bN.cell hEi (j := 0) rfl
      have r1 := bN.cell hEi (j := 1) rfl
      have r2 := bN.cell hEi (j := 2) rfl
      have r3 := bN.cell hEi (j := 3) rfl
      have r4 := bN.cell hEi (j := 4) rfl
      have r5 := bN.cell hEi (j := 5) rfl
      simp only [Nat.add_zero, lentC] at r0 r1 r2 r3 r4 r5 q0
      obtain ⟨k1, k2, k3⟩ := hle.k i g (Nat.le_refl _) hg
      refine WDO.looks1 tyOk extOk 7 (ls := [⟨lkMove (.tmp 6), (some 30), none⟩, ⟨lkMove (.tmp 8), (some 31), none⟩, ⟨⟨ixSl 6 (.tmp 30) (.tmp 31)⟩, (some 32), none⟩, ⟨⟨fAddr (.tmp 32) 0⟩, (some 33), none⟩, ⟨⟨ldA ⟨ld1⟩ (.tmp 33)⟩, (some 34), none⟩, ⟨⟨binStr skEql (.tmp 34) (.const (.string ⟨#[98, 101, 104, 105, 110, 100]⟩))⟩, (some 35), none⟩, ⟨lkMove (.tmp 35), (some 9), none⟩]) (by kernel_rfl) (by simp (disch := omega) [gN, r0]; exact rfl) ?_
      refine WDO.nilS (WD.seq (WD.seqR ?_))
      refine WDO.looks1 tyOk extOk 3 (ls := [⟨lkMove (.tmp 8), (some 36), none⟩, ⟨lkMove (.tmp 5), (some 37), none⟩, ⟨⟨binInt akLss (.tmp 36) (.tmp 37)⟩, (some 38), none⟩]) (by kernel_rfl) (by simp (disch := omega) [hil]; exact rfl) ?_
      refine WDO.nilS (WD.cond (t := true) (by simp) (fun _ => WD.seq ?_) (by simp))
      obtain ⟨R, hR, hRc⟩ := specR_ex Tryz.prog (fun _ _ _ _ _ => True)
      refine WD.drawnK tyOk extOk (by kernel_rfl) (ls := [⟨[6], .look (lkMove (.tmp 6)), (some 39), none, 0, 1, true, false⟩, ⟨[8], .look (lkMove (.tmp 8)), (some 40), none, 0, 1, true, false⟩, ⟨[39, 40], .look (⟨ixSl 6 (.tmp 39) (.tmp 40)⟩), (some 41), none, 0, 1, true, false⟩, ⟨[41], .look (⟨fAddr (.tmp 41) 0⟩), (some 42), none, 0, 1, true, false⟩, ⟨[42], .look (⟨ldA ⟨ld1⟩ (.tmp 42)⟩), (some 43), none, 0, 1, false, false⟩, ⟨[1], .look (lkMove (.tmp 1)), (some 44), none, 0, 1, true, false⟩, ⟨[8], .look (lkMove (.tmp 8)), (some 45), none, 0, 1, true, false⟩, ⟨[44, 45], .look (⟨ixSl 6 (.tmp 44) (.tmp 45)⟩), (some 46), none, 0, 1, true, false⟩, ⟨[46], .look (⟨fAddr (.tmp 46) 0⟩), (some 47), none, 0, 1, true, false⟩, ⟨[47], .look (⟨ldA ⟨ld1⟩ (.tmp 47)⟩), (some 48), none, 0, 1, false, false⟩, ⟨[43, 48], .look (⟨binStr skEql (.tmp 43) (.tmp 48)⟩), (some 49), none, 0, 1, false, false⟩, ⟨[49], .look (lkMove (.tmp 49)), (some 50), none, 0, 1, true, false⟩, ⟨[6, 50], .look (lkMove (.tmp 6)), (some 51), (some (50, true)), 0, 1, true, false⟩, ⟨[8, 50], .look (lkMove (.tmp 8)), (some 52), (some (50, true)), 0, 1, true, false⟩, ⟨[51, 52, 50], .look (⟨ixSl 6 (.tmp 51) (.tmp 52)⟩), (some 53), (some (50, true)), 0, 1, true, false⟩, ⟨[53, 50], .look (⟨fAddr (.tmp 53) 2⟩), (some 54), (some (50, true)), 0, 1, true, false⟩, ⟨[54, 50], .look (⟨ldA ⟨ld1⟩ (.tmp 54)⟩), (some 55), (some (50, true)), 0, 1, false, false⟩, ⟨[1, 50], .look (lkMove (.tmp 1)), (some 56), (some (50, true)), 0, 1, true, false⟩, ⟨[8, 50], .look (lkMove (.tmp 8)), (some 57), (some (50, true)), 0, 1, true, false⟩, ⟨[56, 57, 50], .look (⟨ixSl 6 (.tmp 56) (.tmp 57)⟩), (some 58), (some (50, true)), 0, 1, true, false⟩, ⟨[58, 50], .look (⟨fAddr (.tmp 58) 2⟩), (some 59), (some (50, true)), 0, 1, true, false⟩, ⟨[59, 50], .look (⟨ldA ⟨ld1⟩ (.tmp 59)⟩), (some 60), (some (50, true)), 0, 1, false, false⟩, ⟨[55, 60, 50], .look (⟨binEq ⟨eqBool⟩ false (.tmp 55) (.tmp 60)⟩), (some 61), (some (50, true)), 0, 1, false, false⟩, ⟨[50, 61], .look (⟨pickA (.tmp 50) (.tmp 61) (.const (.bool false))⟩), (some 62), none, 0, 1, true, false⟩, ⟨[62], .look (lkMove (.tmp 62)), (some 63), none, 0, 1, true, false⟩, ⟨[6, 63], .look (lkMove (.tmp 6)), (some 64), (some (63, true)), 0, 1, true, false⟩, ⟨[8, 63], .look (lkMove (.tmp 8)), (some 65), (some (63, true)), 0, 1, true, false⟩, ⟨[64, 65, 63], .look (⟨ixSl 6 (.tmp 64) (.tmp 65)⟩), (some 66), (some (63, true)), 0, 1, true, false⟩, ⟨[66, 63], .look (⟨fAddr (.tmp 66) 3⟩), (some 67), (some (63, true)), 0, 1, true, false⟩, ⟨[67, 63], .look (⟨ldA ⟨ld1⟩ (.tmp 67)⟩), (some 68), (some (63, true)), 0, 1, false, false⟩, ⟨[1, 63], .look (lkMove (.tmp 1)), (some 69), (some (63, true)), 0, 1, true, false⟩, ⟨[8, 63], .look (lkMove (.tmp 8)), (some 70), (some (63, true)), 0, 1, true, false⟩, ⟨[69, 70, 63], .look (⟨ixSl 6 (.tmp 69) (.tmp 70)⟩), (some 71), (some (63, true)), 0, 1, true, false⟩, ⟨[71, 63], .look (⟨fAddr (.tmp 71) 3⟩), (some 72), (some (63, true)), 0, 1, true, false⟩, ⟨[72, 63], .look (⟨ldA ⟨ld1⟩ (.tmp 72)⟩), (some 73), (some (63, true)), 0, 1, false, false⟩, ⟨[68, 73, 63], .look (⟨binEq ⟨eqBool⟩ false (.tmp 68) (.tmp 73)⟩), (some 74), (some (63, true)), 0, 1, false, false⟩, ⟨[63, 74], .look (⟨pickA (.tmp 63) (.tmp 74) (.const (.bool false))⟩), (some 75), none, 0, 1, true, false⟩, ⟨[75], .look (lkMove (.tmp 75)), (some 10), none, 0, 1, true, false⟩]) (by kernel_rfl) hR fun K hK => ?_
      simp (disch := omega) [gN, r0, r1, r2, r3, e1, e3, e5, q0, q2, q3, hd.tr, hd.was, hd.is]
      have hout : ∀ B, lentW N gl.length B → OutC (fun x => x = B) c := fun B hB =>
        ⟨fun x e e2 => (hcs c hcm).key x e (e2 ▸ hB), fun x e e2 => (hcs c hcm).old x e (e2 ▸ hB), fun x e e2 => (hcs c hcm).new x e (e2 ▸ hB)⟩
      have hnx := hk'.1
      have gN0 := gN
      have o0 := e3
      have hd0 := hd
      refine hK _ _ (WD.seq ?_)
      clear hK hRc hR
      obtain ⟨R, hR, hRc⟩ := specR_ex Tryz.prog (fun _ _ _ v' G' => v' = .bool true ∧ G'.next = H'.next ∧ Keep (fun x => x = N + 1 + 3 * i) H' G')
      refine WD.drawnK tyOk extOk (by kernel_rfl) (ls := [⟨[6], .look (lkMove (.tmp 6)), (some 76), none, 0, 1, true, false⟩, ⟨[8], .look (lkMove (.tmp 8)), (some 77), none, 0, 1, true, false⟩, ⟨[76, 77], .look (⟨ixSl 6 (.tmp 76) (.tmp 77)⟩), (some 78), none, 0, 1, true, false⟩, ⟨[78], .look (⟨fAddr (.tmp 78) 1⟩), (some 79), none, 0, 1, true, false⟩, ⟨[79], .look (⟨ldA ⟨ld1⟩ (.tmp 79)⟩), (some 80), none, 0, 1, false, false⟩, ⟨[1], .look (lkMove (.tmp 1)), (some 81), none, 0, 1, true, false⟩, ⟨[8], .look (lkMove (.tmp 8)), (some 82), none, 0, 1, true, false⟩, ⟨[81, 82], .look (⟨ixSl 6 (.tmp 81) (.tmp 82)⟩), (some 83), none, 0, 1, true, false⟩, ⟨[83], .look (⟨fAddr (.tmp 83) 1⟩), (some 84), none, 0, 1, true, false⟩, ⟨[84], .look (⟨ldA ⟨ld1⟩ (.tmp 84)⟩), (some 85), none, 0, 1, false, false⟩, ⟨[80, 85], .heavy ⟨hvCallF E 23 (opnds [(.tmp 80), (.tmp 85)])⟩, (some 86), none, 0, 2, false, true⟩, ⟨[86], .look (lkMove (.tmp 86)), (some 11), none, 1, 1, true, false⟩]) (by kernel_rfl) hR fun K hK => ?_
      simp (disch := omega) [gN0, r1, e1, o0, e5, q1]
      obtain ⟨u0, H1, c0, rfl, nx0, kp0⟩ := hRc 23 _ _ (asLent_ok (b := N + 1 + 3 * i) (l := g.k) k1 (by omega) hd0.key hsm.1)
      refine diCall (by simp [lentV]) (extFree _ _ _ rfl rfl rfl) c0 kp0.1 ?_
      simp (disch := omega) [gN0, r1, e1, o0, e5, q1]
      have gN1 := kp0.get (by omega) (show ¬ N = N + 1 + 3 * i by omega) gN0
      have o1 := kp0.get (by omega) (fun e => hbW (by have e : b = N + 1 + 3 * i := e; rw [e]; exact ⟨by omega, by omega⟩)) o0
      have hd1 := hd0.keep kp0 (hout _ ⟨by omega, by omega⟩)
      refine hK _ _ (WD.seq ?_)
      clear hK hRc hR c0
      have k2' := kp0.get (by omega) (show ¬ N + 2 + 3 * i = N + 1 + 3 * i by omega) k2
      obtain ⟨R, hR, hRc⟩ := specR_ex Tryz.prog (fun _ _ _ v' G' => v' = .bool true ∧ G'.next = H1.next ∧ Keep (fun x => x = N + 2 + 3 * i) H1 G')
      refine WD.drawnK tyOk extOk (by kernel_rfl) (ls := [⟨[6], .look (lkMove (.tmp 6)), (some 87), none, 0, 1, true, false⟩, ⟨[8], .look (lkMove (.tmp 8)), (some 88), none, 0, 1, true, false⟩, ⟨[87, 88], .look (⟨ixSl 6 (.tmp 87) (.tmp 88)⟩), (some 89), none, 0, 1, true, false⟩, ⟨[89], .look (⟨fAddr (.tmp 89) 4⟩), (some 90), none, 0, 1, true, false⟩, ⟨[90], .look (⟨ldA ⟨ld1⟩ (.tmp 90)⟩), (some 91), none, 0, 1, false, false⟩, ⟨[1], .look (lkMove (.tmp 1)), (some 92), none, 0, 1, true, false⟩, ⟨[8], .look (lkMove (.tmp 8)), (some 93), none, 0, 1, true, false⟩, ⟨[92, 93], .look (⟨ixSl 6 (.tmp 92) (.tmp 93)⟩), (some 94), none, 0, 1, true, false⟩, ⟨[94], .look (⟨fAddr (.tmp 94) 4⟩), (some 95), none, 0, 1, true, false⟩, ⟨[95], .look (⟨ldA ⟨ld1⟩ (.tmp 95)⟩), (some 96), none, 0, 1, false, false⟩, ⟨[91, 96], .heavy ⟨hvCallF E 23 (opnds [(.tmp 91), (.tmp 96)])⟩, (some 97), none, 0, 2, false, true⟩, ⟨[97], .look (lkMove (.tmp 97)), (some 12), none, 1, 1, true, false⟩]) (by kernel_rfl) hR fun K hK => ?_
      simp (disch := omega) [gN1, r4, e1, o1, e5, q4]
      obtain ⟨u1, H2, c1, rfl, nx1, kp1⟩ := hRc 23 _ _ (asLent_ok (b := N + 2 + 3 * i) (l := g.o) k2' (by omega) hd1.old hsm.2.1)
      refine diCall (by simp [lentV]) (extFree _ _ _ rfl rfl rfl) c1 kp1.1 ?_
      simp (disch := omega) [gN1, r4, e1, o1, e5, q4]
      have gN2 := kp1.get (by omega) (show ¬ N = N + 2 + 3 * i by omega) gN1
      have o2 := kp1.get (by omega) (fun e => hbW (by have e : b = N + 2 + 3 * i := e; rw [e]; exact ⟨by omega, by omega⟩)) o1
      have hd2 := hd1.keep kp1 (hout _ ⟨by omega, by omega⟩)
      refine hK _ _ (WD.seq ?_)
      clear hK hRc hR c1
      have k3' := kp1.get (by omega) (show ¬ N + 3 + 3 * i = N + 2 + 3 * i by omega) (kp0.get (by omega) (show ¬ N + 3 + 3 * i = N + 1 + 3 * i by omega) k3)
      obtain ⟨R, hR, hRc⟩ := specR_ex Tryz.prog (fun _ _ _ v' G' => v' = .bool true ∧ G'.next = H2.next ∧ Keep (fun x => x = N + 3 + 3 * i) H2 G')
      refine WD.drawnK tyOk extOk (by kernel_rfl) (ls := [⟨[6], .look (lkMove (.tmp 6)), (some 98), none, 0, 1, true, false⟩, ⟨[8], .look (lkMove (.tmp 8)), (some 99), none, 0, 1, true, false⟩, ⟨[98, 99], .look (⟨ixSl 6 (.tmp 98) (.tmp 99)⟩), (some 100), none, 0, 1, true, false⟩, ⟨[100], .look (⟨fAddr (.tmp 100) 5⟩), (some 101), none, 0, 1, true, false⟩, ⟨[101], .look (⟨ldA ⟨ld1⟩ (.tmp 101)⟩), (some 102), none, 0, 1, false, false⟩, ⟨[1], .look (lkMove (.tmp 1)), (some 103), none, 0, 1, true, false⟩, ⟨[8], .look (lkMove (.tmp 8)), (some 104), none, 0, 1, true, false⟩, ⟨[103, 104], .look (⟨ixSl 6 (.tmp 103) (.tmp 104)⟩), (some 105), none, 0, 1, true, false⟩, ⟨[105], .look (⟨fAddr (.tmp 105) 5⟩), (some 106), none, 0, 1, true, false⟩, ⟨[106], .look (⟨ldA ⟨ld1⟩ (.tmp 106)⟩), (some 107), none, 0, 1, false, false⟩, ⟨[102, 107], .heavy ⟨hvCallF E 23 (opnds [(.tmp 102), (.tmp 107)])⟩, (some 108), none, 0, 2, false, true⟩, ⟨[108], .look (lkMove (.tmp 108)), (some 13), none, 1, 1, true, false⟩]) (by kernel_rfl) hR fun K hK => ?_
      simp (disch := omega) [gN2, r5, e1, o2, e5, q5]
      obtain ⟨u2, H3, c2, rfl, nx2, kp2⟩ := hRc 23 _ _ (asLent_ok (b := N + 3 + 3 * i) (l := g.w) k3' (by omega) hd2.new hsm.2.2)
      refine diCall (by simp [lentV]) (extFree _ _ _ rfl rfl rfl) c2 kp2.1 ?_
      simp (disch := omega) [gN2, r5, e1, o2, e5, q5]
      have gN3 := kp2.get (by omega) (show ¬ N = N + 3 + 3 * i by omega) gN2
      have o3 := kp2.get (by omega) (fun e => hbW (by have e : b = N + 3 + 3 * i := e; rw [e]; exact ⟨by omega, by omega⟩)) o2
      have hd3 := hd2.keep kp2 (hout _ ⟨by omega, by omega⟩)
      refine hK _ _ (WD.region ?_)
      clear hK hRc hR c2
      refine WDO.looks1 tyOk extOk 11 (ls := [⟨lkMove (.tmp 10), (some 109), none⟩, ⟨lkMove (.tmp 109), (some 110), none⟩, ⟨lkMove (.tmp 11), (some 111), (some (110, true))⟩, ⟨⟨pickA (.tmp 110) (.tmp 111) (.const (.bool false))⟩, (some 112), none⟩, ⟨lkMove (.tmp 112), (some 113), none⟩, ⟨lkMove (.tmp 12), (some 114), (some (113, true))⟩, ⟨⟨pickA (.tmp 113) (.tmp 114) (.const (.bool false))⟩, (some 115), none⟩, ⟨lkMove (.tmp 115), (some 116), none⟩, ⟨lkMove (.tmp 13), (some 117), (some (116, true))⟩, ⟨⟨pickA (.tmp 116) (.tmp 117) (.const (.bool false))⟩, (some 118), none⟩, ⟨lkMove (.tmp 118), (some 9), none⟩]) (by kernel_rfl) (by simp (disch := omega) []; exact rfl) ?_
      refine WDO.nil (WD.seqR ?_)
      refine WDO.looks1 tyOk extOk 5 (ls := [⟨lkMove (.tmp 7), (some 119), none⟩, ⟨lkMove (.tmp 119), (some 120), none⟩, ⟨lkMove (.tmp 9), (some 121), (some (120, true))⟩, ⟨⟨pickA (.tmp 120) (.tmp 121) (.const (.bool false))⟩, (some 122), none⟩, ⟨lkMove (.tmp 122), (some 7), none⟩]) (by kernel_rfl) (by simp (disch := omega) []; exact rfl) ?_
      refine WDO.nilS (WD.region ?_)
      refine WDO.looks1 tyOk extOk 4 (ls := [⟨lkMove (.tmp 6), (some 123), none⟩, ⟨lkMove (.tmp 8), (some 124), none⟩, ⟨⟨buildA (.cons (.str 0 0) (.cons .snil (.cons (.bool false) (.cons (.bool false) (.cons .snil (.cons .snil .nil)))))) ⟨fill1 (.const (.string ⟨#[111, 118, 101, 114]⟩)) 0 1 flEnd⟩⟩, (some 125), none⟩, ⟨⟨ixSl 6 (.tmp 123) (.tmp 124)⟩, (some 126), none⟩]) (by kernel_rfl) (by simp (disch := omega) []; exact rfl) ?_
      obtain ⟨H4, s1, n1, b1, f1⟩ := stE ⟨oN, gN3, bN⟩ (i := i) (a := overC) (by rw [hE]; exact hc) (cells_named _)
      refine WDO.heavy1 tyOk extOk (k := ⟨hvStore ⟨stN 6⟩ (.tmp 126) (.tmp 125)⟩) (by kernel_rfl) rfl (by kernel_rfl) (v := undefA) (H2 := H4) ?_ ?_
      · have s1' := s1
        simp only [chA, encC, overC, namedC, avl_cons, avl_nil] at s1'
        simp [s1']
      refine WDO.nil ?_
      refine WDO.looks1 tyOk extOk 3 (ls := [⟨lkMove (.tmp 8), (some 28), none⟩, ⟨⟨binInt akAdd (.tmp 28) (.const (.int .i64 1))⟩, (some 29), none⟩, ⟨lkMove (.tmp 29), (some 8), none⟩]) (by kernel_rfl) (by simp (disch := omega) []; exact rfl) ?_
      rw [overE_set (by rw [allL_len]; exact hc)] at b1
      have w1 : Keep (lentW N gl.length) H' H3 := ((kp0.mono fun x _ e => (e ▸ ⟨by omega, by omega⟩ : lentW N gl.length x)).trans (kp1.mono fun x _ e => (e ▸ ⟨by omega, by omega⟩ : lentW N gl.length x))).trans (kp2.mono fun x _ e => (e ▸ ⟨by omega, by omega⟩ : lentW N gl.length x))
      have w2 : Keep (lentW N gl.length) H3 H4 := ⟨by omega, fun x _ hx => f1 x fun e => hx (e ▸ hNW)⟩
      refine WDO.nil ⟨rfl, i + 1, _, rfl, by simp [e1], ⟨by omega, ⟨b1, fun j gj hj hgj => ?_⟩, (hk'.trans w1).trans w2⟩, by omega⟩
      have hjl := get_lt hgj
      have := hle.k j gj (by omega) hgj
      have st : ∀ x, x ≠ N → x ≠ N + 1 + 3 * i → x ≠ N + 2 + 3 * i → x ≠ N + 3 + 3 * i → x < N + 1 + 3 * gl.length → H4.get x = H'.get x := fun x h1 h2 h3 h4 h5 => by
        rw [f1 x h1, kp2.2 x (by omega) h4, kp1.2 x (by omega) h3, kp0.2 x (by omega) h2]
      rw [st _ (by omega) (by omega) (by omega) (by omega) (by omega), st _ (by omega) (by omega) (by omega) (by omega) (by omega), st _ (by omega) (by omega) (by omega) (by omega) (by omega)]
      exact this
    · have r0 := bN.cell (show (overE overC i (allL N gl))[i]? = some behindC by rw [overE_get]; exact allL_hi (by omega) hc) (j := 0) rfl
      simp only [Nat.add_zero, behindC, namedC] at r0
      have hsq : sEq 6 (leNat [98, 101, 104, 105, 110, 100]) 6 (leNat [98, 101, 104, 105, 110, 100]) = true := by
        have := sEq_sb [98, 101, 104, 105, 110, 100] [98, 101, 104, 105, 110, 100]
        simpa using this
      have hsk : skEql.f 6 (leNat [98, 101, 104, 105, 110, 100]) 6 (leNat [98, 101, 104, 105, 110, 100]) = some (.bool true) := by rw [← hsq]; rfl
      refine WDO.looks1 tyOk extOk 7 (ls := [⟨lkMove (.tmp 6), (some 30), none⟩, ⟨lkMove (.tmp 8), (some 31), none⟩, ⟨⟨ixSl 6 (.tmp 30) (.tmp 31)⟩, (some 32), none⟩, ⟨⟨fAddr (.tmp 32) 0⟩, (some 33), none⟩, ⟨⟨ldA ⟨ld1⟩ (.tmp 33)⟩, (some 34), none⟩, ⟨⟨binStr skEql (.tmp 34) (.const (.string ⟨#[98, 101, 104, 105, 110, 100]⟩))⟩, (some 35), none⟩, ⟨lkMove (.tmp 35), (some 9), none⟩]) (by kernel_rfl) (by simp (disch := omega) [gN, r0, hsk, hsq]; exact rfl) ?_
      refine WDO.nilS (WD.seq (WD.seqR ?_))
      refine WDO.looks1 tyOk extOk 3 (ls := [⟨lkMove (.tmp 8), (some 36), none⟩, ⟨lkMove (.tmp 5), (some 37), none⟩, ⟨⟨binInt akLss (.tmp 36) (.tmp 37)⟩, (some 38), none⟩]) (by kernel_rfl) (by simp (disch := omega) [hil]; exact rfl) ?_
      refine WDO.nilS (WD.cond (t := false) (by simp) (by simp) fun _ => WD.skip (.inl rfl) (WD.seqR ?_))
      refine WDO.looks1 tyOk extOk 5 (ls := [⟨lkMove (.tmp 7), (some 119), none⟩, ⟨lkMove (.tmp 119), (some 120), none⟩, ⟨lkMove (.tmp 9), (some 121), (some (120, true))⟩, ⟨⟨pickA (.tmp 120) (.tmp 121) (.const (.bool false))⟩, (some 122), none⟩, ⟨lkMove (.tmp 122), (some 7), none⟩]) (by kernel_rfl) (by simp (disch := omega) []; exact rfl) ?_
      refine WDO.nilS (WD.region ?_)
      refine WDO.looks1 tyOk extOk 4 (ls := [⟨lkMove (.tmp 6), (some 123), none⟩, ⟨lkMove (.tmp 8), (some 124), none⟩, ⟨⟨buildA (.cons (.str 0 0) (.cons .snil (.cons (.bool false) (.cons (.bool false) (.cons .snil (.cons .snil .nil)))))) ⟨fill1 (.const (.string ⟨#[111, 118, 101, 114]⟩)) 0 1 flEnd⟩⟩, (some 125), none⟩, ⟨⟨ixSl 6 (.tmp 123) (.tmp 124)⟩, (some 126), none⟩]) (by kernel_rfl) (by simp (disch := omega) []; exact rfl) ?_
      obtain ⟨H4, s1, n1, b1, f1⟩ := stE ⟨oN, gN, bN⟩ (i := i) (a := overC) (by rw [hE]; exact hc) (cells_named _)
      refine WDO.heavy1 tyOk extOk (k := ⟨hvStore ⟨stN 6⟩ (.tmp 126) (.tmp 125)⟩) (by kernel_rfl) rfl (by kernel_rfl) (v := undefA) (H2 := H4) ?_ ?_
      · have s1' := s1
        simp only [chA, encC, overC, namedC, avl_cons, avl_nil] at s1'
        simp [s1']
      refine WDO.nil ?_
      refine WDO.looks1 tyOk extOk 3 (ls := [⟨lkMove (.tmp 8), (some 28), none⟩, ⟨⟨binInt akAdd (.tmp 28) (.const (.int .i64 1))⟩, (some 29), none⟩, ⟨lkMove (.tmp 29), (some 8), none⟩]) (by kernel_rfl) (by simp (disch := omega) []; exact rfl) ?_
      rw [overE_set (by rw [allL_len]; exact hc)] at b1
      refine WDO.nil ⟨rfl, i + 1, _, rfl, by simp, ⟨by omega, ⟨b1, fun j gj hj hgj => ?_⟩, hk'.trans ⟨by omega, fun x _ hx => f1 x fun e => hx (e ▸ hNW)⟩⟩, by omega⟩
      have hjl := get_lt hgj
      omega
end
end Go.Proofs.YtnffppehomofmaaGreatDoor
