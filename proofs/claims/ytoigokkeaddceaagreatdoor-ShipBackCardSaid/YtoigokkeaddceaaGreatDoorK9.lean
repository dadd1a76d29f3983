/- A part of the proof of this seat's statement: what is particular to its program. Its conditions stand in each theorem. -/
import Derived.Test.YtoigokkeaddceaaGreatDoorM1
import Derived.Test.YtoigokkeaddceaaGreatDoorZ7
namespace Go.Proofs.YtoigokkeaddceaaGreatDoor
open Go.Xq
noncomputable section
end
end Go.Proofs.YtoigokkeaddceaaGreatDoor
namespace Go.Proofs.YtoigokkeaddceaaGreatDoor
open Go.Xq
noncomputable section
def zeroDl : Dl := ⟨0, 0, 0, 0, [], []⟩
theorem lst_own {H : AH} {lo lo' : Nat} {v u : AV} {els : List Pv} {l : List UInt8} (h : LstAt encPv 67 2 zPv H lo v els) (ho : OwnB 5 H lo' u l) {b : Nat} (e : blk u = some b) : ¬ blk v = some b := by
  intro e2
  rcases ho with ⟨rfl, _⟩ | ⟨b', rfl, _, h1, h2, h3⟩
  · cases e
  · cases e
    rcases h with ⟨rfl, _⟩ | ⟨b2, o, rfl, q1, q2, q3, q4, q5⟩
    · cases e2
    · cases e2
      rw [h3] at q4
      obtain ⟨t, ht⟩ := q5.opn
      subst ht
      cases q4
structure PagesAt (H : AH) (lo : Nat) (v : AV) (ps : List (Int × List UInt8)) (els : List Pv) : Prop where
  lst : LstAt encPv 67 2 zPv H lo v els
  len : els.length = ps.length
  at_ : ∀ (j : Nat) (a : Pv) (p : Int × List UInt8), els[j]? = some a → ps[j]? = some p → a.n = p.1 ∧ OwnB 5 H lo a.v p.2
theorem PagesAt.keep {S : Nat → Prop} {H H2 : AH} {lo : Nat} {v : AV} {ps : List (Int × List UInt8)} {els : List Pv} (h : PagesAt H lo v ps els) (hk : Keep S H H2) (hs : ∀ b, lo ≤ b → b < H.next → ¬ S b) : PagesAt H2 lo v ps els :=
  ⟨h.lst.keep hk fun _ e => hs _ (h.lst.low e).1 (h.lst.low e).2, h.len, fun j a p ha hp => ⟨(h.at_ j a p ha hp).1, (h.at_ j a p ha hp).2.keep hk fun _ e => hs _ ((h.at_ j a p ha hp).2.low e).1 ((h.at_ j a p ha hp).2.low e).2⟩⟩
theorem PagesAt.says {H : AH} {lo : Nat} {v : AV} {ps : List (Int × List UInt8)} {els : List Pv} (h : PagesAt H lo v ps els) : SaysP H v (els.map fun a => (a.n, a.v)) ps := by
  refine ⟨?_, by simpa using h.len, ?_⟩
  · rcases h.lst with ⟨rfl, rfl⟩ | ⟨b, o, rfl, h1, h2, h3, h4, h5⟩
    · exact .inl ⟨rfl, rfl⟩
    · refine .inr ⟨b, 0, none, by simp, fun _ => ⟨h3, o, h4, ?_⟩⟩
      intro k c hc j u hu
      simp only [List.getElem?_map, Option.map_eq_some_iff] at hc
      obtain ⟨a, ha, rfl⟩ := hc
      have := h5.cell ha (j := j) (v := u) (by simpa [encP, encPv] using hu)
      simpa using this
  · intro i c p hc hp
    simp only [List.getElem?_map, Option.map_eq_some_iff] at hc
    obtain ⟨a, ha, rfl⟩ := hc
    obtain ⟨h1, h2⟩ := h.at_ i a p ha hp
    exact ⟨h1, h2.rd⟩
theorem PagesAt.app {H : AH} {lo : Nat} {v x : AV} {ps : List (Int × List UInt8)} {els : List Pv} {a : Pv} {p : Int × List UInt8} (h : PagesAt H lo v ps els) (hlo : lo ≤ H.next) (hx : One encPv 2 H x a) (hn : a.n = p.1) (ho : OwnB 5 H lo a.v p.2) (hmax : ps.length < 8589934592) :
    ∃ v' H2, appendA ⟨grownCs 2 ⟨mkCs 67 2 zPv⟩⟩ 2 H v x = some (v', H2) ∧ PagesAt H2 lo v' (ps ++ [p]) (els ++ [a]) ∧ H2.next = H.next + 1 ∧ Keep (fun b => blk v = some b) H H2 := by
  obtain ⟨v', H2, a1, a2, a3, a4, a5⟩ := h.lst.app encPv_len (by omega) hlo (cells_pv a) hx (by rw [h.len]; exact hmax)
  refine ⟨v', H2, a1, ⟨a2, by simp [h.len], fun j b q hb hq => ?_⟩, a4, a5⟩
  have key : ∀ {u : AV} {l : List UInt8}, OwnB 5 H lo u l → OwnB 5 H2 lo u l := fun ho => ho.keep a5 fun b e e2 => lst_own h.lst ho e e2
  rcases Nat.lt_or_ge j els.length with hj | hj
  · rw [List.getElem?_append_left hj] at hb
    rw [List.getElem?_append_left (by rw [← h.len]; exact hj)] at hq
    obtain ⟨h1, h2⟩ := h.at_ j b q hb hq
    exact ⟨h1, key h2⟩
  · have hjl := get_lt hb
    simp only [List.length_append, List.length_singleton] at hjl
    have : j = els.length := by omega
    subst this
    rw [List.getElem?_append_right (Nat.le_refl _), Nat.sub_self] at hb
    rw [h.len, List.getElem?_append_right (Nat.le_refl _), Nat.sub_self] at hq
    simp at hb hq
    subst hb hq
    exact ⟨hn, key ho⟩
structure MadeD (H : AH) (lo : Nat) (d : Dl) (pv mv : AV) (els : List Pv) : Prop where
  pages : PagesAt H lo pv d.pages els
  meta_ : OwnB 5 H lo mv d.meta_
theorem ownB_slOk {H : AH} {lo : Nat} {v : AV} {l : List UInt8} (h : OwnB 5 H lo v l) : SlOk H v := by
  rcases h with ⟨rfl, _⟩ | ⟨b, rfl, _, _, _, h⟩
  · exact .inl rfl
  · exact .inr (.inr ⟨b, 0, _, 5, _, rfl, h⟩)
theorem MadeD.dl {H : AH} {lo : Nat} {d : Dl} {pv mv : AV} {els : List Pv} (h : MadeD H lo d pv mv els) : DlAt H d pv mv (els.map fun a => (a.n, a.v)) :=
  ⟨h.pages.says, h.meta_.rd, fun _ => ownB_slOk h.meta_⟩
theorem PagesAt.wide {H : AH} {lo lo2 : Nat} {v : AV} {ps : List (Int × List UInt8)} {els : List Pv} (h : PagesAt H lo v ps els) (hl : lo2 ≤ lo) : PagesAt H lo2 v ps els := by
  refine ⟨?_, h.len, fun j a p ha hp => ⟨(h.at_ j a p ha hp).1, ownB_wide (h.at_ j a p ha hp).2 hl⟩⟩
  rcases h.lst with h | ⟨b, o, h1, h2, h3, h4⟩
  · exact .inl h
  · exact .inr ⟨b, o, h1, h2, by omega, h4⟩
theorem MadeD.wide {H : AH} {lo lo2 : Nat} {d : Dl} {pv mv : AV} {els : List Pv} (h : MadeD H lo d pv mv els) (hl : lo2 ≤ lo) : MadeD H lo2 d pv mv els := ⟨h.pages.wide hl, ownB_wide h.meta_ hl⟩
theorem newDv (H : AH) : Bx encDv 25 6 zDv (H.new (.cs 25 6 6 false zDv .e)) H.next zeroDv := Bx.new (z := zDv) (a := zeroDv) encDv_len rfl H rfl
def numS (l : List UInt8) : AV → AV
  | .cons _ (.cons (.int _ a) (.cons (.int _ w) .nil)) => .int .i64 (i64 (readL (sub l a.toNat w.toNat)))
  | _ => .snil
end
end Go.Proofs.YtoigokkeaddceaaGreatDoor
namespace Go.Proofs.YtoigokkeaddceaaGreatDoor
open Go.Xq
noncomputable section
abbrev SlBox (H : AH) (b : Nat) (v : AV) : Prop := Bx enc1 23 1 z1 H b v
theorem SlBox.rd {H : AH} {b : Nat} {v : AV} (h : SlBox H b v) : ∃ o, H.get b = some o ∧ rdCell o 0 = some v := by
  obtain ⟨o, h1, h2, _⟩ := h.get enc1_len
  exact ⟨o, h1, h2 0 v rfl⟩
theorem newSlBox (H : AH) : SlBox (H.new (.cs 23 1 1 false z1 .e)) H.next .snil := Bx.new (z := z1) (a := AV.snil) enc1_len rfl H rfl
theorem sub_drop (l : List UInt8) (w : Nat) : sub l w (l.length - w) = l.drop w := by
  unfold sub
  rw [List.take_of_length_le (by simp)]
set_option maxRecDepth 20000 in
theorem get_ok {H0 H : AH} {B w : Nat} {v : AV} {l : List UInt8} (hB : SlBox H B v) (hBl : H0.next ≤ B) (hBn : B < H.next) (h : OldS H0 v l) (hk : Keep noB H0 H) (hw : 1 ≤ w) (hw8 : w ≤ 8) (hl : w ≤ l.length) (hmx : l.length ≤ 17179869184) :
    DC Tryz.prog .normal 42 (.cons (.ptr B 0) (.cons (.int .i64 (w : Int)) .nil)) H fun v' H2 => v' = .int .i64 (i64 (readL (sub l 0 w))) ∧ (∃ v2, SlBox H2 B v2 ∧ OldS H0 v2 (l.drop w) ∧ blk v2 = blk v) ∧ H2.next = H.next ∧ Keep (fun b => b = B) H H2 := by
  refine DC.of_wd (re := reTmp 4 reNil) tyOk Tryz.func42 (by kernel_rfl) rfl (by kernel_rfl) (by kernel_rfl) ?_
  rw [tl_nil, argsT_cons, argsT_cons, argsT_nil]
  have hne : l ≠ [] := by intro e; subst e; simp at hl; omega
  obtain ⟨o, g, r⟩ := hB.rd
  refine WD.seqR ?_
  refine WDO.looks1 tyOk extOk 1 (ls := [⟨lkMove (.const (.int .i64 0)), (some 4), none⟩]) (by kernel_rfl) (by simp (disch := omega) []; exact rfl) ?_
  refine WDO.nilS (WD.seqR ?_)
  refine WDO.looks1 tyOk extOk 4 (ls := [⟨lkMove (.tmp 0), (some 8), none⟩, ⟨⟨nilChk E (.tmp 8)⟩, (some 9), none⟩, ⟨⟨ldA ⟨ld1⟩ (.tmp 9)⟩, (some 10), none⟩, ⟨lkMove (.tmp 1), (some 11), none⟩]) (by kernel_rfl) (by simp (disch := omega) [g, r]; exact rfl) ?_
  refine WDO.callF (g := 95) rfl rfl rfl (by kernel_rfl) (l := .cons v (.cons (.int .i64 0) (.cons (.int .i64 (w : Int)) .nil))) (by simp) (readFixed_ok (at_ := 0) (h.at hk) (h.cutAt hk hne) (by omega) hw hw8 (by omega) hmx) fun u H1 ⟨hu, hH⟩ => ?_
  subst hu
  subst hH
  have hrl : readL (sub l 0 w) < 18446744073709551616 := by
    have h1 := readL_lt w (sub l 0 w) (sub_len (by omega))
    have h2 : 256 ^ w ≤ 256 ^ 8 := Nat.pow_le_pow_right (by omega) hw8
    omega
  have cv := mkInt_i64u hrl
  refine WDO.looks1 tyOk extOk 5 (ls := [⟨lkMove (.tmp 12), (some 7), none⟩, ⟨⟨exA (.tmp 7) 0⟩, (some 13), none⟩, ⟨⟨exA (.tmp 7) 1⟩, (some 14), none⟩, ⟨lkMove (.tmp 13), (some 5), none⟩, ⟨lkMove (.tmp 14), (some 6), none⟩]) (by kernel_rfl) (by simp (disch := omega) []; exact rfl) ?_
  refine WDO.nilS (WD.seqR ?_)
  obtain ⟨v2, c1, c2, c3⟩ := h.sl (lo := w) none (n := l.length) rfl hk hne hl (Nat.le_refl _)
  rw [sub_drop] at c2
  refine WDO.looks1 tyOk extOk 7 (ls := [⟨lkMove (.tmp 0), (some 15), none⟩, ⟨lkMove (.tmp 0), (some 16), none⟩, ⟨⟨nilChk E (.tmp 16)⟩, (some 17), none⟩, ⟨⟨ldA ⟨ld1⟩ (.tmp 17)⟩, (some 18), none⟩, ⟨lkMove (.tmp 1), (some 19), none⟩, ⟨⟨slSl 1 (.tmp 18) (some (.tmp 19)) none none⟩, (some 20), none⟩, ⟨⟨nilChk E (.tmp 15)⟩, (some 21), none⟩]) (by kernel_rfl) (by simp (disch := omega) [g, r, c1]; exact rfl) ?_
  obtain ⟨H2, s1, s2, s3, s4⟩ := hB.store1 enc1_len v2 (f := 0) (v := v2) (by omega) rfl (c2.rd.cell)
  refine WDO.heavy1 tyOk extOk (k := ⟨hvStore ⟨st1'⟩ (.tmp 21) (.tmp 20)⟩) (by kernel_rfl) rfl (by kernel_rfl) (by simp; exact st1_ob s1) ?_
  refine WDO.nilS (WD.seqR ?_)
  refine WDO.looks1 tyOk extOk 3 (ls := [⟨lkMove (.tmp 5), (some 22), none⟩, ⟨⟨cvInt .i64 (.tmp 22)⟩, (some 23), none⟩, ⟨lkMove (.tmp 23), (some 4), none⟩]) (by kernel_rfl) (by simp (disch := omega) [cv]; exact rfl) ?_
  exact WDO.nilS (WD.ret (endR _ (by simp; rfl) ⟨rfl, ⟨v2, s3, c2, c3⟩, s2, s4⟩))
@[simp] theorem eqSl_nn (H : AH) : eqSl H .snil .snil = some true := rfl
@[simp] theorem eqSl_sn (H : AH) (b o n : Nat) (c : Option Nat) : eqSl H (.sl b o n c) .snil = some false := rfl
def OwnZ (H : AH) (lo : Nat) (v : AV) (l : List UInt8) : Prop := OwnB 5 H lo v l ∨ (∃ b, v = .sl b 0 0 (some 0) ∧ lo ≤ b ∧ b < H.next ∧ l = [])
set_option maxRecDepth 20000 in
theorem clone_ok {H : AH} {v : AV} {l : List UInt8} (h : RdS H v l) (hmx : l.length ≤ 17179869184) :
    DC Tryz.prog .normal 44 (.cons v .nil) H fun v' H2 => OwnZ H2 H.next v' l ∧ Keep noB H H2 := by
  refine DC.of_wd (re := reTmp 2 reNil) tyOk Tryz.func44 (by kernel_rfl) rfl (by kernel_rfl) (by kernel_rfl) ?_
  rw [tl_nil, argsT_cons, argsT_nil]
  refine WD.seqR ?_
  refine WDO.looks1 tyOk extOk 1 (ls := [⟨lkMove (.const (.slice none 0 0)), (some 2), none⟩]) (by kernel_rfl) (by simp (disch := omega) []; exact rfl) ?_
  refine WDO.nilS (WD.seq (WD.seqR ?_))
  by_cases hv : v = .snil
  · subst hv
    have hl : l = [] := by
      rcases h with ⟨_, e⟩ | ⟨b, off, cap, e, _⟩
      · exact e
      · cases e
    subst hl
    refine WDO.looks1 tyOk extOk 2 (ls := [⟨lkMove (.tmp 0), (some 3), none⟩, ⟨⟨binEq ⟨eqSl⟩ false (.tmp 3) (.const (.slice none 0 0))⟩, (some 4), none⟩]) (by kernel_rfl) (by simp (disch := omega) []; exact rfl) ?_
    refine WDO.nilS (WD.cond (t := true) (by simp) (fun _ => WD.seqR ?_) (by simp))
    refine WDO.looks1 tyOk extOk 1 (ls := [⟨lkMove (.const (.slice none 0 0)), (some 2), none⟩]) (by kernel_rfl) (by simp (disch := omega) []; exact rfl) ?_
    exact WDO.nilS (WD.ret (endR _ (by simp; rfl) ⟨.inl (.inl ⟨rfl, rfl⟩), Keep.refl _ _⟩))
  · obtain ⟨b, off, n, cap, rfl⟩ : ∃ b off n cap, v = .sl b off n cap := by
      rcases h with ⟨e, _⟩ | ⟨b, off, cap, e, _⟩
      · exact absurd e hv
      · exact ⟨b, off, _, cap, e⟩
    refine WDO.looks1 tyOk extOk 2 (ls := [⟨lkMove (.tmp 0), (some 3), none⟩, ⟨⟨binEq ⟨eqSl⟩ false (.tmp 3) (.const (.slice none 0 0))⟩, (some 4), none⟩]) (by kernel_rfl) (by simp (disch := omega) []; exact rfl) ?_
    refine WDO.nilS (WD.cond (t := false) (by simp) (by simp) fun _ => WD.skip (.inl rfl) (WD.seqR ?_))
    refine WDO.fresh1 tyOk (k := ⟨frSlice 0 (zerosA (.cons (.int .u8 0) .nil) 0) flEnd ⟨mkBy 5⟩⟩) (by kernel_rfl) rfl (by kernel_rfl) (v := .sl H.next 0 0 (some 0)) (x := bb 5 false []) ?_ ?_
    · exact rfl
    have k1 : Keep noB H (H.new (bb 5 false [])) := Keep.new _ _ _
    have g1 : (H.new (bb 5 false [])).get H.next = some (bb 5 false []) := get_new_same _ _
    have n1 : (H.new (bb 5 false [])).next = H.next + 1 := by simp
    have h1 := h.keep k1 fun _ _ => id
    generalize H.new (bb 5 false []) = H1 at k1 g1 n1 h1 ⊢
    refine WDO.looks1 tyOk extOk 1 (ls := [⟨lkMove (.tmp 0), (some 6), none⟩]) (by kernel_rfl) (by simp (disch := omega) []; exact rfl) ?_
    by_cases hl : l = []
    · subst hl
      have ha := appB_zero (e := 5) h1 (b := H.next) (off := 0) (len := 0) (c := 0) (Nat.le_refl _) (by omega)
      refine WDO.heavy1 tyOk extOk (k := ⟨hvAppend ⟨grownBy 5⟩ 1 (.tmp 5) (.tmp 6)⟩) (by kernel_rfl) rfl (by kernel_rfl) (by simp; exact ha) ?_
      refine WDO.looks1 tyOk extOk 1 (ls := [⟨lkMove (.tmp 7), (some 2), none⟩]) (by kernel_rfl) (by simp (disch := omega) []; exact rfl) ?_
      exact WDO.nilS (WD.ret (endR _ (by simp; rfl) ⟨.inr ⟨H.next, rfl, Nat.le_refl _, by omega, rfl⟩, k1⟩))
    · obtain ⟨v', H2, a1, a2, a3, a4⟩ := appB_first (e := 5) (lo := H.next) (k := []) (n := 0) (b := H.next) (H := H1) (.bb' rfl (by omega) g1) rfl h1 hl (by omega) (by omega)
      refine WDO.heavy1 tyOk extOk (k := ⟨hvAppend ⟨grownBy 5⟩ 1 (.tmp 5) (.tmp 6)⟩) (by kernel_rfl) rfl (by kernel_rfl) (by simp; exact a1) ?_
      refine WDO.looks1 tyOk extOk 1 (ls := [⟨lkMove (.tmp 7), (some 2), none⟩]) (by kernel_rfl) (by simp (disch := omega) []; exact rfl) ?_
      exact WDO.nilS (WD.ret (endR _ (by simp; rfl) ⟨.inl (by rw [List.nil_append] at a2; exact a2), k1.trans a3⟩))
end
end Go.Proofs.YtoigokkeaddceaaGreatDoor
