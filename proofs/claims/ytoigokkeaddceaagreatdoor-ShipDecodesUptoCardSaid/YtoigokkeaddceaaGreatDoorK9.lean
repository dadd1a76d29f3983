/- A part of the proof of this seat's statement: what is particular to its program. Its conditions stand in each theorem. -/
import Derived.Test.YtoigokkeaddceaaGreatDoorM1
import Derived.Test.YtoigokkeaddceaaGreatDoorZ7
namespace Go.Proofs.YtoigokkeaddceaaGreatDoor
open Go.Xq
noncomputable section
theorem akMul_u64 {a b q : Nat} (hq : q = a * b) (h : q < 18446744073709551616) : akMul.f .u64 (a : Int) (b : Int) = some (.int .u64 (q : Int)) := by
  show mkInt .u64 (mulI a b) = _
  rw [mulI_eq, hq, ← Int.natCast_mul, mkInt_u64n (by omega)]
theorem akMul_u64c {b q : Nat} (hq : q = 256 * b) (h : q < 18446744073709551616) : akMul.f .u64 256 (b : Int) = some (.int .u64 (q : Int)) := akMul_u64 (a := 256) hq h
theorem akAdd_u64 {a b q : Nat} (hq : q = a + b) (h : q < 18446744073709551616) : akAdd.f .u64 (a : Int) (b : Int) = some (.int .u64 (q : Int)) := by
  show mkInt .u64 (addI a b) = _
  rw [addI_eq, hq, ← Int.natCast_add, mkInt_u64n (by omega)]
set_option maxRecDepth 20000 in
theorem readFixed01_ok {H : AH} {v : AV} {l : List UInt8} {at_ w : Nat} (h : RdS H v l) (hat : at_ + w ≤ l.length) (hw : 1 ≤ w) (hw8 : w ≤ 8) (hmx : l.length ≤ 17179869184) :
    DC Tryz.prog .normal 94 (.cons v (.cons (.int .i64 (at_ : Int)) (.cons (.int .i64 (w : Int)) .nil))) H fun v' H2 => v' = .tup (.cons (.int .u64 ((readL (sub l at_ w) : Nat) : Int)) (.cons (.int .i64 0) .nil)) ∧ H2 = H := by
  refine DC.of_wd (re := reTmp 6 (reTmp 7 reNil)) tyOk Tryz.func94 (by kernel_rfl) rfl (by kernel_rfl) (by kernel_rfl) ?_
  rw [tl_nil, argsT_cons, argsT_cons, argsT_cons, argsT_nil]
  have hlen := h.len
  have f1 : ¬ (w : Int) < 1 := by omega
  have f2 : ¬ (8 : Int) < (w : Int) := by omega
  have f3 : ¬ (at_ : Int) < 0 := by omega
  have f4 : ¬ (l.length : Int) < (at_ : Int) := by omega
  have f5 : ¬ (l.length : Int) - (at_ : Int) < (w : Int) := by omega
  refine WD.seqR ?_
  refine lkD 2 [⟨lkMove (.const (.int .u64 0)), (some 6), none⟩, ⟨lkMove (.const (.int .i64 0)), (some 7), none⟩] (by simp (disch := omega) []; exact rfl) ?_
  refine WDO.nilS (WD.seq (WD.seqR ?_))
  refine lkD 16 [xM 2 10, xC akLss 10 1 11, xM 11 12, yM 2 13 12 false, yC akGtr 13 8 14 12 false, xP 12 14 15 true, xM 15 16, yM 1 17 16 false, yC akLss 17 0 18 16 false, xP 16 18 19 true, xM 19 20, yM 1 21 20 false, yM 0 22 20 false, yN 22 23 20 false, yB akGtr 21 23 24 20 false, xP 20 24 25 true] (by simp (disch := omega) [f1, f2, f3, f4, hlen]; exact rfl) ?_
  refine WDO.nilS (WD.cond (t := false) (by simp) (by simp) fun _ => WD.skip (.inl rfl) (WD.seq (WD.seqR ?_)))
  refine lkD 6 [xM 0 26, xN 26 27, xM 1 28, xB akSub 27 28 29, xM 2 30, xB akLss 29 30 31] (by simp (disch := omega) [hlen, f5]; exact rfl) ?_
  refine WDO.nilS (WD.cond (t := false) (by simp) (by simp) fun _ => WD.skip (.inl rfl) (WD.seqR ?_))
  refine lkD 1 [⟨lkMove (.const (.int .u64 0)), (some 8), none⟩] (by simp (disch := omega) []; exact rfl) ?_
  refine WDO.nilS (WD.seq (WD.seqR ?_))
  refine lkD 2 [xM 1 32, xM 32 9] (by simp (disch := omega) []; exact rfl) ?_
  refine WDO.nilS (WD.forE (σ := Nat) (fun i => [(0, v), (1, .int .i64 (at_ : Int)), (2, .int .i64 (w : Int)), (8, .int .u64 ((readL (sub l at_ i) : Nat) : Int)), (9, .int .i64 ((at_ : Int) + (i : Int)))]) (fun i H' => i ≤ w ∧ H = H') (fun i => w - i) 0 ⟨Nat.zero_le _, rfl⟩ (by simp [sub, readL]) ?_)
  rintro i _ ⟨hi, rfl⟩
  by_cases hc : i < w
  · have c1 : (at_ : Int) + (i : Int) < (at_ : Int) + (w : Int) := by omega
    have c2 : (at_ : Int) + (i : Int) < (l.length : Int) := by omega
    refine lkD 11 [xM 9 33, xM 1 34, xM 2 35, xB akAdd 34 35 36, xB akLss 33 36 37, xM 37 38, yM 9 39 38 true, yM 0 40 38 true, yN 40 41 38 true, yB akLss 39 41 42 38 true, ⟨⟨pickA (.tmp 38) (.tmp 42) (.const (.bool false))⟩, (some 43), none⟩] (by simp (disch := omega) [hlen, c1, c2, hc]; exact rfl) ?_
    refine WDO.nil ⟨true, _, rfl, by simp, (by simp), fun _ => ?_⟩
    obtain ⟨b, off, cap, o, hv, hb', ho, hby⟩ := h.pos (by omega)
    have hx : l[at_ + i]? = some (l[at_ + i]'(by omega)) := List.getElem?_eq_getElem _
    generalize l[at_ + i]'_ = x at hx
    have hrd := hby _ _ hx
    have hxl := x.toNat_lt
    have hnn : readL (sub l at_ (i + 1)) = 256 * readL (sub l at_ i) + x.toNat := by rw [sub_succ hx, readL_snoc]
    have hlt : readL (sub l at_ i) < 72057594037927936 := by
      have h1 := readL_lt i (sub l at_ i) (sub_len (by omega))
      have h2 : 256 ^ i ≤ 256 ^ 7 := Nat.pow_le_pow_right (by omega) (by omega)
      have h3 : (256 : Nat) ^ 7 = 72057594037927936 := by decide
      omega
    generalize readL (sub l at_ i) = m at hnn hlt ⊢
    obtain ⟨q, hq⟩ : ∃ q, q = 256 * m := ⟨_, rfl⟩
    obtain ⟨z, hz⟩ : ∃ z, z = q + x.toNat := ⟨_, rfl⟩
    have g1 := akMul_u64c hq (by omega)
    have g2 : mkInt .u64 (x.toNat : Int) = some (.int .u64 (x.toNat : Int)) := mkInt_u64n (by omega)
    have g3 : akAdd.f .u64 (q : Int) (x.toNat : Int) = some (.int .u64 (z : Int)) := akAdd_u64 hz (by omega)
    have hzz : readL (sub l at_ (i + 1)) = z := by rw [hnn, hz, hq]
    have f6 : at_ + i < l.length := by omega
    refine WD.region ?_
    refine lkD 9 [xM 8 46, ⟨⟨binInt akMul (.const (.int .u64 256)) (.tmp 46)⟩, (some 47), none⟩, xM 0 48, xM 9 49, xI 1 48 49 50, xL 50 51, ⟨⟨cvInt .u64 (.tmp 51)⟩, (some 52), none⟩, xB akAdd 47 52 53, xM 53 8] (by simp (disch := omega) [hv, ho, hrd, hc, g1, g2, g3, f6]; exact rfl) ?_
    refine WDO.nil ?_
    refine lkD 3 [xM 9 44, xC akAdd 44 1 45, xM 45 9] (by simp (disch := omega) []; exact rfl) ?_
    exact WDO.nil ⟨rfl, i + 1, _, rfl, by simp [hv, hzz, Int.add_assoc], ⟨by omega, rfl⟩, by omega⟩
  · have hie : i = w := by omega
    subst hie
    refine lkD 11 [xM 9 33, xM 1 34, xM 2 35, xB akAdd 34 35 36, xB akLss 33 36 37, xM 37 38, yM 9 39 38 true, yM 0 40 38 true, yN 40 41 38 true, yB akLss 39 41 42 38 true, ⟨⟨pickA (.tmp 38) (.tmp 42) (.const (.bool false))⟩, (some 43), none⟩] (by simp (disch := omega) [hlen]; exact rfl) ?_
    refine WDO.nil ⟨false, _, rfl, by simp, fun _ => ?_, (by simp)⟩
    refine WD.seqR ?_
    refine lkD 3 [xM 8 54, xM 54 6, ⟨lkMove (.const (.int .i64 0)), (some 7), none⟩] (by simp (disch := omega) []; exact rfl) ?_
    exact WDO.nilS (WD.ret (endR _ (by simp; rfl) ⟨rfl, rfl⟩))
theorem numberAt_ok {H : AH} {v : AV} {l : List UInt8} {at_ w : Nat} (h : RdS H v l) (hat : at_ + w ≤ l.length) (hw : 1 ≤ w) (hw8 : w ≤ 8) (hmx : l.length ≤ 17179869184) :
    DC Tryz.prog .normal 40 (.cons v (.cons (.int .i64 (at_ : Int)) (.cons (.int .i64 (w : Int)) .nil))) H fun v' H2 => v' = .int .i64 (i64 (readL (sub l at_ w))) ∧ H2 = H := by
  refine DC.of_wd (re := reTmp 6 reNil) tyOk Tryz.func40 (by kernel_rfl) rfl (by kernel_rfl) (by kernel_rfl) ?_
  rw [tl_nil, argsT_cons, argsT_cons, argsT_cons, argsT_nil]
  refine WD.seqR ?_
  refine lkD 1 [⟨lkMove (.const (.int .i64 0)), (some 6), none⟩] (by simp (disch := omega) []; exact rfl) ?_
  refine WDO.nilS (WD.seqR ?_)
  refine lkD 3 [xM 0 10, xM 1 11, xM 2 12] (by simp (disch := omega) []; exact rfl) ?_
  refine WDO.callF (g := 94) rfl rfl rfl (by kernel_rfl) (l := .cons v (.cons (.int .i64 (at_ : Int)) (.cons (.int .i64 (w : Int)) .nil))) (by simp) (readFixed01_ok h hat hw hw8 hmx) fun u H1 ⟨hu, hH⟩ => ?_
  subst hu
  subst hH
  have hrl : readL (sub l at_ w) < 18446744073709551616 := by
    have h1 := readL_lt w (sub l at_ w) (sub_len (by omega))
    have h2 : 256 ^ w ≤ 256 ^ 8 := Nat.pow_le_pow_right (by omega) hw8
    omega
  have cv := mkInt_i64u hrl
  refine lkD 5 [xM 13 9, ⟨⟨exA (.tmp 9) 0⟩, (some 14), none⟩, ⟨⟨exA (.tmp 9) 1⟩, (some 15), none⟩, xM 14 7, xM 15 8] (by simp (disch := omega) []; exact rfl) ?_
  refine WDO.nilS (WD.seqR ?_)
  refine lkD 3 [xM 7 16, ⟨⟨cvInt .i64 (.tmp 16)⟩, (some 17), none⟩, xM 17 6] (by simp (disch := omega) [cv]; exact rfl) ?_
  exact WDO.nilS (WD.ret (endR _ (by simp; rfl) ⟨rfl, rfl⟩))
end
end Go.Proofs.YtoigokkeaddceaaGreatDoor
namespace Go.Proofs.YtoigokkeaddceaaGreatDoor
open Go.Xq
noncomputable section
def zeroDl : Dl := ⟨0, 0, 0, 0, [], []⟩
theorem lst_own {H : AH} {lo lo' : Nat} {v u : AV} {els : List Pv} {l : List UInt8} (h : LstAt encPv 67 2 zPv H lo v els) (ho : OwnB 5 H lo' u l) {b : Nat} (e : blk u = some b) : ¬ blk v = some b := by
  intro e2
  rcases ho with ⟨rfl, _⟩ | ⟨b', rfl, _, h1, h2, h3⟩
  · cases e
  · cases e
    rcases h with ⟨rfl, _⟩ | ⟨b2, o, rfl, q1, q2, q3, q4, q5⟩
    · cases e2
    · cases e2
      rw [h3] at q4
      obtain ⟨t, ht⟩ := q5.opn
      subst ht
      cases q4
structure PagesAt (H : AH) (lo : Nat) (v : AV) (ps : List (Int × List UInt8)) (els : List Pv) : Prop where
  lst : LstAt encPv 67 2 zPv H lo v els
  len : els.length = ps.length
  at_ : ∀ (j : Nat) (a : Pv) (p : Int × List UInt8), els[j]? = some a → ps[j]? = some p → a.n = p.1 ∧ OwnB 5 H lo a.v p.2
theorem PagesAt.keep {S : Nat → Prop} {H H2 : AH} {lo : Nat} {v : AV} {ps : List (Int × List UInt8)} {els : List Pv} (h : PagesAt H lo v ps els) (hk : Keep S H H2) (hs : ∀ b, lo ≤ b → b < H.next → ¬ S b) : PagesAt H2 lo v ps els :=
  ⟨h.lst.keep hk fun _ e => hs _ (h.lst.low e).1 (h.lst.low e).2, h.len, fun j a p ha hp => ⟨(h.at_ j a p ha hp).1, (h.at_ j a p ha hp).2.keep hk fun _ e => hs _ ((h.at_ j a p ha hp).2.low e).1 ((h.at_ j a p ha hp).2.low e).2⟩⟩
theorem PagesAt.says {H : AH} {lo : Nat} {v : AV} {ps : List (Int × List UInt8)} {els : List Pv} (h : PagesAt H lo v ps els) : SaysP H v (els.map fun a => (a.n, a.v)) ps := by
  refine ⟨?_, by simpa using h.len, ?_⟩
  · rcases h.lst with ⟨rfl, rfl⟩ | ⟨b, o, rfl, h1, h2, h3, h4, h5⟩
    · exact .inl ⟨rfl, rfl⟩
    · refine .inr ⟨b, 0, none, by simp, fun _ => ⟨h3, o, h4, ?_⟩⟩
      intro k c hc j u hu
      simp only [List.getElem?_map, Option.map_eq_some_iff] at hc
      obtain ⟨a, ha, rfl⟩ := hc
      have := h5.cell ha (j := j) (v := u) (by simpa [encP, encPv] using hu)
      simpa using this
  · intro i c p hc hp
    simp only [List.getElem?_map, Option.map_eq_some_iff] at hc
    obtain ⟨a, ha, rfl⟩ := hc
    obtain ⟨h1, h2⟩ := h.at_ i a p ha hp
    exact ⟨h1, h2.rd⟩
theorem PagesAt.app {H : AH} {lo : Nat} {v x : AV} {ps : List (Int × List UInt8)} {els : List Pv} {a : Pv} {p : Int × List UInt8} (h : PagesAt H lo v ps els) (hlo : lo ≤ H.next) (hx : One encPv 2 H x a) (hn : a.n = p.1) (ho : OwnB 5 H lo a.v p.2) (hmax : ps.length < 8589934592) :
    ∃ v' H2, appendA ⟨grownCs 2 ⟨mkCs 67 2 zPv⟩⟩ 2 H v x = some (v', H2) ∧ PagesAt H2 lo v' (ps ++ [p]) (els ++ [a]) ∧ H2.next = H.next + 1 ∧ Keep (fun b => blk v = some b) H H2 := by
  obtain ⟨v', H2, a1, a2, a3, a4, a5⟩ := h.lst.app encPv_len (by omega) hlo (cells_pv a) hx (by rw [h.len]; exact hmax)
  refine ⟨v', H2, a1, ⟨a2, by simp [h.len], fun j b q hb hq => ?_⟩, a4, a5⟩
  have key : ∀ {u : AV} {l : List UInt8}, OwnB 5 H lo u l → OwnB 5 H2 lo u l := fun ho => ho.keep a5 fun b e e2 => lst_own h.lst ho e e2
  rcases Nat.lt_or_ge j els.length with hj | hj
  · rw [List.getElem?_append_left hj] at hb
    rw [List.getElem?_append_left (by rw [← h.len]; exact hj)] at hq
    obtain ⟨h1, h2⟩ := h.at_ j b q hb hq
    exact ⟨h1, key h2⟩
  · have hjl := get_lt hb
    simp only [List.length_append, List.length_singleton] at hjl
    have : j = els.length := by omega
    subst this
    rw [List.getElem?_append_right (Nat.le_refl _), Nat.sub_self] at hb
    rw [h.len, List.getElem?_append_right (Nat.le_refl _), Nat.sub_self] at hq
    simp at hb hq
    subst hb hq
    exact ⟨hn, key ho⟩
structure MadeD (H : AH) (lo : Nat) (d : Dl) (pv mv : AV) (els : List Pv) : Prop where
  pages : PagesAt H lo pv d.pages els
  meta_ : OwnB 5 H lo mv d.meta_
theorem ownB_slOk {H : AH} {lo : Nat} {v : AV} {l : List UInt8} (h : OwnB 5 H lo v l) : SlOk H v := by
  rcases h with ⟨rfl, _⟩ | ⟨b, rfl, _, _, _, h⟩
  · exact .inl rfl
  · exact .inr (.inr ⟨b, 0, _, 5, _, rfl, h⟩)
theorem MadeD.dl {H : AH} {lo : Nat} {d : Dl} {pv mv : AV} {els : List Pv} (h : MadeD H lo d pv mv els) : DlAt H d pv mv (els.map fun a => (a.n, a.v)) :=
  ⟨h.pages.says, h.meta_.rd, fun _ => ownB_slOk h.meta_⟩
theorem PagesAt.wide {H : AH} {lo lo2 : Nat} {v : AV} {ps : List (Int × List UInt8)} {els : List Pv} (h : PagesAt H lo v ps els) (hl : lo2 ≤ lo) : PagesAt H lo2 v ps els := by
  refine ⟨?_, h.len, fun j a p ha hp => ⟨(h.at_ j a p ha hp).1, ownB_wide (h.at_ j a p ha hp).2 hl⟩⟩
  rcases h.lst with h | ⟨b, o, h1, h2, h3, h4⟩
  · exact .inl h
  · exact .inr ⟨b, o, h1, h2, by omega, h4⟩
theorem MadeD.wide {H : AH} {lo lo2 : Nat} {d : Dl} {pv mv : AV} {els : List Pv} (h : MadeD H lo d pv mv els) (hl : lo2 ≤ lo) : MadeD H lo2 d pv mv els := ⟨h.pages.wide hl, ownB_wide h.meta_ hl⟩
theorem flat_pages {l : List UInt8} (h : shapeD l) : ∀ k, k ≤ manyN l → ((pagesOf l k).flatMap pageL).length = k * (4 + pageN l)
  | 0, _ => by simp [pagesOf]
  | k + 1, hk => by
    have hle := atN_le h (i := k) (by omega)
    have hps : pagesOf l (k + 1) = pagesOf l k ++ [pageAt l k] := by simp [pagesOf, List.range_succ]
    rw [hps, List.flatMap_append, List.length_append, flat_pages h k (by omega), Nat.succ_mul]
    simp [pageL, pageAt, fixedL_len]
    rw [sub_len (by omega)]
theorem body_len {l : List UInt8} {d : Dl} (hm : d.meta_ = sub l 32 (pageN l)) (hg : d.pages = pagesOf l (manyN l)) (h : shapeD l) : (bodyD d).length = 32 + pageN l + manyN l * (4 + pageN l) := by
  have e : bodyD d = headD d ++ d.pages.flatMap pageL := rfl
  have h3 := h.2.2
  rw [e, List.length_append, headD_len, hm, hg, flat_pages h _ (Nat.le_refl _), sub_len (by omega)]
theorem newDv (H : AH) : Bx encDv 25 6 zDv (H.new (.cs 25 6 6 false zDv .e)) H.next zeroDv := Bx.new (z := zDv) (a := zeroDv) encDv_len rfl H rfl
def numS (l : List UInt8) : AV → AV
  | .cons _ (.cons (.int _ a) (.cons (.int _ w) .nil)) => .int .i64 (i64 (readL (sub l a.toNat w.toNat)))
  | _ => .snil
set_option maxRecDepth 20000 in
set_option maxHeartbeats 4000000 in
theorem decode23_ok {H : AH} {v : AV} {l : List UInt8} (h : RdS H v l) (hs : SlOk H v) (hl : l.length ≤ 8388608) :
    DC Tryz.prog .normal 14 (.cons v .nil) H fun v' H2 => (saysD l → ∃ pv mv els, v' = .tup (.cons (dlA (fldsD l) pv mv) (.cons (.int .i64 0) .nil)) ∧ MadeD H2 H.next (fldsD l) pv mv els) ∧ (¬ saysD l → v' = .tup (.cons (dlA zeroDl .snil .snil) (.cons (.int .i64 230) .nil))) ∧ Keep noB H H2 := by
  refine DC.of_wd (re := reCell ⟨ldN 6⟩ 2 (reTmp 3 reNil)) tyOk Tryz.func14 (by kernel_rfl) rfl (by kernel_rfl) (by kernel_rfl) ?_
  rw [tl_nil, argsT_cons, argsT_nil]
  have hlen := h.len
  refine WD.seqR ?_
  refine WDO.fresh1 tyOk (k := ⟨frAlloc (.cs 25 6 6 false (.cons (.int .i64 0) (.cons (.int .i64 0) (.cons (.int .i64 0) (.cons (.int .i64 0) (.cons .snil (.cons .snil .nil)))))) .e)⟩) (by kernel_rfl) rfl (by kernel_rfl) (v := .ptr H.next 0) (x := .cs 25 6 6 false zDv .e) ?_ ?_
  · exact rfl
  have hQ := newDv H
  have k1 : Keep noB H (H.new (.cs 25 6 6 false zDv .e)) := Keep.new _ _ _
  have n1 : (H.new (.cs 25 6 6 false zDv .e)).next = H.next + 1 := by simp
  generalize H.new (.cs 25 6 6 false zDv .e) = H1 at hQ k1 n1 ⊢
  obtain ⟨N, hN⟩ : ∃ N, N = H.next := ⟨_, rfl⟩
  rw [← hN] at hQ n1 ⊢
  have bad : ∀ (H' : AH), Bx encDv 25 6 zDv H' N zeroDv → ∃ H2 oz, stN 6 H' (.agg (avl (encDv zeroDv))) (.ptr N 0) = some H2 ∧ H2.get N = some oz ∧ rdCells oz 6 0 = some (avl (encDv zeroDv)) ∧ Keep (fun b => b = N) H' H2 := fun H' hb => by
    obtain ⟨H2, s1, s2, s3, s4⟩ := hb.store encDv_len zeroDv (cells_dv _)
    obtain ⟨oz, gz, _, _, _, _, _, _, zc⟩ := s3.dv
    exact ⟨H2, oz, s1, gz, zc, s4⟩
  refine lkD 1 [⟨lkMove (.const (.int .i64 0)), (some 3), none⟩] (by simp (disch := omega) []; exact rfl) ?_
  refine WDO.nilS (WD.seq (WD.seqR ?_))
  by_cases hA : l.length < 36
  · have hno : ¬ saysD l := fun hs => by have := hs.1.1; omega
    have f1 : (l.length : Int) < 36 := by omega
    refine lkD 3 [xM 0 13, xN 13 14, xC akLss 14 36 15] (by simp (disch := omega) [hlen, f1]; exact rfl) ?_
    refine WDO.nilS (WD.cond (t := true) (by simp) (fun _ => WD.seqR ?_) (by simp))
    refine lkD 1 [⟨⟨buildA (.cons (.int .i64 0) (.cons (.int .i64 0) (.cons (.int .i64 0) (.cons (.int .i64 0) (.cons .snil (.cons .snil .nil)))))) flEnd⟩, (some 16), none⟩] (by simp (disch := omega) []; exact rfl) ?_
    obtain ⟨H2, oz, z1, gz, zc, z4⟩ := bad H1 hQ
    refine WDO.heavy1 tyOk extOk (k := ⟨hvStore ⟨stN 6⟩ (.tmp 2) (.tmp 16)⟩) (by kernel_rfl) rfl (by kernel_rfl) (by simp; exact stN_ob z1) ?_
    refine lkD 1 [⟨lkMove (.const (.int .i64 230)), (some 3), none⟩] (by simp (disch := omega) []; exact rfl) ?_
    exact WDO.nilS (WD.ret (endR _ (by simp [gz, zc]; rfl) ⟨fun hs => absurd hs hno, fun _ => rfl, k1.trans' z4 fun b hb e => absurd e (by omega)⟩))
  · have f1 : ¬ (l.length : Int) < 36 := by omega
    refine lkD 3 [xM 0 13, xN 13 14, xC akLss 14 36 15] (by simp (disch := omega) [hlen, f1]; exact rfl) ?_
    refine WDO.nilS (WD.cond (t := false) (by simp) (by simp) fun _ => WD.skip (.inl rfl) (WD.keep (l := [(0, v), (2, .ptr N 0), (3, .int .i64 0)]) (WD.seq ?_) (by simp)))
    have hx4 : l[4]? = some (l[4]'(by omega)) := List.getElem?_eq_getElem _
    have hfe : (fldsD l).engine = ((l[4]?.getD 0).toNat : Int) := rfl
    have hff : i64 (readL (sub l 12 8)) = (fldsD l).frm := rfl
    have hft : i64 (readL (sub l 20 8)) = (fldsD l).to := rfl
    have hdp : (fldsD l).page = (pageN l : Int) := rfl
    have hdm : (fldsD l).meta_ = sub l 32 (pageN l) := rfl
    have hdg : (fldsD l).pages = pagesOf l (manyN l) := rfl
    have hsay : saysD l ↔ shapeD l ∧ okD (fldsD l) ∧ encD (fldsD l) = l := Iff.rfl
    generalize fldsD l = d at hfe hff hft hdp hdm hdg hsay ⊢
    generalize l[4]'_ = x4 at hx4
    rw [hx4, Option.getD_some] at hfe
    have h1 := h.keep k1 fun _ _ => id
    obtain ⟨b, off, cap, o, hv, hb', ho, hby⟩ := h1.pos (by omega)
    have hrd4 := hby _ _ hx4
    have hx4l := x4.toNat_lt
    have gc : mkInt .i64 (x4.toNat : Int) = some (.int .i64 d.engine) := by rw [hfe]; exact mkInt_i64 (by omega) (by omega)
    have f4 : 4 < l.length := by omega
    have hP4 : pageN l < 4294967296 := read4_lt (b := l) (at_ := 8) (by omega)
    have hM4 : manyN l < 4294967296 := read4_lt (b := l) (at_ := 28) (by omega)
    have hPi : i64 (readL (sub l 8 4)) = (pageN l : Int) := i64_small (by unfold pageN at hP4; omega)
    have hMi : i64 (readL (sub l 28 4)) = (manyN l : Int) := i64_small (by unfold manyN at hM4; omega)
    have hnum : ∀ (H' : AH), Keep noB H H' → ∀ (a w : Nat), a + w ≤ l.length → 1 ≤ w → w ≤ 8 → DC Tryz.prog .normal 40 (.cons v (.cons (.int .i64 (a : Int)) (.cons (.int .i64 (w : Int)) .nil))) H' (fun u H2 => u = numS l (.cons v (.cons (.int .i64 (a : Int)) (.cons (.int .i64 (w : Int)) .nil))) ∧ H2 = H') := fun H' hk a w p1 p2 p3 =>
      (numberAt_ok (h.keep hk fun _ _ => id) p1 p2 p3 (by omega)).mono fun u H2 ⟨hu, hH⟩ => ⟨by rw [hu]; simp [numS], hH⟩
    have hvv := hv
    obtain ⟨R, hR, hRc⟩ := specR_ex Tryz.prog (fun _ a H u H2 => u = numS l a ∧ H2 = H)
    refine WD.drawnK tyOk extOk (by kernel_rfl) (ls := [zM 0 17 0 4, ⟨[17], .look (⟨ixSl 1 (.tmp 17) (.const (.int .i64 4))⟩), (some 18), none, 0, 4, true, false⟩, zL 18 19 0 4, ⟨[19], .look (⟨cvInt .i64 (.tmp 19)⟩), (some 20), none, 0, 4, false, false⟩, zM 0 21 0 1, zM 0 23 0 2, zM 0 25 0 3, ⟨[], .fresh ⟨frAlloc (.cs 25 6 6 false (.cons (.int .i64 0) (.cons (.int .i64 0) (.cons (.int .i64 0) (.cons (.int .i64 0) (.cons .snil (.cons .snil .nil)))))) .e)⟩, (some 4), none, 0, 4, false, false⟩, ⟨[21], .heavy ⟨hvCallF E 40 (opnds [(.tmp 21), (.const (.int .i64 8)), (.const (.int .i64 4))])⟩, (some 22), none, 0, 2, false, true⟩, ⟨[23], .heavy ⟨hvCallF E 40 (opnds [(.tmp 23), (.const (.int .i64 12)), (.const (.int .i64 8))])⟩, (some 24), none, 1, 2, false, true⟩, ⟨[25], .heavy ⟨hvCallF E 40 (opnds [(.tmp 25), (.const (.int .i64 20)), (.const (.int .i64 8))])⟩, (some 26), none, 2, 2, false, true⟩, ⟨[20, 22, 24, 26], .look (⟨buildA (.cons (.int .i64 0) (.cons (.int .i64 0) (.cons (.int .i64 0) (.cons (.int .i64 0) (.cons .snil (.cons .snil .nil)))))) ⟨fill1 (.tmp 20) 0 1 ⟨fill1 (.tmp 22) 1 1 ⟨fill1 (.tmp 24) 2 1 ⟨fill1 (.tmp 26) 3 1 flEnd⟩⟩⟩⟩⟩), (some 27), none, 3, 1, true, false⟩, ⟨[4, 27], .heavy ⟨hvStore ⟨stN 6⟩ (.tmp 4) (.tmp 27)⟩, none, none, 3, 2, false, true⟩]) (by kernel_rfl) hR fun K hK => ?_
    iterate 2 (refine diLookP (by simp [-resL_cons, resL_cc]; exact rfl) (by simp (disch := omega) [hv]; exact rfl) ?_)
    iterate 2 (refine diLookC (by simp [-resL_cons, resL_cc]; exact rfl) (by simp (disch := omega) [ho, hrd4, gc]; exact rfl) ?_)
    iterate 3 (refine diLookP (by simp [-resL_cons, resL_cc]; exact rfl) (by simp (disch := omega) [hv]; exact rfl) ?_)
    refine diFresh rfl (o := .cs 25 6 6 false zDv .e) (v := .ptr H1.next 0) rfl ?_
    have k2 : Keep noB H1 (H1.new (.cs 25 6 6 false zDv .e)) := Keep.new _ _ _
    have hB := newDv H1
    have n2 : (H1.new (.cs 25 6 6 false zDv .e)).next = N + 2 := by simp [n1]
    have gnew := get_new_same H1 (.cs 25 6 6 false zDv .e)
    have kk2 := k1.trans k2
    have hR2 := hQ.keep k2 (by omega) id
    have ho2 := k2.get hb' id ho
    generalize hH2 : H1.new (.cs 25 6 6 false zDv .e) = H2 at k2 hB n2 gnew kk2 hR2 ho2 ⊢
    obtain ⟨u1, Hx, c1, hu1, rfl⟩ := hRc 40 _ _ (hnum H2 kk2 8 4 (by omega) (by omega) (by omega))
    replace hu1 : u1 = .int .i64 (pageN l : Int) := by rw [hu1, ← hPi]; rfl
    subst hu1
    rw [hv] at c1
    refine diCallF (by simp [-resL_cons, resL_cc]; exact rfl) (by simp) (extFree _ _ _ rfl rfl rfl) c1 (Nat.le_refl _) ?_
    obtain ⟨u2, Hx', c2, hu2, rfl⟩ := hRc 40 _ _ (hnum Hx kk2 12 8 (by omega) (by omega) (by omega))
    replace hu2 : u2 = .int .i64 d.frm := by rw [hu2, ← hff]; rfl
    subst hu2
    rw [hv] at c2
    refine diCallF (by simp [-resL_cons, resL_cc]; exact rfl) (by simp) (extFree _ _ _ rfl rfl rfl) c2 (Nat.le_refl _) ?_
    obtain ⟨u3, Hx, c3, hu3, rfl⟩ := hRc 40 _ _ (hnum Hx' kk2 20 8 (by omega) (by omega) (by omega))
    replace hu3 : u3 = .int .i64 d.to := by rw [hu3, ← hft]; rfl
    subst hu3
    rw [hv] at c3
    refine diCallF (by simp [-resL_cons, resL_cc]; exact rfl) (by simp) (extFree _ _ _ rfl rfl rfl) c3 (Nat.le_refl _) ?_
    refine diLookP (by simp [-resL_cons, resL_cc]; exact rfl) (by simp (disch := omega) []; exact rfl) ?_
    obtain ⟨H3, s1, s2, s3, s4⟩ := hB.store encDv_len ⟨d.engine, (pageN l : Int), d.frm, d.to, .snil, .snil, rfl, rfl⟩ (cells_dv _)
    rw [n1] at s1 s3 s4
    have n1' : H1.next = N + 1 := n1
    refine diHeavy (by simp [-resL_cons, resL_cc]; exact rfl) (v := undefA) (H2 := H3) (by simp [n1']; exact stN_ob s1) (by omega) ?_
    have gx := k2.get hb' id ho
    simp only [diRun_nil, putA_none, List.reverse_cons, List.reverse_nil, List.nil_append, List.cons_append, chkAdd_f, chkBlk_f, atAll_s, atAll_z, and_true, true_and]
    refine ⟨by simp (disch := omega) [gx, hrd4, gc, gnew]; trivial, hK _ _ (WD.keep (l := [(0, .sl b off l.length cap), (2, .ptr N 0), (3, .int .i64 0), (4, .ptr (N + 1) 0)]) (WD.seqR ?_) (by simp [n1', hv]))⟩
    clear hK hRc hR c1 c2 c3
    have kk3 : Keep noB H H3 := kk2.trans' s4 fun b hb e => absurd e (by omega)
    have n3 : H3.next = N + 2 := by omega
    have hR3 := hR2.keep s4 (by omega) (by omega)
    rw [← hvv]
    refine lkD 1 [xM 0 28] (by simp (disch := omega) []; exact rfl) ?_
    refine WDO.callF (g := 40) rfl rfl rfl (by kernel_rfl) (l := .cons v (.cons (.int .i64 28) (.cons (.int .i64 4) .nil))) (by simp) (hnum H3 kk3 28 4 (by omega) (by omega) (by omega)) fun u Hy ⟨hu, hHy⟩ => ?_
    replace hu : u = .int .i64 (manyN l : Int) := by rw [hu, ← hMi]; rfl
    subst hu
    subst hHy
    refine lkD 1 [xM 29 5] (by simp (disch := omega) []; exact rfl) ?_
    obtain ⟨oB, gB, b0, b1, b2, b3, b4, b5, bc⟩ := s3.dv
    dsimp only at b0 b1 b2 b3 b4 b5
    refine WDO.nilS (WD.seqR ?_)
    refine lkD 2 [xF 4 1 30, xL 30 31] (by simp (disch := omega) [gB, b1]; exact rfl) ?_
    refine WDO.callF (g := 41) rfl rfl rfl (by kernel_rfl) (l := .cons (.int .i64 (pageN l : Int)) .nil) (by simp) isPage03_ok fun u Hz ⟨hu, hHz⟩ => ?_
    subst hu
    subst hHz
    refine lkD 1 [xM 32 6] (by simp (disch := omega) []; exact rfl) ?_
    refine WDO.nilS (WD.keep (l := [(0, v), (2, .ptr N 0), (3, .int .i64 0), (4, .ptr (N + 1) 0), (5, .int .i64 (manyN l : Int)), (6, .bool (isPgI (pageN l : Int)))]) (WD.seq (WD.seqR ?_)) (by simp))
    obtain ⟨q, hq⟩ : ∃ q, q = manyN l * (4 + pageN l) := ⟨_, rfl⟩
    obtain ⟨x, l', hx, hrun, hsub⟩ : ∃ (x : Bool) (l' : List (Nat × AV)), (x = true ↔ ¬ shapeD l) ∧ runLk [xM 6 33, xU 33 34, xM 34 35, yM 0 36 35 false, yN 36 37 35 false, yF 4 1 38 35 false, yL 38 39 35 false, ⟨⟨binInt akAdd (.const (.int .i64 36)) (.tmp 39)⟩, (some 40), (some (35, false))⟩, yM 5 41 35 false, yF 4 1 42 35 false, yL 42 43 35 false, ⟨⟨binInt akAdd (.const (.int .i64 4)) (.tmp 43)⟩, (some 44), (some (35, false))⟩, yB akMul 41 44 45 35 false, yB akAdd 40 45 46 35 false, yB akNeq 37 46 47 35 false, xP 35 47 48 true] (tl [(0, v), (2, .ptr N 0), (3, .int .i64 0), (4, .ptr (N + 1) 0), (5, .int .i64 (manyN l : Int)), (6, .bool (isPgI (pageN l : Int)))]) Hz = some (tl l') ∧ lsub [(0, v), (2, .ptr N 0), (3, .int .i64 0), (4, .ptr (N + 1) 0), (5, .int .i64 (manyN l : Int)), (48, .bool x)] l' := by
      by_cases c1 : isPgI (pageN l : Int) = true
      · have hpc := pgI_cases c1
        have hqb : q ≤ 4294967296 * 65540 := by rw [hq]; exact Nat.mul_le_mul (by omega) (by omega)
        obtain ⟨r, hr⟩ : ∃ r : Nat, r = 4 + pageN l := ⟨_, rfl⟩
        have hr' : 4 + (pageN l : Int) = (r : Int) := by omega
        have gm : akMul.f .i64 (manyN l : Int) (r : Int) = some (.int .i64 (q : Int)) := by
          have e : (manyN l : Int) * (r : Int) = (q : Int) := by rw [hq, hr, Int.natCast_mul]
          rw [akMul_i64 (by rw [e]; omega) (by rw [e]; omega), e]
        by_cases c2 : (l.length : Int) = 36 + (pageN l : Int) + (q : Int)
        · exact ⟨false, _, ⟨fun h => (by cases h), fun h => absurd ⟨by omega, c1, by omega⟩ h⟩, by simp (disch := omega) [gB, b1, hlen, c1, hr', gm, c2]; exact rfl, by simp⟩
        · exact ⟨true, _, ⟨fun _ h => c2 (by have := h.2.2; omega), fun _ => rfl⟩, by simp (disch := omega) [gB, b1, hlen, c1, hr', gm, c2]; exact rfl, by simp⟩
      · have c1' : isPgI (pageN l : Int) = false := by simpa using c1
        exact ⟨true, _, ⟨fun _ h => c1 h.2.1, fun _ => rfl⟩, by simp (disch := omega) [c1']; exact rfl, by simp⟩
    refine lkD 16 [xM 6 33, xU 33 34, xM 34 35, yM 0 36 35 false, yN 36 37 35 false, yF 4 1 38 35 false, yL 38 39 35 false, ⟨⟨binInt akAdd (.const (.int .i64 36)) (.tmp 39)⟩, (some 40), (some (35, false))⟩, yM 5 41 35 false, yF 4 1 42 35 false, yL 42 43 35 false, ⟨⟨binInt akAdd (.const (.int .i64 4)) (.tmp 43)⟩, (some 44), (some (35, false))⟩, yB akMul 41 44 45 35 false, yB akAdd 40 45 46 35 false, yB akNeq 37 46 47 35 false, xP 35 47 48 true] hrun ?_
    cases x with
    | true =>
      have hno : ¬ saysD l := fun hs => hx.1 rfl (hsay.1 hs).1
      refine WDO.nilS (WD.keep (WD.cond (t := true) (by simp) (fun _ => WD.seqR ?_) (by simp)) hsub)
      refine lkD 1 [⟨⟨buildA (.cons (.int .i64 0) (.cons (.int .i64 0) (.cons (.int .i64 0) (.cons (.int .i64 0) (.cons .snil (.cons .snil .nil)))))) flEnd⟩, (some 49), none⟩] (by simp (disch := omega) []; exact rfl) ?_
      obtain ⟨H4, oz, z1, gz, zc, z4⟩ := bad Hz hR3
      refine WDO.heavy1 tyOk extOk (k := ⟨hvStore ⟨stN 6⟩ (.tmp 2) (.tmp 49)⟩) (by kernel_rfl) rfl (by kernel_rfl) (by simp; exact stN_ob z1) ?_
      refine lkD 1 [⟨lkMove (.const (.int .i64 230)), (some 3), none⟩] (by simp (disch := omega) []; exact rfl) ?_
      exact WDO.nilS (WD.ret (endR _ (by simp [gz, zc]; rfl) ⟨fun hs => absurd hs hno, fun _ => rfl, kk3.trans' z4 fun b hb e => absurd e (by omega)⟩))
    | false =>
    have hsh : shapeD l := Classical.not_not.1 fun h => by have := hx.2 h; cases this
    have hpc := pgI_cases hsh.2.1
    have hsl := hsh.2.2
    rw [← hq] at hsl
    clear hrun
    refine WDO.nilS (WD.keep (WD.cond (t := false) (by simp) (by simp) fun _ => WD.skip (.inl rfl) (WD.keep (l := [(0, v), (2, .ptr N 0), (3, .int .i64 0), (4, .ptr (N + 1) 0), (5, .int .i64 (manyN l : Int))]) (WD.seqR ?_) (by simp))) hsub)
    have hne : l ≠ [] := by intro e; subst e; simp at hA
    have h3 := h.keep kk3 fun _ _ => id
    have hs3 := hs.keep h hne kk3 fun _ _ => id
    obtain ⟨e1, he1⟩ : ∃ e1 : Nat, e1 = 32 + pageN l := ⟨_, rfl⟩
    have he1' : 32 + (pageN l : Int) = (e1 : Int) := by omega
    obtain ⟨sm, hsm1, hsm2⟩ := slC_lh (lo := 32) (hi := e1) h3 hs3 (by omega) (by omega)
    rw [show e1 - 32 = pageN l by omega] at hsm2
    have n32 : natOf (.int .i64 32) = some 32 := rfl
    refine lkD 5 [xM 0 50, xF 4 1 51, xL 51 52, ⟨⟨binInt akAdd (.const (.int .i64 32)) (.tmp 52)⟩, (some 53), none⟩, ⟨⟨slSl 1 (.tmp 50) (some (.const (.int .i64 32))) (some (.tmp 53)) none⟩, (some 54), none⟩] (by simp (disch := omega) [gB, b1, he1', n32, hsm1]; exact rfl) ?_
    refine WDO.callF (g := 34) rfl rfl rfl (by kernel_rfl) (l := .cons .snil (.cons sm .nil)) (by simp) (add23_ok (H := Hz) (lo := N + 2) (v := .snil) (k := []) (.inl ⟨rfl, rfl⟩) (by omega) hsm2 (fun b _ e => (by cases e)) (by simp; rw [sub_len (by omega)]; omega)) fun mv Hm ⟨om, km⟩ => ?_
    rw [List.nil_append] at om
    have km' : Keep noB Hz Hm := km.mono fun b _ e => (by cases e)
    have kkm := kk3.trans km'
    have nm := km.1
    have hRm := hR3.keep km' (by omega) id
    have hBm := s3.keep km' (by omega) id
    refine lkD 1 [xF 4 5 56] (by simp (disch := omega) []; exact rfl) ?_
    obtain ⟨H5, t1, t2, t3, t4⟩ := hBm.store1 encDv_len ⟨d.engine, (pageN l : Int), d.frm, d.to, .snil, mv, rfl, om.cell⟩ (f := 5) (v := mv) (by omega) rfl om.cell
    refine WDO.heavy1 tyOk extOk (k := ⟨hvStore ⟨st1'⟩ (.tmp 56) (.tmp 55)⟩) (by kernel_rfl) rfl (by kernel_rfl) (by simp; exact st1_ob t1) ?_
    have kk5 : Keep noB H H5 := kkm.trans' t4 fun b hb e => absurd e (by omega)
    have hR5 := hRm.keep t4 (by omega) (by omega)
    have om5 := om.keep t4 fun b e e2 => by have := (om.low e).1; omega
    have hmc := om.cell
    obtain ⟨oC, gC, c0, c1, c2, c3, c4, c5, cc⟩ := t3.dv
    dsimp only at c0 c1 c2 c3 c4 c5
    refine WDO.nilS (WD.seqR ?_)
    refine lkD 4 [xF 4 1 57, xL 57 58, ⟨⟨binInt akAdd (.const (.int .i64 32)) (.tmp 58)⟩, (some 59), none⟩, xM 59 7] (by simp (disch := omega) [gC, c1, he1']; exact rfl) ?_
    have hat0 : atN l 0 = e1 := by unfold atN; omega
    refine WDO.nilS (WD.seq (WD.seqR ?_))
    refine lkD 1 [⟨lkMove (.const (.int .i64 0)), (some 8), none⟩] (by simp (disch := omega) []; exact rfl) ?_
    refine WDO.nilS (WD.forE (σ := Nat × AV × List Pv) (fun s => [(0, v), (2, .ptr N 0), (3, .int .i64 0), (4, .ptr (N + 1) 0), (5, .int .i64 (manyN l : Int)), (7, .int .i64 ((atN l s.1 : Nat) : Int)), (8, .int .i64 (s.1 : Int))])
      (fun s H' => s.1 ≤ manyN l ∧ (∃ hpc : isCell s.2.1 = true, Bx encDv 25 6 zDv H' (N + 1) ⟨d.engine, (pageN l : Int), d.frm, d.to, s.2.1, mv, hpc, hmc⟩) ∧ PagesAt H' (N + 2) s.2.1 (pagesOf l s.1) s.2.2 ∧ OwnB 5 H' (N + 2) mv (sub l 32 (pageN l)) ∧ Bx encDv 25 6 zDv H' N zeroDv ∧ H5.next ≤ H'.next ∧ Keep noB H H') (fun s => manyN l - s.1) (0, .snil, [])
      ⟨by simp, ⟨rfl, t3⟩, ⟨.inl ⟨rfl, rfl⟩, rfl, fun j a p ha => by simp at ha⟩, om5, hR5, Nat.le_refl _, kk5⟩ (by simp [hat0]) ?_)
    rintro ⟨i, pv, els⟩ H' ⟨hi, ⟨hpc2, hB'⟩, hpg, hmv, hR', hnx, kk'⟩
    dsimp only at hi hpg hB'
    obtain ⟨oC', gC', c0', c1', c2', c3', c4', c5', cc'⟩ := hB'.dv
    dsimp only at c0' c1' c2' c3' c4' c5'
    have h' := h.keep kk' fun _ _ => id
    have hs' := hs.keep h hne kk' fun _ _ => id
    have hn5 : N + 2 ≤ H'.next := by omega
    refine lkD 3 [xM 8 60, xM 5 61, xB akLss 60 61 62] (by simp (disch := omega) []; exact rfl) ?_
    refine WDO.nil ⟨decide ((i : Int) < (manyN l : Int)), _, rfl, by simp, fun hc => ?_, fun hc => ?_⟩
    · have hc : i = manyN l := by have := of_decide_eq_false hc; omega
      subst hc
      rw [← hdg] at hpg
      rw [← hdm] at hmv
      have hmade : MadeD H' (N + 2) d pv mv els := ⟨hpg, hmv⟩
      have hbl : (bodyD d).length + 4 = l.length := by
        rw [body_len hdm hdg hsh]
        have := hsh.2.2
        omega
      have hml : d.meta_.length ≤ 8388608 := by rw [hdm, sub_len (by omega)]; omega
      have hpl : d.pages.length ≤ 8388608 := by
        rw [hdg, pagesOf_len]
        have : manyN l * 1 ≤ manyN l * (4 + pageN l) := Nat.mul_le_mul_left _ (by omega)
        omega
      have hdl := hmade.dl
      refine WD.seqR ?_
      refine lkD 1 [⟨⟨ldA ⟨ldN 6⟩ (.tmp 4)⟩, (some 92), none⟩] (by simp (disch := omega) [gC', cc']; exact rfl) ?_
      have hdv : AV.agg (avl (encDv ⟨d.engine, (pageN l : Int), d.frm, d.to, pv, mv, hpc2, hmc⟩)) = dlA d pv mv := by rw [← hdp]; rfl
      refine WDO.callF (g := 8) rfl rfl rfl (by kernel_rfl) (l := .cons (dlA d pv mv) .nil) (by rw [← hdv]; simp) (encode23U_ok hdl (by omega) (by omega) (by omega)) fun u H6 ⟨⟨ev, hu, oe⟩, k6⟩ => ?_
      subst hu
      have kk6 := kk'.trans k6
      have hR6 := hR'.keep k6 (by omega) id
      have hB6 := hB'.keep k6 (by omega) id
      have hmade6 : MadeD H6 (N + 2) d pv mv els := ⟨hmade.pages.keep k6 fun _ _ _ => id, hmade.meta_.keep k6 fun _ _ => id⟩
      have h6 := h'.keep k6 fun _ _ => id
      have ss1 := oe.rd.str
      have ss2 := h6.str
      obtain ⟨oD, gD6, _, _, _, _, _, _, dc⟩ := hB6.dv
      refine lkD 5 [xM 93 91, ⟨⟨exA (.tmp 91) 0⟩, (some 94), none⟩, ⟨⟨exA (.tmp 91) 1⟩, (some 95), none⟩, xM 94 11, xM 95 12] (by simp (disch := omega) []; exact rfl) ?_
      refine WDO.nilS (WD.seq (WD.seqR ?_))
      by_cases hyes : okD d ∧ encD d = l
      · have hE : resE d = 0 := if_pos hyes.1
        have hL : resL d = l := (if_pos hyes.1).trans hyes.2
        rw [hL] at ss1
        refine lkD 9 [xM 12 96, xC akNeq 96 0 97, xM 97 98, yM 11 99 98 false, ⟨⟨cvStr (.tmp 99)⟩, (some 100), (some (98, false))⟩, yM 0 101 98 false, ⟨⟨cvStr (.tmp 101)⟩, (some 102), (some (98, false))⟩, ⟨⟨binStr skNeq (.tmp 100) (.tmp 102)⟩, (some 103), (some (98, false))⟩, xP 98 103 104 true] (by simp (disch := omega) [hE, ss1, ss2]; exact rfl) ?_
        refine WDO.nilS (WD.cond (t := false) (by simp) (by simp) fun _ => WD.skip (.inl rfl) (WD.seqR ?_))
        refine lkD 1 [⟨⟨ldA ⟨ldN 6⟩ (.tmp 4)⟩, (some 106), none⟩] (by simp (disch := omega) [gD6, dc]; exact rfl) ?_
        obtain ⟨H7, z1, z2, z3, z4⟩ := hR6.store encDv_len ⟨d.engine, (pageN l : Int), d.frm, d.to, pv, mv, hpc2, hmc⟩ (cells_dv _)
        obtain ⟨oz, gz, _, _, _, _, _, _, zc⟩ := z3.dv
        refine WDO.heavy1 tyOk extOk (k := ⟨hvStore ⟨stN 6⟩ (.tmp 2) (.tmp 106)⟩) (by kernel_rfl) rfl (by kernel_rfl) (by simp; exact stN_ob z1) ?_
        refine lkD 1 [⟨lkMove (.const (.int .i64 0)), (some 3), none⟩] (by simp (disch := omega) []; exact rfl) ?_
        refine WDO.nilS (WD.ret (endR _ (by simp [gz, zc]; rfl) ⟨fun _ => ⟨pv, mv, els, ?_, ?_⟩, fun hs => absurd (hsay.2 ⟨hsh, hyes⟩) hs, kk6.trans' z4 fun b hb e => absurd e (by omega)⟩))
        · rw [← hdv]; rfl
        · exact MadeD.wide ⟨hmade6.pages.keep z4 fun b hb _ e => by omega, hmade6.meta_.keep z4 fun b e e2 => by have := (hmade6.meta_.low e).1; omega⟩ (by omega)
      · have hno : ¬ saysD l := fun hs => hyes (hsay.1 hs).2
        have hrun : ∃ l' : List (Nat × AV), True := ⟨[], trivial⟩
        by_cases hok : okD d
        · have hE : resE d = 0 := if_pos hok
          have hL : resL d = encD d := if_pos hok
          have hne2 : ¬ encD d = l := fun e => hyes ⟨hok, e⟩
          rw [hL] at ss1
          refine lkD 9 [xM 12 96, xC akNeq 96 0 97, xM 97 98, yM 11 99 98 false, ⟨⟨cvStr (.tmp 99)⟩, (some 100), (some (98, false))⟩, yM 0 101 98 false, ⟨⟨cvStr (.tmp 101)⟩, (some 102), (some (98, false))⟩, ⟨⟨binStr skNeq (.tmp 100) (.tmp 102)⟩, (some 103), (some (98, false))⟩, xP 98 103 104 true] (by simp (disch := omega) [hE, ss1, ss2, hne2]; exact rfl) ?_
          refine WDO.nilS (WD.cond (t := true) (by simp) (fun _ => WD.seqR ?_) (by simp))
          refine lkD 1 [⟨⟨buildA (.cons (.int .i64 0) (.cons (.int .i64 0) (.cons (.int .i64 0) (.cons (.int .i64 0) (.cons .snil (.cons .snil .nil)))))) flEnd⟩, (some 105), none⟩] (by simp (disch := omega) []; exact rfl) ?_
          obtain ⟨H7, oz, z1, gz, zc, z4⟩ := bad H6 hR6
          refine WDO.heavy1 tyOk extOk (k := ⟨hvStore ⟨stN 6⟩ (.tmp 2) (.tmp 105)⟩) (by kernel_rfl) rfl (by kernel_rfl) (by simp; exact stN_ob z1) ?_
          refine lkD 1 [⟨lkMove (.const (.int .i64 230)), (some 3), none⟩] (by simp (disch := omega) []; exact rfl) ?_
          exact WDO.nilS (WD.ret (endR _ (by simp [gz, zc]; rfl) ⟨fun hs => absurd hs hno, fun _ => rfl, kk6.trans' z4 fun b hb e => absurd e (by omega)⟩))
        · have hE : resE d = 230 := if_neg hok
          refine lkD 9 [xM 12 96, xC akNeq 96 0 97, xM 97 98, yM 11 99 98 false, ⟨⟨cvStr (.tmp 99)⟩, (some 100), (some (98, false))⟩, yM 0 101 98 false, ⟨⟨cvStr (.tmp 101)⟩, (some 102), (some (98, false))⟩, ⟨⟨binStr skNeq (.tmp 100) (.tmp 102)⟩, (some 103), (some (98, false))⟩, xP 98 103 104 true] (by simp (disch := omega) [hE]; exact rfl) ?_
          refine WDO.nilS (WD.cond (t := true) (by simp) (fun _ => WD.seqR ?_) (by simp))
          refine lkD 1 [⟨⟨buildA (.cons (.int .i64 0) (.cons (.int .i64 0) (.cons (.int .i64 0) (.cons (.int .i64 0) (.cons .snil (.cons .snil .nil)))))) flEnd⟩, (some 105), none⟩] (by simp (disch := omega) []; exact rfl) ?_
          obtain ⟨H7, oz, z1, gz, zc, z4⟩ := bad H6 hR6
          refine WDO.heavy1 tyOk extOk (k := ⟨hvStore ⟨stN 6⟩ (.tmp 2) (.tmp 105)⟩) (by kernel_rfl) rfl (by kernel_rfl) (by simp; exact stN_ob z1) ?_
          refine lkD 1 [⟨lkMove (.const (.int .i64 230)), (some 3), none⟩] (by simp (disch := omega) []; exact rfl) ?_
          exact WDO.nilS (WD.ret (endR _ (by simp [gz, zc]; rfl) ⟨fun hs => absurd hs hno, fun _ => rfl, kk6.trans' z4 fun b hb e => absurd e (by omega)⟩))
    · have hc : i < manyN l := by have := of_decide_eq_true hc; omega
      have hle := atN_le hsh hc
      have hsucc := atN_succ l i
      have hpa : pageAt l i = (((readL (sub l (atN l i) 4) : Nat) : Int), sub l (atN l i + 4) (pageN l)) := rfl
      obtain ⟨A, hA⟩ : ∃ A, A = atN l i := ⟨_, rfl⟩
      rw [← hA] at hle hsucc hpa ⊢
      have hrd : readL (sub l A 4) < 4294967296 := read4_lt (b := l) (at_ := A) (by omega)
      refine WD.seqR ?_
      refine lkD 2 [xM 0 65, xM 7 66] (by simp (disch := omega) []; exact rfl) ?_
      refine WDO.callF (g := 40) rfl rfl rfl (by kernel_rfl) (l := .cons v (.cons (.int .i64 (A : Int)) (.cons (.int .i64 4) .nil))) (by simp) (numberAt_ok (w := 4) h' (by omega) (by omega) (by omega) (by omega)) fun u Hx ⟨hu, hHx⟩ => ?_
      rw [i64_small (by omega)] at hu
      subst hu
      subst hHx
      refine lkD 1 [xM 67 9] (by simp (disch := omega) []; exact rfl) ?_
      obtain ⟨A4, hA4⟩ : ∃ A4 : Nat, A4 = A + 4 := ⟨_, rfl⟩
      obtain ⟨A5, hA5⟩ : ∃ A5 : Nat, A5 = A4 + pageN l := ⟨_, rfl⟩
      have hA4' : (A : Int) + 4 = (A4 : Int) := by omega
      have hA5' : (A4 : Int) + (pageN l : Int) = (A5 : Int) := by omega
      obtain ⟨sd, hsd1, hsd2⟩ := slC_lh (lo := A4) (hi := A5) h' hs' (by omega) (by omega)
      rw [show A5 - A4 = pageN l by omega, hA4] at hsd2
      refine WDO.nilS (WD.seqR ?_)
      refine lkD 9 [xM 0 68, xM 7 69, xC akAdd 69 4 70, xM 7 71, xC akAdd 71 4 72, xF 4 1 73, xL 73 74, xB akAdd 72 74 75, ⟨⟨slSl 1 (.tmp 68) (some (.tmp 70)) (some (.tmp 75)) none⟩, (some 76), none⟩] (by simp (disch := omega) [gC', c1', hA4', hA5', hsd1]; exact rfl) ?_
      refine WDO.callF (g := 34) rfl rfl rfl (by kernel_rfl) (l := .cons .snil (.cons sd .nil)) (by simp) (add23_ok (H := Hx) (lo := N + 2) (v := .snil) (k := []) (.inl ⟨rfl, rfl⟩) (by omega) hsd2 (fun b _ e => (by cases e)) (by simp; rw [sub_len (by omega)]; omega)) fun dv Hm ⟨od, km⟩ => ?_
      rw [List.nil_append] at od
      have km' : Keep noB Hx Hm := km.mono fun b _ e => (by cases e)
      have nm' := km'.1
      have gCm := km'.get (by omega) id gC'
      refine lkD 1 [xM 77 10] (by simp (disch := omega) []; exact rfl) ?_
      refine WDO.nilS (WD.seqR ?_)
      have hdc := od.cell
      have ccd := cellsA_cell hdc
      refine lkD 5 [xF 4 4 78, xL 78 79, xM 9 80, xM 10 81, ⟨⟨buildA (.cons (.int .i64 0) (.cons .snil .nil)) ⟨fill1 (.tmp 80) 0 1 ⟨fill1 (.tmp 81) 1 1 flEnd⟩⟩⟩, (some 82), none⟩] (by simp (disch := omega) [gCm, c4', ccd]; exact rfl) ?_
      refine WDO.slice1 (enc := encPv) (a := (⟨((readL (sub l A 4) : Nat) : Int), dv, hdc⟩ : Pv)) tyOk encPv_len (by kernel_rfl : freshK E _ = some ⟨frSlice 1 (zerosA (.cons (.int .i64 0) (.cons .snil .nil)) 1) ⟨fill1 (.tmp 82) 0 2 flEnd⟩ ⟨mkCs 67 2 (.cons (.int .i64 0) (.cons .snil .nil))⟩⟩) rfl (by kernel_rfl) (by simp; rfl) (by first | rfl | (rw [cellsA_cell (by assumption)]; rfl) | (simp [encPv, chA]; done)) (by rfl) (by rfl) fun o1 b1 => ?_
      have kn : Keep noB Hm (Hm.new o1) := Keep.new _ _ _
      have nn : (Hm.new o1).next = Hm.next + 1 := by simp
      have gnn : (Hm.new o1).get Hm.next = some o1 := get_new_same _ _
      have kmn := km'.trans kn
      generalize Hm.new o1 = Hn at kn nn gnn kmn ⊢
      have hpgn := hpg.keep kmn fun _ _ _ => id
      obtain ⟨pv2, Ha, a1, a2, a3, a4⟩ := hpgn.app (p := pageAt l i) (by omega) (One.of (cap := some 1) gnn b1) (by rw [hpa]) (by rw [hpa]; exact od.keep kn fun _ _ => id) (by rw [pagesOf_len]; have : i * 1 ≤ manyN l * (4 + pageN l) := Nat.mul_le_mul (by omega) (by omega); omega)
      refine WDO.heavy1 tyOk extOk (k := ⟨hvAppend ⟨grownCs 2 ⟨mkCs 67 2 (.cons (.int .i64 0) (.cons .snil .nil))⟩⟩ 2 (.tmp 79) (.tmp 83)⟩) (by kernel_rfl) rfl (by kernel_rfl) (by simp; exact a1) ?_
      have hlow : ∀ b, blk pv = some b → N + 2 ≤ b := fun b e => (hpg.lst.low e).1
      have kna : Keep (fun b => blk pv = some b) Hx Ha := (kmn.mono fun _ _ e => e.elim).trans a4
      have kka : Keep noB H Ha := kk'.trans' kna fun b hb e => by have := hlow b e; omega
      have hBa := hB'.keep kna (by omega) (fun e => by have := hlow _ e; omega)
      have hRa := hR'.keep kna (by omega) (fun e => by have := hlow _ e; omega)
      have hma := hmv.keep kna fun b e e2 => lst_own hpg.lst hmv e e2
      have hpc3 := a2.lst.cell
      refine lkD 1 [xF 4 4 85] (by simp (disch := omega) []; exact rfl) ?_
      obtain ⟨Hb, y1, y2, y3, y4⟩ := hBa.store1 encDv_len ⟨d.engine, (pageN l : Int), d.frm, d.to, pv2, mv, hpc3, hmc⟩ (f := 4) (v := pv2) (by omega) rfl hpc3
      refine WDO.heavy1 tyOk extOk (k := ⟨hvStore ⟨st1'⟩ (.tmp 85) (.tmp 84)⟩) (by kernel_rfl) rfl (by kernel_rfl) (by simp; exact st1_ob y1) ?_
      have kkb : Keep noB H Hb := kka.trans' y4 fun b hb e => absurd e (by omega)
      obtain ⟨oE, gE, q0, q1, q2, q3, q4, q5, qc⟩ := y3.dv
      dsimp only at q1
      refine WDO.nilS (WD.region ?_)
      refine lkD 6 [xM 7 86, xC akAdd 86 4 87, xF 4 1 88, xL 88 89, xB akAdd 87 89 90, xM 90 7] (by simp (disch := omega) [gE, q1, hA4', hA5']; exact rfl) ?_
      refine WDO.nil ?_
      refine lkD 3 [xM 8 63, xC akAdd 63 1 64, xM 64 8] (by simp (disch := omega) []; exact rfl) ?_
      have hps : pagesOf l (i + 1) = pagesOf l i ++ [pageAt l i] := by simp [pagesOf, List.range_succ]
      rw [← hps] at a2
      have hAs : atN l (i + 1) = A5 := by omega
      refine WDO.nil ⟨rfl, (i + 1, pv2, els ++ [⟨((readL (sub l A 4) : Nat) : Int), dv, hdc⟩]), _, rfl, by simp [hAs], ⟨by simp only; omega, ⟨hpc3, y3⟩, a2.keep y4 fun b hb _ e => by omega, hma.keep y4 fun b e e2 => by have := (hmv.low e).1; omega, hRa.keep y4 (by omega) (by omega), by have := kna.1; omega, kkb⟩, by simp only; omega⟩
end
end Go.Proofs.YtoigokkeaddceaaGreatDoor
namespace Go.Proofs.YtoigokkeaddceaaGreatDoor
open Go.Xq
noncomputable section
abbrev SlBox (H : AH) (b : Nat) (v : AV) : Prop := Bx enc1 23 1 z1 H b v
theorem SlBox.rd {H : AH} {b : Nat} {v : AV} (h : SlBox H b v) : ∃ o, H.get b = some o ∧ rdCell o 0 = some v := by
  obtain ⟨o, h1, h2, _⟩ := h.get enc1_len
  exact ⟨o, h1, h2 0 v rfl⟩
theorem newSlBox (H : AH) : SlBox (H.new (.cs 23 1 1 false z1 .e)) H.next .snil := Bx.new (z := z1) (a := AV.snil) enc1_len rfl H rfl
theorem sub_drop (l : List UInt8) (w : Nat) : sub l w (l.length - w) = l.drop w := by
  unfold sub
  rw [List.take_of_length_le (by simp)]
set_option maxRecDepth 20000 in
theorem get_ok {H0 H : AH} {B w : Nat} {v : AV} {l : List UInt8} (hB : SlBox H B v) (hBl : H0.next ≤ B) (hBn : B < H.next) (h : OldS H0 v l) (hk : Keep noB H0 H) (hw : 1 ≤ w) (hw8 : w ≤ 8) (hl : w ≤ l.length) (hmx : l.length ≤ 17179869184) :
    DC Tryz.prog .normal 42 (.cons (.ptr B 0) (.cons (.int .i64 (w : Int)) .nil)) H fun v' H2 => v' = .int .i64 (i64 (readL (sub l 0 w))) ∧ (∃ v2, SlBox H2 B v2 ∧ OldS H0 v2 (l.drop w) ∧ blk v2 = blk v) ∧ H2.next = H.next ∧ Keep (fun b => b = B) H H2 := by
  refine DC.of_wd (re := reTmp 4 reNil) tyOk Tryz.func42 (by kernel_rfl) rfl (by kernel_rfl) (by kernel_rfl) ?_
  rw [tl_nil, argsT_cons, argsT_cons, argsT_nil]
  have hne : l ≠ [] := by intro e; subst e; simp at hl; omega
  obtain ⟨o, g, r⟩ := hB.rd
  refine WD.seqR ?_
  refine lkD 1 [⟨lkMove (.const (.int .i64 0)), (some 4), none⟩] (by simp (disch := omega) []; exact rfl) ?_
  refine WDO.nilS (WD.seqR ?_)
  refine lkD 4 [xM 0 8, ⟨⟨nilChk E (.tmp 8)⟩, (some 9), none⟩, xL 9 10, xM 1 11] (by simp (disch := omega) [g, r]; exact rfl) ?_
  refine WDO.callF (g := 95) rfl rfl rfl (by kernel_rfl) (l := .cons v (.cons (.int .i64 0) (.cons (.int .i64 (w : Int)) .nil))) (by simp) (readFixed_ok (at_ := 0) (h.at hk) (h.cutAt hk hne) (by omega) hw hw8 (by omega) hmx) fun u H1 ⟨hu, hH⟩ => ?_
  subst hu
  subst hH
  have hrl : readL (sub l 0 w) < 18446744073709551616 := by
    have h1 := readL_lt w (sub l 0 w) (sub_len (by omega))
    have h2 : 256 ^ w ≤ 256 ^ 8 := Nat.pow_le_pow_right (by omega) hw8
    omega
  have cv := mkInt_i64u hrl
  refine lkD 5 [xM 12 7, ⟨⟨exA (.tmp 7) 0⟩, (some 13), none⟩, ⟨⟨exA (.tmp 7) 1⟩, (some 14), none⟩, xM 13 5, xM 14 6] (by simp (disch := omega) []; exact rfl) ?_
  refine WDO.nilS (WD.seqR ?_)
  obtain ⟨v2, c1, c2, c3⟩ := h.sl (lo := w) none (n := l.length) rfl hk hne hl (Nat.le_refl _)
  rw [sub_drop] at c2
  refine lkD 7 [xM 0 15, xM 0 16, ⟨⟨nilChk E (.tmp 16)⟩, (some 17), none⟩, xL 17 18, xM 1 19, ⟨⟨slSl 1 (.tmp 18) (some (.tmp 19)) none none⟩, (some 20), none⟩, ⟨⟨nilChk E (.tmp 15)⟩, (some 21), none⟩] (by simp (disch := omega) [g, r, c1]; exact rfl) ?_
  obtain ⟨H2, s1, s2, s3, s4⟩ := hB.store1 enc1_len v2 (f := 0) (v := v2) (by omega) rfl (c2.rd.cell)
  refine WDO.heavy1 tyOk extOk (k := ⟨hvStore ⟨st1'⟩ (.tmp 21) (.tmp 20)⟩) (by kernel_rfl) rfl (by kernel_rfl) (by simp; exact st1_ob s1) ?_
  refine WDO.nilS (WD.seqR ?_)
  refine lkD 3 [xM 5 22, ⟨⟨cvInt .i64 (.tmp 22)⟩, (some 23), none⟩, xM 23 4] (by simp (disch := omega) [cv]; exact rfl) ?_
  exact WDO.nilS (WD.ret (endR _ (by simp; rfl) ⟨rfl, ⟨v2, s3, c2, c3⟩, s2, s4⟩))
@[simp] theorem eqSl_nn (H : AH) : eqSl H .snil .snil = some true := rfl
@[simp] theorem eqSl_sn (H : AH) (b o n : Nat) (c : Option Nat) : eqSl H (.sl b o n c) .snil = some false := rfl
def OwnZ (H : AH) (lo : Nat) (v : AV) (l : List UInt8) : Prop := OwnB 5 H lo v l ∨ (∃ b, v = .sl b 0 0 (some 0) ∧ lo ≤ b ∧ b < H.next ∧ l = [])
set_option maxRecDepth 20000 in
theorem clone_ok {H : AH} {v : AV} {l : List UInt8} (h : RdS H v l) (hmx : l.length ≤ 17179869184) :
    DC Tryz.prog .normal 44 (.cons v .nil) H fun v' H2 => OwnZ H2 H.next v' l ∧ Keep noB H H2 := by
  refine DC.of_wd (re := reTmp 2 reNil) tyOk Tryz.func44 (by kernel_rfl) rfl (by kernel_rfl) (by kernel_rfl) ?_
  rw [tl_nil, argsT_cons, argsT_nil]
  refine WD.seqR ?_
  refine lkD 1 [⟨lkMove (.const (.slice none 0 0)), (some 2), none⟩] (by simp (disch := omega) []; exact rfl) ?_
  refine WDO.nilS (WD.seq (WD.seqR ?_))
  by_cases hv : v = .snil
  · subst hv
    have hl : l = [] := by
      rcases h with ⟨_, e⟩ | ⟨b, off, cap, e, _⟩
      · exact e
      · cases e
    subst hl
    refine lkD 2 [xM 0 3, ⟨⟨binEq ⟨eqSl⟩ false (.tmp 3) (.const (.slice none 0 0))⟩, (some 4), none⟩] (by simp (disch := omega) []; exact rfl) ?_
    refine WDO.nilS (WD.cond (t := true) (by simp) (fun _ => WD.seqR ?_) (by simp))
    refine lkD 1 [⟨lkMove (.const (.slice none 0 0)), (some 2), none⟩] (by simp (disch := omega) []; exact rfl) ?_
    exact WDO.nilS (WD.ret (endR _ (by simp; rfl) ⟨.inl (.inl ⟨rfl, rfl⟩), Keep.refl _ _⟩))
  · obtain ⟨b, off, n, cap, rfl⟩ : ∃ b off n cap, v = .sl b off n cap := by
      rcases h with ⟨e, _⟩ | ⟨b, off, cap, e, _⟩
      · exact absurd e hv
      · exact ⟨b, off, _, cap, e⟩
    refine lkD 2 [xM 0 3, ⟨⟨binEq ⟨eqSl⟩ false (.tmp 3) (.const (.slice none 0 0))⟩, (some 4), none⟩] (by simp (disch := omega) []; exact rfl) ?_
    refine WDO.nilS (WD.cond (t := false) (by simp) (by simp) fun _ => WD.skip (.inl rfl) (WD.seqR ?_))
    refine WDO.fresh1 tyOk (k := ⟨frSlice 0 (zerosA (.cons (.int .u8 0) .nil) 0) flEnd ⟨mkBy 5⟩⟩) (by kernel_rfl) rfl (by kernel_rfl) (v := .sl H.next 0 0 (some 0)) (x := bb 5 false []) ?_ ?_
    · exact rfl
    have k1 : Keep noB H (H.new (bb 5 false [])) := Keep.new _ _ _
    have g1 : (H.new (bb 5 false [])).get H.next = some (bb 5 false []) := get_new_same _ _
    have n1 : (H.new (bb 5 false [])).next = H.next + 1 := by simp
    have h1 := h.keep k1 fun _ _ => id
    generalize H.new (bb 5 false []) = H1 at k1 g1 n1 h1 ⊢
    refine lkD 1 [xM 0 6] (by simp (disch := omega) []; exact rfl) ?_
    by_cases hl : l = []
    · subst hl
      have ha := appB_zero (e := 5) h1 (b := H.next) (off := 0) (len := 0) (c := 0) (Nat.le_refl _) (by omega)
      refine WDO.heavy1 tyOk extOk (k := ⟨hvAppend ⟨grownBy 5⟩ 1 (.tmp 5) (.tmp 6)⟩) (by kernel_rfl) rfl (by kernel_rfl) (by simp; exact ha) ?_
      refine lkD 1 [xM 7 2] (by simp (disch := omega) []; exact rfl) ?_
      exact WDO.nilS (WD.ret (endR _ (by simp; rfl) ⟨.inr ⟨H.next, rfl, Nat.le_refl _, by omega, rfl⟩, k1⟩))
    · obtain ⟨v', H2, a1, a2, a3, a4⟩ := appB_first (e := 5) (lo := H.next) (k := []) (n := 0) (b := H.next) (H := H1) (.bb' rfl (by omega) g1) rfl h1 hl (by omega) (by omega)
      refine WDO.heavy1 tyOk extOk (k := ⟨hvAppend ⟨grownBy 5⟩ 1 (.tmp 5) (.tmp 6)⟩) (by kernel_rfl) rfl (by kernel_rfl) (by simp; exact a1) ?_
      refine lkD 1 [xM 7 2] (by simp (disch := omega) []; exact rfl) ?_
      exact WDO.nilS (WD.ret (endR _ (by simp; rfl) ⟨.inl (by rw [List.nil_append] at a2; exact a2), k1.trans a3⟩))
end
end Go.Proofs.YtoigokkeaddceaaGreatDoor
