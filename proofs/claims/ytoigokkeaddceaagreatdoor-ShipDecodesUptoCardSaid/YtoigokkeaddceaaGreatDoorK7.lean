/- A part of the proof of this seat's statement: what is particular to its program. Its conditions stand in each theorem. -/
import Derived.Test.YtoigokkeaddceaaGreatDoorK6
namespace Go.Proofs.YtoigokkeaddceaaGreatDoor
open Go.Xq
noncomputable section
def OwnC (e : Nat) (H : AH) (lo : Nat) (v : AV) (l : List UInt8) : Prop :=
  OwnB e H lo v l ∨ ∃ b, v = .sl b 0 l.length (some l.length) ∧ l ≠ [] ∧ lo ≤ b ∧ b < H.next ∧ H.get b = some (bb e false l)
theorem OwnC.rd {H : AH} {e lo : Nat} {v : AV} {l : List UInt8} (h : OwnC e H lo v l) : RdS H v l := by
  rcases h with h | ⟨b, rfl, _, _, h3, h4⟩
  · exact h.rd
  · exact .bb' rfl h3 h4
theorem OwnC.low {H : AH} {e lo b : Nat} {v : AV} {l : List UInt8} (h : OwnC e H lo v l) (hb : blk v = some b) : lo ≤ b ∧ b < H.next := by
  rcases h with h | ⟨b', rfl, _, h2, h3, _⟩
  · exact h.low hb
  · cases hb; exact ⟨h2, h3⟩
theorem OwnC.keep {S : Nat → Prop} {H H2 : AH} {e lo : Nat} {v : AV} {l : List UInt8} (h : OwnC e H lo v l) (hk : Keep S H H2) (hs : ∀ b, blk v = some b → ¬ S b) : OwnC e H2 lo v l := by
  rcases h with h | ⟨b, rfl, h1, h2, h3, h4⟩
  · exact .inl (h.keep hk hs)
  · exact .inr ⟨b, rfl, h1, h2, Nat.lt_of_lt_of_le h3 hk.1, hk.get h3 (hs b rfl) h4⟩
theorem OwnC.app {H : AH} {e lo : Nat} {v x : AV} {k l : List UInt8} (h : OwnC e H lo v k) (hlo : lo ≤ H.next) (hx : RdS H x l) (hmax : k.length + l.length ≤ 17179869184) :
    ∃ v' H2, appendA ⟨grownBy e⟩ 1 H v x = some (v', H2) ∧ OwnC e H2 lo v' (k ++ l) ∧ Keep (fun b => blk v = some b) H H2 ∧ ∀ b, blk v' = some b → blk v = some b ∨ H.next ≤ b := by
  rcases h with h | ⟨b, rfl, h1, h2, h3, h4⟩
  · obtain ⟨v', H2, a1, a2, a3, a4⟩ := h.app hlo hx hmax
    exact ⟨v', H2, a1, .inl a2, a3, a4⟩
  · by_cases hl : l = []
    · subst hl
      rw [List.append_nil]
      exact ⟨_, _, appB_zero hx (Nat.le_refl _) (by simpa using hmax), .inr ⟨b, rfl, h1, h2, h3, h4⟩, Keep.refl _ _, fun b e => .inl e⟩
    · obtain ⟨v', H2, a1, a2, a3, a4⟩ := appB_first (e := e) (.bb' (cap := some k.length) (n := k.length) rfl h3 h4) rfl hx hl hlo hmax
      exact ⟨v', H2, a1, .inl a2, a3.mono fun _ _ h => h.elim, fun b' e => .inr (a4 b' e)⟩
theorem rdS_lt {H : AH} {v : AV} {l : List UInt8} (h : RdS H v l) (hl : l ≠ []) {b : Nat} (e : blk v = some b) : b < H.next := by
  obtain ⟨b', off, cap, o, rfl, h1, _⟩ := h.pos (List.length_pos_iff.2 hl)
  cases e
  exact h1
set_option maxRecDepth 20000 in
theorem add23C_ok {H : AH} {lo : Nat} {v bv : AV} {k l : List UInt8} (ho : OwnC 5 H lo v k) (hlo : lo ≤ H.next) (hb : RdS H bv l) (hne : l ≠ [] → ∀ b, blk bv = some b → ¬ blk v = some b) (hmax : k.length + l.length < 17179869184) :
    DC Tryz.prog .normal 34 (.cons v (.cons bv .nil)) H fun v' H2 => OwnC 5 H2 lo v' (k ++ l) ∧ Keep (fun b => blk v = some b) H H2 := by
  refine DC.of_wd (re := reTmp 4 reNil) tyOk Tryz.func34 (by kernel_rfl) rfl (by kernel_rfl) (by kernel_rfl) ?_
  rw [tl_nil, argsT_cons, argsT_cons, argsT_nil]
  have hlen := hb.len
  refine WD.seqR ?_
  refine lkD 1 [⟨lkMove (.const (.slice none 0 0)), (some 4), none⟩] (by simp (disch := omega) []; exact rfl) ?_
  refine WDO.nilS (WD.seq (WD.seqR ?_))
  refine lkD 1 [⟨lkMove (.const (.int .i64 0)), (some 5), none⟩] (by simp (disch := omega) []; exact rfl) ?_
  refine WDO.nilS (WD.forE (σ := Nat × AV) (fun s => [(0, s.2), (1, bv), (5, .int .i64 (s.1 : Int))])
    (fun s H' => s.1 ≤ l.length ∧ OwnC 5 H' lo s.2 (k ++ l.take s.1) ∧ Keep (fun b => blk v = some b) H H' ∧ ∀ b, blk s.2 = some b → blk v = some b ∨ H.next ≤ b) (fun s => l.length - s.1) (0, v) ⟨Nat.zero_le _, by simpa using ho, Keep.refl _ _, fun b e => .inl e⟩ (by simp) ?_)
  rintro ⟨i, cur⟩ H' ⟨hi, hc', hk, hs⟩
  simp only at hi hc' hs
  refine lkD 4 [xM 5 6, xM 1 7, xN 7 8, xB akLss 6 8 9] (by simp (disch := omega) [hlen]; exact rfl) ?_
  refine WDO.nil ⟨decide (i < l.length), _, rfl, by simp, fun hc => ?_, fun hc => ?_⟩
  · have hc : i = l.length := by have := of_decide_eq_false hc; omega
    subst hc
    rw [List.take_length] at hc'
    refine WD.seqR ?_
    refine lkD 2 [xM 0 19, xM 19 4] (by simp (disch := omega) []; exact rfl) ?_
    refine WDO.nilS (WD.ret (endR _ (by simp; rfl) ⟨?_, hk⟩))
    exact hc'
  · have hc : i < l.length := of_decide_eq_true hc
    have hb' := hb.keep hk fun b e e2 => hne (by intro e; subst e; simp at hc) b e e2
    obtain ⟨b, off, cap, o, hv, hbl, hg, hby⟩ := hb'.pos (by omega)
    have hx : l[i]? = some (l[i]) := List.getElem?_eq_getElem _
    generalize l[i] = y at hx
    have hrd := hby _ _ hx
    refine WD.region ?_
    refine lkD 5 [xM 0 12, xM 1 13, xM 5 14, xI 1 13 14 15, xL 15 16] (by simp (disch := omega) [hv, hg, hrd, hc]; exact rfl) ?_
    refine WDO.fresh1 tyOk (k := ⟨frSlice 1 (zerosA (.cons (.int .u8 0) .nil) 1) ⟨fill1 (.tmp 16) 0 1 flEnd⟩ ⟨mkBy 5⟩⟩) (by kernel_rfl) rfl (by kernel_rfl) (v := .sl H'.next 0 1 (some 1)) (x := bb 5 false [y]) ?_ ?_
    · dsimp only
      have := leA_bytes [y]
      simp only [List.map_cons, List.map_nil, avl_cons, avl_nil] at this
      simp [mkBy, this, bb]
    have kn : Keep noB H' (H'.new (bb 5 false [y])) := Keep.new _ _ _
    have ho2 := hc'.keep kn fun _ _ => id
    have hn := hk.1
    obtain ⟨v', H2, a1, a2, a3, a4⟩ := ho2.app (l := [y]) (x := .sl H'.next 0 1 (some 1)) (by simp; omega) (.bb' rfl (by simp) (get_new_same _ _)) (by simp; omega)
    refine WDO.heavy1 tyOk extOk (k := ⟨hvAppend ⟨grownBy 5⟩ 1 (.tmp 12) (.tmp 17)⟩) (by kernel_rfl) rfl (by kernel_rfl) (by simp; exact a1) ?_
    refine lkD 1 [xM 18 0] (by simp (disch := omega) []; exact rfl) ?_
    refine WDO.nil ?_
    refine lkD 3 [xM 5 10, xC akAdd 10 1 11, xM 11 5] (by simp (disch := omega) []; exact rfl) ?_
    refine WDO.nil ⟨rfl, (i + 1, v'), _, rfl, by simp [hv], ⟨by first | omega | (simp only; omega), ?_, (hk.trans (kn.mono fun _ _ e => e.elim)).trans' a3 fun b hb e => (hs b e).elim id fun e2 => absurd e2 (by omega), ?_⟩, by first | omega | (simp only; omega)⟩
    · simp only
      rw [List.take_add_one, hx, ← List.append_assoc]
      exact a2
    · intro b e
      rcases a4 b e with e2 | e2
      · exact hs b e2
      · exact .inr (by simp at e2; omega)
theorem number23C_ok {H : AH} {lo : Nat} {v : AV} {k : List UInt8} {n : Int} {w : Nat} (ho : OwnC 5 H lo v k) (hlo : lo ≤ H.next) (hw : 1 ≤ w) (hw8 : w ≤ 8) (hmax : k.length < 17179869176) :
    DC Tryz.prog .normal 33 (.cons v (.cons (.int .i64 n) (.cons (.int .i64 (w : Int)) .nil))) H fun v' H2 => OwnC 5 H2 lo v' (k ++ fixedL (u64 n) w) ∧ Keep (fun b => blk v = some b) H H2 := by
  refine DC.of_wd (re := reTmp 6 reNil) tyOk Tryz.func33 (by kernel_rfl) rfl (by kernel_rfl) (by kernel_rfl) ?_
  rw [tl_nil, argsT_cons, argsT_cons, argsT_cons, argsT_nil]
  have g1 := mkInt_cv n
  have hu := u64_lt n
  generalize u64 n = m at g1 hu ⊢
  refine WD.seqR ?_
  refine lkD 1 [⟨lkMove (.const (.slice none 0 0)), (some 6), none⟩] (by simp (disch := omega) []; exact rfl) ?_
  refine WDO.nilS (WD.seqR ?_)
  refine lkD 3 [xM 1 8, ⟨⟨cvInt .u64 (.tmp 8)⟩, (some 9), none⟩, xM 2 10] (by simp (disch := omega) [g1]; exact rfl) ?_
  refine WDO.callF (g := 91) rfl rfl rfl (by kernel_rfl) (l := .cons (.int .u64 (m : Int)) (.cons (.int .i64 (w : Int)) .nil)) (by simp) (fixed01_ok hu hw hw8) fun u H1 ⟨hu1, k1⟩ => ?_
  refine lkD 1 [xM 11 7] (by simp (disch := omega) []; exact rfl) ?_
  refine WDO.nilS (WD.seqR ?_)
  refine lkD 2 [xM 0 12, xM 7 13] (by simp (disch := omega) []; exact rfl) ?_
  have ho1 := ho.keep k1 fun _ _ => id
  refine WDO.callF (g := 34) rfl rfl rfl (by kernel_rfl) (l := .cons v (.cons u .nil)) (by simp) (add23C_ok ho1 (Nat.le_trans hlo k1.1) hu1.rd (fun _ b e e2 => by have := (hu1.low e).1; have := (ho.low e2).2; omega) (by rw [fixedL_len]; omega)) fun u2 H2 ⟨hu2, k2⟩ => ?_
  refine lkD 1 [xM 14 6] (by simp (disch := omega) []; exact rfl) ?_
  refine WDO.nilS (WD.ret (endR _ (by simp; rfl) ⟨?_, (k1.mono fun _ _ e => e.elim).trans k2⟩))
  exact hu2
end
end Go.Proofs.YtoigokkeaddceaaGreatDoor
namespace Go.Proofs.YtoigokkeaddceaaGreatDoor
open Go.Xq
noncomputable section
def pageL (p : Int × List UInt8) : List UInt8 := fixedL (u64 p.1) 4 ++ p.2
def partD (d : Dl) (i : Nat) : List UInt8 := headD d ++ (d.pages.take i).flatMap pageL
theorem partD_zero (d : Dl) : partD d 0 = headD d := by simp [partD]
theorem partD_all (d : Dl) : partD d d.pages.length = bodyD d := by unfold partD bodyD; rw [List.take_length]; rfl
theorem partD_succ {d : Dl} {i : Nat} {p : Int × List UInt8} (hp : d.pages[i]? = some p) : partD d (i + 1) = partD d i ++ fixedL (u64 p.1) 4 ++ p.2 := by
  unfold partD
  rw [List.take_add_one, hp]
  simp [pageL]
theorem partD_le (d : Dl) (i : Nat) : (partD d i).length ≤ (bodyD d).length := by
  have e : bodyD d = partD d i ++ (d.pages.drop i).flatMap pageL := by
    unfold partD bodyD
    rw [List.append_assoc, ← List.flatMap_append, List.take_append_drop]
    rfl
  rw [e, List.length_append]
  omega
theorem headD_le (d : Dl) : (headD d).length ≤ (bodyD d).length := by rw [← partD_zero]; exact partD_le d 0
theorem headD_len (d : Dl) : (headD d).length = 32 + d.meta_.length := by simp [headD, fixedL_len]; omega
theorem mkInt_u8c (n : Int) : mkInt .u8 n = some (.int .u8 ((byteI n).toNat : Int)) := by rw [mkInt_u8, byteI_int]
theorem storeMx {H : AH} (m : Mt) : ∃ H2, stN 8 (H.new (.cs 69 8 8 false zMt .e)) (mA m) (.ptr H.next 0) = some H2 ∧ H2.next = H.next + 1 ∧ Keep noB H H2 := by
  obtain ⟨H2, s1, s2, s3, s4⟩ := storeM m (newM H)
  exact ⟨H2, s1, by rw [s2]; simp, (Keep.new noB H _).trans' s4 fun b hb e => absurd e (by omega)⟩
theorem OwnC.wide {H : AH} {e lo lo2 : Nat} {v : AV} {l : List UInt8} (h : OwnC e H lo v l) (hl : lo2 ≤ lo) : OwnC e H lo2 v l := by
  rcases h with (h | ⟨b, h1, h2, h3, h4⟩) | ⟨b, h1, h2, h3, h4⟩
  · exact .inl (.inl h)
  · exact .inl (.inr ⟨b, h1, h2, by omega, h4⟩)
  · exact .inr ⟨b, h1, h2, by omega, h4⟩
set_option maxRecDepth 20000 in
set_option maxHeartbeats 4000000 in
theorem encode23_ok {H : AH} {d : Dl} {pv mv : AV} {cs : List (Int × AV)} (h : DlAt H d pv mv cs) (hl : d.meta_.length < 4611686018427387904) (hp : d.pages.length < 4611686018427387904) (hb : (bodyD d).length < 8589934592) :
    DC Tryz.prog .normal 8 (.cons (dlA d pv mv) .nil) H fun v' H2 => (okD d → ∃ v, v' = .tup (.cons v (.cons (.int .i64 0) .nil)) ∧ OwnC 5 H2 H.next v (encD d)) ∧ (¬ okD d → v' = .tup (.cons .snil (.cons (.int .i64 230) .nil))) ∧ Keep noB H H2 := by
  refine DC.of_wd (re := reTmp 2 (reTmp 3 reNil)) tyOk Tryz.func8 (by kernel_rfl) rfl (by kernel_rfl) (by kernel_rfl) ?_
  rw [tl_nil, argsT_cons, argsT_nil]
  refine WD.seqR ?_
  obtain ⟨o1, e1, hD, hk1⟩ := Bx.box (enc := encDv) (e := 25) (z := zDv) encDv_len (H := H) (a := d.dv pv mv h.c1 h.c2) (x := .tmp 0) (T := tl [(0, dlA d pv mv)]) (by simp; rfl)
  refine WDO.fresh1 tyOk (k := ⟨frBox ⟨mkCs 25 6 (.cons (.int .i64 0) (.cons (.int .i64 0) (.cons (.int .i64 0) (.cons (.int .i64 0) (.cons .snil (.cons .snil .nil))))))⟩ (.tmp 0)⟩) (by kernel_rfl) rfl (by kernel_rfl) e1 ?_
  have hlt : H.next < (H.new o1).next := by simp
  have hNk : H.next ≤ H.next := Nat.le_refl _
  generalize H.new o1 = H1 at hD hk1 hlt ⊢
  generalize hNN : H.next = N at hD hlt hNk ⊢
  obtain ⟨oD, gD, d0, d1, d2, d3, d4, d5, dc⟩ := hD.dv
  simp only [Dl.dv] at d0 d1 d2 d3 d4 d5
  refine lkD 2 [⟨lkMove (.const (.slice none 0 0)), (some 2), none⟩, ⟨lkMove (.const (.int .i64 0)), (some 3), none⟩] (by simp (disch := omega) []; exact rfl) ?_
  refine WDO.nilS (WD.seqR ?_)
  refine lkD 1 [⟨⟨ldA ⟨ldN 6⟩ (.tmp 1)⟩, (some 10), none⟩] (by simp (disch := omega) [gD, dc]; exact rfl) ?_
  refine WDO.callF (g := 32) rfl rfl rfl (by kernel_rfl) (l := .cons (dlA d pv mv) .nil) (by simp [dlA, encDv, Dl.dv]) (mayBe23_ok (h.keep hk1) hl hp) fun u H2 ⟨hu1, hu2, k2⟩ => ?_
  have kk2 := hk1.trans k2
  have gD2 := k2.get hlt id gD
  have hn2 := k2.1
  by_cases hok : okD d
  · obtain ⟨m, hu⟩ := hu1 hok
    subst hu
    refine lkD 3 [xM 11 9, ⟨⟨exA (.tmp 9) 0⟩, (some 12), none⟩, ⟨⟨exA (.tmp 9) 1⟩, (some 13), none⟩] (by simp (disch := omega) []; exact rfl) ?_
    refine WDO.fresh1 tyOk (k := ⟨frAlloc (.cs 69 8 8 false (.cons (.int .i64 0) (.cons (.int .i64 0) (.cons (.int .i64 0) (.cons (.int .i64 0) (.cons (.int .i64 0) (.cons (.int .i64 0) (.cons (.int .i64 0) (.cons (.int .i64 0) .nil)))))))) .e)⟩) (by kernel_rfl) rfl (by kernel_rfl) (v := .ptr H2.next 0) (x := .cs 69 8 8 false zMt .e) ?_ ?_
    · exact rfl
    obtain ⟨H3, s1, s2, s3⟩ := storeMx (H := H2) m
    refine WDO.heavy1 tyOk extOk (k := ⟨hvStore ⟨stN 8⟩ (.tmp 4) (.tmp 12)⟩) (by kernel_rfl) rfl (by kernel_rfl) (by simp; exact st_ob s1) ?_
    have kk3 := kk2.trans s3
    have gD3 := s3.get (by omega) id gD2
    have hn3 := s3.1
    clear s1 s2 s3 gD2 k2 hu1 hu2
    refine lkD 1 [xM 13 5] (by simp (disch := omega) []; exact rfl) ?_
    refine WDO.nilS (WD.seq (WD.seqR ?_))
    refine lkD 2 [xM 5 14, xU 14 15] (by simp (disch := omega) []; exact rfl) ?_
    refine WDO.nilS (WD.cond (t := false) (by simp) (by simp) fun _ => WD.skip (.inl rfl) (WD.seqR ?_))
    have hby := mkInt_u8c d.engine
    have hhd : headD d = [69, 83, 80, 68, byteI d.engine, 0, 0, 0] ++ fixedL (u64 d.page) 4 ++ fixedL (u64 d.frm) 8 ++ fixedL (u64 d.to) 8 ++ fixedL d.pages.length 4 ++ d.meta_ := rfl
    generalize byteI d.engine = y at hby hhd
    refine lkD 3 [xF 1 0 16, xL 16 17, ⟨⟨cvInt .u8 (.tmp 17)⟩, (some 18), none⟩] (by simp (disch := omega) [gD3, d0, hby]; exact rfl) ?_
    refine WDO.fresh1 tyOk (k := ⟨frSlice 8 (zerosA (.cons (.int .u8 0) .nil) 8) ⟨fill1 (.const (.int .u8 69)) 0 1 ⟨fill1 (.const (.int .u8 83)) 1 1 ⟨fill1 (.const (.int .u8 80)) 2 1 ⟨fill1 (.const (.int .u8 68)) 3 1 ⟨fill1 (.tmp 18) 4 1 ⟨fill1 (.const (.int .u8 0)) 5 1 ⟨fill1 (.const (.int .u8 0)) 6 1 ⟨fill1 (.const (.int .u8 0)) 7 1 flEnd⟩⟩⟩⟩⟩⟩⟩⟩ ⟨mkBy 5⟩⟩) (by kernel_rfl) rfl (by kernel_rfl) (v := .sl H3.next 0 8 (some 8)) (x := bb 5 false [69, 83, 80, 68, y, 0, 0, 0]) ?_ ?_
    · dsimp only
      have := leA_bytes [69, 83, 80, 68, y, 0, 0, 0]
      simp only [List.map_cons, List.map_nil, avl_cons, avl_nil] at this
      simp at this
      have e := byteI_int d.engine
      have e2 : (y.toNat : Int) = d.engine % 256 := by
        rw [mkInt_u8] at hby
        simp at hby
        exact hby.symm
      rw [e2] at this
      simp [mkBy, this, bb, e2]
    have ag : (H3.new (bb 5 false [69, 83, 80, 68, y, 0, 0, 0])).get N = some oD := (Keep.new noB H3 _).get (by omega) id gD3
    have akk : Keep noB H (H3.new (bb 5 false [69, 83, 80, 68, y, 0, 0, 0])) := kk3.trans (Keep.new _ _ _)
    have an : H3.next + 1 = (H3.new (bb 5 false [69, 83, 80, 68, y, 0, 0, 0])).next := by simp
    have ao : OwnC 5 (H3.new (bb 5 false [69, 83, 80, 68, y, 0, 0, 0])) (N + 1) (.sl H3.next 0 8 (some 8)) [69, 83, 80, 68, y, 0, 0, 0] := .inr ⟨H3.next, rfl, by simp, by omega, by omega, get_new_same _ _⟩
    generalize H3.new (bb 5 false [69, 83, 80, 68, y, 0, 0, 0]) = aH at ag akk an ao ⊢
    generalize AV.sl H3.next 0 8 (some 8) = av at ao ⊢
    refine lkD 1 [xM 19 6] (by simp (disch := omega) []; exact rfl) ?_
    refine WDO.nilS (WD.seqR ?_)
    refine lkD 3 [xM 6 20, xF 1 1 21, xL 21 22] (by simp (disch := omega) [ag, d1]; exact rfl) ?_
    refine WDO.callF (g := 33) rfl rfl rfl (by kernel_rfl) (l := .cons av (.cons (.int .i64 d.page) (.cons (.int .i64 4) .nil))) (by simp) (number23C_ok (w := 4) ao (by omega) (by omega) (by omega) (by simp [fixedL_len])) fun bv bH ⟨bo, bk⟩ => ?_
    have bn := bk.1
    have bg := bk.get (by omega) (fun e => by have := (ao.low e).1; omega) ag
    have bkk : Keep noB H bH := akk.trans' bk fun b hb e => by have := (ao.low e).1; omega
    refine lkD 1 [xM 23 6] (by simp (disch := omega) []; exact rfl) ?_
    refine WDO.nilS (WD.seqR ?_)
    refine lkD 3 [xM 6 24, xF 1 2 25, xL 25 26] (by simp (disch := omega) [bg, d2]; exact rfl) ?_
    refine WDO.callF (g := 33) rfl rfl rfl (by kernel_rfl) (l := .cons bv (.cons (.int .i64 d.frm) (.cons (.int .i64 8) .nil))) (by simp) (number23C_ok (w := 8) bo (by omega) (by omega) (by omega) (by simp [fixedL_len])) fun cv cH ⟨co, ck⟩ => ?_
    have cn := ck.1
    have cg := ck.get (by omega) (fun e => by have := (bo.low e).1; omega) bg
    have ckk : Keep noB H cH := bkk.trans' ck fun b hb e => by have := (bo.low e).1; omega
    refine lkD 1 [xM 27 6] (by simp (disch := omega) []; exact rfl) ?_
    refine WDO.nilS (WD.seqR ?_)
    refine lkD 3 [xM 6 28, xF 1 3 29, xL 29 30] (by simp (disch := omega) [cg, d3]; exact rfl) ?_
    refine WDO.callF (g := 33) rfl rfl rfl (by kernel_rfl) (l := .cons cv (.cons (.int .i64 d.to) (.cons (.int .i64 8) .nil))) (by simp) (number23C_ok (w := 8) co (by omega) (by omega) (by omega) (by simp [fixedL_len])) fun ev eH ⟨eo, ek⟩ => ?_
    have en := ek.1
    have eg := ek.get (by omega) (fun e => by have := (co.low e).1; omega) cg
    have ekk : Keep noB H eH := ckk.trans' ek fun b hb e => by have := (co.low e).1; omega
    refine lkD 1 [xM 31 6] (by simp (disch := omega) []; exact rfl) ?_
    have hln := SaysP.ln (h.keep ekk).pages
    refine WDO.nilS (WD.seqR ?_)
    refine lkD 4 [xM 6 32, xF 1 4 33, xL 33 34, xN 34 35] (by simp (disch := omega) [eg, d4, hln]; exact rfl) ?_
    refine WDO.callF (g := 33) rfl rfl rfl (by kernel_rfl) (l := .cons ev (.cons (.int .i64 (d.pages.length : Int)) (.cons (.int .i64 4) .nil))) (by simp) (number23C_ok (w := 4) eo (by omega) (by omega) (by omega) (by simp [fixedL_len])) fun fv fH ⟨fo, fk⟩ => ?_
    have fn := fk.1
    have fg := fk.get (by omega) (fun e => by have := (eo.low e).1; omega) eg
    have fkk : Keep noB H fH := ekk.trans' fk fun b hb e => by have := (eo.low e).1; omega
    refine lkD 1 [xM 36 6] (by simp (disch := omega) []; exact rfl) ?_
    have hu4 : u64 (d.pages.length : Int) = d.pages.length := u64_nat (by omega)
    rw [hu4] at fo
    have hml := headD_len d
    have hle := headD_le d
    refine WDO.nilS (WD.seqR ?_)
    refine lkD 3 [xM 6 37, xF 1 5 38, xL 38 39] (by simp (disch := omega) [fg, d5]; exact rfl) ?_
    refine WDO.callF (g := 34) rfl rfl rfl (by kernel_rfl) (l := .cons fv (.cons mv .nil)) (by simp) (add23C_ok fo (by omega) (h.keep fkk).meta_ (fun hne b e e2 => by have := rdS_lt h.meta_ hne e; have := (fo.low e2).1; omega) (by simp [fixedL_len]; omega)) fun gv gH ⟨go, gk⟩ => ?_
    have gn := gk.1
    have gg := gk.get (by omega) (fun e => by have := (fo.low e).1; omega) fg
    have gkk : Keep noB H gH := fkk.trans' gk fun b hb e => by have := (fo.low e).1; omega
    refine lkD 1 [xM 40 6] (by simp (disch := omega) []; exact rfl) ?_
    have go' : OwnC 5 gH (N + 1) gv (partD d 0) := by rw [partD_zero, hhd]; exact go
    refine WDO.nilS (WD.seq (WD.seqR ?_))
    refine lkD 1 [⟨lkMove (.const (.int .i64 0)), (some 7), none⟩] (by simp (disch := omega) []; exact rfl) ?_
    refine WDO.nilS (WD.forE (σ := Nat × AV) (fun s => [(1, .ptr N 0), (2, .snil), (3, .int .i64 0), (6, s.2), (7, .int .i64 (s.1 : Int))])
      (fun s H' => s.1 ≤ d.pages.length ∧ OwnC 5 H' (N + 1) s.2 (partD d s.1) ∧ H'.get N = some oD ∧ gH.next ≤ H'.next ∧ Keep noB H H') (fun s => d.pages.length - s.1) (0, gv) ⟨by simp, go', gg, Nat.le_refl _, gkk⟩ (by simp) ?_)
    rintro ⟨i, cur⟩ H' ⟨hi, ho, hg, hnx, kk'⟩
    dsimp only at hi ho
    have hln' := SaysP.ln (h.keep kk').pages
    have hle' := partD_le d i
    refine lkD 5 [xM 7 41, xF 1 4 42, xL 42 43, xN 43 44, xB akLss 41 44 45] (by simp (disch := omega) [hg, d4, hln']; exact rfl) ?_
    refine WDO.nil ⟨decide ((i : Int) < (d.pages.length : Int)), _, rfl, by simp, fun hc => ?_, fun hc => ?_⟩
    · have hc : i = d.pages.length := by have := of_decide_eq_false hc; omega
      subst hc
      rw [partD_all] at ho
      refine WD.seqR ?_
      refine lkD 1 [xM 6 64] (by simp (disch := omega) []; exact rfl) ?_
      refine WDO.callF (g := 35) rfl rfl rfl (by kernel_rfl) (l := .cons cur .nil) (by simp) (sumOf_ok ho.rd (by omega)) fun u Hs ⟨hu, hHs⟩ => ?_
      subst hu
      subst hHs
      refine lkD 1 [xM 65 8] (by simp (disch := omega) []; exact rfl) ?_
      refine WDO.nilS (WD.seqR ?_)
      have hsl := sumL_lt (bodyD d)
      have cv : mkInt .i64 ((sumL (bodyD d) : Nat) : Int) = some (.int .i64 ((sumL (bodyD d) : Nat) : Int)) := mkInt_i64 (by omega) (by omega)
      refine lkD 3 [xM 6 66, xM 8 67, ⟨⟨cvInt .i64 (.tmp 67)⟩, (some 68), none⟩] (by simp (disch := omega) [cv]; exact rfl) ?_
      refine WDO.callF (g := 33) rfl rfl rfl (by kernel_rfl) (l := .cons cur (.cons (.int .i64 ((sumL (bodyD d) : Nat) : Int)) (.cons (.int .i64 4) .nil))) (by simp) (number23C_ok (w := 4) ho (by omega) (by omega) (by omega) (by omega)) fun zv zH ⟨zo, zk⟩ => ?_
      rw [u64_nat (by omega)] at zo
      refine lkD 2 [xM 69 2, ⟨lkMove (.const (.int .i64 0)), (some 3), none⟩] (by simp (disch := omega) []; exact rfl) ?_
      refine WDO.nilS (WD.ret (endR _ (by simp; rfl) ⟨fun _ => ⟨zv, rfl, zo.wide (by omega)⟩, fun h => absurd hok h, kk'.trans' zk fun b hb e => by have := (ho.low e).1; omega⟩))
    · have hc : i < d.pages.length := by have := of_decide_eq_true hc; omega
      have hp1 : d.pages[i]? = some (d.pages[i]) := List.getElem?_eq_getElem hc
      generalize d.pages[i] = pg at hp1
      have hps := partD_succ hp1
      have hle2 := partD_le d (i + 1)
      rw [hps] at hle2
      simp only [List.length_append, fixedL_len] at hle2
      obtain ⟨b, off, cap, o, u, q1, q2, q3, q4, q5, q6, q7, q8, q9⟩ := (h.keep kk').pages.get hp1
      obtain ⟨b', off', cap', o', u', w1, w2, w3, w4, w5, w6, w7, w8, w9⟩ := h.pages.get hp1
      have hbo : b' = b ∧ off' = off ∧ o' = o := by
        rw [w1] at q1
        cases q1
        have := kk'.get w8 id w2
        rw [q2] at this
        cases this
        exact ⟨rfl, rfl, rfl⟩
      obtain ⟨rfl, rfl, rfl⟩ := hbo
      have huu : u' = u := by rw [w4] at q4; cases q4; rfl
      subst huu
      refine WD.seqR ?_
      refine lkD 7 [xM 6 48, xF 1 4 49, xL 49 50, xM 7 51, xI 2 50 51 52, xF 52 0 53, xL 53 54] (by simp (disch := omega) [hg, d4, q1, q2, q3, hc]; exact rfl) ?_
      refine WDO.callF (g := 33) rfl rfl rfl (by kernel_rfl) (l := .cons cur (.cons (.int .i64 pg.1) (.cons (.int .i64 4) .nil))) (by simp) (number23C_ok (w := 4) ho (by omega) (by omega) (by omega) (by omega)) fun zv zH ⟨zo, zk⟩ => ?_
      have zg := zk.get (by omega) (fun e => by have := (ho.low e).1; omega) hg
      have zn := zk.1
      have zkk : Keep noB H zH := kk'.trans' zk fun b hb e => by have := (ho.low e).1; omega
      refine lkD 1 [xM 55 6] (by simp (disch := omega) []; exact rfl) ?_
      obtain ⟨b2, off2, cap2, o2, u2, r1, r2, r3, r4, r5, r6, r7, r8, r9⟩ := (h.keep zkk).pages.get hp1
      rw [w1] at r1
      cases r1
      have hgo := zkk.get w8 id w2
      rw [r2] at hgo
      cases hgo
      have huu2 : u2 = u' := by rw [w4] at r4; cases r4; rfl
      subst huu2
      refine WDO.nilS (WD.region ?_)
      refine lkD 7 [xM 6 56, xF 1 4 57, xL 57 58, xM 7 59, xI 2 58 59 60, xF 60 1 61, xL 61 62] (by simp (disch := omega) [zg, d4, w1, r2, r4, hc]; exact rfl) ?_
      refine WDO.callF (g := 34) rfl rfl rfl (by kernel_rfl) (l := .cons zv (.cons u2 .nil)) (by simp) (add23C_ok zo (by omega) r6 (fun hne b e e2 => by have := rdS_lt w6 hne e; have := (zo.low e2).1; omega) (by simp [fixedL_len]; omega)) fun yv yH ⟨yo, yk⟩ => ?_
      have yn := yk.1
      have yg := yk.get (by omega) (fun e => by have := (zo.low e).1; omega) zg
      have ykk : Keep noB H yH := zkk.trans' yk fun b hb e => by have := (zo.low e).1; omega
      refine lkD 1 [xM 63 6] (by simp (disch := omega) []; exact rfl) ?_
      refine WDO.nil ?_
      refine lkD 3 [xM 7 46, xC akAdd 46 1 47, xM 47 7] (by simp (disch := omega) []; exact rfl) ?_
      rw [← hps] at yo
      exact WDO.nil ⟨rfl, (i + 1, yv), _, rfl, by simp, ⟨by simp only; omega, yo, yg, by omega, ykk⟩, by simp only; omega⟩
  · have hu := hu2 hok
    obtain ⟨m, hu⟩ := hu
    subst hu
    refine lkD 3 [xM 11 9, ⟨⟨exA (.tmp 9) 0⟩, (some 12), none⟩, ⟨⟨exA (.tmp 9) 1⟩, (some 13), none⟩] (by simp (disch := omega) []; exact rfl) ?_
    refine WDO.fresh1 tyOk (k := ⟨frAlloc (.cs 69 8 8 false (.cons (.int .i64 0) (.cons (.int .i64 0) (.cons (.int .i64 0) (.cons (.int .i64 0) (.cons (.int .i64 0) (.cons (.int .i64 0) (.cons (.int .i64 0) (.cons (.int .i64 0) .nil)))))))) .e)⟩) (by kernel_rfl) rfl (by kernel_rfl) (v := .ptr H2.next 0) (x := .cs 69 8 8 false zMt .e) ?_ ?_
    · exact rfl
    obtain ⟨H3, s1, s2, s3⟩ := storeMx (H := H2) m
    refine WDO.heavy1 tyOk extOk (k := ⟨hvStore ⟨stN 8⟩ (.tmp 4) (.tmp 12)⟩) (by kernel_rfl) rfl (by kernel_rfl) (by simp; exact st_ob s1) ?_
    refine lkD 1 [xM 13 5] (by simp (disch := omega) []; exact rfl) ?_
    refine WDO.nilS (WD.seq (WD.seqR ?_))
    refine lkD 2 [xM 5 14, xU 14 15] (by simp (disch := omega) []; exact rfl) ?_
    refine WDO.nilS (WD.cond (t := true) (by simp) (fun _ => WD.seqR ?_) (by simp))
    refine lkD 2 [⟨lkMove (.const (.slice none 0 0)), (some 2), none⟩, ⟨lkMove (.const (.int .i64 230)), (some 3), none⟩] (by simp (disch := omega) []; exact rfl) ?_
    exact WDO.nilS (WD.ret (endR _ (by simp; rfl) ⟨fun h => absurd h hok, fun _ => rfl, kk2.trans s3⟩))
end
end Go.Proofs.YtoigokkeaddceaaGreatDoor
namespace Go.Proofs.YtoigokkeaddceaaGreatDoor
open Go.Xq
noncomputable section
@[simp] theorem hvSame_f (x : Operand) (R : Rec) (T : Tr AV) (H : AH) : hvSame x R T H = ob (opnd x T) fun v => onSl v none fun b off n c => bt (Nat.blt 0 n) (ob (H.get b) fun o => bt (isBy o) (some (.sl b off n c, H)) none) none := rfl
@[simp] theorem isBy_bb (e : Nat) (o : Bool) (l : List UInt8) : isBy (bb e o l) = true := rfl
theorem ownB_wide {H : AH} {e lo lo2 : Nat} {v : AV} {l : List UInt8} (h : OwnB e H lo v l) (hl : lo2 ≤ lo) : OwnB e H lo2 v l := by
  rcases h with h | ⟨b, h1, h2, h3, h4⟩
  · exact .inl h
  · exact .inr ⟨b, h1, h2, by omega, h4⟩
end
end Go.Proofs.YtoigokkeaddceaaGreatDoor
