/- A part of the proof of this seat's statement: what is particular to its program. Its conditions stand in each theorem. -/
import Derived.Test.YtcfpppleiikjhaaGreatDoorK5
import Derived.Test.YtcfpppleiikjhaaGreatDoorZ8
namespace Go.Proofs.YtcfpppleiikjhaaGreatDoor
open Go.Xq
noncomputable section
theorem isPagePl_ok {H : AH} {n : Int} : DC Tryz.prog .normal 17 (.cons (.int .i64 n) .nil) H fun v' H2 => v' = .bool (isPgI n) ∧ H2 = H := by
  refine DC.of_wd (re := reTmp 2 reNil) tyOk Tryz.func17 (by kernel_rfl) rfl (by kernel_rfl) (by kernel_rfl) ?_
  rw [tl_nil, argsT_cons, argsT_nil]
  refine WD.seqR ?_
  refine WDO.looks1 tyOk extOk 1 (ls := [⟨lkMove (.const (.bool false)), (some 2), none⟩]) (by kernel_rfl) (by simp (disch := omega) []; exact rfl) ?_
  have hpg := @pgI_cases n
  by_cases h1 : 512 ≤ n
  · by_cases h2 : n ≤ 65536
    · obtain ⟨m, rfl⟩ : ∃ m : Nat, n = (m : Int) := ⟨n.toNat, by omega⟩
      obtain ⟨q, hq⟩ : ∃ q, q = Nat.land m (m - 1) := ⟨_, rfl⟩
      have e1 : (m : Int) - 1 = ((m - 1 : Nat) : Int) := by omega
      have g1 : akAnd.f .i64 (m : Int) ((m : Int) - 1) = some (.int .i64 (q : Int)) := by rw [e1]; exact akAnd_i64 (by omega) (by omega) hq
      have e2 : isPgI (m : Int) = decide ((q : Int) = 0) := by
        have h := pg_land (n := m) (by omega) (by omega)
        rw [← hq] at h
        by_cases h0 : q = 0
        · have := h.1 h0
          simp [isPgI, this, h0]
        · have : isPg m = false := by
            cases e : isPg m with
            | false => rfl
            | true => exact absurd (h.2 e) h0
          simp [isPgI, this, h0]
      have h1' : ¬ (m : Int) < 512 := by omega
      have h2' : ¬ 65536 < (m : Int) := by omega
      refine WDO.nilS (WD.seqR ?_)
      refine WDO.looks1 tyOk extOk 14 (ls := [xM 0 3, xC akGeq 3 512 4, xM 4 5, yM 0 6 5 true, yC akLeq 6 65536 7 5 true, ⟨⟨pickA (.tmp 5) (.tmp 7) (.const (.bool false))⟩, (some 8), none⟩, xM 8 9, yM 0 10 9 true, yM 0 11 9 true, yC akSub 11 1 12 9 true, yB akAnd 10 12 13 9 true, yC akEql 13 0 14 9 true, ⟨⟨pickA (.tmp 9) (.tmp 14) (.const (.bool false))⟩, (some 15), none⟩, xM 15 2]) (by kernel_rfl) (by simp (disch := omega) [h1', h2', g1]; exact rfl) ?_
      refine WDO.nilS (WD.ret (endR _ (by simp; rfl) ⟨?_, rfl⟩))
      rw [e2]
      simp [resultA_one]
    · have e2 : isPgI n = false := by
        cases e : isPgI n with
        | false => rfl
        | true => have := hpg e; omega
      have h1' : ¬ n < 512 := by omega
      have h2' : 65536 < n := by omega
      refine WDO.nilS (WD.seqR ?_)
      refine WDO.looks1 tyOk extOk 14 (ls := [xM 0 3, xC akGeq 3 512 4, xM 4 5, yM 0 6 5 true, yC akLeq 6 65536 7 5 true, ⟨⟨pickA (.tmp 5) (.tmp 7) (.const (.bool false))⟩, (some 8), none⟩, xM 8 9, yM 0 10 9 true, yM 0 11 9 true, yC akSub 11 1 12 9 true, yB akAnd 10 12 13 9 true, yC akEql 13 0 14 9 true, ⟨⟨pickA (.tmp 9) (.tmp 14) (.const (.bool false))⟩, (some 15), none⟩, xM 15 2]) (by kernel_rfl) (by simp (disch := omega) [h1', h2']; exact rfl) ?_
      exact WDO.nilS (WD.ret (endR _ (by simp; rfl) ⟨by rw [e2]; rfl, rfl⟩))
  · have e2 : isPgI n = false := by
      cases e : isPgI n with
      | false => rfl
      | true => have := hpg e; omega
    have h1' : n < 512 := by omega
    refine WDO.nilS (WD.seqR ?_)
    refine WDO.looks1 tyOk extOk 14 (ls := [xM 0 3, xC akGeq 3 512 4, xM 4 5, yM 0 6 5 true, yC akLeq 6 65536 7 5 true, ⟨⟨pickA (.tmp 5) (.tmp 7) (.const (.bool false))⟩, (some 8), none⟩, xM 8 9, yM 0 10 9 true, yM 0 11 9 true, yC akSub 11 1 12 9 true, yB akAnd 10 12 13 9 true, yC akEql 13 0 14 9 true, ⟨⟨pickA (.tmp 9) (.tmp 14) (.const (.bool false))⟩, (some 15), none⟩, xM 15 2]) (by kernel_rfl) (by simp (disch := omega) [h1']; exact rfl) ?_
    exact WDO.nilS (WD.ret (endR _ (by simp; rfl) ⟨by rw [e2]; rfl, rfl⟩))
set_option maxRecDepth 20000 in
theorem cloneS_ok {H : AH} {v : AV} {l : List UInt8} (h : RdS H v l) (hmx : l.length ≤ 17179869184) :
    DC Tryz.prog .normal 22 (.cons v .nil) H fun v' H2 => OwnZ H2 H.next v' l ∧ Keep noB H H2 := by
  refine DC.of_wd (re := reTmp 2 reNil) tyOk Tryz.func22 (by kernel_rfl) rfl (by kernel_rfl) (by kernel_rfl) ?_
  rw [tl_nil, argsT_cons, argsT_nil]
  refine WD.seqR ?_
  refine WDO.looks1 tyOk extOk 1 (ls := [⟨lkMove (.const (.slice none 0 0)), (some 2), none⟩]) (by kernel_rfl) (by simp (disch := omega) []; exact rfl) ?_
  refine WDO.nilS (WD.seq (WD.seqR ?_))
  by_cases hv : v = .snil
  · subst hv
    have hl : l = [] := by
      rcases h with ⟨_, e⟩ | ⟨b, off, cap, e, _⟩
      · exact e
      · cases e
    subst hl
    refine WDO.looks1 tyOk extOk 2 (ls := [xM 0 3, ⟨⟨binEq ⟨eqSl⟩ false (.tmp 3) (.const (.slice none 0 0))⟩, (some 4), none⟩]) (by kernel_rfl) (by simp (disch := omega) []; exact rfl) ?_
    refine WDO.nilS (WD.cond (t := true) (by simp) (fun _ => WD.seqR ?_) (by simp))
    refine WDO.looks1 tyOk extOk 1 (ls := [⟨lkMove (.const (.slice none 0 0)), (some 2), none⟩]) (by kernel_rfl) (by simp (disch := omega) []; exact rfl) ?_
    exact WDO.nilS (WD.ret (endR _ (by simp; rfl) ⟨.inl (.inl ⟨rfl, rfl⟩), Keep.refl _ _⟩))
  · obtain ⟨b, off, n, cap, rfl⟩ : ∃ b off n cap, v = .sl b off n cap := by
      rcases h with ⟨e, _⟩ | ⟨b, off, cap, e, _⟩
      · exact absurd e hv
      · exact ⟨b, off, _, cap, e⟩
    refine WDO.looks1 tyOk extOk 2 (ls := [xM 0 3, ⟨⟨binEq ⟨eqSl⟩ false (.tmp 3) (.const (.slice none 0 0))⟩, (some 4), none⟩]) (by kernel_rfl) (by simp (disch := omega) []; exact rfl) ?_
    refine WDO.nilS (WD.cond (t := false) (by simp) (by simp) fun _ => WD.skip (.inl rfl) (WD.seqR ?_))
    refine WDO.fresh1 tyOk (k := ⟨frSlice 0 (zerosA (.cons (.int .u8 0) .nil) 0) flEnd ⟨mkBy 5⟩⟩) (by kernel_rfl) rfl (by kernel_rfl) (v := .sl H.next 0 0 (some 0)) (x := bb 5 false []) ?_ ?_
    · exact rfl
    have k1 : Keep noB H (H.new (bb 5 false [])) := Keep.new _ _ _
    have g1 : (H.new (bb 5 false [])).get H.next = some (bb 5 false []) := get_new_same _ _
    have n1 : (H.new (bb 5 false [])).next = H.next + 1 := by simp
    have h1 := h.keep k1 fun _ _ => id
    generalize H.new (bb 5 false []) = H1 at k1 g1 n1 h1 ⊢
    refine WDO.looks1 tyOk extOk 1 (ls := [xM 0 6]) (by kernel_rfl) (by simp (disch := omega) []; exact rfl) ?_
    by_cases hl : l = []
    · subst hl
      have ha := appB_zero (e := 5) h1 (b := H.next) (off := 0) (len := 0) (c := 0) (Nat.le_refl _) (by omega)
      refine WDO.heavy1 tyOk extOk (k := ⟨hvAppend ⟨grownBy 5⟩ 1 (.tmp 5) (.tmp 6)⟩) (by kernel_rfl) rfl (by kernel_rfl) (by simp; exact ha) ?_
      refine WDO.looks1 tyOk extOk 1 (ls := [xM 7 2]) (by kernel_rfl) (by simp (disch := omega) []; exact rfl) ?_
      exact WDO.nilS (WD.ret (endR _ (by simp; rfl) ⟨.inr ⟨H.next, rfl, Nat.le_refl _, by omega, rfl⟩, k1⟩))
    · obtain ⟨v', H2, a1, a2, a3, a4⟩ := appB_first (e := 5) (lo := H.next) (k := []) (n := 0) (b := H.next) (H := H1) (.bb' rfl (by omega) g1) rfl h1 hl (by omega) (by omega)
      refine WDO.heavy1 tyOk extOk (k := ⟨hvAppend ⟨grownBy 5⟩ 1 (.tmp 5) (.tmp 6)⟩) (by kernel_rfl) rfl (by kernel_rfl) (by simp; exact a1) ?_
      refine WDO.looks1 tyOk extOk 1 (ls := [xM 7 2]) (by kernel_rfl) (by simp (disch := omega) []; exact rfl) ?_
      exact WDO.nilS (WD.ret (endR _ (by simp; rfl) ⟨.inl (by rw [List.nil_append] at a2; exact a2), k1.trans a3⟩))
structure PlV where
  page : Int
  sv : AV
  lv : AV
  mb : Nat
  acts : Int
  c0 : Int
  c1 : Int
  c2 : Int
  ok1 : isCell sv = true
  ok2 : isCell lv = true
def encPl (p : PlV) : List AV := [.int .i64 p.page, p.sv, p.lv, .mp p.mb, .bool false, .int .i64 p.acts, .snil, .int .i64 0, .int .i64 0, .int .i64 p.c0, .int .i64 p.c1, .int .i64 p.c2]
theorem encPl_len (p : PlV) : (encPl p).length = 12 := rfl
def zPl : AV := .cons (.int .i64 0) (.cons .snil (.cons .snil (.cons .mnil (.cons (.bool false) (.cons (.int .i64 0) (.cons .snil (.cons (.int .i64 0) (.cons (.int .i64 0) (.cons (.int .i64 0) (.cons (.int .i64 0) (.cons (.int .i64 0) .nil)))))))))))
abbrev PlB (H : AH) (b : Nat) (p : PlV) : Prop := Bx encPl 61 12 zPl H b p
theorem PlB.rd {H : AH} {b : Nat} {p : PlV} (h : PlB H b p) : ∃ o, H.get b = some o ∧ rdCell o 0 = some (.int .i64 p.page) ∧ rdCell o 1 = some p.sv ∧ rdCell o 2 = some p.lv ∧ rdCell o 3 = some (.mp p.mb) ∧ rdCell o 4 = some (.bool false) ∧ rdCell o 5 = some (.int .i64 p.acts) ∧
    rdCell o 9 = some (.int .i64 p.c0) ∧ rdCell o 10 = some (.int .i64 p.c1) ∧ rdCell o 11 = some (.int .i64 p.c2) := by
  obtain ⟨o, h1, h2, _⟩ := h.get encPl_len
  exact ⟨o, h1, h2 0 _ rfl, h2 1 _ rfl, h2 2 _ rfl, h2 3 _ rfl, h2 4 _ rfl, h2 5 _ rfl, h2 9 _ rfl, h2 10 _ rfl, h2 11 _ rfl⟩
structure LoosesAt (H : AH) (O : Nat → Prop) (v : AV) (wl : List (Nat × List UInt8)) (els : List Pv) : Prop where
  lst : LstAt encPv 71 2 zPv H 0 v els
  own : ∀ x, blk v = some x → O x
  len : els.length = wl.length
  at_ : ∀ (j : Nat) (a : Pv) (w : Nat × List UInt8), els[j]? = some a → wl[j]? = some w → a.n = (w.1 : Int) ∧ OwnB 5 H 0 a.v w.2 ∧ ∀ x, blk a.v = some x → O x
theorem LoosesAt.keep {S O : Nat → Prop} {H H2 : AH} {v : AV} {wl : List (Nat × List UInt8)} {els : List Pv} (h : LoosesAt H O v wl els) (hk : Keep S H H2) (hs : ∀ b, O b → b < H.next → ¬ S b) : LoosesAt H2 O v wl els :=
  ⟨h.lst.keep hk fun _ e => hs _ (h.own _ e) (h.lst.low e).2, h.own, h.len, fun j a p ha hp =>
    have q := h.at_ j a p ha hp
    ⟨q.1, q.2.1.keep hk fun _ e => hs _ (q.2.2 _ e) (q.2.1.low e).2, q.2.2⟩⟩
theorem LoosesAt.mono {O O2 : Nat → Prop} {H : AH} {v : AV} {wl : List (Nat × List UInt8)} {els : List Pv} (h : LoosesAt H O v wl els) (hs : ∀ b, b < H.next → O b → O2 b) : LoosesAt H O2 v wl els :=
  ⟨h.lst, fun _ e => hs _ (h.lst.low e).2 (h.own _ e), h.len, fun j a p ha hp =>
    have q := h.at_ j a p ha hp
    ⟨q.1, q.2.1, fun _ e => hs _ (q.2.1.low e).2 (q.2.2 _ e)⟩⟩
structure Dev where
  P : Nat
  safe : List UInt8
  wl : List (Nat × List UInt8)
  l : List (Nat × Nat)
structure Dev.Ok (d : Dev) : Prop where
  pos : 512 ≤ d.P
  le : d.P ≤ 65536
  good : GoodL d.l d.wl
  long : ∀ (i : Nat) (w : Nat × List UInt8), d.wl[i]? = some w → w.2.length = d.P ∧ w.1 * d.P + d.P ≤ d.safe.length
  four : 4 * d.P ≤ d.safe.length
  whole : d.safe.length % d.P = 0
  most : d.safe.length ≤ 67108864
def Dev.img (d : Dev) : List UInt8 := imgL d.P d.safe d.wl d.l
structure PlAt (H : AH) (O : Nat → Prop) (b : Nat) (d : Dev) : Prop where
  ex : ∃ (p : PlV) (sb : Nat) (els : List Pv), PlB H b p ∧ p.page = (d.P : Int) ∧ p.sv = .sl sb 0 d.safe.length (some d.safe.length) ∧ p.acts = -1 ∧ O b ∧ b < H.next ∧ O sb ∧ sb < H.next ∧ H.get sb = some (bb 5 false d.safe) ∧ LoosesAt H O p.lv d.wl els ∧ O p.mb ∧ p.mb < H.next ∧ H.get p.mb = some (mpN d.l)
theorem PlAt.keep {S O : Nat → Prop} {H H2 : AH} {b : Nat} {d : Dev} (h : PlAt H O b d) (hk : Keep S H H2) (hs : ∀ b, O b → b < H.next → ¬ S b) : PlAt H2 O b d := by
  obtain ⟨p, sb, els, h1, h2, h3, h4, h5, h6, h7, h8, h9, h10, h11, h12, h13⟩ := h.ex
  have := hk.1
  exact ⟨p, sb, els, h1.keep hk h6 (hs _ h5 h6), h2, h3, h4, h5, by omega, h7, by omega, hk.get h8 (hs _ h7 h8) h9, h10.keep hk hs, h11, by omega, hk.get h12 (hs _ h11 h12) h13⟩
theorem PlAt.mono {O O2 : Nat → Prop} {H : AH} {b : Nat} {d : Dev} (h : PlAt H O b d) (hs : ∀ b, b < H.next → O b → O2 b) : PlAt H O2 b d := by
  obtain ⟨p, sb, els, h1, h2, h3, h4, h5, h6, h7, h8, h9, h10, h11, h12, h13⟩ := h.ex
  exact ⟨p, sb, els, h1, h2, h3, h4, hs _ h6 h5, h6, hs _ h8 h7, h8, h9, h10.mono hs, hs _ h12 h11, h12, h13⟩
set_option maxRecDepth 20000 in
theorem page_ok {H : AH} {O : Nat → Prop} {b : Nat} {d : Dev} (h : PlAt H O b d) : DC Tryz.prog .normal 24 (.cons (.ptr b 0) .nil) H fun v' H2 => v' = .int .i64 (d.P : Int) ∧ H2 = H := by
  obtain ⟨p, sb, els, h1, h2, _⟩ := h.ex
  obtain ⟨o, g, r0, _⟩ := PlB.rd h1
  rw [h2] at r0
  refine DC.of_wd (re := reTmp 2 reNil) tyOk Tryz.func24 (by kernel_rfl) rfl (by kernel_rfl) (by kernel_rfl) ?_
  rw [tl_nil, argsT_cons, argsT_nil]
  refine WD.seqR ?_
  refine WDO.looks1 tyOk extOk 1 (ls := [⟨lkMove (.const (.int .i64 0)), (some 2), none⟩]) (by kernel_rfl) (by simp (disch := omega) []; exact rfl) ?_
  refine WDO.nilS (WD.seqR ?_)
  refine WDO.looks1 tyOk extOk 5 (ls := [xM 0 3, ⟨⟨nilChk E (.tmp 3)⟩, (some 4), none⟩, xF 4 0 5, xL 5 6, xM 6 2]) (by kernel_rfl) (by simp (disch := omega) [g, r0]; exact rfl) ?_
  exact WDO.nilS (WD.ret (endR _ (by simp; rfl) ⟨rfl, rfl⟩))
theorem quoA_i64n {m d q : Nat} (hd : d ≠ 0) (hq : q = m / d) (hm : m < 4611686018427387904) : quoA .i64 (m : Int) (d : Int) = some (.int .i64 (q : Int)) := by
  unfold quoA
  rw [eqI_pos hd, bt_false, tdiv_nat, ← hq]
  have : q ≤ m := by rw [hq]; exact Nat.div_le_self _ _
  exact mkInt_i64 (by omega) (by omega)
set_option maxRecDepth 20000 in
theorem pages_ok {H : AH} {O : Nat → Prop} {b : Nat} {d : Dev} (h : PlAt H O b d) (hd : d.Ok) : DC Tryz.prog .normal 26 (.cons (.ptr b 0) .nil) H fun v' H2 => v' = .int .i64 ((d.safe.length / d.P : Nat) : Int) ∧ H2 = H := by
  obtain ⟨p, sb, els, h1, h2, h3, _⟩ := h.ex
  obtain ⟨o, g, r0, r1, _⟩ := PlB.rd h1
  rw [h2] at r0
  rw [h3] at r1
  have hpos := hd.pos
  have hmost := hd.most
  obtain ⟨q, hq⟩ : ∃ q, q = d.safe.length / d.P := ⟨_, rfl⟩
  have hquo := quoA_i64n (m := d.safe.length) (d := d.P) (q := q) (by omega) hq (by omega)
  rw [← hq]
  refine DC.of_wd (re := reTmp 2 reNil) tyOk Tryz.func26 (by kernel_rfl) rfl (by kernel_rfl) (by kernel_rfl) ?_
  rw [tl_nil, argsT_cons, argsT_nil]
  refine WD.seqR ?_
  refine WDO.looks1 tyOk extOk 1 (ls := [⟨lkMove (.const (.int .i64 0)), (some 2), none⟩]) (by kernel_rfl) (by simp (disch := omega) []; exact rfl) ?_
  refine WDO.nilS (WD.seq ?_)
  refine WD.drawLooks tyOk extOk (by kernel_rfl) (ls := [⟨[0], lkMove (.tmp 0), (some 3), none⟩, ⟨[3], ⟨nilChk E (.tmp 3)⟩, (some 4), none⟩, ⟨[4], ⟨fAddr (.tmp 4) 1⟩, (some 5), none⟩, ⟨[5], ⟨ldA ⟨ld1⟩ (.tmp 5)⟩, (some 6), none⟩, ⟨[6], ⟨lenSl (.tmp 6)⟩, (some 7), none⟩, ⟨[0], lkMove (.tmp 0), (some 8), none⟩, ⟨[8], ⟨nilChk E (.tmp 8)⟩, (some 9), none⟩, ⟨[9], ⟨fAddr (.tmp 9) 0⟩, (some 10), none⟩, ⟨[10], ⟨ldA ⟨ld1⟩ (.tmp 10)⟩, (some 11), none⟩, ⟨[7, 11], ⟨binInt ⟨quoA⟩ (.tmp 7) (.tmp 11)⟩, (some 12), none⟩, ⟨[12], lkMove (.tmp 12), (some 2), none⟩]) (by kernel_rfl) (by simp (disch := omega) [g, r0, r1, hquo]; exact rfl) ?_
  exact WD.ret (endR _ (by simp; rfl) ⟨rfl, rfl⟩)
end
end Go.Proofs.YtcfpppleiikjhaaGreatDoor
namespace Go.Proofs.YtcfpppleiikjhaaGreatDoor
open Go.Xq
noncomputable section
def devOk (pg n : Int) : Bool := isPgI pg && (decide (4 ≤ n) && (decide (n ≤ 65536) && decide (n * pg ≤ 67108864)))
theorem devOk_iff {pg n : Int} : devOk pg n = true ↔ isPgI pg = true ∧ 4 ≤ n ∧ n ≤ 65536 ∧ n * pg ≤ 67108864 := by simp [devOk]
def plNew (P sb mb size : Nat) : PlV := ⟨(P : Int), .sl sb 0 size (some size), .snil, mb, -1, 0, 0, 0, rfl, rfl⟩
set_option maxRecDepth 20000 in
set_option maxHeartbeats 2000000 in
theorem plNew_ok {H : AH} {pg n : Int} : DC Tryz.prog .normal 14 (.cons (.int .i64 pg) (.cons (.int .i64 n) .nil)) H fun v' H2 =>
    (devOk pg n = true → ∃ b, v' = .ptr b 0 ∧ PlAt H2 (fun x => H.next ≤ x) b ⟨pg.toNat, List.replicate (pg.toNat * n.toNat) 0, [], []⟩) ∧ (devOk pg n = false → v' = .pnil) ∧ Keep noB H H2 := by
  refine DC.of_wd (re := reTmp 4 reNil) tyOk Tryz.func14 (by kernel_rfl) rfl (by kernel_rfl) (by kernel_rfl) ?_
  rw [tl_nil, argsT_cons, argsT_cons, argsT_nil]
  refine WD.seqR ?_
  refine WDO.looks1 tyOk extOk 1 (ls := [⟨lkMove (.const (.pointer none)), (some 4), none⟩]) (by kernel_rfl) (by simp (disch := omega) []; exact rfl) ?_
  refine WDO.nilS (WD.seq (WD.seqR ?_))
  refine WDO.looks1 tyOk extOk 1 (ls := [xM 0 5]) (by kernel_rfl) (by simp (disch := omega) []; exact rfl) ?_
  refine WDO.callF (g := 17) rfl rfl rfl (by kernel_rfl) (l := .cons (.int .i64 pg) .nil) (by simp) isPagePl_ok fun u H1 ⟨hu, hH⟩ => ?_
  subst hu
  subst hH
  simp only [putA_some]
  refine WDO.keep (l := [(0, .int .i64 pg), (1, .int .i64 n), (4, .pnil), (6, .bool (isPgI pg))]) ?_ (by simp)
  obtain ⟨l', hrun, hsub⟩ : ∃ (l' : List (Nat × AV)), runLk [xU 6 7, xM 7 8, yM 1 9 8 false, yC akLss 9 4 10 8 false, xP 8 10 11 true, xM 11 12, yM 1 13 12 false, yC akGtr 13 65536 14 12 false, xP 12 14 15 true, xM 15 16, yM 1 17 16 false, yM 0 18 16 false, ⟨⟨binInt ⟨quoA⟩ (.const (.int .i64 67108864)) (.tmp 18)⟩, (some 19), (some (16, false))⟩, yB akGtr 17 19 20 16 false, xP 16 20 21 true] (tl [(0, .int .i64 pg), (1, .int .i64 n), (4, .pnil), (6, .bool (isPgI pg))]) H1 = some (tl l') ∧ lsub [(0, .int .i64 pg), (1, .int .i64 n), (4, .pnil), (21, .bool (!devOk pg n))] l' := by
    cases hp : isPgI pg with
    | false =>
      have hd : devOk pg n = false := by unfold devOk; rw [hp]; rfl
      rw [hd]
      exact ⟨_, by simp (disch := omega) []; exact rfl, by simp⟩
    | true =>
      have hpc := pgI_cases hp
      by_cases h1 : n < 4
      · have hd : devOk pg n = false := by cases e : devOk pg n with | false => rfl | true => have := (devOk_iff.1 e).2.1; omega
        rw [hd]
        exact ⟨_, by simp (disch := omega) [h1]; exact rfl, by simp⟩
      · by_cases h2 : 65536 < n
        · have hd : devOk pg n = false := by cases e : devOk pg n with | false => rfl | true => have := (devOk_iff.1 e).2.2.1; omega
          rw [hd]
          exact ⟨_, by simp (disch := omega) [h1, h2]; exact rfl, by simp⟩
        · obtain ⟨P, rfl⟩ : ∃ P : Nat, pg = (P : Int) := ⟨pg.toNat, by omega⟩
          obtain ⟨q, hq⟩ : ∃ q, q = 67108864 / P := ⟨_, rfl⟩
          have hquo := quoA_i64n (m := 67108864) (d := P) (q := q) (by omega) hq (by omega)
          have hquo' : quoA .i64 67108864 (P : Int) = some (.int .i64 (q : Int)) := hquo
          obtain ⟨m, rfl⟩ : ∃ m : Nat, n = (m : Int) := ⟨n.toNat, by omega⟩
          have key : (m : Int) * (P : Int) ≤ 67108864 ↔ m ≤ q := by
            rw [hq, Nat.le_div_iff_mul_le (by omega)]
            rw [← Int.natCast_mul]
            omega
          by_cases h3 : q < m
          · have hd : devOk P m = false := by cases e : devOk P m with | false => rfl | true => have := key.1 (devOk_iff.1 e).2.2.2; omega
            rw [hd]
            exact ⟨_, by simp (disch := omega) [h1, h2, hquo', h3]; exact rfl, by simp⟩
          · have hd : devOk P m = true := devOk_iff.2 ⟨hp, by omega, by omega, key.2 (by omega)⟩
            rw [hd]
            exact ⟨_, by simp (disch := omega) [h1, h2, hquo', h3]; exact rfl, by simp⟩
  refine WDO.looks1 tyOk extOk 15 (ls := [xU 6 7, xM 7 8, yM 1 9 8 false, yC akLss 9 4 10 8 false, xP 8 10 11 true, xM 11 12, yM 1 13 12 false, yC akGtr 13 65536 14 12 false, xP 12 14 15 true, xM 15 16, yM 1 17 16 false, yM 0 18 16 false, ⟨⟨binInt ⟨quoA⟩ (.const (.int .i64 67108864)) (.tmp 18)⟩, (some 19), (some (16, false))⟩, yB akGtr 17 19 20 16 false, xP 16 20 21 true]) (by kernel_rfl) hrun ?_
  clear hrun
  cases hd : devOk pg n with
  | false =>
    rw [hd] at hsub
    refine WDO.nilS (WD.keep (WD.cond (t := true) (by simp) (fun _ => WD.seqR ?_) (by simp)) hsub)
    refine WDO.looks1 tyOk extOk 1 (ls := [⟨lkMove (.const (.pointer none)), (some 4), none⟩]) (by kernel_rfl) (by simp (disch := omega) []; exact rfl) ?_
    exact WDO.nilS (WD.ret (endR _ (by simp; rfl) ⟨fun h => Bool.noConfusion h, fun _ => rfl, Keep.refl _ _⟩))
  | true =>
    rw [hd] at hsub
    obtain ⟨c1, c2, c3, c4⟩ := devOk_iff.1 hd
    have hpc := pgI_cases c1
    obtain ⟨P, rfl⟩ : ∃ P : Nat, pg = (P : Int) := ⟨pg.toNat, by omega⟩
    obtain ⟨m, rfl⟩ : ∃ m : Nat, n = (m : Int) := ⟨n.toNat, by omega⟩
    rw [Int.toNat_natCast, Int.toNat_natCast]
    obtain ⟨S, hS⟩ : ∃ S, S = P * m := ⟨_, rfl⟩
    have hS' : (P : Int) * (m : Int) = (S : Int) := by rw [hS, Int.natCast_mul]
    have hSm : (S : Int) ≤ 67108864 := by rw [← hS', Int.mul_comm]; exact c4
    have gm : akMul.f .i64 (P : Int) (m : Int) = some (.int .i64 (S : Int)) := by rw [akMul_i64 (by rw [hS']; omega) (by rw [hS']; omega), hS']
    rw [← hS]
    refine WDO.nilS (WD.keep (WD.cond (t := false) (by simp) (by simp) fun _ => WD.skip (.inl rfl) (WD.keep (l := [(0, .int .i64 (P : Int)), (1, .int .i64 (m : Int)), (4, .pnil)]) (WD.seqR ?_) (by simp))) hsub)
    refine WDO.looks1 tyOk extOk 4 (ls := [xM 0 22, xM 0 23, xM 1 24, xB akMul 23 24 25]) (by kernel_rfl) (by simp (disch := omega) [gm]; exact rfl) ?_
    refine WDO.fresh1 tyOk (k := ⟨frMake E 5 1 (.tmp 25) (.tmp 25)⟩) (by kernel_rfl) rfl (by kernel_rfl) (v := .sl H1.next 0 S (some S)) (x := bb 5 false (List.replicate S 0)) ?_ ?_
    · dsimp only
      exact frMake_u8 (mkZero5 S) (by simp) (by simp) (Nat.le_refl _) (by omega) (by omega)
    have k1 : Keep noB H1 (H1.new (bb 5 false (List.replicate S 0))) := Keep.new _ _ _
    have g1 : (H1.new (bb 5 false (List.replicate S 0))).get H1.next = some (bb 5 false (List.replicate S 0)) := get_new_same _ _
    have n1 : (H1.new (bb 5 false (List.replicate S 0))).next = H1.next + 1 := by simp
    generalize H1.new (bb 5 false (List.replicate S 0)) = H2 at k1 g1 n1 ⊢
    refine WDO.fresh1 tyOk (k := frMap) (by kernel_rfl) rfl (by kernel_rfl) (v := .mp H2.next) (x := mpN []) ?_ ?_
    · exact rfl
    have k2 : Keep noB H2 (H2.new (mpN [])) := Keep.new _ _ _
    have g2 : (H2.new (mpN [])).get H2.next = some (mpN []) := get_new_same _ _
    have n2 : (H2.new (mpN [])).next = H2.next + 1 := by simp
    have g1' := k2.get (by omega) id g1
    generalize H2.new (mpN []) = H3 at k2 g2 n2 g1' ⊢
    refine WDO.looks1 tyOk extOk 1 (ls := [⟨⟨buildA (.cons (.int .i64 0) (.cons .snil (.cons .snil (.cons .mnil (.cons (.bool false) (.cons (.int .i64 0) (.cons .snil (.cons (.int .i64 0) (.cons (.int .i64 0) (.cons (.int .i64 0) (.cons (.int .i64 0) (.cons (.int .i64 0) .nil)))))))))))) ⟨fill1 (.tmp 22) 0 1 ⟨fill1 (.tmp 26) 1 1 ⟨fill1 (.tmp 27) 3 1 ⟨fill1 (.const (.int .i64 (-1))) 5 1 flEnd⟩⟩⟩⟩⟩, (some 28), none⟩]) (by kernel_rfl) (by simp (disch := omega) []; exact rfl) ?_
    simp only [putA_some]
    refine WDO.keep (l := [(4, .pnil), (28, .agg (avl (encPl (plNew P H1.next H2.next S))))]) ?_ (by simp; rfl)
    obtain ⟨o1, e1, hD, k3⟩ := Bx.box (enc := encPl) (e := 61) (es := 12) (z := zPl) encPl_len (H := H3) (a := plNew P H1.next H2.next S) (x := .tmp 28) (T := tl [(4, .pnil), (28, .agg (avl (encPl (plNew P H1.next H2.next S))))]) (by simp)
    refine WDO.fresh1 tyOk (k := ⟨frBox ⟨mkCs 61 12 (.cons (.int .i64 0) (.cons .snil (.cons .snil (.cons .mnil (.cons (.bool false) (.cons (.int .i64 0) (.cons .snil (.cons (.int .i64 0) (.cons (.int .i64 0) (.cons (.int .i64 0) (.cons (.int .i64 0) (.cons (.int .i64 0) .nil))))))))))))⟩ (.tmp 28)⟩) (by kernel_rfl) rfl (by kernel_rfl) e1 ?_
    have n3 : (H3.new o1).next = H3.next + 1 := by simp
    have g1'' := k3.get (by omega) id g1'
    have g2'' := k3.get (by omega) id g2
    generalize H3.new o1 = H4 at hD k3 n3 g1'' g2'' ⊢
    refine WDO.looks1 tyOk extOk 1 (ls := [xM 29 4]) (by kernel_rfl) (by simp (disch := omega) []; exact rfl) ?_
    refine WDO.nilS (WD.ret (endR _ (by simp; rfl) ⟨fun _ => ⟨H3.next, rfl, ⟨_, H1.next, [], hD, rfl, ?_, rfl, by omega, by omega, by omega, by omega, ?_, ⟨.inl ⟨rfl, rfl⟩, fun x e => (by cases e), rfl, fun j a w h => by simp at h⟩, ?_, ?_, ?_⟩⟩, fun h => Bool.noConfusion h, (k1.trans k2).trans k3⟩))
    · simp [plNew]
    · exact g1''
    · show H1.next ≤ H2.next; omega
    · show H2.next < H4.next; omega
    · exact g2''
end
end Go.Proofs.YtcfpppleiikjhaaGreatDoor
namespace Go.Proofs.YtcfpppleiikjhaaGreatDoor
open Go.Xq
noncomputable section
def ldOk (pg : Int) (n : Nat) : Bool := isPgI pg && (decide (n % pg.toNat = 0) && devOk pg ((n / pg.toNat : Nat) : Int))
theorem PlB.ne_bb {H : AH} {b x e : Nat} {o : Bool} {k : List UInt8} {p : PlV} (h : PlB H b p) (hx : H.get x = some (bb e o k)) : x ≠ b := by
  rintro rfl
  obtain ⟨o', h1, t, h2, _⟩ := h.ex
  rw [hx, h2] at h1
  cases h1
theorem PlB.ne_mp {H : AH} {b x : Nat} {l : List (Nat × Nat)} {p : PlV} (h : PlB H b p) (hx : H.get x = some (mpN l)) : x ≠ b := by
  rintro rfl
  obtain ⟨o', h1, t, h2, _⟩ := h.ex
  rw [hx, h2] at h1
  cases h1
theorem bb_ne_mp {H : AH} {x y e : Nat} {o : Bool} {k : List UInt8} {l : List (Nat × Nat)} (hx : H.get x = some (bb e o k)) (hy : H.get y = some (mpN l)) : x ≠ y := by
  rintro rfl
  rw [hx] at hy
  cases hy
set_option maxRecDepth 20000 in
set_option maxHeartbeats 2000000 in
theorem load_ok {H : AH} {v : AV} {l : List UInt8} {pg : Int} (h : RdS H v l) (hmx : l.length ≤ 17179869184) :
    DC Tryz.prog .normal 5 (.cons v (.cons (.int .i64 pg) .nil)) H fun v' H2 =>
      (ldOk pg l.length = true → ∃ b, v' = .tup (.cons (.ptr b 0) (.cons (.int .i64 0) .nil)) ∧ PlAt H2 (fun x => H.next ≤ x) b ⟨pg.toNat, l, [], []⟩) ∧ (ldOk pg l.length = false → v' = .tup (.cons .pnil (.cons (.int .i64 32) .nil))) ∧ Keep noB H H2 := by
  refine DC.of_wd (re := reTmp 4 (reTmp 5 reNil)) tyOk Tryz.func5 (by kernel_rfl) rfl (by kernel_rfl) (by kernel_rfl) ?_
  rw [tl_nil, argsT_cons, argsT_cons, argsT_nil]
  have hlen := h.len
  refine WD.seqR ?_
  refine WDO.looks1 tyOk extOk 2 (ls := [⟨lkMove (.const (.pointer none)), (some 4), none⟩, ⟨lkMove (.const (.int .i64 0)), (some 5), none⟩]) (by kernel_rfl) (by simp (disch := omega) []; exact rfl) ?_
  refine WDO.nilS (WD.seq (WD.seqR ?_))
  refine WDO.looks1 tyOk extOk 1 (ls := [xM 1 7]) (by kernel_rfl) (by simp (disch := omega) []; exact rfl) ?_
  refine WDO.callF (g := 17) rfl rfl rfl (by kernel_rfl) (l := .cons (.int .i64 pg) .nil) (by simp) isPagePl_ok fun u H1 ⟨hu, hH⟩ => ?_
  subst hu
  subst hH
  simp only [putA_some]
  refine WDO.keep (l := [(0, v), (1, .int .i64 pg), (4, .pnil), (5, .int .i64 0), (8, .bool (isPgI pg))]) ?_ (by simp)
  obtain ⟨l', hrun, hsub⟩ : ∃ (l' : List (Nat × AV)), runLk [xU 8 9, xM 9 10, yM 0 11 10 false, yN 11 12 10 false, yM 1 13 10 false, ⟨⟨binInt ⟨remA⟩ (.tmp 12) (.tmp 13)⟩, (some 14), (some (10, false))⟩, yC akNeq 14 0 15 10 false, xP 10 15 16 true] (tl [(0, v), (1, .int .i64 pg), (4, .pnil), (5, .int .i64 0), (8, .bool (isPgI pg))]) H1 = some (tl l') ∧ lsub [(0, v), (1, .int .i64 pg), (4, .pnil), (5, .int .i64 0), (16, .bool (!(isPgI pg && decide (l.length % pg.toNat = 0))))] l' := by
    cases hp : isPgI pg with
    | false => exact ⟨_, by simp (disch := omega) []; exact rfl, by simp⟩
    | true =>
      have hpc := pgI_cases hp
      obtain ⟨P, rfl⟩ : ∃ P : Nat, pg = (P : Int) := ⟨pg.toNat, by omega⟩
      obtain ⟨r, hr⟩ : ∃ r, r = l.length % P := ⟨_, rfl⟩
      have hrem := remA_nat (k := .i64) (m := l.length) (d := P) (q := r) (by omega) hr
      rw [Int.toNat_natCast, ← hr]
      by_cases h0 : r = 0
      · subst h0
        exact ⟨_, by simp (disch := omega) [hlen, hrem]; exact rfl, by simp⟩
      · have h0' : ¬ (r : Int) = 0 := by omega
        exact ⟨_, by simp (disch := omega) [hlen, hrem, h0']; exact rfl, by simp [h0]⟩
  refine WDO.looks1 tyOk extOk 8 (ls := [xU 8 9, xM 9 10, yM 0 11 10 false, yN 11 12 10 false, yM 1 13 10 false, ⟨⟨binInt ⟨remA⟩ (.tmp 12) (.tmp 13)⟩, (some 14), (some (10, false))⟩, yC akNeq 14 0 15 10 false, xP 10 15 16 true]) (by kernel_rfl) hrun ?_
  clear hrun
  cases hc : (isPgI pg && decide (l.length % pg.toNat = 0)) with
  | false =>
    have hl0 : ldOk pg l.length = false := by unfold ldOk; rw [← Bool.and_assoc, hc]; rfl
    rw [hc] at hsub
    refine WDO.nilS (WD.keep (WD.cond (t := true) (by simp) (fun _ => WD.seqR ?_) (by simp)) hsub)
    refine WDO.looks1 tyOk extOk 2 (ls := [⟨lkMove (.const (.pointer none)), (some 4), none⟩, ⟨lkMove (.const (.int .i64 32)), (some 5), none⟩]) (by kernel_rfl) (by simp (disch := omega) []; exact rfl) ?_
    exact WDO.nilS (WD.ret (endR _ (by simp; rfl) ⟨fun e => Bool.noConfusion (hl0.symm.trans e), fun _ => rfl, Keep.refl _ _⟩))
  | true =>
    rw [hc] at hsub
    rw [Bool.and_eq_true] at hc
    have hpc := pgI_cases hc.1
    have hm0 : l.length % pg.toNat = 0 := of_decide_eq_true hc.2
    obtain ⟨P, rfl⟩ : ∃ P : Nat, pg = (P : Int) := ⟨pg.toNat, by omega⟩
    rw [Int.toNat_natCast] at hm0
    have hld : ldOk (P : Int) l.length = devOk (P : Int) ((l.length / P : Nat) : Int) := by unfold ldOk; rw [hc.1, Int.toNat_natCast, decide_eq_true hm0]; rfl
    rw [hld]
    have hquo := quoA_i64n (m := l.length) (d := P) (q := l.length / P) (by omega) rfl (by omega)
    have hmul : P * (l.length / P) = l.length := Nat.mul_div_cancel' (Nat.dvd_of_mod_eq_zero hm0)
    refine WDO.nilS (WD.keep (WD.cond (t := false) (by simp) (by simp) fun _ => WD.skip (.inl rfl) (WD.seqR ?_)) hsub)
    refine WDO.looks1 tyOk extOk 5 (ls := [xM 1 17, xM 0 18, xN 18 19, xM 1 20, ⟨⟨binInt ⟨quoA⟩ (.tmp 19) (.tmp 20)⟩, (some 21), none⟩]) (by kernel_rfl) (by simp (disch := omega) [hlen, hquo]; exact rfl) ?_
    refine WDO.callF (g := 14) rfl rfl rfl (by kernel_rfl) (l := .cons (.int .i64 (P : Int)) (.cons (.int .i64 ((l.length / P : Nat) : Int)) .nil)) (by simp) plNew_ok fun u H2 ⟨hu1, hu2, k2⟩ => ?_
    rw [Int.toNat_natCast, Int.toNat_natCast, hmul] at hu1
    simp only [putA_some]
    refine WDO.keep (l := [(0, v), (22, u), (4, .pnil), (5, .int .i64 0)]) ?_ (by simp)
    refine WDO.looks1 tyOk extOk 1 (ls := [xM 22 6]) (by kernel_rfl) (by simp (disch := omega) []; exact rfl) ?_
    refine WDO.nilS (WD.seq (WD.seqR ?_))
    cases hd : devOk (P : Int) ((l.length / P : Nat) : Int) with
    | false =>
      have hu := hu2 hd
      subst hu
      refine WDO.looks1 tyOk extOk 2 (ls := [xM 6 23, ⟨⟨binEq ⟨eqPtr 12⟩ false (.tmp 23) (.const (.pointer none))⟩, (some 24), none⟩]) (by kernel_rfl) (by simp (disch := omega) []; exact rfl) ?_
      refine WDO.nilS (WD.cond (t := true) (by simp) (fun _ => WD.seqR ?_) (by simp))
      refine WDO.looks1 tyOk extOk 2 (ls := [⟨lkMove (.const (.pointer none)), (some 4), none⟩, ⟨lkMove (.const (.int .i64 32)), (some 5), none⟩]) (by kernel_rfl) (by simp (disch := omega) []; exact rfl) ?_
      exact WDO.nilS (WD.ret (endR _ (by simp; rfl) ⟨fun e => Bool.noConfusion e, fun _ => rfl, k2⟩))
    | true =>
      obtain ⟨b, rfl, hA⟩ := hu1 hd
      refine WDO.looks1 tyOk extOk 2 (ls := [xM 6 23, ⟨⟨binEq ⟨eqPtr 12⟩ false (.tmp 23) (.const (.pointer none))⟩, (some 24), none⟩]) (by kernel_rfl) (by simp (disch := omega) []; exact rfl) ?_
      refine WDO.nilS (WD.cond (t := false) (by simp) (by simp) fun _ => WD.skip (.inl rfl) (WD.seqR ?_))
      obtain ⟨p, sb, els, a1, a2, a3, a4, a5, a6, a7, a8, a9, a10, a11, a12, a13⟩ := hA.ex
      obtain ⟨o, g, r0, r1, _⟩ := PlB.rd a1
      rw [a3] at r1
      have a3' : p.sv = .sl sb 0 l.length (some l.length) := by rw [a3]; simp
      refine WDO.looks1 tyOk extOk 5 (ls := [xM 6 25, ⟨⟨nilChk E (.tmp 25)⟩, (some 26), none⟩, xF 26 1 27, xL 27 28, xM 0 29]) (by kernel_rfl) (by simp (disch := omega) [g, r1]; exact rfl) ?_
      have hcp := copyA_bb (H := H2) (cap := some l.length) a9 (by simp) (Nat.le_refl l.length) (h.keep k2 fun _ _ => id) (Nat.le_refl _)
      have hne : l ≠ [] := by intro e; subst e; have := (devOk_iff.1 hd).2.1; simp at this
      rw [if_neg hne] at hcp
      have hdr : l ++ (List.replicate l.length (0 : UInt8)).drop l.length = l := by simp
      dsimp only at hcp
      rw [hdr] at hcp
      refine WDO.heavy1 tyOk extOk (k := ⟨hvCopy 1 (.tmp 28) (.tmp 29)⟩) (by kernel_rfl) rfl (by kernel_rfl) (by simp; exact hcp) ?_
      have n1 := a1.ne_bb a9
      have n2 := bb_ne_mp a9 a13
      have ks : Keep (fun x => x = sb) H2 (H2.set sb (bb 5 false l)) := Keep.set _ fun _ => rfl
      have a1' := a1.keep ks a6 (fun e => n1 e.symm)
      have a13' := ks.get a12 (fun e => n2 e.symm) a13
      have gs : (H2.set sb (bb 5 false l)).get sb = some (bb 5 false l) := get_set_same _ _ _
      have nx : (H2.set sb (bb 5 false l)).next = H2.next := by simp
      generalize H2.set sb (bb 5 false l) = H3 at ks a1' a13' gs nx ⊢
      refine WDO.nilS (WD.seqR ?_)
      refine WDO.looks1 tyOk extOk 3 (ls := [xM 6 31, xM 31 4, ⟨lkMove (.const (.int .i64 0)), (some 5), none⟩]) (by kernel_rfl) (by simp (disch := omega) []; exact rfl) ?_
      refine WDO.nilS (WD.ret (endR _ (by simp; rfl) ⟨fun _ => ⟨b, rfl, ⟨p, sb, els, a1', a2, a3', a4, a5, by omega, a7, by omega, gs, ?_, a11, by omega, a13'⟩⟩, fun e => Bool.noConfusion e, ?_⟩))
      · have he : els = [] := List.eq_nil_of_length_eq_zero a10.len
        subst he
        refine ⟨?_, a10.own, rfl, fun j a w h => by simp at h⟩
        rcases a10.lst with hh | ⟨_, _, _, hh, _⟩
        · exact .inl hh
        · exact absurd rfl hh
      · exact k2.trans' ks fun x hx e => by rw [e] at hx; omega
end
end Go.Proofs.YtcfpppleiikjhaaGreatDoor
namespace Go.Proofs.YtcfpppleiikjhaaGreatDoor
open Go.Xq
noncomputable section
theorem slC_open {H : AH} {B e n q : Nat} {l : List UInt8} (h : H.get B = some (bb e true l)) (hl : l.length = n) (hq : q ≤ n) : slC 1 (some q) none (.sl B 0 n none) H = some (.sl B q (n - q) none) := by
  have hr : roomOf H B 0 n 1 = some n := by
    unfold roomOf
    rw [h, ob_some']
    show some (Nat.max n (Nat.sub l.length 0)) = _
    rw [hl]
    simp
  have hb : boundsA n none n (some q) none none = some (q, n, none) := by
    show bt (Nat.ble n n) (bt (Nat.ble q n) (some (q, n, none)) none) none = _
    rw [ble_true (Nat.le_refl _), bt_true, ble_true hq, bt_true]
  unfold slC
  rw [onSl_sl, oc_none, hr, ob_some', hb, ob_some']
  show some (AV.sl B (0 + q * 1) (n - q) none) = _
  rw [Nat.mul_one, Nat.zero_add]
structure ImgI (d : Dev) (H0 Hs : AH) (it B mb : Nat) (s : List Nat × List UInt8) (H : AH) : Prop where
  heap : H = (Hs.set it (.mit (some mb) d.l.length s.1 d.l.length)).set B (bb 5 true s.2)
  img : Img d.P d.safe d.wl d.l s.1 s.2
  it_ : H.get it = some (.mit (some mb) d.l.length s.1 d.l.length)
  out : H.get B = some (bb 5 true s.2)
  keep : Keep noB H0 H
  lt1 : H0.next ≤ B
  lt2 : B < it
  lt3 : it < H.next
set_option maxRecDepth 20000 in
set_option maxHeartbeats 4000000 in
theorem image_ac {H : AH} {O : Nat → Prop} {b : Nat} {d : Dev} (h : PlAt H O b d) (hd : d.Ok) : ∃ (B it : Nat) (Hs : AH), H.next ≤ B ∧ B < it ∧ it < Hs.next ∧ Keep noB H Hs ∧
    AC Tryz.prog .normal 8 (.cons (.ptr b 0) .nil) H fun v' H' => v' = .sl B 0 d.safe.length none ∧ ∃ o, H' = (Hs.set it o).set B (bb 5 true d.img) := by
  have hpos := hd.pos
  have hfour := hd.four
  have hmost := hd.most
  obtain ⟨p, sb, els, a1, a2, a3, a4, a5, a6, a7, a8, a9, a10, a11, a12, a13⟩ := h.ex
  obtain ⟨o, g, r0, r1, r2, r3, _⟩ := PlB.rd a1
  rw [a3] at r1
  rw [a2] at r0
  have hne : d.safe ≠ [] := by intro e; rw [e] at hfour; simp at hfour; omega
  obtain ⟨u, H1, ⟨hu, k1⟩, hac⟩ := cloneS_ok (H := H) (.bb' (cap := some d.safe.length) rfl a8 a9) (by omega)
  obtain ⟨B, rfl, c1, c2, c3⟩ : ∃ B, u = .sl B 0 d.safe.length none ∧ H.next ≤ B ∧ B < H1.next ∧ H1.get B = some (bb 5 true d.safe) := by
    rcases hu with hu | ⟨_, _, _, _, e⟩
    · rcases hu with ⟨_, e⟩ | ⟨B, e, _, x1, x2, x3⟩
      · exact absurd e hne
      · exact ⟨B, e, x1, x2, x3⟩
    · exact absurd e hne
  have k2 : Keep noB H1 (H1.new (.mit (some p.mb) d.l.length [] d.l.length)) := Keep.new _ _ _
  have n2 : (H1.new (.mit (some p.mb) d.l.length [] d.l.length)).next = H1.next + 1 := by simp
  refine ⟨B, H1.next, H1.new (.mit (some p.mb) d.l.length [] d.l.length), c1, c2, by omega, k1.trans k2, ?_⟩
  refine AC.of_wp (re := reTmp 2 reNil) tyOk Tryz.func8 (by kernel_rfl) rfl (by kernel_rfl) (by kernel_rfl) ?_
  rw [tl_nil, argsT_cons, argsT_nil]
  refine WP.seqR ?_
  refine WPO.looks1 tyOk extOk 1 (ls := [⟨lkMove (.const (.slice none 0 0)), (some 2), none⟩]) (by kernel_rfl) (by simp (disch := omega) []; exact rfl) ?_
  refine WPO.nilS (WP.seqR ?_)
  refine WPO.looks1 tyOk extOk 4 (ls := [xM 0 6, ⟨⟨nilChk E (.tmp 6)⟩, (some 7), none⟩, xF 7 1 8, xL 8 9]) (by kernel_rfl) (by simp (disch := omega) [g, r1]; exact rfl) ?_
  refine WPO.callF (g := 22) rfl rfl rfl (by kernel_rfl) (l := .cons (.sl sb 0 d.safe.length (some d.safe.length)) .nil) (by simp) hac fun v' H' ⟨e1, e2⟩ => ?_
  subst e1
  have e2 := e2.symm
  subst e2
  have g1 := k1.get a6 id g
  have m1 := k1.get a12 id a13
  refine WPO.looks1 tyOk extOk 1 (ls := [xM 10 3]) (by kernel_rfl) (by simp (disch := omega) []; exact rfl) ?_
  refine WPO.nilS (WP.seq (WP.seqR ?_))
  refine WPO.looks1 tyOk extOk 4 (ls := [xM 0 11, ⟨⟨nilChk E (.tmp 11)⟩, (some 12), none⟩, xF 12 3 13, xL 13 14]) (by kernel_rfl) (by simp (disch := omega) [g1, r3]; exact rfl) ?_
  refine WPO.heavy1 tyOk extOk (k := ⟨hvRange (.tmp 14)⟩) (by kernel_rfl) rfl (by kernel_rfl) (by simp; exact hvRange_ok (by simp) m1) ?_
  have i2 : (H1.new (.mit (some p.mb) d.l.length [] d.l.length)).get H1.next = some (.mit (some p.mb) d.l.length [] d.l.length) := get_new_same _ _
  have c3' := k2.get c2 id c3
  generalize H1.new (.mit (some p.mb) d.l.length [] d.l.length) = H2 at k2 i2 c3' n2 ⊢
  generalize H1.next = it at i2 c2 n2 ⊢
  simp only [putA_some]
  refine WPO.nilS (WP.forM (σ := List Nat × List UInt8) (fun _ => [(0, .ptr b 0), (2, .snil), (3, .sl B 0 d.safe.length none), (15, .ptr it 0)]) (ImgI d H H2 it B p.mb) (fun s => leftN d.l.length s.1) ([], d.safe) ⟨(by rw [AH.set_self _ i2, AH.set_self _ c3']), .start _ _ _ _, i2, c3', k1.trans k2, c1, c2, by omega⟩ (by simp) ?_)
  rintro ⟨seen, out⟩ Hx hI
  have hlmd := hI.it_
  obtain ⟨ps, hps, hall⟩ := nextOpts_mp (it := .tmp 15) (T := tl [(0, .ptr b 0), (2, .snil), (3, .sl B 0 d.safe.length none), (15, .ptr it 0)]) (H := Hx) (by simp) hI.it_ (hI.keep.get a12 id a13)
  refine WPO.next rfl rfl (by kernel_rfl) hps fun q hq => ?_
  rcases hall q hq with ⟨hfin, rfl⟩ | ⟨j, e, hj, hs, rfl⟩
  · simp only [putA_some]
    refine WPO.looks1 tyOk extOk 1 (ls := [⟨⟨exA (.tmp 16) 0⟩, (some 17), none⟩]) (by kernel_rfl) (by simp (disch := omega) []; exact rfl) ?_
    refine WPO.nil ⟨false, _, _, rfl, by simp, fun _ => ?_, fun e => Bool.noConfusion e⟩
    refine WP.seqR ?_
    refine WPO.looks1 tyOk extOk 2 (ls := [xM 3 38, xM 38 2]) (by kernel_rfl) (by simp (disch := omega) []; exact rfl) ?_
    have himg : out = d.img := hI.img.all hd.good (by omega) (fun i w hw => (hd.long i w hw).1) hfin
    have hh := hI.heap
    rw [himg] at hh
    exact WPO.nilS (WP.ret (endR _ (by simp; rfl) ⟨rfl, _, hh⟩))
  · simp only [putA_some]
    refine WPO.looks1 tyOk extOk 1 (ls := [⟨⟨exA (.tmp 16) 0⟩, (some 17), none⟩]) (by kernel_rfl) (by simp (disch := omega) []; exact rfl) ?_
    refine WPO.nil ⟨true, _, _, rfl, by simp, fun e => Bool.noConfusion e, fun _ => ?_⟩
    obtain ⟨w, hw, hwe⟩ := hd.good.is j e hj
    obtain ⟨hwl, hwb⟩ := hd.long _ w hw
    have hjl := get_lt hj
    have kx := hI.keep
    have c4 : p.mb ≠ it := by have := hI.lt1; have := hI.lt2; omega
    have c5 : b ≠ it := by have := hI.lt1; have := hI.lt2; omega
    have ks : Keep (fun x => x = it) Hx (Hx.set it (.mit (some p.mb) d.l.length (j :: seen) d.l.length)) := Keep.set _ fun _ => rfl
    have i3 : (Hx.set it (.mit (some p.mb) d.l.length (j :: seen) d.l.length)).get it = some (.mit (some p.mb) d.l.length (j :: seen) d.l.length) := get_set_same _ _ _
    have n3 : (Hx.set it (.mit (some p.mb) d.l.length (j :: seen) d.l.length)).next = Hx.next := by simp
    have kk : Keep noB H (Hx.set it (.mit (some p.mb) d.l.length (j :: seen) d.l.length)) := kx.trans' ks fun x hx e => by have := hI.lt1; have := hI.lt2; omega
    have o3 := ks.get (by have := hI.lt2; have := hI.lt3; omega) (by have := hI.lt2; omega) hI.out
    have hheap : Hx.set it (.mit (some p.mb) d.l.length (j :: seen) d.l.length) = (H2.set it (.mit (some p.mb) d.l.length (j :: seen) d.l.length)).set B (bb 5 true out) := by
      rw [hI.heap, AH.set_comm _ _ _ (by have := hI.lt2; omega), AH.set_set]
    have x1 := hI.lt1
    have x2 := hI.lt2
    have x3 := hI.lt3
    have ximg := hI.img
    clear hI hps hall
    generalize Hx.set it (.mit (some p.mb) d.l.length (j :: seen) d.l.length) = Hy at ks i3 n3 kk o3 hheap ⊢
    have mb3 := kk.get a12 id a13
    have g3 := kk.get a6 id g
    have hent := entryA_ok (x := .tmp 15) (T := tl [(17, .bool true), (16, .tup (.cons (.bool true) (.cons (.int .i64 (e.1 : Int)) (.cons (.int .i64 (e.2 : Int)) .nil)))), (0, .ptr b 0), (2, .snil), (3, .sl B 0 d.safe.length none), (15, .ptr it 0)]) (by simp) i3 mb3 hj
    refine WP.seqR ?_
    refine WPO.looks1 tyOk extOk 5 (ls := [⟨⟨entryA (.tmp 15)⟩, (some 18), none⟩, ⟨⟨exA (.tmp 18) 0⟩, (some 19), none⟩, ⟨⟨exA (.tmp 18) 1⟩, (some 20), none⟩, xM 19 4, xM 20 5]) (by kernel_rfl) (by simp (disch := omega) [hent]; exact rfl) ?_
    obtain ⟨a, ha⟩ : ∃ a, els[e.2]? = some a := by
      cases hx : els[e.2]? with
      | some a => exact ⟨a, rfl⟩
      | none => rw [List.getElem?_eq_none_iff, a10.len] at hx; have := get_lt hw; omega
    obtain ⟨_, hav, _⟩ := a10.at_ _ _ _ ha hw
    obtain ⟨lb, ol, hlv, hl1, hl2, gl, el, hlt⟩ := a10.lst.at ha
    have cl := el.cell ha (j := 1) (v := a.v) rfl
    rw [hlv] at r2
    have gl3 := kk.get hl2 id gl
    have hrd : RdS Hy a.v w.2 := hav.rd.keep kk fun _ _ => id
    obtain ⟨q, hq⟩ : ∃ q, q = e.1 * d.P := ⟨_, rfl⟩
    have hq' : (e.1 : Int) * (d.P : Int) = (q : Int) := by rw [hq, Int.natCast_mul]
    rw [← hwe] at hq
    have gm : akMul.f .i64 (e.1 : Int) (d.P : Int) = some (.int .i64 (q : Int)) := by rw [akMul_i64 (by rw [hq']; omega) (by rw [hq']; omega), hq']
    have hql : q ≤ d.safe.length := by omega
    have hel : (e.2 : Int) < (els.length : Int) := by omega
    have hlo : out.length = d.safe.length := ximg.len
    refine WPO.nilS ?_
    have hsl := slC_open o3 hlo hql
    have hsl := slC_open o3 hlo hql
    obtain ⟨R, hR, hRc⟩ := specR_ex Tryz.prog (fun _ _ _ _ _ => True)
    refine WP.drawnK tyOk extOk (by kernel_rfl) (ls := [⟨[3], .look (lkMove (.tmp 3)), (some 21), none, 0, 1, true, false⟩, ⟨[4], .look (lkMove (.tmp 4)), (some 22), none, 0, 1, true, false⟩, ⟨[0], .look (lkMove (.tmp 0)), (some 23), none, 0, 1, true, false⟩, ⟨[23], .look (⟨nilChk E (.tmp 23)⟩), (some 24), none, 0, 1, true, false⟩, ⟨[24], .look (⟨fAddr (.tmp 24) 0⟩), (some 25), none, 0, 1, true, false⟩, ⟨[25], .look (⟨ldA ⟨ld1⟩ (.tmp 25)⟩), (some 26), none, 0, 1, false, false⟩, ⟨[22, 26], .look (⟨binInt akMul (.tmp 22) (.tmp 26)⟩), (some 27), none, 0, 1, false, false⟩, ⟨[21, 27], .look (⟨slSl 1 (.tmp 21) (some (.tmp 27)) none none⟩), (some 28), none, 0, 1, false, false⟩, ⟨[0], .look (lkMove (.tmp 0)), (some 29), none, 0, 1, true, false⟩, ⟨[29], .look (⟨nilChk E (.tmp 29)⟩), (some 30), none, 0, 1, true, false⟩, ⟨[30], .look (⟨fAddr (.tmp 30) 2⟩), (some 31), none, 0, 1, true, false⟩, ⟨[31], .look (⟨ldA ⟨ld1⟩ (.tmp 31)⟩), (some 32), none, 0, 1, false, false⟩, ⟨[5], .look (lkMove (.tmp 5)), (some 33), none, 0, 1, true, false⟩, ⟨[32, 33], .look (⟨ixSl 2 (.tmp 32) (.tmp 33)⟩), (some 34), none, 0, 1, true, false⟩, ⟨[34], .look (⟨fAddr (.tmp 34) 1⟩), (some 35), none, 0, 1, true, false⟩, ⟨[35], .look (⟨ldA ⟨ld1⟩ (.tmp 35)⟩), (some 36), none, 0, 1, false, false⟩, ⟨[28, 36], .heavy ⟨hvCopy 1 (.tmp 28) (.tmp 36)⟩, (some 37), none, 0, 2, false, true⟩]) (by kernel_rfl) hR fun K hK => ?_
    simp (disch := omega) [g3, r0, r2, gm, gl3, cl, hsl]
    have hcp := copyA_at (H := Hy) (off := q) (n := d.safe.length - q) (cap := none) o3 (by rw [hlo]; omega) (v := a.v) (l := w.2) hrd.lengthA hrd.bytesA (by omega)
    have hw0 : w.2 ≠ [] := by intro e0; rw [e0] at hwl; simp at hwl; omega
    rw [if_neg hw0] at hcp
    refine diHv_in (v := .int .i64 (w.2.length : Int)) (by simp; exact hcp) (by simp) ?_
    have hpl : (putL out q w.2).length = d.safe.length := by rw [putL_len (by omega), hlo]
    have kB : Keep (fun x => x = B) Hy (Hy.set B (bb 5 true (putL out q w.2))) := Keep.set _ fun _ => rfl
    have oB : (Hy.set B (bb 5 true (putL out q w.2))).get B = some (bb 5 true (putL out q w.2)) := get_set_same _ _ _
    have nB : (Hy.set B (bb 5 true (putL out q w.2))).next = Hy.next := by simp
    have hheap2 : Hy.set B (bb 5 true (putL out q w.2)) = (H2.set it (.mit (some p.mb) d.l.length (j :: seen) d.l.length)).set B (bb 5 true (putL out q w.2)) := by rw [hheap, AH.set_set]
    generalize Hy.set B (bb 5 true (putL out q w.2)) = Hz at kB oB nB hheap2 ⊢
    have hsl2 := slC_open oB hpl hql
    have g4 := kB.get (by have := kk.1; omega) (by omega) g3
    have gl4 := kB.get (by have := kk.1; omega) (by omega) gl3
    simp [g3, r0, r2, gm, gl3, cl, hsl]
    have himg := ximg.step hd.good (by omega) hj hs hw hwl (by rw [← hwe]; exact hwb)
    rw [← hwe, ← hq] at himg
    refine hK _ _ ⟨rfl, (j :: seen, putL out q w.2), _, rfl, ?_, ⟨hheap2, himg, kB.get (by omega) (by omega) i3, oB, kk.trans' kB fun x hx e => by omega, x1, x2, by omega⟩, leftN_lt hjl hs⟩
    simp
theorem image_ok {H : AH} {O : Nat → Prop} {b : Nat} {d : Dev} (h : PlAt H O b d) (hd : d.Ok) : DC Tryz.prog .normal 8 (.cons (.ptr b 0) .nil) H fun v' H2 => OwnB 5 H2 H.next v' d.img ∧ Keep noB H H2 := by
  obtain ⟨B, it, Hs, h1, h2, h3, hk, hac⟩ := image_ac h hd
  have hil : d.img.length = d.safe.length := imgL_len _ _ _ _
  have hfour := hd.four
  have hpos := hd.pos
  have hk2 : Keep noB H ((Hs.kill it).set B (bb 5 true d.img)) := (hk.trans' (Keep.kill (S := fun x => x = it) fun _ => rfl) fun x hx e => by omega).trans' (Keep.set (S := fun x => x = B) _ fun _ => rfl) fun x hx e => by omega
  refine ⟨.sl B 0 d.safe.length none, (Hs.kill it).set B (bb 5 true d.img), ⟨.inr ⟨B, by rw [hil], ?_, h1, by simp; omega, get_set_same _ _ _⟩, hk2⟩, (hac.forget it).mono ?_⟩
  · intro e
    rw [e] at hil
    simp at hil
    omega
  · rintro v' H' ⟨H2, ⟨e1, o, e2⟩, e3⟩
    refine ⟨e1, ?_⟩
    rw [e3, e2, AH.kill_comm _ _ (by omega), AH.kill_set]
end
end Go.Proofs.YtcfpppleiikjhaaGreatDoor
