/- A part of the proof of this seat's statement: what is particular to its program. Its conditions stand in each theorem. -/
import Derived.Test.YtnffppehomofmaaGreatDoorD3
namespace Go.Proofs.YtnffppehomofmaaGreatDoor
open Go.Xq
noncomputable section
def Good (H : AH) (v : AV) (j len : Nat) : Prop := ∃ b N, v = .sl b 0 len none ∧ 0 < len ∧ len ≤ N ∧ b < H.next ∧ H.get b = some (bb 5 true (marks j N))
def GoodS (H : AH) (v : AV) (j len : Nat) : Prop := (v = .snil ∧ len = 0) ∨ (∃ b, v = .sl b 0 0 (some 0) ∧ len = 0) ∨ Good H v j len
theorem Own.good {H : AH} {lo hi : Nat} {v : AV} {j len : Nat} (h : Own H lo hi v (marks j len)) (hn : hi ≤ H.next) : GoodS H v j len := by
  rcases h with ⟨rfl, e⟩ | ⟨b, rfl, e⟩ | ⟨b, rfl, e, h1, h2, h3⟩
  · refine .inl ⟨rfl, ?_⟩
    have := congrArg List.length e; rw [marks_len] at this; exact this
  · refine .inr (.inl ⟨b, rfl, ?_⟩)
    have := congrArg List.length e; rw [marks_len] at this; exact this
  · refine .inr (.inr ⟨b, len, by rw [marks_len], ?_, Nat.le_refl _, by omega, h3⟩)
    rcases Nat.eq_zero_or_pos len with e0 | e0
    · subst e0; exact absurd (marks_zero j) e
    · exact e0
theorem Good.step {H H2 : AH} {v v' g : AV} {i j N len : Nat} (h : Good H g j len) (ha : AppB H v (marks i N) (mk i N) v' H2) : Good H2 g j len := by
  obtain ⟨b, M, rfl, h1, h2, h3, h4⟩ := h
  rw [AppB, ← marks_succ] at ha
  rcases ha with ⟨b', rfl, hne, hg, rfl, rfl⟩ | ⟨rfl, rfl⟩
  · by_cases e : b = b'
    · subst e
      rw [h4] at hg
      have hm : marks j M = marks i N := by
        simp only [Option.some.injEq, bb, AObj.bys.injEq, true_and] at hg
        exact leNat_inj hg.1 hg.2
      have hMN : M = N := by have := congrArg List.length hm; rwa [marks_len, marks_len] at this
      subst hMN
      refine ⟨b, M + 1, rfl, h1, by omega, by simpa using h3, ?_⟩
      rw [get_set_same, marks_congr hm (by omega)]
    · exact ⟨b, M, rfl, h1, h2, by simpa using h3, by rw [AH.get_set, if_neg e]; exact h4⟩
  · exact ⟨b, M, rfl, h1, h2, by simp; omega, by rw [AH.get_new, if_neg (by omega)]; exact h4⟩
theorem GoodS.step {H H2 : AH} {v v' g : AV} {i j N len : Nat} (h : GoodS H g j len) (ha : AppB H v (marks i N) (mk i N) v' H2) : GoodS H2 g j len := by
  rcases h with h | h | h
  · exact .inl h
  · exact .inr (.inl h)
  · exact .inr (.inr (h.step ha))
theorem Good.keep {W : Nat → Prop} {H H2 : AH} {g : AV} {j len : Nat} (h : Good H g j len) (hk : Keep W H H2) (hW : ∀ b l, H.get b = some (bb 5 true l) → ¬ W b) : Good H2 g j len := by
  obtain ⟨b, M, rfl, h1, h2, h3, h4⟩ := h
  exact ⟨b, M, rfl, h1, h2, Nat.lt_of_lt_of_le h3 hk.1, hk.get h3 (hW b _ h4) h4⟩
theorem GoodS.keep {W : Nat → Prop} {H H2 : AH} {g : AV} {j len : Nat} (h : GoodS H g j len) (hk : Keep W H H2) (hW : ∀ b l, H.get b = some (bb 5 true l) → ¬ W b) : GoodS H2 g j len := by
  rcases h with h | h | h
  · exact .inl h
  · exact .inr (.inl h)
  · exact .inr (.inr (h.keep hk hW))
theorem GoodS.rd {H : AH} {g : AV} {j len : Nat} (h : GoodS H g j len) : RdS H g (marks j len) := by
  rcases h with ⟨rfl, rfl⟩ | ⟨b, rfl, rfl⟩ | ⟨b, M, rfl, h1, h2, h3, h4⟩
  · exact .inl ⟨rfl, rfl⟩
  · exact .sl rfl (fun h => absurd rfl h)
  · obtain ⟨r, hr⟩ := marks_pre j h2
    rw [hr] at h4
    exact .bb (by rw [marks_len]) h3 h4
theorem Own.good' {H : AH} {lo hi : Nat} {v : AV} {j len : Nat} (h : Own H lo hi v (marks j len)) (hn : hi ≤ H.next) (hl : 0 < len) : Good H v j len := by
  rcases h.good hn with ⟨_, e⟩ | ⟨_, _, e⟩ | h
  · omega
  · omega
  · exact h
theorem AppB.keep {H H2 : AH} {v v' : AV} {l : List UInt8} {y : UInt8} (ha : AppB H v l y v' H2) : Keep (fun b => sblk v = some b) H H2 := by
  rcases ha with ⟨b, rfl, h1, h2, rfl, rfl⟩ | ⟨rfl, rfl⟩
  · exact Keep.set _ fun _ => rfl
  · exact Keep.new _ _ _
theorem AppB.own {H H2 : AH} {v v' : AV} {i N : Nat} (ha : AppB H v (marks i N) (mk i N) v' H2) (h : Own H 0 H.next v (marks i N)) : Own H2 0 H2.next v' (marks i (N + 1)) := by
  have hne : marks i (N + 1) ≠ [] := by rw [marks_succ]; simp
  rw [AppB, ← marks_succ] at ha
  rcases ha with ⟨b, rfl, h1, h2, rfl, rfl⟩ | ⟨rfl, rfl⟩
  · have hb := (h.blk (b := b) rfl).2
    exact .inr (.inr ⟨b, by rw [marks_len, marks_len], hne, Nat.zero_le _, by simpa using hb, get_set_same _ _ _⟩)
  · exact .inr (.inr ⟨H.next, by rw [marks_len, marks_len], hne, Nat.zero_le _, by simp, get_new_same _ _⟩)
theorem AppB.src {H H2 : AH} {v v' : AV} {l : List UInt8} {y : UInt8} (ha : AppB H v l y v' H2) {b : Nat} (e : sblk v' = some b) : sblk v = some b ∨ H.next ≤ b := by
  rcases ha with ⟨b', rfl, h1, h2, rfl, rfl⟩ | ⟨rfl, rfl⟩
  · exact .inl e
  · cases e; exact .inr (Nat.le_refl _)
theorem lst_bb {H : AH} {lo : Nat} {gv : AV} {G : List AV} (h : LstAt enc1 45 1 z1 H lo gv G) : ∀ b l, H.get b = some (bb 5 true l) → ¬ blk gv = some b := by
  intro b l hb e
  rcases h with ⟨rfl, _⟩ | ⟨b', o, rfl, h1, h2, h3, h4, h5⟩
  · cases e
  · cases e
    rw [hb] at h4
    obtain ⟨t, rfl⟩ := h5.opn
    cases h4
theorem lst_ne {H : AH} {lo lo' hi : Nat} {gv v : AV} {G : List AV} {l : List UInt8} (h : LstAt enc1 45 1 z1 H lo gv G) (ho : Own H lo' hi v l) {b : Nat} (e : blk gv = some b) : ¬ sblk v = some b := by
  intro e2
  rcases ho with ⟨rfl, _⟩ | ⟨b', rfl, _⟩ | ⟨b', rfl, _, h1, h2, h3⟩
  · cases e2
  · cases e2
  · cases e2
    exact lst_bb h _ _ h3 e
structure Ph2 (S : List AV) (Bs : List (List UInt8)) (H H1 : AH) (B i : Nat) (gv : AV) (G : List AV) (H2 : AH) : Prop where
  le : i ≤ S.length
  keep : Keep (ofS S) H H2
  next : H1.next ≤ H2.next
  lst : LstAt enc1 45 1 z1 H2 H1.next gv G
  len : G.length = 5 * i
  own : ∀ (j : Nat) (v : AV) (l : List UInt8), S[j]? = some v → Bs[j]? = some l → (i ≤ j → Own H2 0 B v (marks j l.length)) ∧ GoodS H2 v j l.length
  good : ∀ (t : Nat) (g : AV), G[t]? = some g → ∃ len, Good H2 g (t / 5) len ∧ len ≤ 1048600
structure Ph2i (S : List AV) (Bs : List (List UInt8)) (H H1 : AH) (B i n : Nat) (v : AV) (k : Nat) (cur gv : AV) (G : List AV) (H3 : AH) : Prop where
  le : k ≤ 20
  keep : Keep (ofS S) H H3
  next : H1.next ≤ H3.next
  lst : LstAt enc1 45 1 z1 H3 H1.next gv G
  len : (k ≤ 3 → G.length = 5 * i + k) ∧ (3 ≤ k → k ≤ 8 → G.length = 5 * i + 3) ∧ (9 ≤ k → k ≤ 19 → G.length = 5 * i + 4) ∧ (20 ≤ k → G.length = 5 * i + 5)
  own0 : Own H3 0 H3.next cur (marks i (n + k))
  src : ∀ b, sblk cur = some b → sblk v = some b ∨ H1.next ≤ b
  own : ∀ (j : Nat) (w : AV) (m : List UInt8), S[j]? = some w → Bs[j]? = some m → (i < j → Own H3 0 B w (marks j m.length)) ∧ GoodS H3 w j m.length
  good : ∀ (t : Nat) (g : AV), G[t]? = some g → ∃ len, Good H3 g (t / 5) len ∧ len ≤ 1048600
set_option maxRecDepth 10000 in
theorem owned03_ok {H : AH} {B pb : Nat} {S L : List AV} {Bs : List (List UInt8)} (h : BookAt H B pb S L) (hB : B ≤ H.next) (hlen : S.length = Bs.length) (hS : S.length ≤ 67108864) (hbs : ∀ l ∈ Bs, l.length ≤ 1048576)
    (hown : ∀ (i : Nat) (v : AV) (l : List UInt8), S[i]? = some v → Bs[i]? = some l → Own H 0 B v l) (hap : Apart S) :
    AC Tryz.prog .normal 27 (.cons (.ptr pb 0) .nil) H fun v' H2 => v' = .bool true ∧ Keep (ofS S) H H2 := by
  refine AC.of_wp (re := reTmp 2 reNil) tyOk Tryz.func27 (by kernel_rfl) rfl (by kernel_rfl) (by kernel_rfl) ?_
  rw [tl_nil, argsT_cons, argsT_nil]
  have hW : ∀ b, B ≤ b → ¬ ofS S b := by
    rintro b hb ⟨u, hu, e⟩
    obtain ⟨i, hi⟩ := List.mem_iff_getElem?.1 hu
    have hil := get_lt hi
    have := ((hown i u (Bs[i]'(by omega)) hi (List.getElem?_eq_getElem _)).blk e).2
    omega
  have hbl := h.bytes.len
  refine WP.seqR ?_
  refine WPO.looks1 tyOk extOk 1 (ls := [⟨lkMove (.const (.bool false)), (some 2), none⟩]) (by kernel_rfl) (by simp (disch := omega) []; exact rfl) ?_
  refine WPO.nilS (WP.seq (WP.seqR ?_))
  refine WPO.looks1 tyOk extOk 1 (ls := [⟨lkMove (.const (.int .i64 0)), (some 3), none⟩]) (by kernel_rfl) (by simp (disch := omega) []; exact rfl) ?_
  refine WPO.nilS (WP.forE (σ := Nat) (fun i => [(0, .ptr pb 0), (3, .int .i64 (i : Int))])
    (fun i H' => i ≤ S.length ∧ Keep (ofS S) H H' ∧ ∀ (j : Nat) (v : AV) (l : List UInt8), S[j]? = some v → Bs[j]? = some l → Own H' 0 B v (if j < i then marks j l.length else l)) (fun i => S.length - i) 0 ⟨by omega, Keep.refl _ _, fun j v l h1 h2 => by simpa using hown j v l h1 h2⟩ (by simp) ?_)
  rintro i H' ⟨hi, hk', hown'⟩
  obtain ⟨gp, hrd⟩ := h.rdS hk' hW
  have r0 := h.r0
  refine WPO.looks1 tyOk extOk 7 (ls := [⟨lkMove (.tmp 3), (some 14), none⟩, ⟨lkMove (.tmp 0), (some 15), none⟩, ⟨⟨nilChk E (.tmp 15)⟩, (some 16), none⟩, ⟨⟨fAddr (.tmp 16) 0⟩, (some 17), none⟩, ⟨⟨ldA ⟨ld1⟩ (.tmp 17)⟩, (some 18), none⟩, ⟨⟨lenSl (.tmp 18)⟩, (some 19), none⟩, ⟨⟨binInt akLss (.tmp 14) (.tmp 19)⟩, (some 20), none⟩]) (by kernel_rfl) (by simp (disch := omega) [gp, r0, hbl]; exact rfl) ?_
  refine WPO.nil ⟨decide (i < S.length), _, rfl, by simp, fun hc => ?_, fun hc => ?_⟩
  · have hc : i = S.length := by have := of_decide_eq_false hc; omega
    subst hc
    have hown2 : ∀ (j : Nat) (v : AV) (l : List UInt8), S[j]? = some v → Bs[j]? = some l → Own H' 0 B v (marks j l.length) := fun j v l h1 h2 => by
      have := hown' j v l h1 h2
      rwa [if_pos (get_lt h1)] at this
    clear hown'
    refine WP.seqR ?_
    refine WPO.looks1 tyOk extOk 1 (ls := [⟨lkMove (.const (.slice none 0 0)), (some 6), none⟩]) (by kernel_rfl) (by simp (disch := omega) []; exact rfl) ?_
    refine WPO.nilS (WP.seq (WP.seqR ?_))
    refine WPO.looks1 tyOk extOk 1 (ls := [⟨lkMove (.const (.int .i64 0)), (some 7), none⟩]) (by kernel_rfl) (by simp (disch := omega) []; exact rfl) ?_
    refine WPO.nilS (WP.forE (σ := Nat × AV × List AV) (fun s => [(0, .ptr pb 0), (6, s.2.1), (7, .int .i64 (s.1 : Int))])
      (fun s H2 => Ph2 S Bs H H' B s.1 s.2.1 s.2.2 H2) (fun s => S.length - s.1) (0, .snil, [])
      ⟨by omega, hk', Nat.le_refl _, .inl ⟨rfl, rfl⟩, rfl, fun j v l h1 h2 => ⟨fun _ => hown2 j v l h1 h2, (hown2 j v l h1 h2).good (Nat.le_trans hB hk'.1)⟩, fun t g h => by simp at h⟩ (by simp) ?_)
    rintro ⟨i, gv, G⟩ H2 hp
    dsimp only at hp
    obtain ⟨gp2, hrd2⟩ := h.rdS hp.keep hW
    refine WPO.looks1 tyOk extOk 7 (ls := [⟨lkMove (.tmp 7), (some 44), none⟩, ⟨lkMove (.tmp 0), (some 45), none⟩, ⟨⟨nilChk E (.tmp 45)⟩, (some 46), none⟩, ⟨⟨fAddr (.tmp 46) 0⟩, (some 47), none⟩, ⟨⟨ldA ⟨ld1⟩ (.tmp 47)⟩, (some 48), none⟩, ⟨⟨lenSl (.tmp 48)⟩, (some 49), none⟩, ⟨⟨binInt akLss (.tmp 44) (.tmp 49)⟩, (some 50), none⟩]) (by kernel_rfl) (by simp (disch := omega) [gp2, r0, hbl]; exact rfl) ?_
    refine WPO.nil ⟨decide (i < S.length), _, rfl, by simp, fun hc => ?_, fun hc => ?_⟩
    · have hc : i = S.length := by have := of_decide_eq_false hc; have := hp.le; omega
      subst hc
      have hgl := hp.lst.len
      refine WP.seq (WP.seqR ?_)
      refine WPO.looks1 tyOk extOk 1 (ls := [⟨lkMove (.const (.int .i64 0)), (some 10), none⟩]) (by kernel_rfl) (by simp (disch := omega) []; exact rfl) ?_
      refine WPO.nilS (WP.forE (σ := Nat) (fun j => [(0, .ptr pb 0), (6, gv), (10, .int .i64 (j : Int))]) (fun j H3 => j ≤ S.length ∧ H2 = H3) (fun j => S.length - j) 0 ⟨by omega, rfl⟩ (by simp) ?_)
      rintro j _ ⟨hj, rfl⟩
      refine WPO.looks1 tyOk extOk 7 (ls := [⟨lkMove (.tmp 10), (some 87), none⟩, ⟨lkMove (.tmp 0), (some 88), none⟩, ⟨⟨nilChk E (.tmp 88)⟩, (some 89), none⟩, ⟨⟨fAddr (.tmp 89) 0⟩, (some 90), none⟩, ⟨⟨ldA ⟨ld1⟩ (.tmp 90)⟩, (some 91), none⟩, ⟨⟨lenSl (.tmp 91)⟩, (some 92), none⟩, ⟨⟨binInt akLss (.tmp 87) (.tmp 92)⟩, (some 93), none⟩]) (by kernel_rfl) (by simp (disch := omega) [gp2, r0, hbl]; exact rfl) ?_
      refine WPO.nil ⟨decide (j < S.length), _, rfl, by simp, fun hc => ?_, fun hc => ?_⟩
      · clear hc hj
        refine WP.seq (WP.seqR ?_)
        refine WPO.looks1 tyOk extOk 1 (ls := [⟨lkMove (.const (.int .i64 0)), (some 12), none⟩]) (by kernel_rfl) (by simp (disch := omega) []; exact rfl) ?_
        refine WPO.nilS (WP.forE (σ := Nat) (fun t => [(6, gv), (12, .int .i64 (t : Int))]) (fun t H3 => t ≤ G.length ∧ H2 = H3) (fun t => G.length - t) 0 ⟨by omega, rfl⟩ (by simp) ?_)
        rintro t _ ⟨ht, rfl⟩
        refine WPO.looks1 tyOk extOk 4 (ls := [⟨lkMove (.tmp 12), (some 107), none⟩, ⟨lkMove (.tmp 6), (some 108), none⟩, ⟨⟨lenSl (.tmp 108)⟩, (some 109), none⟩, ⟨⟨binInt akLss (.tmp 107) (.tmp 109)⟩, (some 110), none⟩]) (by kernel_rfl) (by simp (disch := omega) [hgl]; exact rfl) ?_
        refine WPO.nil ⟨decide (t < G.length), _, rfl, by simp, fun hc => ?_, fun hc => ?_⟩
        · refine WP.seqR ?_
          refine WPO.looks1 tyOk extOk 1 (ls := [⟨lkMove (.const (.bool true)), (some 2), none⟩]) (by kernel_rfl) (by simp (disch := omega) []; exact rfl) ?_
          exact WPO.nilS (WP.ret (endR _ (by simp; rfl) ⟨rfl, hp.keep⟩))
        · have hc : t < G.length := of_decide_eq_true hc
          have hg1 : G[t]? = some (G[t]) := List.getElem?_eq_getElem hc
          generalize G[t] = g at hg1
          obtain ⟨b, o, e1, e2, e3, e4, e5, _⟩ := lst_get hp.lst hg1
          obtain ⟨len, q1, q2⟩ := hp.good t g hg1
          have hql := hp.len
          obtain ⟨tq, htq⟩ : ∃ tq, tq = t / 5 := ⟨_, rfl⟩
          have hdv : (t : Int) / 5 = (tq : Int) := by omega
          rw [← htq] at q1
          refine WP.seqR ?_
          refine WPO.looks1 tyOk extOk 6 (ls := [⟨lkMove (.tmp 6), (some 113), none⟩, ⟨lkMove (.tmp 12), (some 114), none⟩, ⟨⟨ixSl 1 (.tmp 113) (.tmp 114)⟩, (some 115), none⟩, ⟨⟨ldA ⟨ld1⟩ (.tmp 115)⟩, (some 116), none⟩, ⟨lkMove (.tmp 12), (some 117), none⟩, ⟨⟨binInt ⟨quoA⟩ (.tmp 117) (.const (.int .i64 5))⟩, (some 118), none⟩]) (by kernel_rfl) (by simp (disch := omega) [e1, e4, e5, hc, hdv]; exact rfl) ?_
          refine WPO.callF (g := 56) rfl rfl rfl (by kernel_rfl) (l := .cons g (.cons (.int .i64 (tq : Int)) .nil)) (by simp) (marked_ok (GoodS.rd (.inr (.inr q1))) (by omega) (by omega)).ac fun u H3 ⟨hu, hH3⟩ => ?_
          subst hu
          subst hH3
          refine WPO.looks1 tyOk extOk 1 (ls := [⟨lkMove (.tmp 119), (some 13), none⟩]) (by kernel_rfl) (by simp (disch := omega) []; exact rfl) ?_
          refine WPO.nilS (WP.seqR ?_)
          refine WPO.looks1 tyOk extOk 2 (ls := [⟨lkMove (.tmp 13), (some 120), none⟩, ⟨lkUn ukNot (.tmp 120), (some 121), none⟩]) (by kernel_rfl) (by simp (disch := omega) []; exact rfl) ?_
          refine WPO.nilS (WP.cond (t := false) (by simp) (by simp) fun _ => WP.skip (.inl rfl) ?_)
          refine WPO.looks1 tyOk extOk 3 (ls := [⟨lkMove (.tmp 12), (some 111), none⟩, ⟨⟨binInt akAdd (.tmp 111) (.const (.int .i64 1))⟩, (some 112), none⟩, ⟨lkMove (.tmp 112), (some 12), none⟩]) (by kernel_rfl) (by simp (disch := omega) []; exact rfl) ?_
          exact WPO.nil ⟨rfl, t + 1, _, rfl, by simp [e1], ⟨by omega, rfl⟩, by omega⟩
      · have hc : j < S.length := of_decide_eq_true hc
        have hj1 : S[j]? = some (S[j]) := List.getElem?_eq_getElem hc
        have hj2 : Bs[j]? = some (Bs[j]'(by omega)) := List.getElem?_eq_getElem _
        have hll := hbs (Bs[j]'(by omega)) (List.getElem_mem _)
        generalize S[j] = v at hj1
        generalize Bs[j]'_ = l at hj2 hll
        obtain ⟨b, o, e1, e2, e3, _⟩ := hrd2 j v hj1
        refine WP.seqR ?_
        refine WPO.looks1 tyOk extOk 8 (ls := [⟨lkMove (.tmp 0), (some 96), none⟩, ⟨⟨nilChk E (.tmp 96)⟩, (some 97), none⟩, ⟨⟨fAddr (.tmp 97) 0⟩, (some 98), none⟩, ⟨⟨ldA ⟨ld1⟩ (.tmp 98)⟩, (some 99), none⟩, ⟨lkMove (.tmp 10), (some 100), none⟩, ⟨⟨ixSl 1 (.tmp 99) (.tmp 100)⟩, (some 101), none⟩, ⟨⟨ldA ⟨ld1⟩ (.tmp 101)⟩, (some 102), none⟩, ⟨lkMove (.tmp 10), (some 103), none⟩]) (by kernel_rfl) (by simp (disch := omega) [gp2, r0, e1, e2, e3, hc]; exact rfl) ?_
        refine WPO.callF (g := 56) rfl rfl rfl (by kernel_rfl) (l := .cons v (.cons (.int .i64 (j : Int)) .nil)) (by simp) (marked_ok (hp.own j v l hj1 hj2).2.rd (by omega) (by omega)).ac fun u H3 ⟨hu, hH3⟩ => ?_
        subst hu
        subst hH3
        refine WPO.looks1 tyOk extOk 1 (ls := [⟨lkMove (.tmp 104), (some 11), none⟩]) (by kernel_rfl) (by simp (disch := omega) []; exact rfl) ?_
        refine WPO.nilS (WP.seqR ?_)
        refine WPO.looks1 tyOk extOk 2 (ls := [⟨lkMove (.tmp 11), (some 105), none⟩, ⟨lkUn ukNot (.tmp 105), (some 106), none⟩]) (by kernel_rfl) (by simp (disch := omega) []; exact rfl) ?_
        refine WPO.nilS (WP.cond (t := false) (by simp) (by simp) fun _ => WP.skip (.inl rfl) ?_)
        refine WPO.looks1 tyOk extOk 3 (ls := [⟨lkMove (.tmp 10), (some 94), none⟩, ⟨⟨binInt akAdd (.tmp 94) (.const (.int .i64 1))⟩, (some 95), none⟩, ⟨lkMove (.tmp 95), (some 10), none⟩]) (by kernel_rfl) (by simp (disch := omega) []; exact rfl) ?_
        exact WPO.nil ⟨rfl, j + 1, _, rfl, by simp [e1], ⟨by omega, rfl⟩, by omega⟩
    · have hc : i < S.length := of_decide_eq_true hc
      have hi1 : S[i]? = some (S[i]) := List.getElem?_eq_getElem hc
      have hi2 : Bs[i]? = some (Bs[i]'(by omega)) := List.getElem?_eq_getElem _
      have hll := hbs (Bs[i]'(by omega)) (List.getElem_mem _)
      generalize S[i] = v at hi1
      generalize Bs[i]'_ = l at hi2 hll
      obtain ⟨b, o, e1, e2, e3, _⟩ := hrd2 i v hi1
      have ho := (hp.own i v l hi1 hi2).1 (Nat.le_refl _)
      have hB2 : B ≤ H2.next := Nat.le_trans hB hp.keep.1
      refine WP.seqR ?_
      refine WPO.looks1 tyOk extOk 8 (ls := [⟨lkMove (.tmp 0), (some 53), none⟩, ⟨⟨nilChk E (.tmp 53)⟩, (some 54), none⟩, ⟨⟨fAddr (.tmp 54) 0⟩, (some 55), none⟩, ⟨⟨ldA ⟨ld1⟩ (.tmp 55)⟩, (some 56), none⟩, ⟨lkMove (.tmp 7), (some 57), none⟩, ⟨⟨ixSl 1 (.tmp 56) (.tmp 57)⟩, (some 58), none⟩, ⟨⟨ldA ⟨ld1⟩ (.tmp 58)⟩, (some 59), none⟩, ⟨lkMove (.tmp 59), (some 8), none⟩]) (by kernel_rfl) (by simp (disch := omega) [gp2, r0, e1, e2, e3, hc]; exact rfl) ?_
      refine WPO.nilS (WP.seqR ?_)
      refine WPO.looks1 tyOk extOk 1 (ls := [⟨lkMove (.const (.int .i64 0)), (some 9), none⟩]) (by kernel_rfl) (by simp (disch := omega) []; exact rfl) ?_
      refine WPO.nilS (WP.forE (σ := Nat × AV × AV × List AV) (fun s => [(0, .ptr pb 0), (6, s.2.2.1), (7, .int .i64 (i : Int)), (8, s.2.1), (9, .int .i64 (s.1 : Int))])
        (fun s H3 => Ph2i S Bs H H' B i l.length v s.1 s.2.1 s.2.2.1 s.2.2.2 H3) (fun s => 20 - s.1) (0, v, gv, G)
        ⟨by omega, hp.keep, hp.next, hp.lst, ⟨fun _ => by simpa using hp.len, fun h => absurd h (by simp), fun h => absurd h (by simp), fun h => absurd h (by simp)⟩,
          (ho.keep (Keep.refl (fun _ => False) _) (fun _ _ _ _ => id) hB2 (Nat.le_refl _) hB2), fun b e => .inl e, fun j w m h1 h2 => ⟨fun hj => (hp.own j w m h1 h2).1 (Nat.le_of_lt hj), (hp.own j w m h1 h2).2⟩, hp.good⟩ (by simp) ?_)
      rintro ⟨k, cur, gv', G'⟩ H3 hq
      dsimp only at hq
      refine WPO.looks1 tyOk extOk 2 (ls := [⟨lkMove (.tmp 9), (some 60), none⟩, ⟨⟨binInt akLss (.tmp 60) (.const (.int .i64 20))⟩, (some 61), none⟩]) (by kernel_rfl) (by simp (disch := omega) []; exact rfl) ?_
      refine WPO.nil ⟨decide ((k : Int) < 20), _, rfl, by simp, fun hc => ?_, fun hc => ?_⟩
      · have hc : k = 20 := by have := of_decide_eq_false hc; have := hq.le; omega
        subst hc
        refine WPO.looks1 tyOk extOk 3 (ls := [⟨lkMove (.tmp 7), (some 51), none⟩, ⟨⟨binInt akAdd (.tmp 51) (.const (.int .i64 1))⟩, (some 52), none⟩, ⟨lkMove (.tmp 52), (some 7), none⟩]) (by kernel_rfl) (by simp (disch := omega) []; exact rfl) ?_
        refine WPO.nil ⟨rfl, (i + 1, gv', G'), _, rfl, by simp, ⟨by omega, hq.keep, hq.next, hq.lst, ?_, fun j w m h1 h2 => ⟨fun hj => (hq.own j w m h1 h2).1 hj, (hq.own j w m h1 h2).2⟩, hq.good⟩, by first | omega | (simp only; omega)⟩
        have := hq.len.2.2.2 (Nat.le_refl _)
        omega
      · have hc : k < 20 := by have := of_decide_eq_true hc; omega
        have hcl := hq.own0.len
        rw [marks_len] at hcl
        have hmk := mk_int i (l.length + k)
        have hyd : mk i (l.length + k) = mk i (l.length + k) := rfl
        generalize hy : mk i (l.length + k) = y at hmk
        have hn1 : H.next ≤ H'.next := hk'.1
        have hn3 := hq.next
        refine WP.seqR ?_
        have hmk2 : ((i : Int) + ((l.length : Int) + (k : Int)) / 251) % 256 = (y.toNat : Int) := by rw [hmk, Int.natCast_add]
        refine WPO.looks1 tyOk extOk 7 (ls := [⟨lkMove (.tmp 8), (some 64), none⟩, ⟨lkMove (.tmp 7), (some 65), none⟩, ⟨lkMove (.tmp 8), (some 66), none⟩, ⟨⟨lenSl (.tmp 66)⟩, (some 67), none⟩, ⟨⟨binInt ⟨quoA⟩ (.tmp 67) (.const (.int .i64 251))⟩, (some 68), none⟩, ⟨⟨binInt akAdd (.tmp 65) (.tmp 68)⟩, (some 69), none⟩, ⟨⟨cvInt .u8 (.tmp 69)⟩, (some 70), none⟩]) (by kernel_rfl) (by simp (disch := omega) [hcl, hmk2]; exact rfl) ?_
        refine WPO.fresh1 tyOk (k := ⟨frSlice 1 (zerosA (.cons (.int .u8 0) .nil) 1) ⟨fill1 (.tmp 70) 0 1 flEnd⟩ ⟨mkBy 5⟩⟩) (by kernel_rfl) rfl (by kernel_rfl) (v := .sl H3.next 0 1 (some 1)) (x := bb 5 false [y]) ?_ ?_
        · dsimp only
          have := leA_bytes [y]
          simp only [List.map_cons, List.map_nil, avl_cons, avl_nil] at this
          simp [mkBy, this, bb]
        have kb : Keep noB H3 (H3.new (bb 5 false [y])) := Keep.new _ _ _
        have hob : Own (H3.new (bb 5 false [y])) 0 (H3.new (bb 5 false [y])).next cur (marks i (l.length + k)) := hq.own0.keep kb (fun _ _ _ _ => id) (Nat.le_refl _) (Nat.le_refl _) (by simp)
        have hxr : RdS (H3.new (bb 5 false [y])) (.sl H3.next 0 1 (some 1)) [y] := .bb' rfl (by simp) (get_new_same _ _)
        refine wpo_appB (y := y) rfl rfl rfl rfl rfl (by kernel_rfl) (by kernel_rfl) (by simp) (by simp) hob (Nat.le_refl _) hxr (by rw [marks_len]; omega) fun cur' H4 ha => ?_
        replace ha : AppB (H3.new (bb 5 false [y])) cur (marks i (l.length + k)) (mk i (l.length + k)) cur' H4 := by rw [hy]; exact ha
        have hlb := hq.lst.keep kb fun _ _ => id
        have e4k := ha.keep
        have e4n := e4k.1
        simp at e4n
        have h4k : Keep (ofS S) H H4 := (hq.keep.trans (kb.mono fun _ _ e => e.elim)).trans' e4k fun b hb e => (hq.src b e).elim (fun e => ⟨v, List.mem_of_getElem? hi1, e⟩) fun e => absurd e (by omega)
        have h4l : LstAt enc1 45 1 z1 H4 H'.next gv' G' := hlb.keep e4k fun b e e2 => lst_ne hlb hob e e2
        have h4o : ∀ (j : Nat) (w : AV) (m : List UInt8), S[j]? = some w → Bs[j]? = some m → (i < j → Own H4 0 B w (marks j m.length)) ∧ GoodS H4 w j m.length := fun j w m h1 h2 => by
          obtain ⟨q1, q2⟩ := hq.own j w m h1 h2
          refine ⟨fun hj => ?_, (q2.keep kb fun _ _ _ => id).step ha⟩
          refine ((q1 hj).keep kb (fun _ _ _ _ => id) (by omega) (Nat.le_refl _) (Nat.le_refl _)).keep e4k (fun b _ hb e e2 => ?_) (by simp; omega) (Nat.le_refl _) (Nat.le_refl _)
          rcases hq.src b e2 with e3 | e3
          · exact hap.ne hi1 h1 (by omega) e3 e
          · omega
        have h4g : ∀ (t : Nat) (g : AV), G'[t]? = some g → ∃ len, Good H4 g (t / 5) len ∧ len ≤ 1048600 := fun t g hg => by
          obtain ⟨len, q1, q2⟩ := hq.good t g hg
          exact ⟨len, (q1.keep kb fun _ _ _ => id).step ha, q2⟩
        have h4c : Own H4 0 H4.next cur' (marks i (l.length + (k + 1))) := ha.own hob
        have h4s : ∀ b, sblk cur' = some b → sblk v = some b ∨ H'.next ≤ b := fun b e => by
          rcases ha.src e with e2 | e2
          · exact hq.src b e2
          · simp at e2; exact .inr (by omega)
        have hlen := hq.len
        refine WPO.looks1 tyOk extOk 1 (ls := [⟨lkMove (.tmp 72), (some 8), none⟩]) (by kernel_rfl) (by simp (disch := omega) []; exact rfl) ?_
        refine WPO.nilS (WP.keep (l := [(0, .ptr pb 0), (6, gv'), (7, .int .i64 (i : Int)), (8, cur'), (9, .int .i64 (k : Int))]) (WP.seqR ?_) (by simp))
        obtain ⟨tk, l', htk, hrun, hsub⟩ : ∃ (tk : Bool) (l' : List (Nat × AV)), (tk = true ↔ (k < 3 ∨ k = 8 ∨ k = 19)) ∧ runLk [⟨lkMove (.tmp 9), (some 73), none⟩, ⟨⟨binInt akLss (.tmp 73) (.const (.int .i64 3))⟩, (some 74), none⟩, ⟨lkMove (.tmp 74), (some 75), none⟩, ⟨lkMove (.tmp 9), (some 76), (some (75, false))⟩, ⟨⟨binInt akEql (.tmp 76) (.const (.int .i64 8))⟩, (some 77), (some (75, false))⟩, ⟨⟨pickA (.tmp 75) (.const (.bool true)) (.tmp 77)⟩, (some 78), none⟩, ⟨lkMove (.tmp 78), (some 79), none⟩, ⟨lkMove (.tmp 9), (some 80), (some (79, false))⟩, ⟨⟨binInt akEql (.tmp 80) (.const (.int .i64 19))⟩, (some 81), (some (79, false))⟩, ⟨⟨pickA (.tmp 79) (.const (.bool true)) (.tmp 81)⟩, (some 82), none⟩] (tl [(0, .ptr pb 0), (6, gv'), (7, .int .i64 (i : Int)), (8, cur'), (9, .int .i64 (k : Int))]) H4 = some (tl l') ∧ lsub [(0, .ptr pb 0), (6, gv'), (7, .int .i64 (i : Int)), (8, cur'), (9, .int .i64 (k : Int)), (82, .bool tk)] l' := by
          by_cases k3 : k < 3
          · have f1 : (k : Int) < 3 := by omega
            exact ⟨true, _, by simp [k3], by simp (disch := omega) [f1]; exact rfl, by simp⟩
          · have f1 : ¬ (k : Int) < 3 := by omega
            by_cases k8 : k = 8
            · subst k8
              exact ⟨true, _, by simp, by simp (disch := omega) []; exact rfl, by simp⟩
            · have f2 : ¬ (k : Int) = 8 := by omega
              by_cases k19 : k = 19
              · subst k19
                exact ⟨true, _, by simp, by simp (disch := omega) []; exact rfl, by simp⟩
              · have f3 : ¬ (k : Int) = 19 := by omega
                exact ⟨false, _, by simp [k3, k8, k19], by simp (disch := omega) [f1, f2, f3]; exact rfl, by simp⟩
        refine WPO.looks1 tyOk extOk 10 (ls := [⟨lkMove (.tmp 9), (some 73), none⟩, ⟨⟨binInt akLss (.tmp 73) (.const (.int .i64 3))⟩, (some 74), none⟩, ⟨lkMove (.tmp 74), (some 75), none⟩, ⟨lkMove (.tmp 9), (some 76), (some (75, false))⟩, ⟨⟨binInt akEql (.tmp 76) (.const (.int .i64 8))⟩, (some 77), (some (75, false))⟩, ⟨⟨pickA (.tmp 75) (.const (.bool true)) (.tmp 77)⟩, (some 78), none⟩, ⟨lkMove (.tmp 78), (some 79), none⟩, ⟨lkMove (.tmp 9), (some 80), (some (79, false))⟩, ⟨⟨binInt akEql (.tmp 80) (.const (.int .i64 19))⟩, (some 81), (some (79, false))⟩, ⟨⟨pickA (.tmp 79) (.const (.bool true)) (.tmp 81)⟩, (some 82), none⟩]) (by kernel_rfl) hrun ?_
        refine WPO.nilS (WP.keep (WP.cond (t := tk) (by simp) (fun ht => WP.region ?_) fun ht => WP.skip (.inl rfl) ?_) hsub)
        · have htk := htk.1 ht
          have hGl : G'.length < 5 * i + 5 := by omega
          have hGl2 : 5 * i ≤ G'.length := by omega
          refine WPO.looks1 tyOk extOk 2 (ls := [⟨lkMove (.tmp 6), (some 83), none⟩, ⟨lkMove (.tmp 8), (some 84), none⟩]) (by kernel_rfl) (by simp (disch := omega) []; exact rfl) ?_
          have hcc := h4c.cell
          refine WPO.slice1 (enc := enc1) (a := cur') tyOk enc1_len (by kernel_rfl : freshK E _ = some ⟨frSlice 1 (zerosA (.cons .snil .nil) 1) ⟨fill1 (.tmp 84) 0 1 flEnd⟩ ⟨mkCs 45 1 (.cons .snil .nil)⟩⟩) rfl (by kernel_rfl) (by simp; rfl) (by first | rfl | (rw [cellsA_cell (by assumption)]; rfl) | (simp [enc1, chA]; done)) (by rfl) (by rfl) fun o1 b1 => ?_
          have kn : Keep noB H4 (H4.new o1) := Keep.new _ _ _
          have hl5 := h4l.keep kn fun _ _ => id
          obtain ⟨gv2, H5, a1, a2, a3, a4, a5⟩ := hl5.app enc1_len (by omega) (by simp; omega) (cells1 hcc) (One.of (cap := some 1) (get_new_same _ _) b1) (by omega)
          have hbb := lst_bb hl5
          refine WPO.heavy1 tyOk extOk (k := ⟨hvAppend ⟨grownCs 1 ⟨mkCs 45 1 (.cons .snil .nil)⟩⟩ 1 (.tmp 83) (.tmp 85)⟩) (by kernel_rfl) rfl (by kernel_rfl) (by simp; exact a1) ?_
          refine WPO.looks1 tyOk extOk 1 (ls := [⟨lkMove (.tmp 86), (some 6), none⟩]) (by kernel_rfl) (by simp (disch := omega) []; exact rfl) ?_
          refine WPO.nil ?_
          refine WPO.looks1 tyOk extOk 3 (ls := [⟨lkMove (.tmp 9), (some 62), none⟩, ⟨⟨binInt akAdd (.tmp 62) (.const (.int .i64 1))⟩, (some 63), none⟩, ⟨lkMove (.tmp 63), (some 9), none⟩]) (by kernel_rfl) (by simp (disch := omega) []; exact rfl) ?_
          have a5n := a5.1
          simp at a5n
          have h5c : Own H5 0 H5.next cur' (marks i (l.length + (k + 1))) := (h4c.keep kn (fun _ _ _ _ => id) (Nat.le_refl _) (Nat.le_refl _) (Nat.le_refl _)).keep a5 (fun b _ _ e e2 => lst_ne hl5 (h4c.keep kn (fun _ _ _ _ => id) (Nat.le_refl _) (Nat.le_refl _) (Nat.le_refl _)) e2 e) (by simp) (Nat.le_refl _) (by omega)
          refine WPO.nil ⟨rfl, (k + 1, cur', gv2, G' ++ [cur']), _, rfl, by simp, ⟨by first | omega | (simp only; omega), ?_, by first | omega | (simp only; omega), a2, ?_, h5c, h4s, fun j w m h1 h2 => ?_, fun t g hg => ?_⟩, by first | omega | (simp only; omega)⟩
          · exact (h4k.trans (kn.mono fun _ _ e => e.elim)).trans' a5 fun b hb e => absurd (hl5.low e).1 (by omega)
          · simp only [List.length_append, List.length_singleton]
            refine ⟨fun _ => ?_, fun _ _ => ?_, fun _ _ => ?_, fun _ => ?_⟩ <;> omega
          · obtain ⟨q1, q2⟩ := h4o j w m h1 h2
            refine ⟨fun hj => ?_, (q2.keep kn fun _ _ _ => id).keep a5 hbb⟩
            exact ((q1 hj).keep kn (fun _ _ _ _ => id) (by omega) (Nat.le_refl _) (Nat.le_refl _)).keep a5 (fun b _ hb e e2 => absurd (hl5.low e2).1 (by omega)) (by simp; omega) (Nat.le_refl _) (Nat.le_refl _)
          · simp only at hg
            rcases Nat.lt_or_ge t G'.length with ht | ht
            · rw [List.getElem?_append_left ht] at hg
              obtain ⟨len, q1, q2⟩ := h4g t g hg
              exact ⟨len, (q1.keep kn fun _ _ _ => id).keep a5 hbb, q2⟩
            · have htl := get_lt hg
              simp only [List.length_append, List.length_singleton] at htl
              have : t = G'.length := by omega
              subst this
              simp at hg
              subst hg
              have hdiv : G'.length / 5 = i := by omega
              rw [hdiv]
              exact ⟨_, h5c.good' (Nat.le_refl _) (by omega), by omega⟩
        · have htk : ¬ (k < 3 ∨ k = 8 ∨ k = 19) := fun h => by rw [htk.2 h] at ht; cases ht
          refine WPO.looks1 tyOk extOk 3 (ls := [⟨lkMove (.tmp 9), (some 62), none⟩, ⟨⟨binInt akAdd (.tmp 62) (.const (.int .i64 1))⟩, (some 63), none⟩, ⟨lkMove (.tmp 63), (some 9), none⟩]) (by kernel_rfl) (by simp (disch := omega) []; exact rfl) ?_
          refine WPO.nil ⟨rfl, (k + 1, cur', gv', G'), _, rfl, by simp, ⟨by first | omega | (simp only; omega), h4k, by first | omega | (simp only; omega), h4l, ?_, h4c, h4s, h4o, h4g⟩, by first | omega | (simp only; omega)⟩
          simp only
          refine ⟨fun _ => ?_, fun _ _ => ?_, fun _ _ => ?_, fun _ => ?_⟩ <;> omega
  · have hc : i < S.length := of_decide_eq_true hc
    have hi1 : S[i]? = some (S[i]) := List.getElem?_eq_getElem hc
    have hi2 : Bs[i]? = some (Bs[i]'(by omega)) := List.getElem?_eq_getElem _
    have hll := hbs (Bs[i]'(by omega)) (List.getElem_mem _)
    generalize S[i] = v at hi1
    generalize Bs[i]'_ = l at hi2 hll
    obtain ⟨b, o, e1, e2, e3, _⟩ := hrd i v hi1
    have ho := hown' i v l hi1 hi2
    rw [if_neg (Nat.lt_irrefl _)] at ho
    have hvl := ho.len
    refine WP.seqR ?_
    refine WPO.looks1 tyOk extOk 8 (ls := [⟨lkMove (.tmp 0), (some 23), none⟩, ⟨⟨nilChk E (.tmp 23)⟩, (some 24), none⟩, ⟨⟨fAddr (.tmp 24) 0⟩, (some 25), none⟩, ⟨⟨ldA ⟨ld1⟩ (.tmp 25)⟩, (some 26), none⟩, ⟨lkMove (.tmp 3), (some 27), none⟩, ⟨⟨ixSl 1 (.tmp 26) (.tmp 27)⟩, (some 28), none⟩, ⟨⟨ldA ⟨ld1⟩ (.tmp 28)⟩, (some 29), none⟩, ⟨lkMove (.tmp 29), (some 4), none⟩]) (by kernel_rfl) (by simp (disch := omega) [gp, r0, e1, e2, e3, hc]; exact rfl) ?_
    refine WPO.nilS (WP.seqR ?_)
    refine WPO.looks1 tyOk extOk 1 (ls := [⟨lkMove (.const (.int .i64 0)), (some 5), none⟩]) (by kernel_rfl) (by simp (disch := omega) []; exact rfl) ?_
    refine WPO.nilS (WP.forE (σ := Nat) (fun k => [(0, .ptr pb 0), (3, .int .i64 (i : Int)), (4, v), (5, .int .i64 (k : Int))])
      (fun k H2 => k ≤ l.length ∧ Keep (fun b => sblk v = some b) H' H2 ∧ Own H2 0 B v (mix k (marks i l.length) l)) (fun k => l.length - k) 0 ⟨by omega, Keep.refl _ _, by rw [mix_zero]; exact ho⟩ (by simp) ?_)
    rintro k H2 ⟨hk, hk2, ho2⟩
    have hml : (mix k (marks i l.length) l).length = l.length := by rw [mix_len (by rw [marks_len]), marks_len]
    refine WPO.looks1 tyOk extOk 4 (ls := [⟨lkMove (.tmp 5), (some 30), none⟩, ⟨lkMove (.tmp 4), (some 31), none⟩, ⟨⟨lenSl (.tmp 31)⟩, (some 32), none⟩, ⟨⟨binInt akLss (.tmp 30) (.tmp 32)⟩, (some 33), none⟩]) (by kernel_rfl) (by simp (disch := omega) [hvl]; exact rfl) ?_
    refine WPO.nil ⟨decide (k < l.length), _, rfl, by simp, fun hc => ?_, fun hc => ?_⟩
    · have hc : k = l.length := by have := of_decide_eq_false hc; omega
      subst hc
      have hmx : mix l.length (marks i l.length) l = marks i l.length := by
        have := mix_all (m := marks i l.length) (l := l) (by rw [marks_len])
        rwa [marks_len] at this
      rw [hmx] at ho2
      refine WPO.looks1 tyOk extOk 3 (ls := [⟨lkMove (.tmp 3), (some 21), none⟩, ⟨⟨binInt akAdd (.tmp 21) (.const (.int .i64 1))⟩, (some 22), none⟩, ⟨lkMove (.tmp 22), (some 3), none⟩]) (by kernel_rfl) (by simp (disch := omega) []; exact rfl) ?_
      refine WPO.nil ⟨rfl, i + 1, _, rfl, by simp, ⟨by omega, hk'.trans (hk2.mono fun b _ e => ⟨v, List.mem_of_getElem? hi1, e⟩), fun j w m h1 h2 => ?_⟩, by omega⟩
      by_cases hj : j = i
      · subst hj
        rw [hi1] at h1; rw [hi2] at h2
        cases h1; cases h2
        rw [if_pos (by omega)]; exact ho2
      · have := (hown' j w m h1 h2).keep hk2 (fun b _ _ e e2 => hap.ne hi1 h1 (Ne.symm hj) e2 e) (Nat.le_trans hB hk'.1) (Nat.le_refl _) (Nat.le_refl _)
        by_cases hji : j < i
        · rw [if_pos hji] at this; rw [if_pos (by omega)]; exact this
        · rw [if_neg hji] at this; rw [if_neg (by omega)]; exact this
    · have hc : k < l.length := of_decide_eq_true hc
      obtain ⟨b', f1, _, f2, f3⟩ := ho2.pos (by omega)
      rw [hml] at f1
      have hmk := mk_int i k
      have hset := mix_set (m := marks i l.length) (l := l) (k := k) (x := mk i k) (by rw [marks_len]) (marks_get _ _ hc)
      have hst := st1'_bb (mk i k) f3 (i := k) (by omega)
      rw [hset] at hst
      refine WP.region ?_
      refine WPO.looks1 tyOk extOk 8 (ls := [⟨lkMove (.tmp 4), (some 36), none⟩, ⟨lkMove (.tmp 5), (some 37), none⟩, ⟨lkMove (.tmp 3), (some 38), none⟩, ⟨lkMove (.tmp 5), (some 39), none⟩, ⟨⟨binInt ⟨quoA⟩ (.tmp 39) (.const (.int .i64 251))⟩, (some 40), none⟩, ⟨⟨binInt akAdd (.tmp 38) (.tmp 40)⟩, (some 41), none⟩, ⟨⟨cvInt .u8 (.tmp 41)⟩, (some 42), none⟩, ⟨⟨ixSl 1 (.tmp 36) (.tmp 37)⟩, (some 43), none⟩]) (by kernel_rfl) (by simp (disch := omega) [f1, hmk.symm, hc]; exact rfl) ?_
      refine WPO.heavy1 tyOk extOk (k := ⟨hvStore ⟨st1'⟩ (.tmp 43) (.tmp 42)⟩) (by kernel_rfl) rfl (by kernel_rfl) (by simp [hst]; exact ⟨rfl, rfl⟩) ?_
      refine WPO.nil ?_
      refine WPO.looks1 tyOk extOk 3 (ls := [⟨lkMove (.tmp 5), (some 34), none⟩, ⟨⟨binInt akAdd (.tmp 34) (.const (.int .i64 1))⟩, (some 35), none⟩, ⟨lkMove (.tmp 35), (some 5), none⟩]) (by kernel_rfl) (by simp (disch := omega) []; exact rfl) ?_
      have hks : Keep (fun b => sblk v = some b) H2 (H2.set b' (bb 5 true (mix (k + 1) (marks i l.length) l))) := Keep.set _ fun _ => by rw [f1]; rfl
      have hml2 : (mix (k + 1) (marks i l.length) l).length = l.length := by rw [mix_len (by rw [marks_len]), marks_len]
      refine WPO.nil ⟨rfl, k + 1, _, rfl, by simp [f1], ⟨by omega, hk2.trans hks, .inr (.inr ⟨b', by rw [hml2]; exact f1, fun e => ?_, by omega, f2, get_set_same _ _ _⟩)⟩, by omega⟩
      rw [e] at hml2
      simp at hml2
      omega
end
end Go.Proofs.YtnffppehomofmaaGreatDoor
namespace Go.Proofs.YtnffppehomofmaaGreatDoor
open Go.Xq
noncomputable section
/-! ### Lists of changes that came out -/
structure ListsAt (H : AH) (B : Nat) (S L : List AV) (Ls : List (Nat × Nat)) : Prop where
  eq : L = Ls.map fun p => AV.sl p.1 0 p.2 (some p.2)
  ne : (Ls.map (·.1)).Nodup
  at_ : ∀ (i : Nat) (p : Nat × Nat), Ls[i]? = some p → p.1 < B ∧ p.2 ≤ 1048576 ∧ (∀ u ∈ S, sblk u ≠ some p.1) ∧ ∃ o els, H.get p.1 = some o ∧ ElB encC 55 6 false zC els o ∧ els.length = p.2
/-- the list's first k changes have this name -/
def ListIs (H : AH) (b n k : Nat) (c : Cv) : Prop := ∃ o els, H.get b = some o ∧ ElB encC 55 6 false zC els o ∧ els.length = n ∧ ∀ t, t < k → els[t]? = some c
theorem ListIs.full {H : AH} {b n : Nat} {c : Cv} (h : ListIs H b n n c) : ∃ o, H.get b = some o ∧ ElB encC 55 6 false zC (List.replicate n c) o := by
  obtain ⟨o, els, h1, h2, h3, h4⟩ := h
  have : els = List.replicate n c := by
    apply List.ext_getElem?
    intro t
    rcases Nat.lt_or_ge t n with ht | ht
    · rw [h4 t ht, List.getElem?_replicate_of_lt ht]
    · rw [List.getElem?_eq_none (by omega), List.getElem?_eq_none (by simpa using ht)]
  subst this
  exact ⟨o, h1, h2⟩
theorem ListIs.keep {H H2 : AH} {S : Nat → Prop} {b n k : Nat} {c : Cv} (h : ListIs H b n k c) (hk : Keep S H H2) (hb : b < H.next) (hs : ¬ S b) : ListIs H2 b n k c := by
  obtain ⟨o, els, h1, h2⟩ := h
  exact ⟨o, els, hk.get hb hs h1, h2⟩
def GoodE (H : AH) (g : AV) (j len : Nat) : Prop := ∃ b cap sz op t, g = .sl b 0 len cap ∧ 0 < len ∧ b < H.next ∧ H.get b = some (.cs 55 6 sz op zC t) ∧ ∀ k, k < len → rdCell (.cs 55 6 sz op zC t) (k * 6) = some (sb (markL j))
theorem GoodE.keep {H H2 : AH} {S : Nat → Prop} {g : AV} {j len : Nat} (h : GoodE H g j len) (hk : Keep S H H2) (hs : ∀ b sz op t, H.get b = some (.cs 55 6 sz op zC t) → ¬ S b) : GoodE H2 g j len := by
  obtain ⟨b, cap, sz, op, t, h1, h2, h3, h4, h5⟩ := h
  exact ⟨b, cap, sz, op, t, h1, h2, Nat.lt_of_lt_of_le h3 hk.1, hk.get h3 (hs _ _ _ _ h4) h4, h5⟩
theorem rd_lt {e es sz i : Nat} {op : Bool} {z v : AV} {t : Tr AV} (h : rdCell (.cs e es sz op z t) i = some v) : i < sz := by
  have h : rdCs es sz z t i = some v := h
  simp only [rdCs, bt_some] at h
  simpa [Nat.blt_eq] using h.1
theorem GoodE.step {H H2 : AH} {v v' g : AV} {els : List Cv} {a : Cv} {j len : Nat} (h : GoodE H g j len) (ha : AppE H v els a v' H2) : GoodE H2 g j len := by
  obtain ⟨b, cap, sz, op, t, h1, h2, h3, h4, h5⟩ := h
  rcases ha with ⟨b', o, o', rfl, hg, he, he', rfl, rfl⟩ | ⟨o', he', rfl, rfl⟩
  · by_cases e : b = b'
    · subst e
      rw [hg] at h4
      cases h4
      obtain ⟨t1, e1⟩ := he.opn
      obtain ⟨t2, e2⟩ := he'.opn
      subst e2
      refine ⟨b, cap, _, _, t2, h1, h2, by simpa using h3, get_set_same _ _ _, fun k hk => ?_⟩
      have h6 := h5 k hk
      have hlt := rd_lt h6
      simp only [AObj.cs.injEq, true_and] at e1
      obtain ⟨e1, -, -⟩ := e1
      have hke : k < els.length := by omega
      have q1 := he.cell (k := k) (a := els[k]) (j := 0) (List.getElem?_eq_getElem hke) rfl
      have q2 := he'.cell (k := k) (a := els[k]) (j := 0) (by rw [List.getElem?_append_left hke]; exact List.getElem?_eq_getElem hke) rfl
      rw [Nat.add_zero] at q1 q2
      rw [q2, ← h6, q1]
    · exact ⟨b, cap, sz, op, t, h1, h2, by simpa using h3, by rw [AH.get_set, if_neg e]; exact h4, h5⟩
  · exact ⟨b, cap, sz, op, t, h1, h2, by simp; omega, by rw [AH.get_new, if_neg (by omega)]; exact h4, h5⟩
theorem AppE.keep {H H2 : AH} {v v' : AV} {els : List Cv} {a : Cv} (ha : AppE H v els a v' H2) : Keep (fun b => sblk v = some b) H H2 := by
  rcases ha with ⟨b', o, o', rfl, hg, he, he', rfl, rfl⟩ | ⟨o', he', rfl, rfl⟩
  · exact Keep.set _ fun _ => rfl
  · exact Keep.new _ _ _
theorem AppE.src {H H2 : AH} {v v' : AV} {els : List Cv} {a : Cv} (ha : AppE H v els a v' H2) {b : Nat} (e : blk v' = some b) : sblk v = some b ∨ H.next ≤ b := by
  rcases ha with ⟨b', o, o', rfl, hg, he, he', rfl, rfl⟩ | ⟨o', he', rfl, rfl⟩
  · cases e
    exact .inl rfl
  · cases e
    exact .inr (Nat.le_refl _)
theorem AppE.lt {H H2 : AH} {v v' : AV} {els : List Cv} {a : Cv} (ha : AppE H v els a v' H2) (hb : ∀ b, sblk v = some b → b < H.next) {b : Nat} (e : blk v' = some b) : b < H2.next := by
  rcases ha with ⟨b', o, o', rfl, hg, he, he', rfl, rfl⟩ | ⟨o', he', rfl, rfl⟩
  · cases e
    simpa using hb _ rfl
  · cases e
    simp
theorem AppE.lst {H H2 : AH} {v v' : AV} {els : List Cv} {a : Cv} (ha : AppE H v els a v' H2) : LstE H2 v' (els ++ [a]) := by
  rcases ha with ⟨b', o, o', rfl, hg, he, he', rfl, rfl⟩ | ⟨o', he', rfl, rfl⟩
  · exact .inr ⟨b', o', by simp, get_set_same _ _ _, he'⟩
  · exact .inr ⟨H.next, o', by simp, get_new_same _ _, he'⟩
theorem AppE.good {H H2 : AH} {v v' : AV} {N i : Nat} (ha : AppE H v (List.replicate N (namedC (markL i))) (namedC (markL i)) v' H2) (hb : ∀ b, sblk v = some b → b < H.next) : GoodE H2 v' i (N + 1) := by
  have hr : List.replicate N (namedC (markL i)) ++ [namedC (markL i)] = List.replicate (N + 1) (namedC (markL i)) := by rw [List.replicate_succ']
  have hc : ∀ {o : AObj}, ElB encC 55 6 true zC (List.replicate (N + 1) (namedC (markL i))) o → ∃ sz op t, o = .cs 55 6 sz op zC t ∧ ∀ k, k < N + 1 → rdCell o (k * 6) = some (sb (markL i)) := fun {o} ho => by
    obtain ⟨t, e⟩ := ho.opn
    refine ⟨_, _, t, e, fun k hk => ?_⟩
    have q := ho.cell (k := k) (a := namedC (markL i)) (j := 0) (List.getElem?_replicate_of_lt hk) rfl
    rwa [Nat.add_zero] at q
  rw [AppE, hr] at ha
  rcases ha with ⟨b', o, o', rfl, hg, he, he', rfl, rfl⟩ | ⟨o', he', rfl, rfl⟩
  · obtain ⟨sz, op, t, rfl, hq⟩ := hc he'
    exact ⟨b', none, sz, op, t, by simp, by omega, by simpa using hb b' rfl, get_set_same _ _ _, hq⟩
  · obtain ⟨sz, op, t, rfl, hq⟩ := hc he'
    exact ⟨H.next, none, sz, op, t, by simp, by omega, by simp, get_new_same _ _, hq⟩
theorem LstE.keep {H H2 : AH} {S : Nat → Prop} {v : AV} {els : List Cv} (h : LstE H v els) (hk : Keep S H H2) (hb : ∀ b, blk v = some b → b < H.next ∧ ¬ S b) : LstE H2 v els := by
  rcases h with ⟨b, rfl, o, op, h1, h2⟩ | ⟨b, o, rfl, h1, h2⟩
  · exact .inl ⟨b, rfl, o, op, hk.get (hb b rfl).1 (hb b rfl).2 h1, h2⟩
  · exact .inr ⟨b, o, rfl, hk.get (hb b rfl).1 (hb b rfl).2 h1, h2⟩
theorem sblk_blk {v : AV} {b : Nat} (h : sblk v = some b) : blk v = some b := by
  unfold sblk at h
  split at h
  · cases h; rfl
  · cases h
theorem lstE_ne {H : AH} {lo : Nat} {gv v : AV} {G : List AV} {els : List Cv} (h : LstAt enc1 22 1 z1 H lo gv G) (h2 : LstE H v els) {b : Nat} (e : blk gv = some b) : ¬ blk v = some b := by
  intro e2
  rcases h with ⟨rfl, _⟩ | ⟨b', o, rfl, _, _, _, h4, h5⟩
  · cases e
  · cases e
    obtain ⟨t, rfl⟩ := h5.opn
    rcases h2 with ⟨b1, rfl, o1, op, q1, q2⟩ | ⟨b1, o1, rfl, q1, q2⟩
    · cases e2
      rw [h4] at q1; cases q1
      obtain ⟨t', e3⟩ := q2.opn
      cases e3
    · cases e2
      rw [h4] at q1; cases q1
      obtain ⟨t', e3⟩ := q2.opn
      cases e3
theorem lst_cs {H : AH} {lo : Nat} {gv : AV} {G : List AV} (h : LstAt enc1 22 1 z1 H lo gv G) : ∀ b sz op t, H.get b = some (.cs 55 6 sz op zC t) → ¬ blk gv = some b := by
  intro b sz op t hb e
  rcases h with ⟨rfl, _⟩ | ⟨b', o, rfl, h1, h2, h3, h4, h5⟩
  · cases e
  · cases e
    rw [hb] at h4
    obtain ⟨t, rfl⟩ := h5.opn
    cases h4
structure PhE (Ls : List (Nat × Nat)) (H1 : AH) (i : Nat) (gv : AV) (G : List AV) (H2 : AH) : Prop where
  le : i ≤ Ls.length
  keep : Keep noB H1 H2
  lst : LstAt enc1 22 1 z1 H2 H1.next gv G
  len : G.length = 5 * i
  good : ∀ (t : Nat) (g : AV), G[t]? = some g → ∃ len, GoodE H2 g (t / 5) len ∧ len ≤ 1048600
structure PhEi (H1 : AH) (i n k : Nat) (cur gv : AV) (G : List AV) (H3 : AH) : Prop where
  le : k ≤ 5
  keep : Keep noB H1 H3
  lst : LstAt enc1 22 1 z1 H3 H1.next gv G
  len : G.length = 5 * i + k
  lcur : LstE H3 cur (List.replicate (n + k) (namedC (markL i)))
  lt : ∀ b, blk cur = some b → b < H3.next
  src : ∀ b, sblk cur = some b → H1.next ≤ b
  good : ∀ (t : Nat) (g : AV), G[t]? = some g → ∃ len, GoodE H3 g (t / 5) len ∧ len ≤ 1048600
theorem BookAt.rdL {H H' : AH} {B pb : Nat} {S L : List AV} {W : Nat → Prop} (h : BookAt H B pb S L) (hk : Keep W H H') (hw : ∀ b, B ≤ b → ¬ W b) :
    H'.get pb = some h.o ∧ ∀ i u, L[i]? = some u → ∃ b o, h.ll = .sl b 0 L.length none ∧ H'.get b = some o ∧ rdCell o i = some u ∧ i < L.length ∧ B ≤ b ∧ b < H.next := by
  refine ⟨hk.get h.lt (hw _ h.low) h.get, fun i u hu => ?_⟩
  obtain ⟨b, o, h1, h2, h3, h4, h5, h6⟩ := lst_get h.lists hu
  exact ⟨b, o, h1, hk.get h3 (hw b h2) h4, h5, h6, h2, h3⟩
def inL (Ls : List (Nat × Nat)) : Nat → Prop := fun b => ∃ p ∈ Ls, p.1 = b
theorem ls_ne {Ls : List (Nat × Nat)} (h : (Ls.map (·.1)).Nodup) {i j : Nat} {p q : Nat × Nat} (hi : Ls[i]? = some p) (hj : Ls[j]? = some q) (hij : i ≠ j) : p.1 ≠ q.1 := by
  have hi' := get_lt hi
  have hj' := get_lt hj
  rw [List.getElem?_eq_getElem hi'] at hi
  rw [List.getElem?_eq_getElem hj'] at hj
  cases hi; cases hj
  have hp := List.pairwise_iff_getElem.1 h
  rcases Nat.lt_or_gt_of_ne hij with h1 | h1
  · have := hp i j (by simpa using hi') (by simpa using hj') h1
    simpa using this
  · have := hp j i (by simpa using hj') (by simpa using hi') h1
    simpa using this.symm
theorem ListsAt.keep {H H2 : AH} {W : Nat → Prop} {B : Nat} {S L : List AV} {Ls : List (Nat × Nat)} (h : ListsAt H B S L Ls) (hk : Keep W H H2) (hB : B ≤ H.next) (hw : ∀ p ∈ Ls, ¬ W p.1) : ListsAt H2 B S L Ls := by
  refine ⟨h.eq, h.ne, fun i p hp => ?_⟩
  obtain ⟨q1, q2, q3, o, els, q4, q5⟩ := h.at_ i p hp
  exact ⟨q1, q2, q3, o, els, hk.get (by omega) (hw p (List.mem_of_getElem? hp)) q4, q5⟩
set_option maxRecDepth 10000 in
theorem owned22_ok {H : AH} {B pb : Nat} {S L : List AV} {Bs : List (List UInt8)} {Ls : List (Nat × Nat)} (h : BookAt H B pb S L) (hB : B ≤ H.next) (hlen : S.length = Bs.length) (hS : S.length ≤ 67108864) (hbs : ∀ l ∈ Bs, l.length ≤ 1048576)
    (hown : ∀ (i : Nat) (v : AV) (l : List UInt8), S[i]? = some v → Bs[i]? = some l → Own H 0 B v l) (hap : Apart S) (hL : ListsAt H B S L Ls) (hLn : Ls.length ≤ 1000) :
    AC Tryz.prog .normal 11 (.cons (.ptr pb 0) .nil) H fun v' H2 => v' = .bool true ∧ Keep (fun b => ofS S b ∨ inL Ls b) H H2 := by
  refine AC.of_wp (re := reTmp 2 reNil) tyOk Tryz.func11 (by kernel_rfl) rfl (by kernel_rfl) (by kernel_rfl) ?_
  rw [tl_nil, argsT_cons, argsT_nil]
  have hW : ∀ b, B ≤ b → ¬ ofS S b := by
    rintro b hb ⟨u, hu, e⟩
    obtain ⟨i, hi⟩ := List.mem_iff_getElem?.1 hu
    have hil := get_lt hi
    have := ((hown i u (Bs[i]'(by omega)) hi (List.getElem?_eq_getElem _)).blk e).2
    omega
  have hWL : ∀ b, B ≤ b → ¬ inL Ls b := by
    rintro b hb ⟨p, hp, e⟩
    obtain ⟨i, hi⟩ := List.mem_iff_getElem?.1 hp
    have := (hL.at_ i p hi).1
    omega
  have hLL : L.length = Ls.length := by rw [hL.eq, List.length_map]
  have hLi : ∀ {i : Nat} {p : Nat × Nat}, Ls[i]? = some p → L[i]? = some (AV.sl p.1 0 p.2 (some p.2)) := fun {i p} hp => by rw [hL.eq, List.getElem?_map, hp]; rfl
  refine WP.seqR ?_
  refine WPO.looks1 tyOk extOk 1 (ls := [⟨lkMove (.const (.bool false)), (some 2), none⟩]) (by kernel_rfl) (by simp (disch := omega) []; exact rfl) ?_
  refine WPO.nilS (WP.seqR ?_)
  refine WPO.looks1 tyOk extOk 3 (ls := [⟨lkMove (.tmp 0), (some 12), none⟩, ⟨⟨nilChk E (.tmp 12)⟩, (some 13), none⟩, ⟨⟨fAddr (.tmp 13) 0⟩, (some 14), none⟩]) (by kernel_rfl) (by simp (disch := omega) []; exact rfl) ?_
  refine WPO.callF (g := 27) rfl rfl rfl (by kernel_rfl) (l := .cons (.ptr pb 0) .nil) (by simp) (owned03_ok h hB hlen hS hbs hown hap) fun u H1 ⟨hu, hk1⟩ => ?_
  subst hu
  obtain ⟨h1, _⟩ : ∃ _ : BookAt H1 B pb S L, True := ⟨h.keep hk1 hW, trivial⟩
  have hL1 := hL.keep hk1 hB (fun p hp ⟨u, hu, e⟩ => by
    obtain ⟨i, hi⟩ := List.mem_iff_getElem?.1 hp
    exact (hL.at_ i p hi).2.2.1 u hu e)
  have hB1 : B ≤ H1.next := Nat.le_trans hB hk1.1
  have r1 := h1.r1
  have hll := h1.lists.len
  rw [hLL] at hll
  refine WPO.looks1 tyOk extOk 1 (ls := [⟨lkMove (.tmp 15), (some 3), none⟩]) (by kernel_rfl) (by simp (disch := omega) []; exact rfl) ?_
  refine WPO.nilS (WP.seq (WP.seqR ?_))
  refine WPO.looks1 tyOk extOk 1 (ls := [⟨lkMove (.const (.int .i64 0)), (some 4), none⟩]) (by kernel_rfl) (by simp (disch := omega) []; exact rfl) ?_
  refine WPO.nilS (WP.forE (σ := Nat) (fun i => [(0, .ptr pb 0), (3, .bool true), (4, .int .i64 (i : Int))])
    (fun i H' => i ≤ Ls.length ∧ Keep (inL Ls) H1 H' ∧ ∀ t p, Ls[t]? = some p → ListIs H' p.1 p.2 (if t < i then p.2 else 0) (namedC (markL t))) (fun i => Ls.length - i) 0 ⟨by omega, Keep.refl _ _, fun t p hp => ?_⟩ (by simp) ?_)
  · obtain ⟨_, _, _, o, els, q4, q5, q6⟩ := hL1.at_ t p hp
    exact ⟨o, els, q4, q5, q6, fun t ht => by simp at ht⟩
  rintro i H' ⟨hi, hk', hls⟩
  obtain ⟨gp, hrd⟩ := h1.rdL hk' hWL
  refine WPO.looks1 tyOk extOk 7 (ls := [⟨lkMove (.tmp 4), (some 16), none⟩, ⟨lkMove (.tmp 0), (some 17), none⟩, ⟨⟨nilChk E (.tmp 17)⟩, (some 18), none⟩, ⟨⟨fAddr (.tmp 18) 1⟩, (some 19), none⟩, ⟨⟨ldA ⟨ld1⟩ (.tmp 19)⟩, (some 20), none⟩, ⟨⟨lenSl (.tmp 20)⟩, (some 21), none⟩, ⟨⟨binInt akLss (.tmp 16) (.tmp 21)⟩, (some 22), none⟩]) (by kernel_rfl) (by simp (disch := omega) [gp, r1, hll]; exact rfl) ?_
  refine WPO.nil ⟨decide (i < Ls.length), _, rfl, by simp, fun hc => ?_, fun hc => ?_⟩
  · have hc : i = Ls.length := by have := of_decide_eq_false hc; omega
    subst hc
    have hfull : ∀ t p, Ls[t]? = some p → ListIs H' p.1 p.2 p.2 (namedC (markL t)) := fun t p hp => by
      have := hls t p hp
      rwa [if_pos (get_lt hp)] at this
    clear hls
    have hn' := hk'.1
    have hkq : Keep (fun b => ofS S b ∨ inL Ls b) H H' := (hk1.mono fun _ _ e => .inl e).trans (hk'.mono fun _ _ e => .inr e)
    refine WP.seqR ?_
    refine WPO.looks1 tyOk extOk 1 (ls := [⟨lkMove (.const (.slice none 0 0)), (some 6), none⟩]) (by kernel_rfl) (by simp (disch := omega) []; exact rfl) ?_
    refine WPO.nilS (WP.seq (WP.seqR ?_))
    refine WPO.looks1 tyOk extOk 1 (ls := [⟨lkMove (.const (.int .i64 0)), (some 7), none⟩]) (by kernel_rfl) (by simp (disch := omega) []; exact rfl) ?_
    refine WPO.nilS (WP.forE (σ := Nat × AV × List AV) (fun s => [(0, .ptr pb 0), (3, .bool true), (6, s.2.1), (7, .int .i64 (s.1 : Int))])
      (fun s H2 => PhE Ls H' s.1 s.2.1 s.2.2 H2) (fun s => Ls.length - s.1) (0, .snil, [])
      ⟨by omega, Keep.refl _ _, .inl ⟨rfl, rfl⟩, rfl, fun t g h => by simp at h⟩ (by simp) ?_)
    rintro ⟨i, gv, G⟩ H2 hp
    dsimp only at hp
    have hn2 := hp.keep.1
    have hk2 : Keep (inL Ls) H1 H2 := hk'.trans (hp.keep.mono fun _ _ e => e.elim)
    obtain ⟨gp2, hrd2⟩ := h1.rdL hk2 hWL
    refine WPO.looks1 tyOk extOk 7 (ls := [⟨lkMove (.tmp 7), (some 49), none⟩, ⟨lkMove (.tmp 0), (some 50), none⟩, ⟨⟨nilChk E (.tmp 50)⟩, (some 51), none⟩, ⟨⟨fAddr (.tmp 51) 1⟩, (some 52), none⟩, ⟨⟨ldA ⟨ld1⟩ (.tmp 52)⟩, (some 53), none⟩, ⟨⟨lenSl (.tmp 53)⟩, (some 54), none⟩, ⟨⟨binInt akLss (.tmp 49) (.tmp 54)⟩, (some 55), none⟩]) (by kernel_rfl) (by simp (disch := omega) [gp2, r1, hll]; exact rfl) ?_
    refine WPO.nil ⟨decide (i < Ls.length), _, rfl, by simp, fun hc => ?_, fun hc => ?_⟩
    · have hc : i = Ls.length := by have := of_decide_eq_false hc; have := hp.le; omega
      subst hc
      have hgl := hp.lst.len
      refine WP.seq (WP.seqR ?_)
      refine WPO.looks1 tyOk extOk 1 (ls := [⟨lkMove (.const (.int .i64 0)), (some 10), none⟩]) (by kernel_rfl) (by simp (disch := omega) []; exact rfl) ?_
      refine WPO.nilS (WP.forE (σ := Nat) (fun t => [(3, .bool true), (6, gv), (10, .int .i64 (t : Int))]) (fun t H3 => t ≤ G.length ∧ Keep noB H2 H3) (fun t => G.length - t) 0 ⟨by omega, Keep.refl _ _⟩ (by simp) ?_)
      rintro t H3 ⟨ht, hk3⟩
      refine WPO.looks1 tyOk extOk 4 (ls := [⟨lkMove (.tmp 10), (some 79), none⟩, ⟨lkMove (.tmp 6), (some 80), none⟩, ⟨⟨lenSl (.tmp 80)⟩, (some 81), none⟩, ⟨⟨binInt akLss (.tmp 79) (.tmp 81)⟩, (some 82), none⟩]) (by kernel_rfl) (by simp (disch := omega) [hgl]; exact rfl) ?_
      refine WPO.nil ⟨decide (t < G.length), _, rfl, by simp, fun hc => ?_, fun hc => ?_⟩
      · refine WP.seqR ?_
        refine WPO.looks1 tyOk extOk 2 (ls := [⟨lkMove (.tmp 3), (some 106), none⟩, ⟨lkMove (.tmp 106), (some 2), none⟩]) (by kernel_rfl) (by simp (disch := omega) []; exact rfl) ?_
        exact WPO.nilS (WP.ret (endR _ (by simp; rfl) ⟨rfl, (hkq.trans (hp.keep.mono fun _ _ e => e.elim)).trans (hk3.mono fun _ _ e => e.elim)⟩))
      · have hc : t < G.length := of_decide_eq_true hc
        have hg1 : G[t]? = some (G[t]) := List.getElem?_eq_getElem hc
        generalize G[t] = g at hg1
        obtain ⟨len, q1, q2⟩ := hp.good t g hg1
        have hql := hp.len
        obtain ⟨tq, htq⟩ : ∃ tq, tq = t / 5 := ⟨_, rfl⟩
        have hdv : (t : Int) / 5 = (tq : Int) := by omega
        rw [← htq] at q1
        obtain ⟨b, o, e1, e2, e3, e4, e5, _⟩ := lst_get hp.lst hg1
        obtain ⟨b', cap, sz, op, tr, y1, y2, y3, y4, y5⟩ := q1
        refine WP.seqR ?_
        refine WPO.looks1 tyOk extOk 1 (ls := [⟨lkMove (.const (.int .i64 0)), (some 11), none⟩]) (by kernel_rfl) (by simp (disch := omega) []; exact rfl) ?_
        refine WPO.nilS (WP.forE (σ := Nat) (fun k => [(3, .bool true), (6, gv), (10, .int .i64 (t : Int)), (11, .int .i64 (k : Int))]) (fun k H4 => k ≤ len ∧ Keep noB H2 H4) (fun k => len - k) 0 ⟨by omega, hk3⟩ (by simp) ?_)
        rintro k H4 ⟨hkl, hk4⟩
        have g4 := hk4.get e3 id e4
        refine WPO.looks1 tyOk extOk 7 (ls := [⟨lkMove (.tmp 11), (some 85), none⟩, ⟨lkMove (.tmp 6), (some 86), none⟩, ⟨lkMove (.tmp 10), (some 87), none⟩, ⟨⟨ixSl 1 (.tmp 86) (.tmp 87)⟩, (some 88), none⟩, ⟨⟨ldA ⟨ld1⟩ (.tmp 88)⟩, (some 89), none⟩, ⟨⟨lenSl (.tmp 89)⟩, (some 90), none⟩, ⟨⟨binInt akLss (.tmp 85) (.tmp 90)⟩, (some 91), none⟩]) (by kernel_rfl) (by simp (disch := omega) [e1, g4, e5, y1, hc]; exact rfl) ?_
        refine WPO.nil ⟨decide (k < len), _, rfl, by simp, fun hc => ?_, fun hc => ?_⟩
        · refine WPO.looks1 tyOk extOk 3 (ls := [⟨lkMove (.tmp 10), (some 83), none⟩, ⟨⟨binInt akAdd (.tmp 83) (.const (.int .i64 1))⟩, (some 84), none⟩, ⟨lkMove (.tmp 84), (some 10), none⟩]) (by kernel_rfl) (by simp (disch := omega) []; exact rfl) ?_
          exact WPO.nil ⟨rfl, t + 1, _, rfl, by simp [e1], ⟨by omega, hk4⟩, by omega⟩
        · have hck : k < len := of_decide_eq_true hc
          have y6 := y5 k hck
          have g4' := hk4.get y3 id y4
          generalize AObj.cs 55 6 sz op zC tr = o' at y6 g4'
          refine WP.seq (WD.wp ?_)
          obtain ⟨R, hR, hRc⟩ := specR_ex Tryz.prog (fun _ _ H u H2 => u = sb (markL tq) ∧ Keep noB H H2)
          refine WD.drawnK tyOk extOk (by kernel_rfl) (ls := [⟨[6], .look (lkMove (.tmp 6)), (some 94), none, 0, 2, true, false⟩, ⟨[10], .look (lkMove (.tmp 10)), (some 95), none, 0, 2, true, false⟩, ⟨[94, 95], .look (⟨ixSl 1 (.tmp 94) (.tmp 95)⟩), (some 96), none, 0, 2, true, false⟩, ⟨[96], .look (⟨ldA ⟨ld1⟩ (.tmp 96)⟩), (some 97), none, 0, 2, false, false⟩, ⟨[11], .look (lkMove (.tmp 11)), (some 98), none, 0, 2, true, false⟩, ⟨[97, 98], .look (⟨ixSl 6 (.tmp 97) (.tmp 98)⟩), (some 99), none, 0, 2, true, false⟩, ⟨[99], .look (⟨fAddr (.tmp 99) 0⟩), (some 100), none, 0, 2, true, false⟩, ⟨[100], .look (⟨ldA ⟨ld1⟩ (.tmp 100)⟩), (some 101), none, 0, 2, false, false⟩, ⟨[10], .look (lkMove (.tmp 10)), (some 102), none, 0, 1, true, false⟩, ⟨[102], .look (⟨binInt ⟨quoA⟩ (.tmp 102) (.const (.int .i64 5))⟩), (some 103), none, 0, 1, false, false⟩, ⟨[103], .heavy ⟨hvCallF E 28 (opnds [(.tmp 103)])⟩, (some 104), none, 0, 2, false, true⟩, ⟨[101, 104], .look (⟨binStr skNeq (.tmp 101) (.tmp 104)⟩), (some 105), none, 1, 1, false, false⟩]) (by kernel_rfl) hR fun K hK => ?_
          simp (disch := omega) [e1, g4, e5, y1, g4', y6, hdv]
          obtain ⟨u, H5, c5, rfl, hk5⟩ := hRc 28 _ _ (mark_ok tq _ (by omega))
          have g5 := hk5.get (Nat.lt_of_lt_of_le e3 hk4.1) id g4
          have g5' := hk5.get (Nat.lt_of_lt_of_le y3 hk4.1) id g4'
          refine diCall (by simp) (extFree _ _ _ rfl rfl rfl) c5 hk5.1 ?_
          simp (disch := omega) [e1, g4, e5, y1, g4', y6, hdv, g5, g5']
          refine hK _ _ ?_
          clear hK hRc hR
          refine WP.cond (t := false) (by simp) (by simp) fun _ => WP.skip (.inl rfl) ?_
          refine WPO.looks1 tyOk extOk 3 (ls := [⟨lkMove (.tmp 11), (some 92), none⟩, ⟨⟨binInt akAdd (.tmp 92) (.const (.int .i64 1))⟩, (some 93), none⟩, ⟨lkMove (.tmp 93), (some 11), none⟩]) (by kernel_rfl) (by simp (disch := omega) []; exact rfl) ?_
          exact WPO.nil ⟨rfl, k + 1, _, rfl, by simp [e1], ⟨by omega, hk4.trans hk5⟩, by omega⟩
    · have hc : i < Ls.length := of_decide_eq_true hc
      have hi1 : Ls[i]? = some (Ls[i]) := List.getElem?_eq_getElem hc
      generalize Ls[i] = p at hi1
      obtain ⟨pB, pN, _⟩ := hL1.at_ i p hi1
      obtain ⟨b, o, e1, e2, e3, e4, _⟩ := hrd2 i _ (hLi hi1)
      rw [hLL] at e1
      refine WP.seqR ?_
      refine WPO.looks1 tyOk extOk 8 (ls := [⟨lkMove (.tmp 0), (some 58), none⟩, ⟨⟨nilChk E (.tmp 58)⟩, (some 59), none⟩, ⟨⟨fAddr (.tmp 59) 1⟩, (some 60), none⟩, ⟨⟨ldA ⟨ld1⟩ (.tmp 60)⟩, (some 61), none⟩, ⟨lkMove (.tmp 7), (some 62), none⟩, ⟨⟨ixSl 1 (.tmp 61) (.tmp 62)⟩, (some 63), none⟩, ⟨⟨ldA ⟨ld1⟩ (.tmp 63)⟩, (some 64), none⟩, ⟨lkMove (.tmp 64), (some 8), none⟩]) (by kernel_rfl) (by simp (disch := omega) [gp2, r1, e1, e2, e3, hc]; exact rfl) ?_
      refine WPO.nilS (WP.seqR ?_)
      refine WPO.looks1 tyOk extOk 1 (ls := [⟨lkMove (.const (.int .i64 0)), (some 9), none⟩]) (by kernel_rfl) (by simp (disch := omega) []; exact rfl) ?_
      obtain ⟨oF, f1, f2⟩ := (hfull i p hi1).full
      refine WPO.nilS (WP.forE (σ := Nat × AV × AV × List AV) (fun s => [(0, .ptr pb 0), (3, .bool true), (6, s.2.2.1), (7, .int .i64 (i : Int)), (8, s.2.1), (9, .int .i64 (s.1 : Int))])
        (fun s H3 => PhEi H' i p.2 s.1 s.2.1 s.2.2.1 s.2.2.2 H3) (fun s => 5 - s.1) (0, .sl p.1 0 p.2 (some p.2), gv, G)
        ⟨by omega, hp.keep, hp.lst, by simpa using hp.len, .inl ⟨p.1, by simp, oF, false, hp.keep.get (by omega) id f1, by simpa using f2⟩, fun b e => (by cases e; omega), fun b e => (by cases e), hp.good⟩ (by simp) ?_)
      rintro ⟨k, cur, gv', G'⟩ H3 hq
      dsimp only at hq
      refine WPO.looks1 tyOk extOk 2 (ls := [⟨lkMove (.tmp 9), (some 65), none⟩, ⟨⟨binInt akLss (.tmp 65) (.const (.int .i64 5))⟩, (some 66), none⟩]) (by kernel_rfl) (by simp (disch := omega) []; exact rfl) ?_
      refine WPO.nil ⟨decide ((k : Int) < 5), _, rfl, by simp, fun hc => ?_, fun hc => ?_⟩
      · have hc : k = 5 := by have := of_decide_eq_false hc; have := hq.le; omega
        subst hc
        refine WPO.looks1 tyOk extOk 3 (ls := [⟨lkMove (.tmp 7), (some 56), none⟩, ⟨⟨binInt akAdd (.tmp 56) (.const (.int .i64 1))⟩, (some 57), none⟩, ⟨lkMove (.tmp 57), (some 7), none⟩]) (by kernel_rfl) (by simp (disch := omega) []; exact rfl) ?_
        have := hq.len
        exact WPO.nil ⟨rfl, (i + 1, gv', G'), _, rfl, by simp [e1], ⟨by first | omega | (simp only; omega), hq.keep, hq.lst, by first | omega | (simp only; omega), hq.good⟩, by first | omega | (simp only; omega)⟩
      · have hc : k < 5 := by have := of_decide_eq_true hc; omega
        have hql := hq.len
        refine WP.seqR ?_
        refine WPO.looks1 tyOk extOk 2 (ls := [⟨lkMove (.tmp 8), (some 69), none⟩, ⟨lkMove (.tmp 7), (some 70), none⟩]) (by kernel_rfl) (by simp (disch := omega) []; exact rfl) ?_
        refine WPO.callF (g := 28) rfl rfl rfl (by kernel_rfl) (l := .cons (.int .i64 (i : Int)) .nil) (by simp) (mark_ok i H3 (by omega)).ac fun u H4 ⟨hu, hk4⟩ => ?_
        subst hu
        refine WPO.looks1 tyOk extOk 1 (ls := [⟨⟨buildA (.cons (.str 0 0) (.cons .snil (.cons (.bool false) (.cons (.bool false) (.cons .snil (.cons .snil .nil)))))) ⟨fill1 (.tmp 71) 0 1 flEnd⟩⟩, (some 72), none⟩]) (by kernel_rfl) (by simp (disch := omega) []; exact rfl) ?_
        refine WPO.slice1 (enc := encC) (a := (namedC (markL i))) tyOk encC_len (by kernel_rfl : freshK E _ = some ⟨frSlice 1 (zerosA (.cons (.str 0 0) (.cons .snil (.cons (.bool false) (.cons (.bool false) (.cons .snil (.cons .snil .nil)))))) 1) ⟨fill1 (.tmp 72) 0 6 flEnd⟩ ⟨mkCs 55 6 (.cons (.str 0 0) (.cons .snil (.cons (.bool false) (.cons (.bool false) (.cons .snil (.cons .snil .nil))))))⟩⟩) rfl (by kernel_rfl) (by simp; rfl) (by first | rfl | (rw [cellsA_cell (by assumption)]; rfl) | (simp [encC, chA]; done)) (by rfl) (by rfl) fun o1 b1 => ?_
        have kn : Keep noB H4 (H4.new o1) := Keep.new _ _ _
        have k4n := hk4.trans kn
        have hcur := hq.lcur.keep k4n fun b e => ⟨hq.lt b e, id⟩
        refine wpo_appE (a := namedC (markL i)) rfl rfl rfl rfl rfl (by kernel_rfl) (by kernel_rfl) (by simp) (by simp) hcur (One.of (cap := some 1) (get_new_same _ _) b1) (cells_named _) (by simp; omega) fun cur' H5 ha => ?_
        have hl4 := hq.lst.keep k4n fun _ _ => id
        have hq1 := hq.keep.1
        have hq2 := hk4.1
        have a5 := ha.keep
        have a5n := a5.1
        have h4n := k4n.1
        simp at a5n h4n
        have h5l := hl4.keep a5 fun b e e2 => lstE_ne hl4 hcur e (sblk_blk e2)
        have h5k : Keep noB H' H5 := (hq.keep.trans k4n).trans' a5 fun b hb e => by have := hq.src b e; omega
        have h5g : ∀ (t : Nat) (g : AV), G'[t]? = some g → ∃ len, GoodE H5 g (t / 5) len ∧ len ≤ 1048600 := fun t g hg => by
          obtain ⟨len, q1, q2⟩ := hq.good t g hg
          exact ⟨len, (q1.keep k4n fun _ _ _ _ _ => id).step ha, q2⟩
        have h5c := ha.lst
        have h5e := ha.good fun b e => Nat.lt_of_lt_of_le (hq.lt b (sblk_blk e)) k4n.1
        have h5lt : ∀ b, blk cur' = some b → b < H5.next := fun b e => ha.lt (fun b e => Nat.lt_of_lt_of_le (hq.lt b (sblk_blk e)) k4n.1) e
        have h5s : ∀ b, sblk cur' = some b → H'.next ≤ b := fun b e => by
          rcases ha.src (sblk_blk e) with e2 | e2
          · exact hq.src b e2
          · simp at e2; omega
        refine WPO.looks1 tyOk extOk 1 (ls := [⟨lkMove (.tmp 74), (some 8), none⟩]) (by kernel_rfl) (by simp (disch := omega) []; exact rfl) ?_
        refine WPO.nilS (WP.region ?_)
        refine WPO.looks1 tyOk extOk 2 (ls := [⟨lkMove (.tmp 6), (some 75), none⟩, ⟨lkMove (.tmp 8), (some 76), none⟩]) (by kernel_rfl) (by simp (disch := omega) []; exact rfl) ?_
        have hcc : isCell cur' = true := by
          rcases h5c with ⟨_, rfl, _⟩ | ⟨_, _, rfl, _⟩ <;> rfl
        refine WPO.slice1 (enc := enc1) (a := cur') tyOk enc1_len (by kernel_rfl : freshK E _ = some ⟨frSlice 1 (zerosA (.cons .snil .nil) 1) ⟨fill1 (.tmp 76) 0 1 flEnd⟩ ⟨mkCs 22 1 (.cons .snil .nil)⟩⟩) rfl (by kernel_rfl) (by simp; rfl) (by first | rfl | (rw [cellsA_cell (by assumption)]; rfl) | (simp [enc1, chA]; done)) (by rfl) (by rfl) fun o1 b1 => ?_
        have kn2 : Keep noB H5 (H5.new o1) := Keep.new _ _ _
        have hl6 := h5l.keep kn2 fun _ _ => id
        obtain ⟨gv2, H6, a1, a2, a3, a4, a6⟩ := hl6.app enc1_len (by omega) (by simp; omega) (cells1 hcc) (One.of (cap := some 1) (get_new_same _ _) b1) (by omega)
        have a6n := a6.1
        simp at a6n
        refine WPO.heavy1 tyOk extOk (k := ⟨hvAppend ⟨grownCs 1 ⟨mkCs 22 1 (.cons .snil .nil)⟩⟩ 1 (.tmp 75) (.tmp 77)⟩) (by kernel_rfl) rfl (by kernel_rfl) (by simp; exact a1) ?_
        refine WPO.looks1 tyOk extOk 1 (ls := [⟨lkMove (.tmp 78), (some 6), none⟩]) (by kernel_rfl) (by simp (disch := omega) []; exact rfl) ?_
        refine WPO.nil ?_
        refine WPO.looks1 tyOk extOk 3 (ls := [⟨lkMove (.tmp 9), (some 67), none⟩, ⟨⟨binInt akAdd (.tmp 67) (.const (.int .i64 1))⟩, (some 68), none⟩, ⟨lkMove (.tmp 68), (some 9), none⟩]) (by kernel_rfl) (by simp (disch := omega) []; exact rfl) ?_
        have hrep : List.replicate (p.2 + k) (namedC (markL i)) ++ [namedC (markL i)] = List.replicate (p.2 + (k + 1)) (namedC (markL i)) := by rw [← Nat.add_assoc, List.replicate_succ']
        rw [hrep] at h5c
        have h6c := h5c.keep kn2 fun b e => ⟨h5lt b e, id⟩
        refine WPO.nil ⟨rfl, (k + 1, cur', gv2, G' ++ [cur']), _, rfl, by simp, ⟨by first | omega | (simp only; omega), ?_, a2, by simp; omega, ?_, fun b e => ?_, h5s, fun t g hg => ?_⟩, by first | omega | (simp only; omega)⟩
        · exact (h5k.trans kn2).trans' a6 fun b hb e => absurd (hl6.low e).1 (by omega)
        · exact h6c.keep a6 fun b e => ⟨by have := h5lt b e; simp; omega, fun e2 => lstE_ne hl6 h6c e2 e⟩
        · have := h5lt b e; omega
        · simp only at hg
          rcases Nat.lt_or_ge t G'.length with ht | ht
          · rw [List.getElem?_append_left ht] at hg
            obtain ⟨len, q1, q2⟩ := h5g t g hg
            exact ⟨len, (q1.keep kn2 fun _ _ _ _ _ => id).keep a6 (lst_cs hl6), q2⟩
          · have htl := get_lt hg
            simp only [List.length_append, List.length_singleton] at htl
            have : t = G'.length := by omega
            subst this
            simp at hg
            subst hg
            have hdiv : G'.length / 5 = i := by omega
            rw [hdiv]
            exact ⟨_, (h5e.keep kn2 fun _ _ _ _ _ => id).keep a6 (lst_cs hl6), by omega⟩
  · have hc : i < Ls.length := of_decide_eq_true hc
    have hi1 : Ls[i]? = some (Ls[i]) := List.getElem?_eq_getElem hc
    generalize Ls[i] = p at hi1
    obtain ⟨pB, pN, _⟩ := hL1.at_ i p hi1
    have hpm := List.mem_of_getElem? hi1
    have hli := hls i p hi1
    rw [if_neg (Nat.lt_irrefl _)] at hli
    refine WP.seqR ?_
    refine WPO.looks1 tyOk extOk 1 (ls := [⟨lkMove (.const (.int .i64 0)), (some 5), none⟩]) (by kernel_rfl) (by simp (disch := omega) []; exact rfl) ?_
    refine WPO.nilS (WP.forE (σ := Nat) (fun k => [(0, .ptr pb 0), (3, .bool true), (4, .int .i64 (i : Int)), (5, .int .i64 (k : Int))])
      (fun k H2 => k ≤ p.2 ∧ Keep (fun b => b = p.1) H' H2 ∧ ListIs H2 p.1 p.2 k (namedC (markL i))) (fun k => p.2 - k) 0 ⟨by omega, Keep.refl _ _, hli⟩ (by simp) ?_)
    rintro k H2 ⟨hkn, hk2, hl2⟩
    have hk12 : Keep (inL Ls) H1 H2 := hk'.trans (hk2.mono fun b _ e => ⟨p, hpm, e.symm⟩)
    obtain ⟨gp2, hrd2⟩ := h1.rdL hk12 hWL
    obtain ⟨b, o, e1, e2, e3, e4, e5, e6⟩ := hrd2 i _ (hLi hi1)
    rw [hLL] at e1
    have hn2 := hk12.1
    refine WPO.looks1 tyOk extOk 10 (ls := [⟨lkMove (.tmp 5), (some 25), none⟩, ⟨lkMove (.tmp 0), (some 26), none⟩, ⟨⟨nilChk E (.tmp 26)⟩, (some 27), none⟩, ⟨⟨fAddr (.tmp 27) 1⟩, (some 28), none⟩, ⟨⟨ldA ⟨ld1⟩ (.tmp 28)⟩, (some 29), none⟩, ⟨lkMove (.tmp 4), (some 30), none⟩, ⟨⟨ixSl 1 (.tmp 29) (.tmp 30)⟩, (some 31), none⟩, ⟨⟨ldA ⟨ld1⟩ (.tmp 31)⟩, (some 32), none⟩, ⟨⟨lenSl (.tmp 32)⟩, (some 33), none⟩, ⟨⟨binInt akLss (.tmp 25) (.tmp 33)⟩, (some 34), none⟩]) (by kernel_rfl) (by simp (disch := omega) [gp2, r1, e1, e2, e3, hc]; exact rfl) ?_
    refine WPO.nil ⟨decide (k < p.2), _, rfl, by simp, fun hc => ?_, fun hc => ?_⟩
    · have hc : k = p.2 := by have := of_decide_eq_false hc; omega
      subst hc
      refine WPO.looks1 tyOk extOk 3 (ls := [⟨lkMove (.tmp 4), (some 23), none⟩, ⟨⟨binInt akAdd (.tmp 23) (.const (.int .i64 1))⟩, (some 24), none⟩, ⟨lkMove (.tmp 24), (some 4), none⟩]) (by kernel_rfl) (by simp (disch := omega) []; exact rfl) ?_
      refine WPO.nil ⟨rfl, i + 1, _, rfl, by simp [e1], ⟨by omega, hk'.trans (hk2.mono fun b _ e => ⟨p, hpm, e.symm⟩), fun t q hq => ?_⟩, by omega⟩
      by_cases hti : t = i
      · subst hti
        rw [hi1] at hq
        cases hq
        rw [if_pos (by omega)]; exact hl2
      · have hqb := (hL1.at_ t q hq).1
        have := (hls t q hq).keep hk2 (by have := hk'.1; omega) (ls_ne hL.ne hq hi1 hti)
        by_cases htl : t < i
        · rw [if_pos htl] at this; rw [if_pos (by omega)]; exact this
        · rw [if_neg htl] at this; rw [if_neg (by omega)]; exact this
    · have hck : k < p.2 := of_decide_eq_true hc
      obtain ⟨o3, els, x1, x2, x3, x4⟩ := hl2
      refine WD.wp ?_
      obtain ⟨R, hR, hRc⟩ := specR_ex Tryz.prog (fun _ _ H u H2 => u = sb (markL i) ∧ Keep noB H H2)
      refine WD.drawnK tyOk extOk (by kernel_rfl) (ls := [⟨[0], .look (lkMove (.tmp 0)), (some 37), none, 0, 2, true, false⟩, ⟨[37], .look (⟨nilChk E (.tmp 37)⟩), (some 38), none, 0, 2, true, false⟩, ⟨[38], .look (⟨fAddr (.tmp 38) 1⟩), (some 39), none, 0, 2, true, false⟩, ⟨[39], .look (⟨ldA ⟨ld1⟩ (.tmp 39)⟩), (some 40), none, 0, 2, false, false⟩, ⟨[4], .look (lkMove (.tmp 4)), (some 41), none, 0, 2, true, false⟩, ⟨[40, 41], .look (⟨ixSl 1 (.tmp 40) (.tmp 41)⟩), (some 42), none, 0, 2, true, false⟩, ⟨[42], .look (⟨ldA ⟨ld1⟩ (.tmp 42)⟩), (some 43), none, 0, 2, false, false⟩, ⟨[5], .look (lkMove (.tmp 5)), (some 44), none, 0, 2, true, false⟩, ⟨[4], .look (lkMove (.tmp 4)), (some 45), none, 0, 1, true, false⟩, ⟨[45], .heavy ⟨hvCallF E 28 (opnds [(.tmp 45)])⟩, (some 46), none, 0, 2, false, true⟩, ⟨[46], .look (⟨buildA (.cons (.str 0 0) (.cons .snil (.cons (.bool false) (.cons (.bool false) (.cons .snil (.cons .snil .nil)))))) ⟨fill1 (.tmp 46) 0 1 flEnd⟩⟩), (some 47), none, 1, 1, true, false⟩, ⟨[43, 44], .look (⟨ixSl 6 (.tmp 43) (.tmp 44)⟩), (some 48), none, 1, 1, true, false⟩, ⟨[48, 47], .heavy ⟨hvStore ⟨stN 6⟩ (.tmp 48) (.tmp 47)⟩, none, none, 1, 2, false, true⟩]) (by kernel_rfl) hR fun K hK => ?_
      simp (disch := omega) [gp2, r1, e1, e2, e3, hc]
      obtain ⟨u, H3, c3, rfl, hk3⟩ := hRc 28 _ _ (mark_ok i _ (by omega))
      have hpb := h1.lt
      have gp3 := hk3.get (by omega) id gp2
      have e2' := hk3.get (by omega) id e2
      have x1' := hk3.get (by omega) id x1
      refine diCall (by simp) (extFree _ _ _ rfl rfl rfl) c3 hk3.1 ?_
      simp (disch := omega) [gp2, r1, e1, e2, e3, hc, gp3, e2']
      obtain ⟨H4, s1, n1, b1, f1⟩ := stE ⟨o3, x1', x2⟩ (i := k) (a := namedC (markL i)) (by omega) (cells_named _)
      refine diHv_in (v := undefA) (H2 := H4) ?_ (by omega) ?_
      · have s1' := s1
        simp only [chA, encC, namedC, avl_cons, avl_nil] at s1'
        simp [s1']
      simp (disch := omega) [gp2, r1, e1, e2, e3, hc, gp3, e2']
      refine hK _ _ ?_
      clear hK hRc hR
      refine WPO.looks1 tyOk extOk 3 (ls := [⟨lkMove (.tmp 5), (some 35), none⟩, ⟨⟨binInt akAdd (.tmp 35) (.const (.int .i64 1))⟩, (some 36), none⟩, ⟨lkMove (.tmp 36), (some 5), none⟩]) (by kernel_rfl) (by simp (disch := omega) []; exact rfl) ?_
      have hn3 := hk3.1
      obtain ⟨o4, b1, b2⟩ := b1
      refine WPO.nil ⟨rfl, k + 1, _, rfl, by simp [e1], ⟨by omega, (hk2.trans (hk3.mono fun _ _ e => e.elim)).trans ⟨by omega, fun b _ hb => f1 b hb⟩, ⟨o4, _, b1, b2, by simpa using x3, fun t ht => ?_⟩⟩, by omega⟩
      by_cases htk : t = k
      · subst htk
        rw [List.getElem?_set_self (by omega)]
      · rw [List.getElem?_set_ne (by omega)]
        exact x4 t (by omega)
end
end Go.Proofs.YtnffppehomofmaaGreatDoor
