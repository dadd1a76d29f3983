/- A part of the proof of this seat's statement: what is particular to its program. Its conditions stand in each theorem. -/
import Derived.Test.YtnffppehomofmaaGreatDoorD2
import Derived.Test.YtnffppehomofmaaGreatDoorZ4
namespace Go.Proofs.YtnffppehomofmaaGreatDoor
open Go.Xq
noncomputable section
/-! ### What is one's own -/
def sblk : AV → Option Nat
  | .sl b _ _ none => some b
  | _ => none
def Apart (l : List AV) : Prop := l.Pairwise fun v w => ∀ b, sblk v = some b → sblk w ≠ some b
theorem Own.cell {H : AH} {lo hi : Nat} {v : AV} {l : List UInt8} (h : Own H lo hi v l) : isCell v = true := by
  rcases h with ⟨rfl, _⟩ | ⟨b, rfl, _⟩ | ⟨b, rfl, _⟩ <;> rfl
theorem Own.blk {H : AH} {lo hi : Nat} {v : AV} {l : List UInt8} (h : Own H lo hi v l) {b : Nat} (hb : sblk v = some b) : lo ≤ b ∧ b < hi := by
  rcases h with ⟨rfl, _⟩ | ⟨b', rfl, _⟩ | ⟨b', rfl, _, h1, h2, _⟩
  · cases hb
  · cases hb
  · cases hb; exact ⟨h1, h2⟩
theorem Own.keep {S : Nat → Prop} {H H2 : AH} {lo hi lo2 hi2 : Nat} {v : AV} {l : List UInt8} (h : Own H lo hi v l) (hk : Keep S H H2) (hs : ∀ b, lo ≤ b → b < hi → sblk v = some b → ¬ S b) (hn : hi ≤ H.next) (h1 : lo2 ≤ lo) (h2 : hi ≤ hi2) : Own H2 lo2 hi2 v l := by
  rcases h with h | h | ⟨b, rfl, a1, a2, a3, a4⟩
  · exact .inl h
  · exact .inr (.inl h)
  · exact .inr (.inr ⟨b, rfl, a1, by omega, by omega, hk.get (by omega) (hs b a2 a3 rfl) a4⟩)
theorem Own.rd {H : AH} {lo hi : Nat} {v : AV} {l : List UInt8} (h : Own H lo hi v l) (hn : hi ≤ H.next) : RdS H v l := by
  rcases h with h | ⟨b, rfl, rfl⟩ | ⟨b, rfl, a1, a2, a3, a4⟩
  · exact .inl h
  · exact .sl rfl (by simp)
  · exact .bb' rfl (by omega) a4
structure OwnC (H : AH) (lo hi : Nat) (c : Cv) (g : Ch) : Prop where
  tr : c.tr = g.t
  was : c.was = g.was
  is : c.is = g.is
  key : Own H lo hi c.key g.k
  old : Own H lo hi c.old g.o
  new : Own H lo hi c.new g.w
theorem OwnC.keep {S : Nat → Prop} {H H2 : AH} {lo hi lo2 hi2 : Nat} {c : Cv} {g : Ch} (h : OwnC H lo hi c g) (hk : Keep S H H2) (hs : ∀ b, lo ≤ b → b < hi → (∃ u ∈ fields c, sblk u = some b) → ¬ S b) (hn : hi ≤ H.next) (h1 : lo2 ≤ lo) (h2 : hi ≤ hi2) : OwnC H2 lo2 hi2 c g :=
  ⟨h.tr, h.was, h.is, h.key.keep hk (fun b a c e => hs b a c ⟨_, by simp [fields], e⟩) hn h1 h2, h.old.keep hk (fun b a c e => hs b a c ⟨_, by simp [fields], e⟩) hn h1 h2, h.new.keep hk (fun b a c e => hs b a c ⟨_, by simp [fields], e⟩) hn h1 h2⟩
theorem OwnC.rd {H : AH} {lo hi : Nat} {c : Cv} {g : Ch} (h : OwnC H lo hi c g) (hn : hi ≤ H.next) : RdC H c g := ⟨h.tr, h.was, h.is, h.key.rd hn, h.old.rd hn, h.new.rd hn⟩
theorem OwnC.blk {H : AH} {lo hi : Nat} {c : Cv} {g : Ch} (h : OwnC H lo hi c g) {u : AV} (hu : u ∈ fields c) {b : Nat} (hb : sblk u = some b) : lo ≤ b ∧ b < hi := by
  simp only [fields, List.mem_cons, List.not_mem_nil, or_false] at hu
  rcases hu with rfl | rfl | rfl
  · exact h.key.blk hb
  · exact h.old.blk hb
  · exact h.new.blk hb
/-- a list of changes in memory of its own -/
structure OwnL (H : AH) (lo hi : Nat) (v : AV) (els : List Cv) (gl : List Ch) : Prop where
  ex : ∃ b o, v = .sl b 0 els.length (some els.length) ∧ lo ≤ b ∧ b < hi ∧ H.get b = some o ∧ ElB encC 55 6 false zC els o ∧ ∀ u ∈ els.flatMap fields, sblk u ≠ some b
  len : els.length = gl.length
  own : ∀ (i : Nat) (c : Cv) (g : Ch), els[i]? = some c → gl[i]? = some g → OwnC H lo hi c g
  apart : Apart (els.flatMap fields)
theorem OwnL.says {H : AH} {lo hi : Nat} {v : AV} {els : List Cv} {gl : List Ch} (h : OwnL H lo hi v els gl) (hn : hi ≤ H.next) : Says H v els gl := by
  obtain ⟨b, o, h1, h2, h3, h4, h5, _⟩ := h.ex
  exact ⟨.inr ⟨b, 0, _, h1, fun _ => ⟨by omega, o, h4, h5.rd⟩⟩, h.len, fun i c g hc hg => (h.own i c g hc hg).rd hn⟩
theorem OwnL.blk {H : AH} {lo hi : Nat} {v : AV} {els : List Cv} {gl : List Ch} (h : OwnL H lo hi v els gl) {u : AV} (hu : u ∈ els.flatMap fields) {b : Nat} (hb : sblk u = some b) : lo ≤ b ∧ b < hi := by
  obtain ⟨c, hc, hu⟩ := List.mem_flatMap.1 hu
  obtain ⟨i, hi'⟩ := List.mem_iff_getElem?.1 hc
  have := get_lt hi'
  exact (h.own i c (gl[i]'(by have := h.len; omega)) hi' (List.getElem?_eq_getElem _)).blk hu hb
theorem OwnL.keep {H H2 : AH} {lo hi : Nat} {v : AV} {els : List Cv} {gl : List Ch} {S : Nat → Prop} (h : OwnL H lo hi v els gl) (hk : Keep S H H2) (hs : ∀ b, lo ≤ b → b < hi → ¬ S b) (hn : hi ≤ H.next) : OwnL H2 lo hi v els gl := by
  obtain ⟨b, o, h1, h2, h3, h4, h5, h6⟩ := h.ex
  exact ⟨⟨b, o, h1, h2, h3, hk.get (by omega) (hs b h2 h3) h4, h5, h6⟩, h.len, fun i c g hc hg => (h.own i c g hc hg).keep hk (fun b a c _ => hs b a c) hn (Nat.le_refl _) (Nat.le_refl _), h.apart⟩

/-! ### slices.Backward -/
theorem backward_ok {H : AH} {v : AV} (hv : isCell v = true) : DC Tryz.prog .normal 21 (.cons v .nil) H fun u H2 => u = .fn (.func 54) .nil (.cons (.ptr H.next 0) .nil) ∧ ∃ o, H2 = H.new o ∧ ElB enc1 22 1 false z1 [v] o := by
  refine DC.of_wd (re := reTmp 2 reNil) tyOk Tryz.func21 (by kernel_rfl) rfl (by kernel_rfl) (by kernel_rfl) ?_
  rw [tl_nil, argsT_cons, argsT_nil]
  refine WD.seqR ?_
  refine WDO.boxV (enc := enc1) (e := 22) (z := z1) (x := .tmp 0) (a := v) tyOk enc1_len (by kernel_rfl) rfl (by kernel_rfl) (by simp) (cellsA_cell hv) fun o1 b1 => ?_
  refine WDO.looks1 tyOk extOk 1 (ls := [⟨lkMove (.const .nilFunc), (some 2), none⟩]) (by kernel_rfl) (by simp (disch := omega) []; exact rfl) ?_
  refine WDO.nilS (WD.seqR ?_)
  refine WDO.looks1 tyOk extOk 2 (ls := [⟨⟨makeFn (.func 54) (opnds []) (opnds [(.tmp 1)])⟩, (some 3), none⟩, ⟨lkMove (.tmp 3), (some 2), none⟩]) (by kernel_rfl) (by simp (disch := omega) []; exact rfl) ?_
  exact WDO.nilS (WD.ret (endR _ (by simp; rfl) ⟨rfl, o1, rfl, b1⟩))
theorem back_ok {H : AH} {lp cb : Nat} {v : AV} {cs : List Cv} (J : Nat → AH → Prop) (h0 : J cs.length H) (hmax : cs.length ≤ 1048576) (hJ : ∀ k Hx, J k Hx → (∃ oc, Hx.get cb = some oc ∧ rdCell oc 0 = some v) ∧ RdL Hx v cs)
    (hstep : ∀ k c Hx, cs[k]? = some c → J (k + 1) Hx → AR Tryz.prog lp (.cons (.int .i64 (k : Int)) (.cons (chA c) .nil)) Hx fun u H2 => u = .bool true ∧ J k H2) :
    AC Tryz.prog .normal 54 (.cons (.fn (.yield lp) .nil .nil) (.cons (.ptr cb 0) .nil)) H fun _ H2 => J 0 H2 := by
  refine AC.of_wp (re := reNil) tyOk Tryz.func54 (by kernel_rfl) rfl (by kernel_rfl) (by kernel_rfl) ?_
  rw [tl_nil, argsT_cons, argsT_cons, argsT_nil]
  obtain ⟨⟨oc, g1, g2⟩, hrd⟩ := hJ _ _ h0
  have hlen := hrd.len
  refine WP.seqR ?_
  refine WPO.looks1 tyOk extOk 4 (ls := [⟨⟨ldA ⟨ld1⟩ (.tmp 1)⟩, (some 4), none⟩, ⟨⟨lenSl (.tmp 4)⟩, (some 5), none⟩, ⟨⟨binInt akSub (.tmp 5) (.const (.int .i64 1))⟩, (some 6), none⟩, ⟨lkMove (.tmp 6), (some 3), none⟩]) (by kernel_rfl) (by simp (disch := omega) [g1, g2, hlen]; exact rfl) ?_
  refine WPO.nilS (WP.forE (σ := Nat) (fun j => [(0, .fn (.yield lp) .nil .nil), (1, .ptr cb 0), (3, .int .i64 ((j : Int) - 1))]) (fun j H' => j ≤ cs.length ∧ J j H') (fun j => j) cs.length ⟨Nat.le_refl _, h0⟩ (by simp) ?_)
  rintro j H' ⟨hj, hjj⟩
  refine WPO.looks1 tyOk extOk 2 (ls := [⟨lkMove (.tmp 3), (some 7), none⟩, ⟨⟨binInt akGeq (.tmp 7) (.const (.int .i64 0))⟩, (some 8), none⟩]) (by kernel_rfl) (by simp (disch := omega) []; exact rfl) ?_
  refine WPO.nil ⟨!decide ((j : Int) - 1 < 0), _, rfl, by simp, fun hc => ?_, fun hc => ?_⟩
  · have hc : j = 0 := by simp at hc; omega
    subst hc
    exact endN _ rfl hjj
  · obtain ⟨k, rfl⟩ : ∃ k, j = k + 1 := ⟨j - 1, by simp at hc; omega⟩
    have hck : cs[k]? = some (cs[k]) := List.getElem?_eq_getElem (by omega)
    generalize cs[k] = c at hck
    obtain ⟨⟨oc', f1, f2⟩, hrd'⟩ := hJ _ _ hjj
    obtain ⟨b, off, cap, o, e1, _, e3, e4, e5, _⟩ := hrd'.at hck
    refine WP.seqR ?_
    refine WPO.looks1 tyOk extOk 6 (ls := [⟨lkMove (.tmp 0), (some 11), none⟩, ⟨lkMove (.tmp 3), (some 12), none⟩, ⟨⟨ldA ⟨ld1⟩ (.tmp 1)⟩, (some 13), none⟩, ⟨lkMove (.tmp 3), (some 14), none⟩, ⟨⟨ixSl 6 (.tmp 13) (.tmp 14)⟩, (some 15), none⟩, ⟨⟨ldA ⟨ldN 6⟩ (.tmp 15)⟩, (some 16), none⟩]) (by kernel_rfl) (by simp (disch := omega) [f1, f2, e1, e3, e4]; exact rfl) ?_
    refine WPO.yield (l := lp) (first := .nil) (cap := .nil) (la := .cons (.int .i64 (k : Int)) (.cons (chA c) .nil)) rfl rfl (by simp) rfl (by kernel_rfl) (by simp [chA]) (hstep k c H' hck hjj) fun u H2 ⟨hu, hj2⟩ => ?_
    subst hu
    refine WPO.looks1 tyOk extOk 1 (ls := [⟨lkUn ukNot (.tmp 17), (some 18), none⟩]) (by kernel_rfl) (by simp (disch := omega) []; exact rfl) ?_
    refine WPO.nilS (WP.cond (t := false) (by simp) (by simp) fun _ => WP.skip (.inl rfl) ?_)
    refine WPO.looks1 tyOk extOk 3 (ls := [⟨lkMove (.tmp 3), (some 9), none⟩, ⟨⟨binInt akSub (.tmp 9) (.const (.int .i64 1))⟩, (some 10), none⟩, ⟨lkMove (.tmp 10), (some 3), none⟩]) (by kernel_rfl) (by simp (disch := omega) []; exact rfl) ?_
    exact WPO.nil ⟨rfl, k, _, rfl, by simp, ⟨by omega, hj2⟩, by omega⟩
end
end Go.Proofs.YtnffppehomofmaaGreatDoor
namespace Go.Proofs.YtnffppehomofmaaGreatDoor
open Go.Xq
noncomputable section
theorem follows0 : Tryz.prog.follows .mixedOrders = true := by kernel_rfl
/-- what holds between two rounds of Turn's loop: k changes are left -/
structure TJ (H0 : AH) (v : AV) (gl : List Ch) (q : ALoop) (k : Nat) (H : AH) where
  es : List Cv
  lp : H.get (H0.next + 4) = some (.loop q)
  db : H.get (H0.next + 3) = some (.dfr true)
  cb : ∃ oc, H.get (H0.next + 2) = some oc ∧ rdCell oc 0 = some v
  ob : ∃ oo, H.get (H0.next + 1) = some oo ∧ ElB enc1 22 1 false z1 [.sl H0.next 0 es.length (some gl.length)] oo
  el : ∃ oL, H.get H0.next = some oL ∧ ElB encC 55 6 false zC (es ++ List.replicate k zeroC) oL
  len : es.length + k = gl.length
  own : ∀ (i : Nat) (c : Cv) (g : Ch), es[i]? = some c → gl.reverse[i]? = some g → OwnC H (H0.next + 5) H.next c (turnG g)
  apart : Apart (es.flatMap fields)
  keep : Keep noB H0 H
  next : H0.next + 5 ≤ H.next
def cloneS (g : Nat) (l : AV) (H : AH) (u : AV) (H2 : AH) : Prop := ∀ x bs, l = .cons x .nil → RdS H x bs → Own H2 H.next H2.next u bs ∧ Keep noB H H2
theorem clone_dc {H : AH} {x : AV} {bs : List UInt8} (h : RdS H x bs) (hl : bs.length ≤ 1048576) : DC Tryz.prog .normal 22 (.cons x .nil) H (cloneS 22 (.cons x .nil) H) :=
  (clone_ok h hl).mono fun u H2 ⟨h1, h2⟩ x' bs' e h' => by
    cases e
    rw [h'.det h]
    exact ⟨h1, h2⟩
theorem turn_ok {H : AH} {v : AV} {cs : List Cv} {gl : List Ch} (h : Says H v cs gl) (hs : Small gl) :
    AC Tryz.prog .normal 6 (.cons v .nil) H fun v' H2 => (∃ els, OwnL H2 H.next H2.next v' els (gl.map turnG).reverse) ∧ Keep noB H H2 := by
  have hmax := hs.n
  refine AC.of_wp (re := reTmp 2 reNil) tyOk Tryz.func6 (by kernel_rfl) rfl (by kernel_rfl) (by kernel_rfl) ?_
  rw [tl_nil, argsT_cons, argsT_nil]
  have hlen := h.rd.len
  rw [h.len] at hlen
  have hvc := h.rd.cell
  refine WP.seqR ?_
  refine WPO.looks1 tyOk extOk 1 (ls := [⟨lkMove (.const (.slice none 0 0)), (some 2), none⟩]) (by kernel_rfl) (by simp (disch := omega) []; exact rfl) ?_
  refine WPO.nilS (WP.seqR ?_)
  refine WPO.looks1 tyOk extOk 2 (ls := [⟨lkMove (.tmp 0), (some 6), none⟩, ⟨⟨lenSl (.tmp 6)⟩, (some 7), none⟩]) (by kernel_rfl) (by simp (disch := omega) [hlen]; exact rfl) ?_
  have hz := ElB.zeros (enc := encC) (e := 55) (es := 6) (op := false) (z := zC) encC_len (a := zeroC) rfl gl.length
  generalize ho0 : AObj.cs 55 6 (gl.length * 6) false zC .e = o0 at hz
  refine WPO.fresh1 tyOk (k := ⟨frMake E 55 96 (.const (.int .i64 0)) (.tmp 7)⟩) (by kernel_rfl) rfl (by kernel_rfl) (v := .sl H.next 0 0 (some gl.length)) (x := o0) ?_ ?_
  · dsimp only
    rw [← ho0]
    refine frMake_cs (E := E) (e := 55) (es := 6) (bytes := 96) (l := .const (.int .i64 0)) (c := .tmp 7) (n := 0) (m := gl.length) (mkZero55 _) ?_ ?_ (Nat.zero_le _) (by omega) (by omega)
    · simp
    · simp
  have hz1 := ElB.zeros (enc := enc1) (e := 22) (es := 1) (op := false) (z := z1) enc1_len (a := .snil) rfl 1
  generalize ho1 : AObj.cs 22 1 (1 * 1) false z1 .e = o1 at hz1
  refine WPO.fresh1 tyOk (k := ⟨frAlloc (.cs 22 1 1 false (.cons .snil .nil) .e)⟩) (by kernel_rfl) rfl (by kernel_rfl) (x := o1) (by rw [← ho1]; rfl) ?_
  obtain ⟨o2, s1, s2⟩ := st1_el (H := (H.new o0).new o1) (b := H.next + 1) (i := 0) (f := 0) (a := .snil) (a' := .sl H.next 0 0 (some gl.length)) (v := .sl H.next 0 0 (some gl.length)) enc1_len hz1 (by rw [AH.get_new, if_pos (by simp)]) rfl (by omega) rfl rfl
  refine WPO.heavy1 tyOk extOk (k := ⟨hvStore ⟨st1'⟩ (.tmp 3) (.tmp 8)⟩) (by kernel_rfl) rfl (by kernel_rfl) (by simp at s1; simp [s1]; exact ⟨rfl, rfl⟩) ?_
  refine WPO.nilS (WP.seq (WP.seqR ?_))
  refine WPO.looks1 tyOk extOk 1 (ls := [⟨lkMove (.tmp 0), (some 9), none⟩]) (by kernel_rfl) (by simp (disch := omega) []; exact rfl) ?_
  refine WPO.callF (g := 21) rfl rfl rfl (by kernel_rfl) (l := .cons v .nil) (by simp) (backward_ok hvc).ac fun u H3 ⟨hu, o3, hH3, b3⟩ => ?_
  subst hu
  refine WPO.nilS ?_
  have hn3 : H3.next = H.next + 3 := by rw [hH3]; simp
  have g30 : H3.get H.next = some o0 := by rw [hH3]; simp [AH.get_new, AH.get_set]; omega
  have g31 : H3.get (H.next + 1) = some o2 := by rw [hH3]; simp [AH.get_new, AH.get_set]
  have g32 : H3.get (H.next + 2) = some o3 := by rw [hH3]; simp [AH.get_new, AH.get_set]
  have k3 : Keep noB H H3 := by
    rw [hH3]
    refine (((Keep.new noB H o0).trans (Keep.new _ _ o1)).trans' (Keep.set (S := fun b => b = H.next + 1) _ fun _ => rfl) fun b hb e => ?_).trans (Keep.new _ _ _)
    subst e; exact absurd hb (by omega)
  have hp : (((H.new o0).new o1).set (H.next + 1) o2).next = H.next + 2 := by simp
  rw [hp]
  clear hH3 hp
  simp only [putA_some]
  refine WP.block (WP.keep (l := [(0, v), (3, .ptr (H.next + 1) 0), (10, .fn (.func 54) .nil (.cons (.ptr (H.next + 2) 0) .nil))]) ?_ (by simp))
  refine WP.rangeQ (g := 54) (first := .nil) (cap := .cons (.ptr (H.next + 2) 0) .nil) (Q1 := fun q _ H2 => Nonempty (TJ H v gl q 0 H2) ∧ q.state = .ready ∧ q.pending = none) rfl (by simp) (fun q hq => ?_) ?_
  · rw [hn3]
    have kd : Keep noB H ((H3.new (.dfr true)).new (.loop q)) := k3.trans ((Keep.new _ _ _).trans (Keep.new _ _ _))
    refine (back_ok (v := v) (cs := cs) (J := fun k H2 => Nonempty (TJ H v gl q k H2)) ⟨⟨[], ?_, ?_, ⟨o3, ?_, ?_⟩, ⟨o2, ?_, s2⟩, ⟨o0, ?_, ?_⟩, ?_, ?_, ?_, kd, ?_⟩⟩ (by rw [h.len]; exact hmax) ?_ ?_).mono fun _ H2 hj => ⟨hj, by rw [hq], by rw [hq]⟩
    · rw [AH.get_new, if_pos (by simp [hn3])]
    · rw [AH.get_new, if_neg (by rw [AH.next_new, hn3]; omega), AH.get_new, if_pos (by rw [hn3])]
    · rw [AH.get_new, if_neg (by rw [AH.next_new, hn3]; omega), AH.get_new, if_neg (by rw [hn3]; omega), g32]
    · have := b3.cell (k := 0) (j := 0) rfl rfl
      simpa using this
    · rw [AH.get_new, if_neg (by rw [AH.next_new, hn3]; omega), AH.get_new, if_neg (by rw [hn3]; omega), g31]
    · rw [AH.get_new, if_neg (by rw [AH.next_new, hn3]; omega), AH.get_new, if_neg (by rw [hn3]; omega), g30]
    · rw [List.nil_append, h.len]; exact hz
    · simp [h.len]
    · intro i c g hi; simp at hi
    · exact List.Pairwise.nil
    · simp [hn3]
    · rintro k Hx ⟨hj⟩
      exact ⟨hj.cb, (h.keep0 hj.keep).rd⟩
    · rintro k c Hx hck ⟨hj⟩
      have hkn := get_lt hck
      rw [h.len] at hkn
      have hl := hj.lp
      rw [hq] at hl
      refine AR.of_wp hl (setParams2 (by show 11 < 33; decide) (by show 12 < 33; decide)) fun k' => ?_
      have hz5 := ElB.zeros (enc := encC) (e := 55) (es := 6) (op := false) (z := zC) encC_len (a := zeroC) rfl 1
      generalize ho5 : AObj.cs 55 6 (1 * 6) false zC .e = o5 at hz5
      have hcc := h.cells c (List.mem_of_getElem? hck)
      refine WP.region ?_
      refine WPO.fresh1 tyOk (k := ⟨frAlloc (.cs 55 6 6 false (.cons (.str 0 0) (.cons .snil (.cons (.bool false) (.cons (.bool false) (.cons .snil (.cons .snil .nil)))))) .e)⟩) (by kernel_rfl) rfl (by kernel_rfl) (x := o5) (by rw [← ho5]; rfl) ?_
      obtain ⟨o6, t1, t2⟩ := stN_el (H := Hx.new o5) (b := Hx.next) (i := 0) encC_len hz5 (a := c) (get_new_same _ _) (by simp) hcc
      refine WPO.heavy1 tyOk extOk (k := ⟨hvStore ⟨stN 6⟩ (.tmp 5) (.tmp 12)⟩) (by kernel_rfl) rfl (by kernel_rfl) (by simp at t1; simp [chA, t1]; exact ⟨rfl, rfl⟩) ?_
      have hnx := hj.next
      refine WPO.nil ⟨_, by rw [AH.get_set, if_neg (by omega), AH.get_new, if_neg (by omega)]; exact hl, rfl, ?_⟩
      refine WP.gen fun H1 hH1 => ?_
      have hlen2 := hj.len
      have same : ∀ x, x < Hx.next → x ≠ H.next + 4 → H1.get x = Hx.get x := fun x h1 h2 => by rw [hH1, AH.get_set, if_neg (by omega), AH.get_set, if_neg (by omega), AH.get_new, if_neg (by omega)]
      have nx1 : H1.next = Hx.next + 1 := by rw [hH1]; simp
      obtain ⟨q2, hlp, hq2⟩ : ∃ q2 : ALoop, H1.get (H.next + 4) = some (.loop q2) ∧ ({ q2 with state := .ready, pending := none } : ALoop) = q := ⟨_, by rw [hH1]; exact get_set_same _ _ _, hq.symm⟩
      have g6 : H1.get Hx.next = some o6 := by rw [hH1, AH.get_set, if_neg (by omega), get_set_same]
      clear hH1
      obtain ⟨oo, p1, p2⟩ := hj.ob
      obtain ⟨oL, w1, w2⟩ := hj.el
      have kx : Keep (fun b => b = H.next + 4) Hx H1 := ⟨by omega, fun x hx hn => same x hx hn⟩
      have k01 : Keep noB H H1 := hj.keep.trans' kx (fun b hb e => absurd e (by omega))
      have hgk : gl[k]? = some (gl[k]) := List.getElem?_eq_getElem hkn
      have hsm := hs.k (gl[k]) (List.getElem_mem _)
      generalize gl[k] = g at hgk hsm
      have hc := (h.keep0 k01).at_ k c g hck hgk
      have goo : H1.get (H.next + 1) = some oo := by rw [same _ (by omega) (by omega)]; exact p1
      have gL : H1.get H.next = some oL := by rw [same _ (by omega) (by omega)]; exact w1
      have r : ∀ {j : Nat} {v : AV}, (encC c)[j]? = some v → rdCell o6 j = some v := fun hv => by
        have := t2.cell (k := 0) rfl hv
        simpa using this
      have r0 := r (j := 0) rfl
      have r1 := r (j := 1) rfl
      have r2 := r (j := 2) rfl
      have r3 := r (j := 3) rfl
      have r4 := r (j := 4) rfl
      have r5 := r (j := 5) rfl
      have ro := p2.cell (k := 0) (j := 0) rfl rfl
      simp only [Nat.zero_mul, Nat.add_zero] at ro
      refine WP.block (WD.wp ?_)
      obtain ⟨R, hR, hRc⟩ := specR_ex Tryz.prog cloneS
      refine WD.drawnK tyOk extOk (by kernel_rfl) (ls := [⟨[3], .look (⟨ldA ⟨ld1⟩ (.tmp 3)⟩), (some 13), none, 0, 4, false, false⟩, ⟨[5], .look (⟨fAddr (.tmp 5) 0⟩), (some 14), none, 0, 4, true, false⟩, ⟨[14], .look (⟨ldA ⟨ld1⟩ (.tmp 14)⟩), (some 15), none, 0, 4, false, false⟩, ⟨[5], .look (⟨fAddr (.tmp 5) 1⟩), (some 16), none, 0, 1, true, false⟩, ⟨[16], .look (⟨ldA ⟨ld1⟩ (.tmp 16)⟩), (some 17), none, 0, 1, false, false⟩, ⟨[5], .look (⟨fAddr (.tmp 5) 3⟩), (some 19), none, 0, 4, true, false⟩, ⟨[19], .look (⟨ldA ⟨ld1⟩ (.tmp 19)⟩), (some 20), none, 0, 4, false, false⟩, ⟨[5], .look (⟨fAddr (.tmp 5) 2⟩), (some 21), none, 0, 4, true, false⟩, ⟨[21], .look (⟨ldA ⟨ld1⟩ (.tmp 21)⟩), (some 22), none, 0, 4, false, false⟩, ⟨[5], .look (⟨fAddr (.tmp 5) 5⟩), (some 23), none, 0, 2, true, false⟩, ⟨[23], .look (⟨ldA ⟨ld1⟩ (.tmp 23)⟩), (some 24), none, 0, 2, false, false⟩, ⟨[5], .look (⟨fAddr (.tmp 5) 4⟩), (some 26), none, 0, 3, true, false⟩, ⟨[26], .look (⟨ldA ⟨ld1⟩ (.tmp 26)⟩), (some 27), none, 0, 3, false, false⟩, ⟨[17], .heavy ⟨hvCallF E 22 (opnds [(.tmp 17)])⟩, (some 18), none, 0, 2, false, true⟩, ⟨[24], .heavy ⟨hvCallF E 22 (opnds [(.tmp 24)])⟩, (some 25), none, 1, 2, false, true⟩, ⟨[27], .heavy ⟨hvCallF E 22 (opnds [(.tmp 27)])⟩, (some 28), none, 2, 2, false, true⟩, ⟨[15, 18, 20, 22, 25, 28], .look (⟨buildA (.cons (.str 0 0) (.cons .snil (.cons (.bool false) (.cons (.bool false) (.cons .snil (.cons .snil .nil)))))) ⟨fill1 (.tmp 15) 0 1 ⟨fill1 (.tmp 18) 1 1 ⟨fill1 (.tmp 20) 2 1 ⟨fill1 (.tmp 22) 3 1 ⟨fill1 (.tmp 25) 4 1 ⟨fill1 (.tmp 28) 5 1 flEnd⟩⟩⟩⟩⟩⟩⟩), (some 29), none, 3, 1, true, false⟩, ⟨[29], .fresh ⟨frSlice 1 (zerosA (.cons (.str 0 0) (.cons .snil (.cons (.bool false) (.cons (.bool false) (.cons .snil (.cons .snil .nil)))))) 1) ⟨fill1 (.tmp 29) 0 6 flEnd⟩ ⟨mkCs 55 6 (.cons (.str 0 0) (.cons .snil (.cons (.bool false) (.cons (.bool false) (.cons .snil (.cons .snil .nil))))))⟩⟩, (some 30), none, 3, 1, false, false⟩, ⟨[13, 30], .heavy ⟨hvAppend ⟨grownCs 6 ⟨mkCs 55 6 (.cons (.str 0 0) (.cons .snil (.cons (.bool false) (.cons (.bool false) (.cons .snil (.cons .snil .nil))))))⟩⟩ 6 (.tmp 13) (.tmp 30)⟩, (some 31), none, 3, 2, false, true⟩, ⟨[3, 31], .heavy ⟨hvStore ⟨st1'⟩ (.tmp 3) (.tmp 31)⟩, none, none, 4, 2, false, true⟩]) (by kernel_rfl) hR fun K hK => ?_
      simp (disch := omega) [goo, ro, g6, r0, r1, r2, r3, r4, r5]
      obtain ⟨u1, H2, c1, z1⟩ := hRc 22 _ _ (clone_dc hc.key hsm.1)
      obtain ⟨y1, kk1⟩ := z1 _ _ rfl hc.key
      refine diCall (by simp) (extFree _ _ _ rfl rfl rfl) c1 kk1.1 ?_
      have hc2 := hc.keep kk1 (OutC.no _)
      obtain ⟨u2, H3, c2, z2⟩ := hRc 22 _ _ (clone_dc hc2.new hsm.2.2)
      obtain ⟨y2, kk2⟩ := z2 _ _ rfl hc2.new
      simp
      refine diCall (by simp) (extFree _ _ _ rfl rfl rfl) c2 kk2.1 ?_
      have hc3 := hc2.keep kk2 (OutC.no _)
      obtain ⟨u3, H4, c3, z3⟩ := hRc 22 _ _ (clone_dc hc3.old hsm.2.1)
      obtain ⟨y3, kk3⟩ := z3 _ _ rfl hc3.old
      simp
      refine diCall (by simp) (extFree _ _ _ rfl rfl rfl) c3 kk3.1 ?_
      have cu1 : cellsA u1 = .cons u1 .nil := cellsA_cell y1.cell
      have cu2 : cellsA u2 = .cons u2 .nil := cellsA_cell y2.cell
      have cu3 : cellsA u3 = .cons u3 .nil := cellsA_cell y3.cell
      simp [cu1, cu2, cu3]
      obtain ⟨c', hc'⟩ : ∃ c' : Cv, c' = ⟨c.tr, u1, c.is, c.was, u2, u3⟩ := ⟨_, rfl⟩
      have hcc' : ∀ u ∈ encC c', isCell u = true := by
        intro u hu
        simp only [hc', encC, List.mem_cons, List.not_mem_nil, or_false] at hu
        rcases hu with rfl | rfl | rfl | rfl | rfl | rfl
        · rfl
        · exact y1.cell
        · rfl
        · rfl
        · exact y2.cell
        · exact y3.cell
      obtain ⟨ox, fx, bx⟩ := frSlice_el (enc := encC) (e := 55) (z := zC) encC_len (x := .tmp 29) (T := tl [(29, chA c')]) (b0 := H4.next) (a := c') (z0 := zC) (by simp; rfl) rfl rfl rfl
      refine diFr_in (o := ox) (v := .sl H4.next 0 1 (some 1)) ?_ ?_
      · simp [-frSlice_f, chA, hc', encC, zC] at fx ⊢
        exact fx
      have n4 : H1.next ≤ H4.next := Nat.le_trans kk1.1 (Nat.le_trans kk2.1 kk3.1)
      have n2 := kk1.1
      have n3 := kk2.1
      have goo2 := kk1.get (by omega) id goo
      have goo3 := kk2.get (by omega) id goo2
      have goo4 := kk3.get (by omega) id goo3
      have kk4 := Keep.new noB H4 ox
      have goo5 := kk4.get (by omega) id goo4
      have g62 := kk1.get (by omega) id g6
      have g63 := kk2.get (by omega) id g62
      have g64 := kk3.get (by omega) id g63
      have g65 := kk4.get (by omega) id g64
      have gL5 := kk4.get (by omega) id (kk3.get (by omega) id (kk2.get (by omega) id (kk1.get (by omega) id gL)))
      simp
      obtain ⟨oL', a1, a2⟩ := appE_in (H := H4.new ox) encC_len hcc' (One.of (cap := some 1) (get_new_same H4 ox) bx) (b := H.next) (n := hj.es.length) (c := gl.length) (by simp) (by omega) gL5 w2 (by omega)
      refine diHv_in (v := .sl H.next 0 (hj.es.length + 1) (some gl.length)) (H2 := (H4.new ox).set H.next oL') (by simp; exact a1) (by simp) ?_
      simp
      obtain ⟨oo', b1', b2'⟩ := st1_el (H := (H4.new ox).set H.next oL') (b := H.next + 1) (i := 0) (f := 0) (a' := .sl H.next 0 (hj.es.length + 1) (some gl.length)) (v := .sl H.next 0 (hj.es.length + 1) (some gl.length)) enc1_len p2 (by rw [AH.get_set, if_neg (by omega)]; exact goo5) rfl (by omega) rfl rfl
      refine diHv_in (v := undefA) (H2 := ((H4.new ox).set H.next oL').set (H.next + 1) oo') (by simp at b1'; simp [b1']) (by simp) ?_
      simp [goo, ro, g6, r0, r1, r2, r3, r4, r5, goo2, goo3, goo5, g62, g63, g65]
      refine ⟨by obtain ⟨t, rfl⟩ := bx.opn; trivial, hK _ _ ?_⟩
      clear hK hRc hR c1 c2 c3 z1 z2 z3 R K
      have kz : Keep (fun b => b = H.next ∨ b = H.next + 1) (H4.new ox) (((H4.new ox).set H.next oL').set (H.next + 1) oo') := (Keep.set _ fun _ => .inl rfl).trans (Keep.set _ fun _ => .inr rfl)
      obtain ⟨H7, hH7⟩ : ∃ H7, H7 = ((H4.new ox).set H.next oL').set (H.next + 1) oo' := ⟨_, rfl⟩
      have w71 : H7.get (H.next + 1) = some oo' := by rw [hH7, get_set_same]
      have w70 : H7.get H.next = some oL' := by rw [hH7, AH.get_set, if_neg (by omega), get_set_same]
      rw [← hH7] at kz ⊢
      clear hH7
      have k17 : Keep (fun b => b = H.next ∨ b = H.next + 1) H1 H7 := ((((kk1.trans kk2).trans kk3).trans kk4).mono fun _ _ e => e.elim).trans kz
      refine ⟨rfl, q2, k17.get (by omega) (by omega) hlp, rfl, ?_⟩
      show Nonempty (TJ H v gl q k (H7.set (H.next + 4) (.loop { q2 with state := .ready, pending := none })))
      rw [hq2]
      have kq : Keep (fun b => b = H.next + 4) H7 (H7.set (H.next + 4) (.loop q)) := Keep.set _ fun _ => rfl
      obtain ⟨H8, hH8⟩ : ∃ H8, H8 = H7.set (H.next + 4) (.loop q) := ⟨_, rfl⟩
      have w84 : H8.get (H.next + 4) = some (.loop q) := by rw [hH8, get_set_same]
      have w81 : H8.get (H.next + 1) = some oo' := by rw [hH8, AH.get_set, if_neg (by omega)]; exact w71
      have w80 : H8.get H.next = some oL' := by rw [hH8, AH.get_set, if_neg (by omega)]; exact w70
      rw [← hH8] at kq ⊢
      clear hH8
      have k58 : Keep (fun b => b = H.next ∨ b = H.next + 1 ∨ b = H.next + 4) (H4.new ox) H8 := (kz.mono fun b _ e => by omega).trans (kq.mono fun b _ e => by omega)
      have k48 : Keep (fun b => b = H.next ∨ b = H.next + 1 ∨ b = H.next + 4) H4 H8 := (kk4.mono fun _ _ e => e.elim).trans k58
      have k38 : Keep (fun b => b = H.next ∨ b = H.next + 1 ∨ b = H.next + 4) H3 H8 := (kk3.mono fun _ _ e => e.elim).trans k48
      have k28 : Keep (fun b => b = H.next ∨ b = H.next + 1 ∨ b = H.next + 4) H2 H8 := (kk2.mono fun _ _ e => e.elim).trans k38
      have kall : Keep (fun b => b = H.next ∨ b = H.next + 1 ∨ b = H.next + 4) Hx H8 := (kx.mono fun b _ e => by omega).trans ((kk1.mono fun _ _ e => e.elim).trans k28)
      have n48 := k48.1
      have n38 := k38.1
      obtain ⟨oc, v1, v2⟩ := hj.cb
      have hb : ∀ {u : AV} {b : Nat}, u ∈ hj.es.flatMap fields → sblk u = some b → b < Hx.next := fun {u b} hu e => by
        obtain ⟨x, hx, hu⟩ := List.mem_flatMap.1 hu
        obtain ⟨i, hi⟩ := List.mem_iff_getElem?.1 hx
        have hil := get_lt hi
        exact ((hj.own i x (gl.reverse[i]'(by simp; omega)) hi (List.getElem?_eq_getElem _)).blk hu e).2
      refine ⟨⟨hj.es ++ [c'], w84, kall.get (by omega) (by omega) hj.db, ⟨oc, kall.get (by omega) (by omega) v1, v2⟩, ⟨oo', w81, by simpa using b2'⟩, ⟨oL', w80, ?_⟩, by simp; omega, ?_, ?_, hj.keep.trans' kall fun b hb e => absurd e (by omega), by have := kall.1; omega⟩⟩
      · have e : (hj.es ++ List.replicate (k + 1) zeroC).set hj.es.length c' = hj.es ++ [c'] ++ List.replicate k zeroC := by
          rw [List.set_append, if_neg (by omega), Nat.sub_self, List.replicate_succ, List.set_cons_zero, List.append_assoc]; rfl
        rw [← e]; exact a2
      · intro i x gx hx hgx
        by_cases hi : i < hj.es.length
        · rw [List.getElem?_append_left hi] at hx
          exact (hj.own i x gx hx hgx).keep kall (fun b h1 _ _ => by omega) (Nat.le_refl _) (Nat.le_refl _) kall.1
        · have hi2 := get_lt hx
          have hi3 : i = hj.es.length := by simp at hi2; omega
          subst hi3
          rw [List.getElem?_append_right (by omega), Nat.sub_self] at hx
          cases hx
          have hlt := get_lt hgx
          rw [List.getElem?_reverse (by simpa using hlt), show gl.length - 1 - hj.es.length = k by omega, hgk] at hgx
          cases hgx
          subst hc'
          exact ⟨hc.tr, hc.is, hc.was, y1.keep k28 (fun b h1 _ _ => by omega) (Nat.le_refl _) (by omega) k28.1, y2.keep k38 (fun b h1 _ _ => by omega) (Nat.le_refl _) (by omega) k38.1, y3.keep k48 (fun b h1 _ _ => by omega) (Nat.le_refl _) (by omega) k48.1⟩
      · rw [List.flatMap_append]
        refine List.pairwise_append.2 ⟨hj.apart, ?_, fun u hu w hw b e1 e2 => ?_⟩
        · subst hc'
          simp only [List.flatMap_cons, List.flatMap_nil, fields, List.append_nil]
          refine List.Pairwise.cons ?_ (List.Pairwise.cons ?_ (List.Pairwise.cons (by simp) .nil))
          · intro w hw b e1 e2
            have := (y1.blk e1).2
            simp only [List.mem_cons, List.not_mem_nil, or_false] at hw
            rcases hw with rfl | rfl
            · have := (y2.blk e2).1; omega
            · have := (y3.blk e2).1; omega
          · intro w hw b e1 e2
            have := (y2.blk e1).2
            simp only [List.mem_cons, List.not_mem_nil, or_false] at hw
            subst hw
            have := (y3.blk e2).1; omega
        · have h1 := hb hu e1
          subst hc'
          simp only [List.flatMap_cons, List.flatMap_nil, fields, List.append_nil, List.mem_cons, List.not_mem_nil, or_false] at hw
          rcases hw with rfl | rfl | rfl
          · have := (y1.blk e2).1; omega
          · have := (y2.blk e2).1; omega
          · have := (y3.blk e2).1; omega
  · rintro q u H2 ⟨⟨hj⟩, h1, h2⟩
    rw [hn3]
    refine ⟨q, hj.lp, by rw [h1]; simp, ?_⟩
    rw [h2]
    obtain ⟨oo, p1, p2⟩ := hj.ob
    have hlen2 := hj.len
    have hes : hj.es.length = gl.length := by omega
    have r0 := p2.cell (k := 0) (j := 0) rfl rfl
    simp only [Nat.zero_mul, Nat.add_zero, hes] at r0
    have gx : ∀ X, (H2.set (H.next + 3 + 1) X).get (H.next + 1) = some oo := fun X => by rw [AH.get_set, if_neg (by omega)]; exact p1
    refine WP.seqR ?_
    refine WPO.looks1 tyOk extOk 2 (ls := [⟨⟨ldA ⟨ld1⟩ (.tmp 3)⟩, (some 32), none⟩, ⟨lkMove (.tmp 32), (some 2), none⟩]) (by kernel_rfl) (by simp (disch := omega) [gx, r0]; exact rfl) ?_
    refine WPO.nilS (WP.ret ?_)
    refine endPR (endP_mark (d := H.next + 3) (l := .cons (.sl H.next 0 gl.length (some gl.length)) .nil) ?_ ?_ ?_)
    · rw [AH.get_set, if_neg (by omega)]; exact hj.db
    · simp
    have hk : ∀ X Y, Keep (fun b => b = H.next + 3 ∨ b = H.next + 4) H2 ((H2.set (H.next + 3 + 1) X).set (H.next + 3) Y) := fun X Y => (Keep.set _ fun _ => .inr rfl).trans (Keep.set _ fun _ => .inl rfl)
    have hnx := hj.next
    obtain ⟨oL, w1, w2⟩ := hj.el
    obtain ⟨Hf, hHf⟩ : ∃ Hf, Hf = (H2.set (H.next + 3 + 1) (.loop { q with state := .exhausted, pending := none })).set (H.next + 3) (.dfr false) := ⟨_, rfl⟩
    have kf : Keep (fun b => b = H.next + 3 ∨ b = H.next + 4) H2 Hf := by rw [hHf]; exact hk _ _
    rw [← hHf]
    clear hHf hk
    have hnf := kf.1
    have hb : ∀ {u : AV} {b : Nat}, u ∈ hj.es.flatMap fields → sblk u = some b → H.next + 5 ≤ b ∧ b < H2.next := fun {u b} hu e => by
      obtain ⟨x, hx, hu⟩ := List.mem_flatMap.1 hu
      obtain ⟨i, hi⟩ := List.mem_iff_getElem?.1 hx
      have hil := get_lt hi
      exact (hj.own i x (gl.reverse[i]'(by simp; omega)) hi (List.getElem?_eq_getElem _)).blk hu e
    refine ⟨⟨hj.es, ⟨H.next, oL, ?_, Nat.le_refl _, by omega, kf.get (by omega) (by omega) w1, by simpa using w2, fun u hu e => ?_⟩, by simp [hes], ?_, hj.apart⟩, hj.keep.trans' kf fun b hb e => absurd e (by omega)⟩
    · rw [hes]; rfl
    · have := hb hu e; omega
    · intro i c g hc hg
      rw [List.map_reverse.symm, List.getElem?_map] at hg
      cases e : gl.reverse[i]? with
      | none => rw [e] at hg; cases hg
      | some g0 =>
        rw [e] at hg
        cases hg
        exact (hj.own i c g0 hc e).keep kf (fun b h1 _ _ => by omega) (Nat.le_refl _) (by omega) hnf
end
end Go.Proofs.YtnffppehomofmaaGreatDoor
namespace Go.Proofs.YtnffppehomofmaaGreatDoor
open Go.Xq
noncomputable section
/-! ### Marks -/
theorem marks_zero (n : Nat) : marks n 0 = [] := rfl
theorem marks_succ (n len : Nat) : marks n (len + 1) = marks n len ++ [mk n len] := by simp [marks, List.range_succ]
theorem mk_congr {i j : Nat} (h : mk i 0 = mk j 0) (t : Nat) : mk i t = mk j t := by
  unfold mk at h ⊢
  have h2 := congrArg UInt8.toNat h
  simp at h2
  apply UInt8.toNat_inj.1
  simp
  omega
theorem marks_congr {i j n : Nat} (h : marks i n = marks j n) (hn : 0 < n) (m : Nat) : marks i m = marks j m := by
  have h0 : mk i 0 = mk j 0 := by
    have h1 := marks_get i n hn
    rw [h, marks_get j n hn] at h1
    injection h1 with h1
    exact h1.symm
  unfold marks
  apply List.map_congr_left
  intro t _
  exact mk_congr h0 t
theorem marks_pre (i : Nat) {n m : Nat} (h : n ≤ m) : ∃ r, marks i m = marks i n ++ r := by
  refine ⟨(marks i m).drop n, ?_⟩
  have : (marks i m).take n = marks i n := by
    apply List.ext_getElem?
    intro t
    rcases Nat.lt_or_ge t n with h1 | h1
    · rw [List.getElem?_take_of_lt h1, marks_get i m (by omega), marks_get i n h1]
    · rw [List.getElem?_eq_none (by simp [marks_len]; omega), List.getElem?_eq_none (by simp [marks_len]; omega)]
  rw [← this, List.take_append_drop]
/-- the first k of m, and what follows in l -/
def mix (k : Nat) (m l : List UInt8) : List UInt8 := m.take k ++ l.drop k
theorem mix_zero (m l : List UInt8) : mix 0 m l = l := by simp [mix]
theorem mix_all {m l : List UInt8} (h : l.length = m.length) : mix m.length m l = m := by unfold mix; rw [List.take_length, List.drop_of_length_le (by omega), List.append_nil]
theorem mix_len {k : Nat} {m l : List UInt8} (h : l.length = m.length) : (mix k m l).length = m.length := by simp [mix]; omega
theorem mix_set {k : Nat} {m l : List UInt8} {x : UInt8} (h : l.length = m.length) (hx : m[k]? = some x) : (mix k m l).set k x = mix (k + 1) m l := by
  have hk := get_lt hx
  have h1 : (m.take k).length = k := by simp; omega
  have h2 : l.drop k = l[k]'(by omega) :: l.drop (k + 1) := List.drop_eq_getElem_cons (by omega)
  have h3 : m.take (k + 1) = m.take k ++ [x] := by rw [List.take_add_one, hx]; rfl
  unfold mix
  rw [List.set_append, if_neg (by omega), h1, Nat.sub_self, h2, List.set_cons_zero, h3, List.append_assoc]; rfl
/-! ### The book, read -/
theorem lst_get {H : AH} {e lo i : Nat} {v u : AV} {S : List AV} (h : LstAt enc1 e 1 z1 H lo v S) (hu : S[i]? = some u) : ∃ b o, v = .sl b 0 S.length none ∧ lo ≤ b ∧ b < H.next ∧ H.get b = some o ∧ rdCell o i = some u ∧ i < S.length := by
  obtain ⟨b, o, h1, h2, h3, h4, h5, h6⟩ := h.at hu
  have := h5.cell (k := i) (a := u) (j := 0) hu rfl
  rw [Nat.mul_one, Nat.add_zero] at this
  exact ⟨b, o, h1, h2, h3, h4, this, h6⟩
theorem BookAt.rdS {H H' : AH} {B pb : Nat} {S L : List AV} {W : Nat → Prop} (h : BookAt H B pb S L) (hk : Keep W H H') (hw : ∀ b, B ≤ b → ¬ W b) :
    H'.get pb = some h.o ∧ ∀ i u, S[i]? = some u → ∃ b o, h.bl = .sl b 0 S.length none ∧ H'.get b = some o ∧ rdCell o i = some u ∧ i < S.length := by
  refine ⟨hk.get h.lt (hw _ h.low) h.get, fun i u hu => ?_⟩
  obtain ⟨b, o, h1, h2, h3, h4, h5, h6⟩ := lst_get h.bytes hu
  exact ⟨b, o, h1, hk.get h3 (hw b h2) h4, h5, h6⟩
/-- the blocks of these slices -/
def ofS (S : List AV) : Nat → Prop := fun b => ∃ u ∈ S, sblk u = some b
theorem Own.len {H : AH} {lo hi : Nat} {v : AV} {l : List UInt8} (h : Own H lo hi v l) : onSl v (some (AV.int .i64 0)) (fun _ _ n _ => some (.int .i64 (n : Int))) = some (.int .i64 (l.length : Int)) := by
  rcases h with ⟨rfl, rfl⟩ | ⟨b, rfl, rfl⟩ | ⟨b, rfl, _⟩ <;> rfl
theorem Own.pos {H : AH} {lo hi : Nat} {v : AV} {l : List UInt8} (h : Own H lo hi v l) (hl : 0 < l.length) : ∃ b, v = .sl b 0 l.length none ∧ lo ≤ b ∧ b < hi ∧ H.get b = some (bb 5 true l) := by
  rcases h with ⟨rfl, rfl⟩ | ⟨b, rfl, rfl⟩ | ⟨b, h1, _, h2⟩
  · simp at hl
  · simp at hl
  · exact ⟨b, h1, h2⟩
theorem Apart.ne {S : List AV} (h : Apart S) {i j : Nat} {u w : AV} (hi : S[i]? = some u) (hj : S[j]? = some w) (hij : i ≠ j) {b : Nat} (e : sblk u = some b) : sblk w ≠ some b := by
  rcases Nat.lt_or_gt_of_ne hij with h1 | h1
  · have hj' := get_lt hj
    have := List.pairwise_iff_getElem.1 h i j (by omega) hj' h1 b
    rw [List.getElem?_eq_getElem (by omega)] at hi
    rw [List.getElem?_eq_getElem hj'] at hj
    cases hi; cases hj
    exact this e
  · have hi' := get_lt hi
    have := List.pairwise_iff_getElem.1 h j i (by omega) hi' h1 b
    rw [List.getElem?_eq_getElem hi'] at hi
    rw [List.getElem?_eq_getElem (by omega)] at hj
    cases hi; cases hj
    exact fun e2 => this e2 e
/-! ### Appends of which it is not known where they put it -/
theorem ty_get {t : Nat} (h : (tyOf E t).isSome = true) : tyOf E t = some ((tyOf E t).get h) := (Option.some_get h).symm
theorem s5 : (tyOf E 5).isSome = true := by kernel_rfl
theorem s45 : (tyOf E 45).isSome = true := by kernel_rfl
theorem s55 : (tyOf E 55).isSome = true := by kernel_rfl
theorem s22 : (tyOf E 22).isSome = true := by kernel_rfl
theorem d45 : ((tyOf E 45).get s45).d = .slice 5 := by kernel_rfl
theorem d22 : ((tyOf E 22).get s22).d = .slice 55 := by kernel_rfl
theorem n5 : ((tyOf E 5).get s5).size = 1 := by kernel_rfl
theorem n55 : ((tyOf E 55).get s55).size = 6 := by kernel_rfl
theorem z5 : ((tyOf E 5).get s5).zero = some (.int .u8 0) := by kernel_rfl
theorem z55 : ((tyOf E 55).get s55).zero = some (.agg zC) := by kernel_rfl
theorem a5 : appOk ((tyOf E 5).get s5) (.int .u8 0) = true := by kernel_rfl
theorem a55 : appOk ((tyOf E 55).get s55) (.agg zC) = true := by kernel_rfl
theorem g5 : grownK E 5 = some ⟨grownBy 5⟩ := by kernel_rfl
theorem g55 : grownK E 55 = some ⟨grownCs 6 ⟨mkCs 55 6 zC⟩⟩ := by kernel_rfl
/-- one byte more: in its place, or in a new block -/
def AppB (H : AH) (v : AV) (l : List UInt8) (y : UInt8) (v' : AV) (H2 : AH) : Prop :=
  (∃ b, v = .sl b 0 l.length none ∧ l ≠ [] ∧ H.get b = some (bb 5 true l) ∧ v' = .sl b 0 (l.length + 1) none ∧ H2 = H.set b (bb 5 true (l ++ [y]))) ∨
  (v' = .sl H.next 0 (l.length + 1) none ∧ H2 = H.new (bb 5 true (l ++ [y])))
section
variable {b : Frame} {n : Cx} {T : Tr AV} {D : List ADf} {H : AH} {Q : Out → Prop}
theorem wpo_appB {ops : Array Oper} {o : Oper} {r : List Oper} {c : Call} {s x : Operand} {v xv : AV} {lo hi : Nat} {l : List UInt8} {y : UInt8} (hop : o.op = .call c) (hc : c.callee = .builtin .append) (ha : c.args.toList = [s, x]) (hty : c.argTypes.toList = [45, 45])
    (hg : o.guard = none) (hd : dstOk n.n o.dst = true) (hk : heavyK E o.op = some ⟨hvAppend ⟨grownBy 5⟩ 1 s x⟩) (hs : opnd s T = some v) (hx : opnd x T = some xv) (ho : Own H lo hi v l) (hn : hi ≤ H.next) (hxr : RdS H xv [y]) (hmax : l.length < 1073741823)
    (h : ∀ v' H2, AppB H v l y v' H2 → WPO Tryz.prog b n ops r (putA T o.dst v') D H2 Q) : WPO Tryz.prog b n ops (o :: r) T D H Q := by
  rcases ho with ⟨rfl, rfl⟩ | ⟨b', rfl, rfl⟩ | ⟨b', rfl, hl, h1, h2, h3⟩
  · have := appB_snil (e := 5) hxr (by simp) (by simp)
    exact WPO.heavy1 tyOk extOk hk hg hd (by simp [hs, hx]; exact this) (h _ _ (.inr ⟨rfl, rfl⟩))
  · have := appB_full (e := 5) (H := H) (b := b') (off := 0) (len := 0) (k := []) (.sl rfl (by simp)) rfl hxr (by simp) (by simp)
    exact WPO.heavy1 tyOk extOk hk hg hd (by simp [hs, hx]; exact this) (h _ _ (.inr ⟨rfl, rfl⟩))
  · have hrd : RdS H (.sl b' 0 l.length none) l := .bb' rfl (by omega) h3
    have hgr := grownBy_bb (e := 5) hrd hxr (n := l.length) (m := 1) rfl rfl
    have hroom : ∃ room, roomOf H b' (0 * ((tyOf E 5).get s5).size) l.length ((tyOf E 5).get s5).size = some room := by
      rw [n5]
      unfold roomOf
      rw [h3, ob_some']
      exact ⟨_, rfl⟩
    obtain ⟨room, hroom⟩ := hroom
    refine WPO.op (g := none) (by rw [hg]; rfl) rfl hd (fun c' e => by rw [hop] at e; cases e)
      (outc_app tyOk (ty_get s45) (ty_get s45) d45 (by rw [d45]; rfl) (ty_get s5) g5 z5 a5 hop hc ha hty (j := 0) (n := 1) (ab := bb 5 true (l ++ [y])) (o2 := bb 5 true (l ++ [y])) (by rw [hs, Nat.zero_mul]) hx (hxr.lengthA) (by omega) (by omega) hroom
        (by rw [Nat.zero_mul]; exact hgr) (by rw [Nat.zero_add]; exact hgr) h3 (by simp [bb, alikeB])) fun v' H2 hq => h v' H2 ?_
    rw [Nat.zero_mul] at hq
    rcases hq with ⟨rfl, rfl⟩ | ⟨rfl, rfl⟩
    · exact .inl ⟨b', rfl, hl, h3, rfl, rfl⟩
    · exact .inr ⟨rfl, rfl⟩
/-- one change more: in its place, or in a new block -/
def AppE (H : AH) (v : AV) (els : List Cv) (a : Cv) (v' : AV) (H2 : AH) : Prop :=
  (∃ b o o', v = .sl b 0 els.length none ∧ H.get b = some o ∧ ElB encC 55 6 true zC els o ∧ ElB encC 55 6 true zC (els ++ [a]) o' ∧ v' = .sl b 0 (els.length + 1) none ∧ H2 = H.set b o') ∨
  (∃ o', ElB encC 55 6 true zC (els ++ [a]) o' ∧ v' = .sl H.next 0 (els.length + 1) none ∧ H2 = H.new o')
/-- a list that may be appended to -/
def LstE (H : AH) (v : AV) (els : List Cv) : Prop :=
  (∃ b, v = .sl b 0 els.length (some els.length) ∧ ∃ o op, H.get b = some o ∧ ElB encC 55 6 op zC els o) ∨ ∃ b o, v = .sl b 0 els.length none ∧ H.get b = some o ∧ ElB encC 55 6 true zC els o
theorem wpo_appE {ops : Array Oper} {o : Oper} {r : List Oper} {c : Call} {s x : Operand} {v xv : AV} {els : List Cv} {a : Cv} (hop : o.op = .call c) (hc : c.callee = .builtin .append) (ha : c.args.toList = [s, x]) (hty : c.argTypes.toList = [22, 22])
    (hg : o.guard = none) (hd : dstOk n.n o.dst = true) (hk : heavyK E o.op = some ⟨hvAppend ⟨grownCs 6 ⟨mkCs 55 6 zC⟩⟩ 6 s x⟩) (hs : opnd s T = some v) (hx : opnd x T = some xv) (ho : LstE H v els) (hxr : One encC 6 H xv a) (hca : ∀ u ∈ encC a, isCell u = true) (hmax : els.length < 1073741823)
    (h : ∀ v' H2, AppE H v els a v' H2 → WPO Tryz.prog b n ops r (putA T o.dst v') D H2 Q) : WPO Tryz.prog b n ops (o :: r) T D H Q := by
  rcases ho with ⟨b', rfl, o0, op, h1, h2⟩ | ⟨b', o0, rfl, h1, h2⟩
  · obtain ⟨o', q1, q2⟩ := appE_full (e := 55) (z := zC) (H := H) (b := b') (off := 0) encC_len hca hxr rfl (fun _ => ⟨o0, h1, h2.rd⟩) (by omega)
    exact WPO.heavy1 tyOk extOk hk hg hd (by simp [hs, hx]; exact q1) (h _ _ (.inr ⟨o', q2, rfl, rfl⟩))
  · have hfi := firstA_el (enc := encC) (es := 6) (b := b') (off := 0) (cap := none) (els := els) encC_len (fun _ => ⟨o0, h1, h2.rd⟩) rfl
    obtain ⟨o', q1, q2⟩ := grownCs_el (e := 55) (z := zC) encC_len hca hfi hxr
    have hroom : ∃ room, roomOf H b' (0 * ((tyOf E 55).get s55).size) els.length ((tyOf E 55).get s55).size = some room := by
      rw [n55]
      unfold roomOf
      rw [h1, ob_some']
      obtain ⟨t, rfl⟩ := h2.opn
      exact ⟨_, rfl⟩
    obtain ⟨room, hroom⟩ := hroom
    refine WPO.op (g := none) (by rw [hg]; rfl) rfl hd (fun c' e => by rw [hop] at e; cases e)
      (outc_app tyOk (ty_get s22) (ty_get s22) d22 (by rw [d22]; rfl) (ty_get s55) g55 z55 a55 hop hc ha hty (j := 0) (n := 1) (ab := o') (o2 := o') (by rw [hs, Nat.zero_mul]) hx hxr.len (by omega) (by omega) hroom
        (by rw [Nat.zero_mul]; exact q1) (by rw [Nat.zero_add]; exact q1) h1 (by obtain ⟨t, rfl⟩ := h2.opn; obtain ⟨t', rfl⟩ := q2.opn; simp [alikeB])) fun v' H2 hq => h v' H2 ?_
    rw [Nat.zero_mul] at hq
    rcases hq with ⟨rfl, rfl⟩ | ⟨rfl, rfl⟩
    · exact .inl ⟨b', o0, o', rfl, h1, h2, q2, rfl, rfl⟩
    · exact .inr ⟨o', q2, rfl, rfl⟩
end
end
end Go.Proofs.YtnffppehomofmaaGreatDoor
