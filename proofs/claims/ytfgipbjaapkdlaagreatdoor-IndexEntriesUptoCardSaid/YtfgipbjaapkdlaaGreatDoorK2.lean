/- A part of the proof of this seat's statement. Conditions: in each theorem. -/
import Derived.Test.YtfgipbjaapkdlaaGreatDoorK1
import Derived.Test.YtfgipbjaapkdlaaGreatDoorZ6
namespace Go.Proofs.YtfgipbjaapkdlaaGreatDoor
open Go.Xq
noncomputable section
def sblk : AV → Option Nat
 | .sl b _ _ none => some b
 | _ => none
def Apart (l : List AV) : Prop := l.Pairwise fun v w => ∀ b, sblk v = some b → sblk w ≠ some b
theorem Own.cell {H : AH} {lo hi : Nat} {v : AV} {l : List UInt8} (h : Own H lo hi v l) : isCell v = true := by
 rcases h with ⟨rfl, _⟩ | ⟨b, rfl, _⟩ | ⟨b, rfl, _⟩ <;> rfl
theorem Own.blk {H : AH} {lo hi : Nat} {v : AV} {l : List UInt8} (h : Own H lo hi v l) {b : Nat} (hb : sblk v = some b) : lo ≤ b ∧ b < hi := by
 rcases h with ⟨rfl, _⟩ | ⟨b', rfl, _⟩ | ⟨b', rfl, _, h1, h2, _⟩
 ·cases hb
 ·cases hb
 ·cases hb; exact ⟨h1, h2⟩
theorem Own.keep {S : Nat → Prop} {H H2 : AH} {lo hi lo2 hi2 : Nat} {v : AV} {l : List UInt8} (h : Own H lo hi v l) (hk : Keep S H H2) (hs : ∀ b, lo ≤ b → b < hi → sblk v = some b → ¬ S b) (hn : hi ≤ H.next) (h1 : lo2 ≤ lo) (h2 : hi ≤ hi2) : Own H2 lo2 hi2 v l := by
 rcases h with h | h | ⟨b, rfl, a1, a2, a3, a4⟩
 ·exact .inl h
 ·exact .inr (.inl h)
 ·exact .inr (.inr ⟨b, rfl, a1, by omega, by omega, hk.get (by omega) (hs b a2 a3 rfl) a4⟩)
theorem marks_zero (n : Nat) : marks n 0 = [] := rfl
theorem marks_succ (n len : Nat) : marks n (len + 1) = marks n len ++ [mk n len] := by simp [marks, List.range_succ]
theorem mk_congr {i j : Nat} (h : mk i 0 = mk j 0) (t : Nat) : mk i t = mk j t := by
 unfold mk at h ⊢
 have h2 := congrArg UInt8.toNat h
 simp at h2
 apply UInt8.toNat_inj.1
 simp
 omega
theorem marks_congr {i j n : Nat} (h : marks i n = marks j n) (hn : 0 < n) (m : Nat) : marks i m = marks j m := by
 have h0 : mk i 0 = mk j 0 := by
  have h1 := marks_get i n hn
  rw [h, marks_get j n hn] at h1
  injection h1 with h1
  exact h1.symm
 unfold marks
 apply List.map_congr_left
 intro t _
 exact mk_congr h0 t
theorem marks_pre (i : Nat) {n m : Nat} (h : n ≤ m) : ∃ r, marks i m = marks i n ++ r := by
 refine ⟨(marks i m).drop n, ?_⟩
 have : (marks i m).take n = marks i n := by
  apply List.ext_getElem?
  intro t
  rcases Nat.lt_or_ge t n with h1 | h1
  ·rw [List.getElem?_take_of_lt h1, marks_get i m (by omega), marks_get i n h1]
  ·rw [List.getElem?_eq_none (by simp [marks_len]; omega), List.getElem?_eq_none (by simp [marks_len]; omega)]
 rw [← this, List.take_append_drop]
def mix (k : Nat) (m l : List UInt8) : List UInt8 := m.take k ++ l.drop k
theorem mix_zero (m l : List UInt8) : mix 0 m l = l := by simp [mix]
theorem mix_all {m l : List UInt8} (h : l.length = m.length) : mix m.length m l = m := by unfold mix; rw [List.take_length, List.drop_of_length_le (by omega), List.append_nil]
theorem mix_len {k : Nat} {m l : List UInt8} (h : l.length = m.length) : (mix k m l).length = m.length := by simp [mix]; omega
theorem mix_set {k : Nat} {m l : List UInt8} {x : UInt8} (h : l.length = m.length) (hx : m[k]? = some x) : (mix k m l).set k x = mix (k + 1) m l := by
 have hk := get_lt hx
 have h1 : (m.take k).length = k := by simp; omega
 have h2 : l.drop k = l[k]'(by omega) :: l.drop (k + 1) := List.drop_eq_getElem_cons (by omega)
 have h3 : m.take (k + 1) = m.take k ++ [x] := by rw [List.take_add_one, hx]; rfl
 unfold mix
 rw [List.set_append, if_neg (by omega), h1, Nat.sub_self, h2, List.set_cons_zero, h3, List.append_assoc]; rfl
theorem lst_get {H : AH} {e lo i : Nat} {v u : AV} {S : List AV} (h : LstAt enc1 e 1 z1 H lo v S) (hu : S[i]? = some u) : ∃ b o, v = .sl b 0 S.length none ∧ lo ≤ b ∧ b < H.next ∧ H.get b = some o ∧ rdCell o i = some u ∧ i < S.length := by
 obtain ⟨b, o, h1, h2, h3, h4, h5, h6⟩ := h.at hu
 have := h5.cell (k := i) (a := u) (j := 0) hu rfl
 rw [Nat.mul_one, Nat.add_zero] at this
 exact ⟨b, o, h1, h2, h3, h4, this, h6⟩
theorem BookAt.rdS {H H' : AH} {B pb : Nat} {S : List AV} {W : Nat → Prop} (h : BookAt H B pb S) (hk : Keep W H H') (hw : ∀ b, B ≤ b → ¬ W b) :
  H'.get pb = some h.o ∧ ∀ i u, S[i]? = some u → ∃ b o, h.bl = .sl b 0 S.length none ∧ H'.get b = some o ∧ rdCell o i = some u ∧ i < S.length := by
 refine ⟨hk.get h.lt (hw _ h.low) h.get, fun i u hu => ?_⟩
 obtain ⟨b, o, h1, h2, h3, h4, h5, h6⟩ := lst_get h.bytes hu
 exact ⟨b, o, h1, hk.get h3 (hw b h2) h4, h5, h6⟩
def ofS (S : List AV) : Nat → Prop := fun b => ∃ u ∈ S, sblk u = some b
theorem Own.len {H : AH} {lo hi : Nat} {v : AV} {l : List UInt8} (h : Own H lo hi v l) : onSl v (some (AV.int .i64 0)) (fun _ _ n _ => some (.int .i64 (n : Int))) = some (.int .i64 (l.length : Int)) := by
 rcases h with ⟨rfl, rfl⟩ | ⟨b, rfl, rfl⟩ | ⟨b, rfl, _⟩ <;> rfl
theorem Own.pos {H : AH} {lo hi : Nat} {v : AV} {l : List UInt8} (h : Own H lo hi v l) (hl : 0 < l.length) : ∃ b, v = .sl b 0 l.length none ∧ lo ≤ b ∧ b < hi ∧ H.get b = some (bb 5 true l) := by
 rcases h with ⟨rfl, rfl⟩ | ⟨b, rfl, rfl⟩ | ⟨b, h1, _, h2⟩
 ·simp at hl
 ·simp at hl
 ·exact ⟨b, h1, h2⟩
theorem Apart.ne {S : List AV} (h : Apart S) {i j : Nat} {u w : AV} (hi : S[i]? = some u) (hj : S[j]? = some w) (hij : i ≠ j) {b : Nat} (e : sblk u = some b) : sblk w ≠ some b := by
 rcases Nat.lt_or_gt_of_ne hij with h1 | h1
 ·have hj' := get_lt hj
  have := List.pairwise_iff_getElem.1 h i j (by omega) hj' h1 b
  rw [List.getElem?_eq_getElem (by omega)] at hi
  rw [List.getElem?_eq_getElem hj'] at hj
  cases hi; cases hj
  exact this e
 ·have hi' := get_lt hi
  have := List.pairwise_iff_getElem.1 h j i (by omega) hi' h1 b
  rw [List.getElem?_eq_getElem hi'] at hi
  rw [List.getElem?_eq_getElem (by omega)] at hj
  cases hi; cases hj
  exact fun e2 => this e2 e
theorem ty_get {t : Nat} (h : (tyOf E t).isSome = true) : tyOf E t = some ((tyOf E t).get h) := (Option.some_get h).symm
theorem s5 : (tyOf E 5).isSome = true := by kernel_rfl
theorem s45 : (tyOf E 33).isSome = true := by kernel_rfl
theorem d45 : ((tyOf E 33).get s45).d = .slice 5 := by kernel_rfl
theorem n5 : ((tyOf E 5).get s5).size = 1 := by kernel_rfl
theorem z5 : ((tyOf E 5).get s5).zero = some (.int .u8 0) := by kernel_rfl
theorem a5 : appOk ((tyOf E 5).get s5) (.int .u8 0) = true := by kernel_rfl
theorem g5 : grownK E 5 = some ⟨grownBy 5⟩ := by kernel_rfl
def AppB (H : AH) (v : AV) (l : List UInt8) (y : UInt8) (v' : AV) (H2 : AH) : Prop :=
 (∃ b, v = .sl b 0 l.length none ∧ l ≠ [] ∧ H.get b = some (bb 5 true l) ∧ v' = .sl b 0 (l.length + 1) none ∧ H2 = H.set b (bb 5 true (l ++ [y]))) ∨
 (v' = .sl H.next 0 (l.length + 1) none ∧ H2 = H.new (bb 5 true (l ++ [y])))
section
variable {b : Frame} {n : Cx} {T : Tr AV} {D : List ADf} {H : AH} {Q : Out → Prop}
theorem wpo_appB {ops : Array Oper} {o : Oper} {r : List Oper} {c : Call} {s x : Operand} {v xv : AV} {lo hi : Nat} {l : List UInt8} {y : UInt8} (hop : o.op = .call c) (hc : c.callee = .builtin .append) (ha : c.args.toList = [s, x]) (hty : c.argTypes.toList = [33, 33])
  (hg : o.guard = none) (hd : dstOk n.n o.dst = true) (hk : heavyK E o.op = some ⟨hvAppend ⟨grownBy 5⟩ 1 s x⟩) (hs : opnd s T = some v) (hx : opnd x T = some xv) (ho : Own H lo hi v l) (hn : hi ≤ H.next) (hxr : RdS H xv [y]) (hmax : l.length < 1073741823)
  (h : ∀ v' H2, AppB H v l y v' H2 → WPO Tryz.prog b n ops r (putA T o.dst v') D H2 Q) : WPO Tryz.prog b n ops (o :: r) T D H Q := by
 rcases ho with ⟨rfl, rfl⟩ | ⟨b', rfl, rfl⟩ | ⟨b', rfl, hl, h1, h2, h3⟩
 ·have := appB_snil (e := 5) hxr (by simp) (by simp)
  exact WPO.heavy1 tyOk extOk hk hg hd (by simp [hs, hx]; exact this) (h _ _ (.inr ⟨rfl, rfl⟩))
 ·have := appB_full (e := 5) (H := H) (b := b') (off := 0) (len := 0) (k := []) (.sl rfl (by simp)) rfl hxr (by simp) (by simp)
  exact WPO.heavy1 tyOk extOk hk hg hd (by simp [hs, hx]; exact this) (h _ _ (.inr ⟨rfl, rfl⟩))
 ·have hrd : RdS H (.sl b' 0 l.length none) l := .bb' rfl (by omega) h3
  have hgr := grownBy_bb (e := 5) hrd hxr (n := l.length) (m := 1) rfl rfl
  have hroom : ∃ room, roomOf H b' (0 * ((tyOf E 5).get s5).size) l.length ((tyOf E 5).get s5).size = some room := by
   rw [n5]
   unfold roomOf
   rw [h3, ob_some']
   exact ⟨_, rfl⟩
  obtain ⟨room, hroom⟩ := hroom
  refine WPO.op (g := none) (by rw [hg]; rfl) rfl hd (fun c' e => by rw [hop] at e; cases e)
   (outc_app tyOk (ty_get s45) (ty_get s45) d45 (by rw [d45]; rfl) (ty_get s5) g5 z5 a5 hop hc ha hty (j := 0) (n := 1) (ab := bb 5 true (l ++ [y])) (o2 := bb 5 true (l ++ [y])) (by rw [hs, Nat.zero_mul]) hx (hxr.lengthA) (by omega) (by omega) hroom
    (by rw [Nat.zero_mul]; exact hgr) (by rw [Nat.zero_add]; exact hgr) h3 (by simp [bb, alikeB])) fun v' H2 hq => h v' H2 ?_
  rw [Nat.zero_mul] at hq
  rcases hq with ⟨rfl, rfl⟩ | ⟨rfl, rfl⟩
  ·exact .inl ⟨b', rfl, hl, h3, rfl, rfl⟩
  ·exact .inr ⟨rfl, rfl⟩
end
def Good (H : AH) (v : AV) (j len : Nat) : Prop := ∃ b N, v = .sl b 0 len none ∧ 0 < len ∧ len ≤ N ∧ b < H.next ∧ H.get b = some (bb 5 true (marks j N))
def GoodS (H : AH) (v : AV) (j len : Nat) : Prop := (v = .snil ∧ len = 0) ∨ (∃ b, v = .sl b 0 0 (some 0) ∧ len = 0) ∨ Good H v j len
theorem Own.good {H : AH} {lo hi : Nat} {v : AV} {j len : Nat} (h : Own H lo hi v (marks j len)) (hn : hi ≤ H.next) : GoodS H v j len := by
 rcases h with ⟨rfl, e⟩ | ⟨b, rfl, e⟩ | ⟨b, rfl, e, h1, h2, h3⟩
 ·refine .inl ⟨rfl, ?_⟩
  have := congrArg List.length e; rw [marks_len] at this; exact this
 ·refine .inr (.inl ⟨b, rfl, ?_⟩)
  have := congrArg List.length e; rw [marks_len] at this; exact this
 ·refine .inr (.inr ⟨b, len, by rw [marks_len], ?_, Nat.le_refl _, by omega, h3⟩)
  rcases Nat.eq_zero_or_pos len with e0 | e0
  ·subst e0; exact absurd (marks_zero j) e
  ·exact e0
theorem Good.step {H H2 : AH} {v v' g : AV} {i j N len : Nat} (h : Good H g j len) (ha : AppB H v (marks i N) (mk i N) v' H2) : Good H2 g j len := by
 obtain ⟨b, M, rfl, h1, h2, h3, h4⟩ := h
 rw [AppB, ← marks_succ] at ha
 rcases ha with ⟨b', rfl, hne, hg, rfl, rfl⟩ | ⟨rfl, rfl⟩
 ·by_cases e : b = b'
  ·subst e
   rw [h4] at hg
   have hm : marks j M = marks i N := by
    simp only [Option.some.injEq, bb, AObj.bys.injEq, true_and] at hg
    exact leNat_inj hg.1 hg.2
   have hMN : M = N := by have := congrArg List.length hm; rwa [marks_len, marks_len] at this
   subst hMN
   refine ⟨b, M + 1, rfl, h1, by omega, by simpa using h3, ?_⟩
   rw [get_set_same, marks_congr hm (by omega)]
  ·exact ⟨b, M, rfl, h1, h2, by simpa using h3, by rw [AH.get_set, if_neg e]; exact h4⟩
 ·exact ⟨b, M, rfl, h1, h2, by simp; omega, by rw [AH.get_new, if_neg (by omega)]; exact h4⟩
theorem GoodS.step {H H2 : AH} {v v' g : AV} {i j N len : Nat} (h : GoodS H g j len) (ha : AppB H v (marks i N) (mk i N) v' H2) : GoodS H2 g j len := by
 rcases h with h | h | h
 ·exact .inl h
 ·exact .inr (.inl h)
 ·exact .inr (.inr (h.step ha))
theorem Good.keep {W : Nat → Prop} {H H2 : AH} {g : AV} {j len : Nat} (h : Good H g j len) (hk : Keep W H H2) (hW : ∀ b l, H.get b = some (bb 5 true l) → ¬ W b) : Good H2 g j len := by
 obtain ⟨b, M, rfl, h1, h2, h3, h4⟩ := h
 exact ⟨b, M, rfl, h1, h2, Nat.lt_of_lt_of_le h3 hk.1, hk.get h3 (hW b _ h4) h4⟩
theorem GoodS.keep {W : Nat → Prop} {H H2 : AH} {g : AV} {j len : Nat} (h : GoodS H g j len) (hk : Keep W H H2) (hW : ∀ b l, H.get b = some (bb 5 true l) → ¬ W b) : GoodS H2 g j len := by
 rcases h with h | h | h
 ·exact .inl h
 ·exact .inr (.inl h)
 ·exact .inr (.inr (h.keep hk hW))
theorem GoodS.rd {H : AH} {g : AV} {j len : Nat} (h : GoodS H g j len) : RdS H g (marks j len) := by
 rcases h with ⟨rfl, rfl⟩ | ⟨b, rfl, rfl⟩ | ⟨b, M, rfl, h1, h2, h3, h4⟩
 ·exact .inl ⟨rfl, rfl⟩
 ·exact .sl rfl (fun h => absurd rfl h)
 ·obtain ⟨r, hr⟩ := marks_pre j h2
  rw [hr] at h4
  exact .bb (by rw [marks_len]) h3 h4
theorem Own.good' {H : AH} {lo hi : Nat} {v : AV} {j len : Nat} (h : Own H lo hi v (marks j len)) (hn : hi ≤ H.next) (hl : 0 < len) : Good H v j len := by
 rcases h.good hn with ⟨_, e⟩ | ⟨_, _, e⟩ | h
 ·omega
 ·omega
 ·exact h
theorem AppB.keep {H H2 : AH} {v v' : AV} {l : List UInt8} {y : UInt8} (ha : AppB H v l y v' H2) : Keep (fun b => sblk v = some b) H H2 := by
 rcases ha with ⟨b, rfl, h1, h2, rfl, rfl⟩ | ⟨rfl, rfl⟩
 ·exact Keep.set _ fun _ => rfl
 ·exact Keep.new _ _ _
theorem AppB.own {H H2 : AH} {v v' : AV} {i N : Nat} (ha : AppB H v (marks i N) (mk i N) v' H2) (h : Own H 0 H.next v (marks i N)) : Own H2 0 H2.next v' (marks i (N + 1)) := by
 have hne : marks i (N + 1) ≠ [] := by rw [marks_succ]; simp
 rw [AppB, ← marks_succ] at ha
 rcases ha with ⟨b, rfl, h1, h2, rfl, rfl⟩ | ⟨rfl, rfl⟩
 ·have hb := (h.blk (b := b) rfl).2
  exact .inr (.inr ⟨b, by rw [marks_len, marks_len], hne, Nat.zero_le _, by simpa using hb, get_set_same _ _ _⟩)
 ·exact .inr (.inr ⟨H.next, by rw [marks_len, marks_len], hne, Nat.zero_le _, by simp, get_new_same _ _⟩)
theorem AppB.src {H H2 : AH} {v v' : AV} {l : List UInt8} {y : UInt8} (ha : AppB H v l y v' H2) {b : Nat} (e : sblk v' = some b) : sblk v = some b ∨ H.next ≤ b := by
 rcases ha with ⟨b', rfl, h1, h2, rfl, rfl⟩ | ⟨rfl, rfl⟩
 ·exact .inl e
 ·cases e; exact .inr (Nat.le_refl _)
theorem lst_bb {H : AH} {lo : Nat} {gv : AV} {G : List AV} (h : LstAt enc1 33 1 z1 H lo gv G) : ∀ b l, H.get b = some (bb 5 true l) → ¬ blk gv = some b := by
 intro b l hb e
 rcases h with ⟨rfl, _⟩ | ⟨b', o, rfl, h1, h2, h3, h4, h5⟩
 ·cases e
 ·cases e
  rw [hb] at h4
  obtain ⟨t, rfl⟩ := h5.opn
  cases h4
theorem lst_ne {H : AH} {lo lo' hi : Nat} {gv v : AV} {G : List AV} {l : List UInt8} (h : LstAt enc1 33 1 z1 H lo gv G) (ho : Own H lo' hi v l) {b : Nat} (e : blk gv = some b) : ¬ sblk v = some b := by
 intro e2
 rcases ho with ⟨rfl, _⟩ | ⟨b', rfl, _⟩ | ⟨b', rfl, _, h1, h2, h3⟩
 ·cases e2
 ·cases e2
 ·cases e2
  exact lst_bb h _ _ h3 e
structure Ph2 (S : List AV) (Bs : List (List UInt8)) (H H1 : AH) (B i : Nat) (gv : AV) (G : List AV) (H2 : AH) : Prop where
 le : i ≤ S.length
 keep : Keep (ofS S) H H2
 next : H1.next ≤ H2.next
 lst : LstAt enc1 33 1 z1 H2 H1.next gv G
 len : G.length = 5 * i
 own : ∀ (j : Nat) (v : AV) (l : List UInt8), S[j]? = some v → Bs[j]? = some l → (i ≤ j → Own H2 0 B v (marks j l.length)) ∧ GoodS H2 v j l.length
 good : ∀ (t : Nat) (g : AV), G[t]? = some g → ∃ len, Good H2 g (t / 5) len ∧ len ≤ 67108900
structure Ph2i (S : List AV) (Bs : List (List UInt8)) (H H1 : AH) (B i n : Nat) (v : AV) (k : Nat) (cur gv : AV) (G : List AV) (H3 : AH) : Prop where
 le : k ≤ 20
 keep : Keep (ofS S) H H3
 next : H1.next ≤ H3.next
 lst : LstAt enc1 33 1 z1 H3 H1.next gv G
 len : (k ≤ 3 → G.length = 5 * i + k) ∧ (3 ≤ k → k ≤ 8 → G.length = 5 * i + 3) ∧ (9 ≤ k → k ≤ 19 → G.length = 5 * i + 4) ∧ (20 ≤ k → G.length = 5 * i + 5)
 own0 : Own H3 0 H3.next cur (marks i (n + k))
 src : ∀ b, sblk cur = some b → sblk v = some b ∨ H1.next ≤ b
 own : ∀ (j : Nat) (w : AV) (m : List UInt8), S[j]? = some w → Bs[j]? = some m → (i < j → Own H3 0 B w (marks j m.length)) ∧ GoodS H3 w j m.length
 good : ∀ (t : Nat) (g : AV), G[t]? = some g → ∃ len, Good H3 g (t / 5) len ∧ len ≤ 67108900
set_option maxRecDepth 10000 in
theorem owned03_ok {H : AH} {B pb : Nat} {S : List AV} {Bs : List (List UInt8)} (h : BookAt H B pb S) (hB : B ≤ H.next) (hlen : S.length = Bs.length) (hS : S.length ≤ 67108864) (hbs : ∀ l ∈ Bs, l.length ≤ 67108864)
  (hown : ∀ (i : Nat) (v : AV) (l : List UInt8), S[i]? = some v → Bs[i]? = some l → Own H 0 B v l) (hap : Apart S) :
  AC Tryz.prog .normal 14 (.cons (.ptr pb 0) .nil) H fun v' H2 => v' = .bool true ∧ Keep (ofS S) H H2 := by
 refine AC.of_wp (re := reTmp 2 reNil) tyOk Tryz.func14 (by kernel_rfl) rfl (by kernel_rfl) (by kernel_rfl) ?_
 rw [tl_nil, argsT_cons, argsT_nil]
 have hW : ∀ b, B ≤ b → ¬ ofS S b := by
  rintro b hb ⟨u, hu, e⟩
  obtain ⟨i, hi⟩ := List.mem_iff_getElem?.1 hu
  have hil := get_lt hi
  have := ((hown i u (Bs[i]'(by omega)) hi (List.getElem?_eq_getElem _)).blk e).2
  omega
 have hbl := h.bytes.len
 refine WP.seqR ?_
 refine leP 1 [xZ false 2] ?_
 refine WPO.nilS (WP.seq (WP.seqR ?_))
 refine leP 1 [xK 0 3] ?_
 refine WPO.nilS (WP.forE (σ := Nat) (fun i => [(0, .ptr pb 0), (3, .int .i64 (i : Int))])
  (fun i H' => i ≤ S.length ∧ Keep (ofS S) H H' ∧ ∀ (j : Nat) (v : AV) (l : List UInt8), S[j]? = some v → Bs[j]? = some l → Own H' 0 B v (if j < i then marks j l.length else l)) (fun i => S.length - i) 0 ⟨by omega, Keep.refl _ _, fun j v l h1 h2 => by simpa using hown j v l h1 h2⟩ (by simp) ?_)
 rintro i H' ⟨hi, hk', hown'⟩
 obtain ⟨gp, hrd⟩ := h.rdS hk' hW
 have r0 := h.r0
 refine lkP 7 [xM 3 14, xM 0 15, ⟨⟨nilChk E (.tmp 15)⟩, (some 16), none⟩, xF 16 0 17, xL 17 18, xN 18 19, xB akLss 14 19 20] (by simp (disch := omega) [gp, r0, hbl]; exact rfl) ?_
 refine WPO.nil ⟨decide (i < S.length), _, rfl, by simp, fun hc => ?_, fun hc => ?_⟩
 ·have hc : i = S.length := by have := of_decide_eq_false hc; omega
  subst hc
  have hown2 : ∀ (j : Nat) (v : AV) (l : List UInt8), S[j]? = some v → Bs[j]? = some l → Own H' 0 B v (marks j l.length) := fun j v l h1 h2 => by
   have := hown' j v l h1 h2
   rwa [if_pos (get_lt h1)] at this
  clear hown'
  refine WP.seqR ?_
  refine leP 1 [⟨lkMove (.const (.slice none 0 0)), (some 6), none⟩] ?_
  refine WPO.nilS (WP.seq (WP.seqR ?_))
  refine leP 1 [xK 0 7] ?_
  refine WPO.nilS (WP.forE (σ := Nat × AV × List AV) (fun s => [(0, .ptr pb 0), (6, s.2.1), (7, .int .i64 (s.1 : Int))])
   (fun s H2 => Ph2 S Bs H H' B s.1 s.2.1 s.2.2 H2) (fun s => S.length - s.1) (0, .snil, [])
   ⟨by omega, hk', Nat.le_refl _, .inl ⟨rfl, rfl⟩, rfl, fun j v l h1 h2 => ⟨fun _ => hown2 j v l h1 h2, (hown2 j v l h1 h2).good (Nat.le_trans hB hk'.1)⟩, fun t g h => by simp at h⟩ (by simp) ?_)
  rintro ⟨i, gv, G⟩ H2 hp
  dsimp only at hp
  obtain ⟨gp2, hrd2⟩ := h.rdS hp.keep hW
  refine lkP 7 [xM 7 44, xM 0 45, ⟨⟨nilChk E (.tmp 45)⟩, (some 46), none⟩, xF 46 0 47, xL 47 48, xN 48 49, xB akLss 44 49 50] (by simp (disch := omega) [gp2, r0, hbl]; exact rfl) ?_
  refine WPO.nil ⟨decide (i < S.length), _, rfl, by simp, fun hc => ?_, fun hc => ?_⟩
  ·have hc : i = S.length := by have := of_decide_eq_false hc; have := hp.le; omega
   subst hc
   have hgl := hp.lst.len
   refine WP.seq (WP.seqR ?_)
   refine leP 1 [xK 0 10] ?_
   refine WPO.nilS (WP.forE (σ := Nat) (fun j => [(0, .ptr pb 0), (6, gv), (10, .int .i64 (j : Int))]) (fun j H3 => j ≤ S.length ∧ H2 = H3) (fun j => S.length - j) 0 ⟨by omega, rfl⟩ (by simp) ?_)
   rintro j _ ⟨hj, rfl⟩
   refine lkP 7 [xM 10 87, xM 0 88, ⟨⟨nilChk E (.tmp 88)⟩, (some 89), none⟩, xF 89 0 90, xL 90 91, xN 91 92, xB akLss 87 92 93] (by simp (disch := omega) [gp2, r0, hbl]; exact rfl) ?_
   refine WPO.nil ⟨decide (j < S.length), _, rfl, by simp, fun hc => ?_, fun hc => ?_⟩
   ·clear hc hj
    refine WP.seq (WP.seqR ?_)
    refine leP 1 [xK 0 12] ?_
    refine WPO.nilS (WP.forE (σ := Nat) (fun t => [(6, gv), (12, .int .i64 (t : Int))]) (fun t H3 => t ≤ G.length ∧ H2 = H3) (fun t => G.length - t) 0 ⟨by omega, rfl⟩ (by simp) ?_)
    rintro t _ ⟨ht, rfl⟩
    refine lkP 4 [xM 12 107, xM 6 108, xN 108 109, xB akLss 107 109 110] (by simp (disch := omega) [hgl]; exact rfl) ?_
    refine WPO.nil ⟨decide (t < G.length), _, rfl, by simp, fun hc => ?_, fun hc => ?_⟩
    ·refine WP.seqR ?_
     refine leP 1 [xZ true 2] ?_
     exact WPO.nilS (WP.ret (endR _ (by simp; rfl) ⟨rfl, hp.keep⟩))
    ·have hc : t < G.length := of_decide_eq_true hc
     have hg1 : G[t]? = some (G[t]) := List.getElem?_eq_getElem hc
     generalize G[t] = g at hg1
     obtain ⟨b, o, e1, e2, e3, e4, e5, _⟩ := lst_get hp.lst hg1
     obtain ⟨len, q1, q2⟩ := hp.good t g hg1
     have hql := hp.len
     obtain ⟨tq, htq⟩ : ∃ tq, tq = t / 5 := ⟨_, rfl⟩
     have hdv : (t : Int) / 5 = (tq : Int) := by omega
     rw [← htq] at q1
     refine WP.seqR ?_
     refine lkP 6 [xM 6 113, xM 12 114, xI 1 113 114 115, xL 115 116, xM 12 117, ⟨⟨binInt ⟨quoA⟩ (.tmp 117) (.const (.int .i64 5))⟩, (some 118), none⟩] (by simp (disch := omega) [e1, e4, e5, hc, hdv]; exact rfl) ?_
     refine WPO.callF (g := 43) rfl rfl rfl (by kernel_rfl) (l := .cons g (.cons (.int .i64 (tq : Int)) .nil)) (by simp) (marked_ok (GoodS.rd (.inr (.inr q1))) (by omega) (by omega)).ac fun u H3 ⟨hu, hH3⟩ => ?_
     subst hu
     subst hH3
     refine leP 1 [xM 119 13] ?_
     refine WPO.nilS (WP.seqR ?_)
     refine leP 2 [xM 13 120, xU 120 121] ?_
     refine WPO.nilS (WP.cond (t := false) (by simp) (by simp) fun _ => WP.skip (.inl rfl) ?_)
     refine leP 3 [xM 12 111, xC akAdd 111 1 112, xM 112 12] ?_
     exact WPO.nil ⟨rfl, t + 1, _, rfl, by simp [e1], ⟨by omega, rfl⟩, by omega⟩
   ·have hc : j < S.length := of_decide_eq_true hc
    have hj1 : S[j]? = some (S[j]) := List.getElem?_eq_getElem hc
    have hj2 : Bs[j]? = some (Bs[j]'(by omega)) := List.getElem?_eq_getElem _
    have hll := hbs (Bs[j]'(by omega)) (List.getElem_mem _)
    generalize S[j] = v at hj1
    generalize Bs[j]'_ = l at hj2 hll
    obtain ⟨b, o, e1, e2, e3, _⟩ := hrd2 j v hj1
    refine WP.seqR ?_
    refine lkP 8 [xM 0 96, ⟨⟨nilChk E (.tmp 96)⟩, (some 97), none⟩, xF 97 0 98, xL 98 99, xM 10 100, xI 1 99 100 101, xL 101 102, xM 10 103] (by simp (disch := omega) [gp2, r0, e1, e2, e3, hc]; exact rfl) ?_
    refine WPO.callF (g := 43) rfl rfl rfl (by kernel_rfl) (l := .cons v (.cons (.int .i64 (j : Int)) .nil)) (by simp) (marked_ok (hp.own j v l hj1 hj2).2.rd (by omega) (by omega)).ac fun u H3 ⟨hu, hH3⟩ => ?_
    subst hu
    subst hH3
    refine leP 1 [xM 104 11] ?_
    refine WPO.nilS (WP.seqR ?_)
    refine leP 2 [xM 11 105, xU 105 106] ?_
    refine WPO.nilS (WP.cond (t := false) (by simp) (by simp) fun _ => WP.skip (.inl rfl) ?_)
    refine leP 3 [xM 10 94, xC akAdd 94 1 95, xM 95 10] ?_
    exact WPO.nil ⟨rfl, j + 1, _, rfl, by simp [], ⟨by omega, rfl⟩, by omega⟩
  ·have hc : i < S.length := of_decide_eq_true hc
   have hi1 : S[i]? = some (S[i]) := List.getElem?_eq_getElem hc
   have hi2 : Bs[i]? = some (Bs[i]'(by omega)) := List.getElem?_eq_getElem _
   have hll := hbs (Bs[i]'(by omega)) (List.getElem_mem _)
   generalize S[i] = v at hi1
   generalize Bs[i]'_ = l at hi2 hll
   obtain ⟨b, o, e1, e2, e3, _⟩ := hrd2 i v hi1
   have ho := (hp.own i v l hi1 hi2).1 (Nat.le_refl _)
   have hB2 : B ≤ H2.next := Nat.le_trans hB hp.keep.1
   refine WP.seqR ?_
   refine lkP 8 [xM 0 53, ⟨⟨nilChk E (.tmp 53)⟩, (some 54), none⟩, xF 54 0 55, xL 55 56, xM 7 57, xI 1 56 57 58, xL 58 59, xM 59 8] (by simp (disch := omega) [gp2, r0, e1, e2, e3, hc]; exact rfl) ?_
   refine WPO.nilS (WP.seqR ?_)
   refine leP 1 [xK 0 9] ?_
   refine WPO.nilS (WP.forE (σ := Nat × AV × AV × List AV) (fun s => [(0, .ptr pb 0), (6, s.2.2.1), (7, .int .i64 (i : Int)), (8, s.2.1), (9, .int .i64 (s.1 : Int))])
    (fun s H3 => Ph2i S Bs H H' B i l.length v s.1 s.2.1 s.2.2.1 s.2.2.2 H3) (fun s => 20 - s.1) (0, v, gv, G)
    ⟨by omega, hp.keep, hp.next, hp.lst, ⟨fun _ => by simpa using hp.len, fun h => absurd h (by simp), fun h => absurd h (by simp), fun h => absurd h (by simp)⟩,
     (ho.keep (Keep.refl (fun _ => False) _) (fun _ _ _ _ => id) hB2 (Nat.le_refl _) hB2), fun b e => .inl e, fun j w m h1 h2 => ⟨fun hj => (hp.own j w m h1 h2).1 (Nat.le_of_lt hj), (hp.own j w m h1 h2).2⟩, hp.good⟩ (by simp) ?_)
   rintro ⟨k, cur, gv', G'⟩ H3 hq
   dsimp only at hq
   refine leP 2 [xM 9 60, xC akLss 60 20 61] ?_
   refine WPO.nil ⟨decide ((k : Int) < 20), _, rfl, by simp, fun hc => ?_, fun hc => ?_⟩
   ·have hc : k = 20 := by have := of_decide_eq_false hc; have := hq.le; omega
    subst hc
    refine leP 3 [xM 7 51, xC akAdd 51 1 52, xM 52 7] ?_
    refine WPO.nil ⟨rfl, (i + 1, gv', G'), _, rfl, by simp, ⟨by omega, hq.keep, hq.next, hq.lst, ?_, fun j w m h1 h2 => ⟨fun hj => (hq.own j w m h1 h2).1 hj, (hq.own j w m h1 h2).2⟩, hq.good⟩, by first | omega | (simp only; omega)⟩
    have := hq.len.2.2.2 (Nat.le_refl _)
    omega
   ·have hc : k < 20 := by have := of_decide_eq_true hc; omega
    have hcl := hq.own0.len
    rw [marks_len] at hcl
    have hmk := mk_int i (l.length + k)
    have hyd : mk i (l.length + k) = mk i (l.length + k) := rfl
    generalize hy : mk i (l.length + k) = y at hmk
    have hn1 : H.next ≤ H'.next := hk'.1
    have hn3 := hq.next
    refine WP.seqR ?_
    have hmk2 : ((i : Int) + ((l.length : Int) + (k : Int)) / 251) % 256 = (y.toNat : Int) := by rw [hmk, Int.natCast_add]
    refine lkP 7 [xM 8 64, xM 7 65, xM 8 66, xN 66 67, ⟨⟨binInt ⟨quoA⟩ (.tmp 67) (.const (.int .i64 251))⟩, (some 68), none⟩, xB akAdd 65 68 69, ⟨⟨cvInt .u8 (.tmp 69)⟩, (some 70), none⟩] (by simp (disch := omega) [hcl, hmk2]; exact rfl) ?_
    refine WPO.fresh1 tyOk (k := ⟨frSlice 1 (zerosA (.cons (.int .u8 0) .nil) 1) ⟨fill1 (.tmp 70) 0 1 flEnd⟩ ⟨mkBy 5⟩⟩) (by kernel_rfl) rfl (by kernel_rfl) (v := .sl H3.next 0 1 (some 1)) (x := bb 5 false [y]) ?_ ?_
    ·dsimp only
     have := leA_bytes [y]
     simp only [List.map_cons, List.map_nil, avl_cons, avl_nil] at this
     simp [mkBy, this, bb]
    have kb : Keep noB H3 (H3.new (bb 5 false [y])) := Keep.new _ _ _
    have hob : Own (H3.new (bb 5 false [y])) 0 (H3.new (bb 5 false [y])).next cur (marks i (l.length + k)) := hq.own0.keep kb (fun _ _ _ _ => id) (Nat.le_refl _) (Nat.le_refl _) (by simp)
    have hxr : RdS (H3.new (bb 5 false [y])) (.sl H3.next 0 1 (some 1)) [y] := .bb' rfl (by simp) (get_new_same _ _)
    refine wpo_appB (y := y) rfl rfl rfl rfl rfl (by kernel_rfl) (by kernel_rfl) (by simp) (by simp) hob (Nat.le_refl _) hxr (by rw [marks_len]; omega) fun cur' H4 ha => ?_
    replace ha : AppB (H3.new (bb 5 false [y])) cur (marks i (l.length + k)) (mk i (l.length + k)) cur' H4 := by rw [hy]; exact ha
    have hlb := hq.lst.keep kb fun _ _ => id
    have e4k := ha.keep
    have e4n := e4k.1
    simp at e4n
    have h4k : Keep (ofS S) H H4 := (hq.keep.trans (kb.mono fun _ _ e => e.elim)).trans' e4k fun b hb e => (hq.src b e).elim (fun e => ⟨v, List.mem_of_getElem? hi1, e⟩) fun e => absurd e (by omega)
    have h4l : LstAt enc1 33 1 z1 H4 H'.next gv' G' := hlb.keep e4k fun b e e2 => lst_ne hlb hob e e2
    have h4o : ∀ (j : Nat) (w : AV) (m : List UInt8), S[j]? = some w → Bs[j]? = some m → (i < j → Own H4 0 B w (marks j m.length)) ∧ GoodS H4 w j m.length := fun j w m h1 h2 => by
     obtain ⟨q1, q2⟩ := hq.own j w m h1 h2
     refine ⟨fun hj => ?_, (q2.keep kb fun _ _ _ => id).step ha⟩
     refine ((q1 hj).keep kb (fun _ _ _ _ => id) (by omega) (Nat.le_refl _) (Nat.le_refl _)).keep e4k (fun b _ hb e e2 => ?_) (by simp; omega) (Nat.le_refl _) (Nat.le_refl _)
     rcases hq.src b e2 with e3 | e3
     ·exact hap.ne hi1 h1 (by omega) e3 e
     ·omega
    have h4g : ∀ (t : Nat) (g : AV), G'[t]? = some g → ∃ len, Good H4 g (t / 5) len ∧ len ≤ 67108900 := fun t g hg => by
     obtain ⟨len, q1, q2⟩ := hq.good t g hg
     exact ⟨len, (q1.keep kb fun _ _ _ => id).step ha, q2⟩
    have h4c : Own H4 0 H4.next cur' (marks i (l.length + (k + 1))) := ha.own hob
    have h4s : ∀ b, sblk cur' = some b → sblk v = some b ∨ H'.next ≤ b := fun b e => by
     rcases ha.src e with e2 | e2
     ·exact hq.src b e2
     ·simp at e2; exact .inr (by omega)
    have hlen := hq.len
    refine leP 1 [xM 72 8] ?_
    refine WPO.nilS (WP.keep (l := [(0, .ptr pb 0), (6, gv'), (7, .int .i64 (i : Int)), (8, cur'), (9, .int .i64 (k : Int))]) (WP.seqR ?_) (by simp))
    obtain ⟨tk, l', htk, hrun, hsub⟩ : ∃ (tk : Bool) (l' : List (Nat × AV)), (tk = true ↔ (k < 3 ∨ k = 8 ∨ k = 19)) ∧ runLk [xM 9 73, xC akLss 73 3 74, xM 74 75, yM 9 76 75 false, yC akEql 76 8 77 75 false, xP 75 77 78 true, xM 78 79, yM 9 80 79 false, yC akEql 80 19 81 79 false, xP 79 81 82 true] (tl [(0, .ptr pb 0), (6, gv'), (7, .int .i64 (i : Int)), (8, cur'), (9, .int .i64 (k : Int))]) H4 = some (tl l') ∧ lsub [(0, .ptr pb 0), (6, gv'), (7, .int .i64 (i : Int)), (8, cur'), (9, .int .i64 (k : Int)), (82, .bool tk)] l' := by
     by_cases k3 : k < 3
     ·have f1 : (k : Int) < 3 := by omega
      exact ⟨true, _, by simp [k3], by simp (disch := omega) [f1]; exact rfl, by simp⟩
     ·have f1 : ¬ (k : Int) < 3 := by omega
      by_cases k8 : k = 8
      ·subst k8
       exact ⟨true, _, by simp, by simp (disch := omega) []; exact rfl, by simp⟩
      ·have f2 : ¬ (k : Int) = 8 := by omega
       by_cases k19 : k = 19
       ·subst k19
        exact ⟨true, _, by simp, by simp (disch := omega) []; exact rfl, by simp⟩
       ·have f3 : ¬ (k : Int) = 19 := by omega
        exact ⟨false, _, by simp [k3, k8, k19], by simp (disch := omega) [f1, f2, f3]; exact rfl, by simp⟩
    refine lkP 10 [xM 9 73, xC akLss 73 3 74, xM 74 75, yM 9 76 75 false, yC akEql 76 8 77 75 false, xP 75 77 78 true, xM 78 79, yM 9 80 79 false, yC akEql 80 19 81 79 false, xP 79 81 82 true] hrun ?_
    refine WPO.nilS (WP.keep (WP.cond (t := tk) (by simp) (fun ht => WP.region ?_) fun ht => WP.skip (.inl rfl) ?_) hsub)
    ·have htk := htk.1 ht
     have hGl : G'.length < 5 * i + 5 := by omega
     have hGl2 : 5 * i ≤ G'.length := by omega
     refine leP 2 [xM 6 83, xM 8 84] ?_
     have hcc := h4c.cell
     refine WPO.slice1 (enc := enc1) (a := cur') tyOk enc1_len (by kernel_rfl : freshK E _ = some ⟨frSlice 1 (zerosA (.cons .snil .nil) 1) ⟨fill1 (.tmp 84) 0 1 flEnd⟩ ⟨mkCs 33 1 (.cons .snil .nil)⟩⟩) rfl (by kernel_rfl) (by simp; rfl) (by first | rfl | (rw [cellsA_cell (by assumption)]; rfl) | (simp [enc1, chA]; done)) (by rfl) (by rfl) fun o1 b1 => ?_
     have kn : Keep noB H4 (H4.new o1) := Keep.new _ _ _
     have hl5 := h4l.keep kn fun _ _ => id
     obtain ⟨gv2, H5, a1, a2, a3, a4, a5⟩ := hl5.app enc1_len (by omega) (by simp; omega) (cells1 hcc) (One.of (cap := some 1) (get_new_same _ _) b1) (by omega)
     have hbb := lst_bb hl5
     refine WPO.heavy1 tyOk extOk (k := ⟨hvAppend ⟨grownCs 1 ⟨mkCs 33 1 (.cons .snil .nil)⟩⟩ 1 (.tmp 83) (.tmp 85)⟩) (by kernel_rfl) rfl (by kernel_rfl) (by simp; exact a1) ?_
     refine leP 1 [xM 86 6] ?_
     refine WPO.nil ?_
     refine leP 3 [xM 9 62, xC akAdd 62 1 63, xM 63 9] ?_
     have a5n := a5.1
     simp at a5n
     have h5c : Own H5 0 H5.next cur' (marks i (l.length + (k + 1))) := (h4c.keep kn (fun _ _ _ _ => id) (Nat.le_refl _) (Nat.le_refl _) (Nat.le_refl _)).keep a5 (fun b _ _ e e2 => lst_ne hl5 (h4c.keep kn (fun _ _ _ _ => id) (Nat.le_refl _) (Nat.le_refl _) (Nat.le_refl _)) e2 e) (by simp) (Nat.le_refl _) (by omega)
     refine WPO.nil ⟨rfl, (k + 1, cur', gv2, G' ++ [cur']), _, rfl, by simp, ⟨by first | omega | (simp only; omega), ?_, by first | omega | (simp only; omega), a2, ?_, h5c, h4s, fun j w m h1 h2 => ?_, fun t g hg => ?_⟩, by first | omega | (simp only; omega)⟩
     ·exact (h4k.trans (kn.mono fun _ _ e => e.elim)).trans' a5 fun b hb e => absurd (hl5.low e).1 (by omega)
     ·simp only [List.length_append, List.length_singleton]
      refine ⟨fun _ => ?_, fun _ _ => ?_, fun _ _ => ?_, fun _ => ?_⟩ <;> omega
     ·obtain ⟨q1, q2⟩ := h4o j w m h1 h2
      refine ⟨fun hj => ?_, (q2.keep kn fun _ _ _ => id).keep a5 hbb⟩
      exact ((q1 hj).keep kn (fun _ _ _ _ => id) (by omega) (Nat.le_refl _) (Nat.le_refl _)).keep a5 (fun b _ hb e e2 => absurd (hl5.low e2).1 (by omega)) (by simp; omega) (Nat.le_refl _) (Nat.le_refl _)
     ·simp only at hg
      rcases Nat.lt_or_ge t G'.length with ht | ht
      ·rw [List.getElem?_append_left ht] at hg
       obtain ⟨len, q1, q2⟩ := h4g t g hg
       exact ⟨len, (q1.keep kn fun _ _ _ => id).keep a5 hbb, q2⟩
      ·have htl := get_lt hg
       simp only [List.length_append, List.length_singleton] at htl
       have : t = G'.length := by omega
       subst this
       simp at hg
       subst hg
       have hdiv : G'.length / 5 = i := by omega
       rw [hdiv]
       exact ⟨_, h5c.good' (Nat.le_refl _) (by omega), by omega⟩
    ·have htk : ¬ (k < 3 ∨ k = 8 ∨ k = 19) := fun h => by rw [htk.2 h] at ht; cases ht
     refine leP 3 [xM 9 62, xC akAdd 62 1 63, xM 63 9] ?_
     refine WPO.nil ⟨rfl, (k + 1, cur', gv', G'), _, rfl, by simp, ⟨by first | omega | (simp only; omega), h4k, by first | omega | (simp only; omega), h4l, ?_, h4c, h4s, h4o, h4g⟩, by first | omega | (simp only; omega)⟩
     simp only
     refine ⟨fun _ => ?_, fun _ _ => ?_, fun _ _ => ?_, fun _ => ?_⟩ <;> omega
 ·have hc : i < S.length := of_decide_eq_true hc
  have hi1 : S[i]? = some (S[i]) := List.getElem?_eq_getElem hc
  have hi2 : Bs[i]? = some (Bs[i]'(by omega)) := List.getElem?_eq_getElem _
  have hll := hbs (Bs[i]'(by omega)) (List.getElem_mem _)
  generalize S[i] = v at hi1
  generalize Bs[i]'_ = l at hi2 hll
  obtain ⟨b, o, e1, e2, e3, _⟩ := hrd i v hi1
  have ho := hown' i v l hi1 hi2
  rw [if_neg (Nat.lt_irrefl _)] at ho
  have hvl := ho.len
  refine WP.seqR ?_
  refine lkP 8 [xM 0 23, ⟨⟨nilChk E (.tmp 23)⟩, (some 24), none⟩, xF 24 0 25, xL 25 26, xM 3 27, xI 1 26 27 28, xL 28 29, xM 29 4] (by simp (disch := omega) [gp, r0, e1, e2, e3, hc]; exact rfl) ?_
  refine WPO.nilS (WP.seqR ?_)
  refine leP 1 [xK 0 5] ?_
  refine WPO.nilS (WP.forE (σ := Nat) (fun k => [(0, .ptr pb 0), (3, .int .i64 (i : Int)), (4, v), (5, .int .i64 (k : Int))])
   (fun k H2 => k ≤ l.length ∧ Keep (fun b => sblk v = some b) H' H2 ∧ Own H2 0 B v (mix k (marks i l.length) l)) (fun k => l.length - k) 0 ⟨by omega, Keep.refl _ _, by rw [mix_zero]; exact ho⟩ (by simp) ?_)
  rintro k H2 ⟨hk, hk2, ho2⟩
  have hml : (mix k (marks i l.length) l).length = l.length := by rw [mix_len (by rw [marks_len]), marks_len]
  refine lkP 4 [xM 5 30, xM 4 31, xN 31 32, xB akLss 30 32 33] (by simp (disch := omega) [hvl]; exact rfl) ?_
  refine WPO.nil ⟨decide (k < l.length), _, rfl, by simp, fun hc => ?_, fun hc => ?_⟩
  ·have hc : k = l.length := by have := of_decide_eq_false hc; omega
   subst hc
   have hmx : mix l.length (marks i l.length) l = marks i l.length := by
    have := mix_all (m := marks i l.length) (l := l) (by rw [marks_len])
    rwa [marks_len] at this
   rw [hmx] at ho2
   refine leP 3 [xM 3 21, xC akAdd 21 1 22, xM 22 3] ?_
   refine WPO.nil ⟨rfl, i + 1, _, rfl, by simp, ⟨by omega, hk'.trans (hk2.mono fun b _ e => ⟨v, List.mem_of_getElem? hi1, e⟩), fun j w m h1 h2 => ?_⟩, by omega⟩
   by_cases hj : j = i
   ·subst hj
    rw [hi1] at h1; rw [hi2] at h2
    cases h1; cases h2
    rw [if_pos (by omega)]; exact ho2
   ·have := (hown' j w m h1 h2).keep hk2 (fun b _ _ e e2 => hap.ne hi1 h1 (Ne.symm hj) e2 e) (Nat.le_trans hB hk'.1) (Nat.le_refl _) (Nat.le_refl _)
    by_cases hji : j < i
    ·rw [if_pos hji] at this; rw [if_pos (by omega)]; exact this
    ·rw [if_neg hji] at this; rw [if_neg (by omega)]; exact this
  ·have hc : k < l.length := of_decide_eq_true hc
   obtain ⟨b', f1, _, f2, f3⟩ := ho2.pos (by omega)
   rw [hml] at f1
   have hmk := mk_int i k
   have hset := mix_set (m := marks i l.length) (l := l) (k := k) (x := mk i k) (by rw [marks_len]) (marks_get _ _ hc)
   have hst := st1'_bb (mk i k) f3 (i := k) (by omega)
   rw [hset] at hst
   refine WP.region ?_
   refine lkP 8 [xM 4 36, xM 5 37, xM 3 38, xM 5 39, ⟨⟨binInt ⟨quoA⟩ (.tmp 39) (.const (.int .i64 251))⟩, (some 40), none⟩, xB akAdd 38 40 41, ⟨⟨cvInt .u8 (.tmp 41)⟩, (some 42), none⟩, xI 1 36 37 43] (by simp (disch := omega) [f1, hmk.symm, hc]; exact rfl) ?_
   refine WPO.heavy1 tyOk extOk (k := ⟨hvStore ⟨st1'⟩ (.tmp 43) (.tmp 42)⟩) (by kernel_rfl) rfl (by kernel_rfl) (by simp [hst]; exact ⟨rfl, rfl⟩) ?_
   refine WPO.nil ?_
   refine leP 3 [xM 5 34, xC akAdd 34 1 35, xM 35 5] ?_
   have hks : Keep (fun b => sblk v = some b) H2 (H2.set b' (bb 5 true (mix (k + 1) (marks i l.length) l))) := Keep.set _ fun _ => by rw [f1]; rfl
   have hml2 : (mix (k + 1) (marks i l.length) l).length = l.length := by rw [mix_len (by rw [marks_len]), marks_len]
   refine WPO.nil ⟨rfl, k + 1, _, rfl, by simp [f1], ⟨by omega, hk2.trans hks, .inr (.inr ⟨b', by rw [hml2]; exact f1, fun e => ?_, by omega, f2, get_set_same _ _ _⟩)⟩, by omega⟩
   rw [e] at hml2
   simp at hml2
   omega
theorem fix_byte (n k : Nat) : ((UInt8.ofNat (n / 256 ^ k)).toNat : Int) = (((n / 256 ^ k) % 256 : Nat) : Int) := by rw [UInt8.toNat_ofNat']
theorem fixed01_ok {H : AH} {n w : Nat} (hn : n < 18446744073709551616) (hw : 1 ≤ w) (hw8 : w ≤ 8) :
  DC Tryz.prog .normal 125 (.cons (.int .u64 (n : Int)) (.cons (.int .i64 (w : Int)) .nil)) H fun v' H2 => OwnB 5 H2 H.next v' (fixedL n w) ∧ Keep noB H H2 := by
 refine DC.of_wd (re := reTmp 4 reNil) tyOk Tryz.func125 (by kernel_rfl) rfl (by kernel_rfl) (by kernel_rfl) ?_
 rw [tl_nil, argsT_cons, argsT_cons, argsT_nil]
 have f1 : ¬ (w : Int) < 1 := by omega
 have f2 : ¬ (8 : Int) < (w : Int) := by omega
 refine WD.seqR ?_
 refine leD 1 [⟨lkMove (.const (.slice none 0 0)), (some 4), none⟩] ?_
 refine WDO.nilS (WD.seqR ?_)
 refine leD 1 [⟨lkMove (.const (.slice none 0 0)), (some 5), none⟩] ?_
 refine WDO.nilS (WD.seq (WD.seqR ?_))
 refine lkD 6 [xM 1 9, xC akLss 9 1 10, xM 10 11, yM 1 12 11 false, yC akGtr 12 8 13 11 false, xP 11 13 14 true] (by simp (disch := omega) [f1, f2]; exact rfl) ?_
 refine WDO.nilS (WD.cond (t := false) (by simp) (by simp) fun _ => WD.skip (.inl rfl) (WD.seq (WD.seqR ?_)))
 refine leD 3 [xM 1 16, xC akSub 16 1 17, xM 17 6] ?_
 refine WDO.nilS (WD.forE (σ := Nat × AV) (fun s => [(0, .int .u64 (n : Int)), (1, .int .i64 (w : Int)), (5, s.2), (6, .int .i64 ((s.1 : Int) - 1))])
  (fun s H' => s.1 ≤ w ∧ OwnB 5 H' H.next s.2 ((fixedL n w).take (w - s.1)) ∧ Keep noB H H') (fun s => s.1) (w, .snil) ⟨Nat.le_refl _, .inl ⟨rfl, by simp⟩, Keep.refl _ _⟩ (by simp) ?_)
 rintro ⟨r, lv⟩ H' ⟨hr, ho, hk⟩
 refine leD 2 [xM 6 18, xC akGeq 18 0 19] ?_
 refine WDO.nil ⟨!decide ((r : Int) - 1 < 0), _, rfl, by simp, fun hc => ?_, fun hc => ?_⟩
 ·have hc : r = 0 := by simp at hc; omega
  subst hc
  rw [Nat.sub_zero, List.take_of_length_le (by rw [fixedL_len]; exact Nat.le_refl _)] at ho
  refine WD.seqR ?_
  refine leD 2 [xM 5 36, xM 36 4] ?_
  refine WDO.nilS (WD.ret (endR _ (by simp; rfl) ⟨?_, hk⟩))
  exact ho
 ·obtain ⟨k, rfl⟩ : ∃ k, r = k + 1 := ⟨r - 1, by simp at hc; omega⟩
  simp only at hr ho
  refine WD.seqR ?_
  refine leD 2 [xM 0 22, xM 22 7] ?_
  refine WDO.nilS (WD.seq (WD.seqR ?_))
  refine leD 1 [xK 0 8] ?_
  refine WDO.nilS (WD.forE (σ := Nat) (fun i => [(0, .int .u64 (n : Int)), (1, .int .i64 (w : Int)), (5, lv), (6, .int .i64 (k : Int)), (7, .int .u64 ((n / 256 ^ i : Nat) : Int)), (8, .int .i64 (i : Int))]) (fun i H2 => i ≤ k ∧ H' = H2) (fun i => k - i) 0 ⟨Nat.zero_le _, rfl⟩ (by simp) ?_)
  rintro i _ ⟨hi, rfl⟩
  have hfb := fix_byte n i
  have hm : n / 256 ^ i < 18446744073709551616 := Nat.lt_of_le_of_lt (Nat.div_le_self _ _) hn
  have hnx : n / 256 ^ (i + 1) = n / 256 ^ i / 256 := by rw [Nat.pow_succ, Nat.div_div_eq_div_mul]
  have hget := fixedL_get n w (i := w - (k + 1)) (by omega)
  rw [show w - 1 - (w - (k + 1)) = k by omega] at hget
  generalize hm0 : n / 256 ^ i = m at hfb hm hnx ⊢
  refine leD 3 [xM 8 23, xM 6 24, xB akLss 23 24 25] ?_
  refine WDO.nil ⟨decide (i < k), _, rfl, by simp, fun hc => ?_, fun hc => ?_⟩
  ·have hc : i = k := by have := of_decide_eq_false hc; omega
   subst hc
   rw [hm0] at hget
   generalize hy : UInt8.ofNat m = y at hget hfb
   obtain ⟨q, hq⟩ : ∃ q, q = m % 256 := ⟨_, rfl⟩
   have g1 : remA .u64 (m : Int) 256 = some (.int .u64 (q : Int)) := remA_nat (d := 256) (by omega) hq
   have g2 : (q : Int) % 256 = (y.toNat : Int) := by omega
   refine WD.region ?_
   refine lkD 4 [xM 5 30, xM 7 31, ⟨⟨binInt ⟨remA⟩ (.tmp 31) (.const (.int .u64 256))⟩, (some 32), none⟩, ⟨⟨cvInt .u8 (.tmp 32)⟩, (some 33), none⟩] (by simp (disch := omega) [g1, g2]; exact rfl) ?_
   refine WDO.fresh1 tyOk (k := ⟨frSlice 1 (zerosA (.cons (.int .u8 0) .nil) 1) ⟨fill1 (.tmp 33) 0 1 flEnd⟩ ⟨mkBy 5⟩⟩) (by kernel_rfl) rfl (by kernel_rfl) (v := .sl H'.next 0 1 (some 1)) (x := bb 5 false [y]) ?_ ?_
   ·dsimp only
    have := leA_bytes [y]
    simp only [List.map_cons, List.map_nil, avl_cons, avl_nil] at this
    simp [mkBy, this, bb]
   have kn : Keep noB H' (H'.new (bb 5 false [y])) := Keep.new _ _ _
   have ho2 := ho.keep kn fun _ _ => id
   obtain ⟨v', H2, a1, a2, a3, a4⟩ := ho2.app (l := [y]) (x := .sl H'.next 0 1 (some 1)) (by have := hk.1; simp; omega) (.bb' rfl (by simp) (get_new_same _ _)) (by simp [fixedL_len]; omega)
   refine WDO.heavy1 tyOk extOk (k := ⟨hvAppend ⟨grownBy 5⟩ 1 (.tmp 30) (.tmp 34)⟩) (by kernel_rfl) rfl (by kernel_rfl) (by simp; exact a1) ?_
   refine leD 1 [xM 35 5] ?_
   refine WDO.nil ?_
   refine leD 3 [xM 6 20, xC akSub 20 1 21, xM 21 6] ?_
   refine WDO.nil ⟨rfl, (i, v'), _, rfl, by simp, ⟨by first | omega | (simp only; omega), ?_, (hk.trans kn).trans' a3 fun b hb e => absurd (ho2.low e).1 (by omega)⟩, by simp⟩
   have e : w - i = (w - (i + 1)) + 1 := by omega
   simp only
   rw [e, List.take_add_one, hget]
   exact a2
  ·have hc : i < k := of_decide_eq_true hc
   obtain ⟨d, hd⟩ : ∃ d, d = m / 256 := ⟨_, rfl⟩
   have g2 : quoA .u64 (m : Int) 256 = some (.int .u64 (d : Int)) := quoA_u64 (d := 256) (by omega) hm hd
   rw [← hd] at hnx
   refine WD.region ?_
   refine lkD 3 [xM 7 28, ⟨⟨binInt ⟨quoA⟩ (.tmp 28) (.const (.int .u64 256))⟩, (some 29), none⟩, xM 29 7] (by simp (disch := omega) [g2]; exact rfl) ?_
   refine WDO.nil ?_
   refine leD 3 [xM 8 26, xC akAdd 26 1 27, xM 27 8] ?_
   exact WDO.nil ⟨rfl, i + 1, _, rfl, by simp [hnx], ⟨by omega, rfl⟩, by omega⟩
theorem fill_down {t : List UInt8} {k : Nat} {x : UInt8} (hx : t[k]? = some x) : (List.replicate (k + 1) 0 ++ t.drop (k + 1)).set k x = List.replicate k 0 ++ t.drop k := by
 have hk := get_lt hx
 have e : List.replicate (k + 1) (0 : UInt8) = List.replicate k 0 ++ [0] := List.replicate_succ'
 have h2 : t.drop k = x :: t.drop (k + 1) := by
  rw [List.drop_eq_getElem_cons hk]
  rw [List.getElem?_eq_getElem hk] at hx
  cases hx; rfl
 rw [e, List.append_assoc, List.set_append, if_neg (by simp), List.length_replicate, Nat.sub_self, h2]; rfl
theorem fixedInk_ok {H : AH} {n w : Nat} (hn : n < 18446744073709551616) (hw : 1 ≤ w) (hw8 : w ≤ 8) :
  DC Tryz.prog .normal 130 (.cons (.int .u64 (n : Int)) (.cons (.int .i64 (w : Int)) .nil)) H fun v' H2 => v' = .sl H.next 0 w (some w) ∧ H2.next = H.next + 1 ∧ H2.get H.next = some (bb 5 false (fixedL n w)) ∧ Keep noB H H2 := by
 refine DC.of_wd (re := reTmp 4 reNil) tyOk Tryz.func130 (by kernel_rfl) rfl (by kernel_rfl) (by kernel_rfl) ?_
 rw [tl_nil, argsT_cons, argsT_cons, argsT_nil]
 have f1 : ¬ (w : Int) < 1 := by omega
 have f2 : ¬ (8 : Int) < (w : Int) := by omega
 refine WD.seqR ?_
 refine leD 1 [⟨lkMove (.const (.slice none 0 0)), (some 4), none⟩] ?_
 refine WDO.nilS (WD.seq (WD.seqR ?_))
 refine lkD 6 [xM 1 7, xC akLss 7 1 8, xM 8 9, yM 1 10 9 false, yC akGtr 10 8 11 9 false, xP 9 11 12 true] (by simp (disch := omega) [f1, f2]; exact rfl) ?_
 refine WDO.nilS (WD.cond (t := false) (by simp) (by simp) fun _ => WD.skip (.inl rfl) (WD.seqR ?_))
 refine leD 1 [xM 1 13] ?_
 refine WDO.fresh1 tyOk (k := ⟨frMake E 5 1 (.tmp 13) (.tmp 13)⟩) (by kernel_rfl) rfl (by kernel_rfl) (v := .sl H.next 0 w (some w)) (x := bb 5 false (List.replicate w 0)) ?_ ?_
 ·dsimp only
  refine frMake_u8 (E := E) (e := 5) (bytes := 1) (l := .tmp 13) (c := .tmp 13) (n := w) (m := w) (mkZero5 _) ?_ ?_ (Nat.le_refl _) (by omega) (by omega)
  ·simp
  ·simp
 refine leD 1 [xM 14 5] ?_
 refine WDO.nilS (WD.seq (WD.seqR ?_))
 refine leD 3 [xM 1 15, xC akSub 15 1 16, xM 16 6] ?_
 refine WDO.nilS (WD.forE (σ := Nat) (fun r => [(0, .int .u64 ((n / 256 ^ (w - r) : Nat) : Int)), (1, .int .i64 (w : Int)), (5, .sl H.next 0 w (some w)), (6, .int .i64 ((r : Int) - 1))])
  (fun r H' => r ≤ w ∧ H'.next = H.next + 1 ∧ H'.get H.next = some (bb 5 false (List.replicate r 0 ++ (fixedL n w).drop r)) ∧ Keep noB H H') (fun r => r) w
  ⟨Nat.le_refl _, by simp, by rw [List.drop_of_length_le (by rw [fixedL_len]; exact Nat.le_refl _), List.append_nil]; exact get_new_same _ _, Keep.new _ _ _⟩ (by simp) ?_)
 rintro r H' ⟨hr, hnx, hg, hk⟩
 generalize hm0 : n / 256 ^ (w - r) = m
 refine leD 2 [xM 6 17, xC akGeq 17 0 18] ?_
 refine WDO.nil ⟨!decide ((r : Int) - 1 < 0), _, rfl, by simp, fun hc => ?_, fun hc => ?_⟩
 ·have hc : r = 0 := by simp at hc; omega
  subst hc
  refine WD.seqR ?_
  refine leD 2 [xM 5 28, xM 28 4] ?_
  exact WDO.nilS (WD.ret (endR _ (by simp; rfl) ⟨rfl, hnx, by simpa using hg, hk⟩))
 ·obtain ⟨k, rfl⟩ : ∃ k, r = k + 1 := ⟨r - 1, by simp at hc; omega⟩
  have hfb := fix_byte n (w - (k + 1))
  have hget := fixedL_get n w (i := k) (by omega)
  rw [show w - 1 - k = w - (k + 1) by omega] at hget
  have hst0 := fill_down hget
  have hd : n / 256 ^ (w - k) = n / 256 ^ (w - (k + 1)) / 256 := by rw [show w - k = (w - (k + 1)) + 1 by omega, Nat.pow_succ, Nat.div_div_eq_div_mul]
  rw [hm0] at hfb hget hst0 hd
  generalize UInt8.ofNat m = y at hget hfb hst0
  obtain ⟨q, hq⟩ : ∃ q, q = m / 256 := ⟨_, rfl⟩
  rw [← hq] at hd
  have g2 : (m : Int) % 256 = (y.toNat : Int) := by omega
  have g3 : shrA .u64 (m : Int) 8 = some (.int .u64 (q : Int)) := shrA_u64 hq
  have hst := st1'_bb y hg (i := k) (by simp; omega)
  rw [hst0] at hst
  have hkw : k < w := by omega
  refine WD.seqR ?_
  refine lkD 5 [xM 5 21, xM 6 22, xM 0 23, ⟨⟨cvInt .u8 (.tmp 23)⟩, (some 24), none⟩, xI 1 21 22 25] (by simp (disch := omega) [g2]; exact rfl) ?_
  refine WDO.heavy1 tyOk extOk (k := ⟨hvStore ⟨st1'⟩ (.tmp 25) (.tmp 24)⟩) (by kernel_rfl) rfl (by kernel_rfl) (by simp [hst]; exact ⟨rfl, rfl⟩) ?_
  refine WDO.nilS (WD.region ?_)
  refine lkD 3 [xM 0 26, ⟨⟨binShr (.tmp 26) (.const (.int .u64 8))⟩, (some 27), none⟩, xM 27 0] (by simp (disch := omega) [g3]; exact rfl) ?_
  refine WDO.nil ?_
  refine leD 3 [xM 6 19, xC akSub 19 1 20, xM 20 6] ?_
  refine WDO.nil ⟨rfl, k, _, rfl, by simp [hd], ⟨by omega, by simp [hnx], get_set_same _ _ _, hk.trans' (Keep.set (S := fun b => b = H.next) _ fun _ => rfl) fun b hb h => ?_⟩, by omega⟩
  subst h; exact absurd hb (by omega)
end
end Go.Proofs.YtfgipbjaapkdlaaGreatDoor
