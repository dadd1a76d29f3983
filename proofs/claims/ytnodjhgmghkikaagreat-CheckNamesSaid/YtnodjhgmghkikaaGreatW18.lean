/- A part of the proof of this seat's statement. Conditions: in each theorem. -/
import Derived.Test.YtnodjhgmghkikaaGreatW17
import Derived.Conc.Beside
import Derived.DuoClaim
import Derived.Conc.WgGenN3
namespace Go.Xq
open Go.Conc (crowd Leavers Past Deaf QuitsD runT_crowd_go crowd_pick EvL woken_quitsD awake_of Deaf_other Deaf_own woken_run awake woken)
open Go.ConcN (sumTo upd sumTo_upd upd_ne upd_same)
def ShunB (SB : Nat → Prop) (l : Loc) : Prop := ∃ a, l = .cell a ∧ SB a.block
theorem Restr.at_ {v W : World} (h : Restr v W) (d : Nat) : Restr (v.at d) (W.at d) := ⟨h.tape, rfl, h.os, h.output, h.size, h.own, h.shr, h.nv⟩
theorem Idle.at_ (v : World) (d : Nat) : Idle v (v.at d) := Idle.draw v d
structure Outer (P : Program) (SB : Nat → Prop) (gs : Array Goroutine) (W : World) (t : Trace) (fr : Frame) (cs : List Frame) (v : World) : Prop where
  main : gs[0]? = some (Conc.G fr cs)
  lv : ∃ q, Leavers P t gs q
  past : Past (ShunB SB) W.heap.size t
  restr : Restr v W
  shun : ∀ k, SB k → ∃ o, v.heap[k]? = some o ∧ Dead o
  gsz : ∀ op ∈ t, op.g < gs.size
  norel : ∀ op ∈ t, ∀ a, op.act ≠ .mark (.release a)
theorem Beside.andThen {v v' W W' W2 : World} (h : Beside v W W') (hs : Stays v v') (h' : Beside v' W' W2) : Beside v W W2 :=
  ⟨h'.tape.trans h.tape, h'.os.trans h.os, h'.output.trans h.output, Nat.le_trans h.size h'.size, fun k o hk hd => (h'.block k o (hs k o hk hd) hd).trans (h.block k o hk hd)⟩
theorem evL_of {SB : Nat → Prop} {v : World} {n : Nat} {e : Event} (hs : ∀ k, SB k → ∃ o, v.heap[k]? = some o ∧ Dead o) (h : EvOk v n e) : EvL (ShunB SB) n e := by
  rcases h with ⟨a, h1, h2, hlt, h3⟩ | ⟨r, h1, h2, hlt, h3⟩ | h1
  · obtain ⟨l, wr, sy⟩ := e
    have h1 : l = .cell a := h1
    have h2 : sy = false := h2
    subst h1; subst h2
    refine Conc.evL_cell a wr ?_ hlt
    rintro ⟨a', e1, e2⟩
    cases e1
    obtain ⟨o, ho, hd⟩ := hs _ e2
    rcases h3 with h3 | ⟨o', h3, h4, _⟩
    · have := (Array.getElem?_eq_some_iff.1 ho).1; omega
    · rw [ho] at h3; cases h3; exact h4 hd
  · obtain ⟨l, wr, sy⟩ := e
    have h1 : l = .obj r := h1
    have h2 : sy = false := h2
    subst h1; subst h2
    have e1 : MemAct.ofEvent ⟨.obj r, wr, false⟩ = .access ⟨.obj r, wr, false⟩ := by cases wr <;> rfl
    refine ⟨fun x hx hss => ?_, by simp, by simp, ?_⟩
    · rw [e1] at hx
      simp only [MemAct.touch?, Option.some.injEq] at hx
      subst hx
      obtain ⟨a', e3, _⟩ := hss
      cases e3
    · rw [e1]; exact hlt
  · obtain ⟨l, wr, sy⟩ := e
    have h1 : l = .mark .noRoom := h1
    subst h1
    exact ⟨fun x hx _ => by simp [MemAct.ofEvent, MemAct.touch?] at hx, by simp, by simp, trivial⟩
theorem evOk_norel {v : World} {n : Nat} {e : Event} (h : EvOk v n e) (a : Addr) : MemAct.ofEvent e ≠ .mark (.release a) := by
  obtain ⟨l, wr, sy⟩ := e
  rcases h with ⟨b, h1, h2, _⟩ | ⟨r, h1, h2, _⟩ | h1
  · have h1 : l = .cell b := h1
    have h2 : sy = false := h2
    subst h1; subst h2
    simp [MemAct.ofEvent]
  · have h1 : l = .obj r := h1
    have h2 : sy = false := h2
    subst h1; subst h2
    cases wr <;> simp [MemAct.ofEvent]
  · have h1 : l = .mark .noRoom := h1
    subst h1
    simp [MemAct.ofEvent]
theorem mute_norel {e : Event} (h : e.mute = true) (a : Addr) : MemAct.ofEvent e ≠ .mark (.release a) := by
  obtain ⟨l, wr, sy⟩ := e
  cases l <;> simp_all [Event.mute]
  rename_i m
  cases m <;> simp_all [MemAct.ofEvent]
section
variable {P : Program} {SB : Nat → Prop} {fr fr' : Frame} {cs cs' : List Frame}
theorem outer_awake {gs : Array Goroutine} {t : Trace} {q : Nat → Nat} (h0 : gs[0]? = some (Conc.G fr cs)) (hL : Leavers P t gs q) : ∀ g ∈ gs, awake g := by
  intro g hg
  obtain ⟨i, hi, rfl⟩ := Array.mem_iff_getElem.1 hg
  rcases Nat.eq_zero_or_pos i with rfl | hpos
  · have : gs[0] = Conc.G fr cs := by simpa [Array.getElem?_eq_getElem hi] using h0
    rw [this]; exact awake_of (.inl rfl)
  · exact awake_of ((hL.old i _ hpos (Array.getElem?_eq_getElem hi)).status.elim .inl fun x => .inr (.inr x))
theorem leaver_slips {gs : Array Goroutine} {W : World} {sl : Option (Nat × Nat)} {t : Trace} {q : Nat → Nat} {i : Nat} {g : Goroutine} (hL : Leavers P t gs q) (hpos : 0 < i) (hi : gs[i]? = some g) (hg : g.status = .running) :
    ∃ g' es k, q i = k + 1 ∧ (∀ e ∈ es, Event.mute e = true) ∧ runT P (crowd gs W sl) i = (.next (crowd ((gs.map (woken P g g' W)).setIfInBounds i g') W sl), MemOp.ofEvents i g.frame.fn g.frame.place es) ∧
      (∀ a0, gs[0]? = some a0 → a0.status = .running → ((gs.map (woken P g g' W)).setIfInBounds i g')[0]? = some a0) ∧
      Leavers P (t ++ MemOp.ofEvents i g.frame.fn g.frame.place es) ((gs.map (woken P g g' W)).setIfInBounds i g') (upd q i k) ∧ sumTo gs.size (upd q i k) + 1 = sumTo gs.size q ∧ ((gs.map (woken P g g' W)).setIfInBounds i g').size = gs.size := by
  have hq := hL.old i g hpos hi
  have hi0 : (i == 0) = false := by simp; omega
  have hlt : i < gs.size := (Array.getElem?_eq_some_iff.1 hi).1
  cases hqi : q i with
  | zero => rw [hqi] at hq; rw [hq.1] at hg; cases hg
  | succ k =>
    rw [hqi] at hq
    rcases hq with ⟨hf, _⟩ | ⟨_, g', es, hm, hstp, hq'⟩
    · rw [hf] at hg; cases hg
    have hsum : sumTo gs.size (upd q i k) + (k + 1) = sumTo gs.size q + k := by
      have := sumTo_upd q k id hlt
      simpa [hqi] using this
    refine ⟨g', es, k, rfl, hm, runT_crowd_go hi (by rw [hi0]; exact hstp W), fun a0 h0 hr => ?_, ⟨fun j x hj hx => ?_, fun j hj => ?_⟩, by omega, by simp⟩
    · rw [Array.getElem?_setIfInBounds_ne (show i ≠ 0 by omega), Array.getElem?_map, h0]
      simp [woken_run hr]
    · by_cases hji : i = j
      · subst hji
        rw [Array.getElem?_setIfInBounds_self_of_lt (by simpa using hlt)] at hx
        obtain rfl := Option.some.inj hx
        rw [upd_same, Deaf_own]
        exact hq'
      · rw [Array.getElem?_setIfInBounds_ne hji, Array.getElem?_map] at hx
        obtain ⟨y, hy, rfl⟩ := Option.map_eq_some_iff.1 hx
        have hqj := hL.old j y hj hy
        rw [woken_quitsD hqj, upd_ne q k (Ne.symm hji), Deaf_other t hji _ (fun op hop => by obtain ⟨e, _, rfl⟩ := Conc.mem_ofEvents hop; rfl)]
        exact hqj
    · rw [Deaf_other t (g' := i) (by simp at hj; omega) _ (fun op hop => by obtain ⟨e, _, rfl⟩ := Conc.mem_ofEvents hop; rfl)]
      exact hL.above j (by simpa using hj)
theorem leavers_main {gs : Array Goroutine} {W : World} {t : Trace} {q : Nat → Nat} {a a' : Goroutine} {fn : FuncId} {pos : String} {es : Array Event} (hL : Leavers P t gs q) (h0 : 0 < gs.size) :
    Leavers P (t ++ MemOp.ofEvents 0 fn pos es) ((gs.map (woken P a a' W)).setIfInBounds 0 a') q := by
  refine ⟨fun j x hj hx => ?_, fun j hj => ?_⟩
  · rw [Array.getElem?_setIfInBounds_ne (show 0 ≠ j by omega), Array.getElem?_map] at hx
    obtain ⟨y, hy, rfl⟩ := Option.map_eq_some_iff.1 hx
    have hq := hL.old j y hj hy
    rw [woken_quitsD hq, Deaf_other t (g := j) (g' := 0) (by omega) _ (fun op hop => by obtain ⟨e, _, rfl⟩ := Conc.mem_ofEvents hop; rfl)]
    exact hq
  · rw [Deaf_other t (g' := 0) (by simp at hj; omega) _ (fun op hop => by obtain ⟨e, _, rfl⟩ := Conc.mem_ofEvents hop; rfl)]
    exact hL.above j (by simpa using hj)
theorem _root_.Go.Conc.runNT_one {m m1 m2 : Machine} {i : Nat} {ops : Array MemOp} (hst : stepT P m = runT P m1 i) (hr : runT P m1 i = (.next m2, ops)) (t : Trace) : runNT P 1 m t = (.next m2, t ++ ops) := by
  simp only [runNT, hst, hr]
theorem outer_step (f : World → Frame × List Frame × World) : ∀ (M : Nat) (gs : Array Goroutine) (W : World) (sl : Option (Nat × Nat)) (t : Trace) (v : World) (q : Nat → Nat), sumTo gs.size q ≤ M → Leavers P t gs q → Outer P SB gs W t fr cs v →
    (∀ w1, Idle v w1 → Lifts P fr cs w1 (f w1).1 (f w1).2.1 (f w1).2.2) →
    ∃ (N : Nat) (gs' : Array Goroutine) (W' : World) (sl' : Option (Nat × Nat)) (t' : Trace) (v1 : World), Idle v v1 ∧ runNT P N (crowd gs W sl) t = (.next (crowd gs' W' sl'), t') ∧ Outer P SB gs' W' t' (f v1).1 (f v1).2.1 (f v1).2.2 ∧ Stays v (f v1).2.2 ∧ Beside v W W' := by
  intro M
  induction M with
  | zero =>
    intro gs W sl t v q hM hL h hl
    obtain ⟨i, g, d, sl', hi, hg, hst⟩ := crowd_pick (P := P) (w := W) (sl := sl) (outer_awake h.main hL) ⟨0, _, h.main, rfl⟩
    have hlt0 : 0 < gs.size := (Array.getElem?_eq_some_iff.1 h.main).1
    rcases Nat.eq_zero_or_pos i with rfl | hpos
    · rw [h.main] at hi; cases hi
      obtain ⟨W', es, h1, ⟨h2, h2s⟩, h3, h4⟩ := hl (v.at d) (Idle.at_ v d) true (W.at d) (h.restr.at_ d)
      have hrunT := runT_crowd_go (P := P) (sl := sl') (i := 0) h.main (show stepG P (0 == 0) _ (W.at d) = _ from h1)
      have hone := Conc.runNT_one hst hrunT t
      refine ⟨1, _, W', sl', _, v.at d, Idle.at_ v d, hone, ⟨by simp [hlt0], ⟨q, leavers_main hL hlt0⟩, ?_, h2, fun k hk => ?_, fun op hop => ?_, fun op hop a => ?_⟩, fun k o hk hd => h2s k o hk hd, ⟨h3.tape, h3.os, h3.output, h3.size, fun k o hk hd => h3.block k o hk hd⟩⟩
      · exact (h.past.mono h3.size).own (fun e he => evL_of (v := v.at d) h.shun (h4 e he))
      · obtain ⟨o, ho, hd⟩ := h.shun k hk
        exact ⟨o, h2s k o ho (.inl hd), hd⟩
      · rcases Array.mem_append.1 hop with ho | ho
        · simpa using h.gsz op ho
        · obtain ⟨e, _, rfl⟩ := Conc.mem_ofEvents ho
          simpa using hlt0
      · rcases Array.mem_append.1 hop with ho | ho
        · exact h.norel op ho a
        · obtain ⟨e, he, rfl⟩ := Conc.mem_ofEvents ho
          exact evOk_norel (h4 e he) a
    · obtain ⟨g', es, k, hqk, _, _, _, _, hsum, _⟩ := leaver_slips (W := W.at d) (sl := sl') hL hpos hi hg
      omega
  | succ M ih =>
    intro gs W sl t v q hM hL h hl
    obtain ⟨i, g, d, sl', hi, hg, hst⟩ := crowd_pick (P := P) (w := W) (sl := sl) (outer_awake h.main hL) ⟨0, _, h.main, rfl⟩
    have hlt0 : 0 < gs.size := (Array.getElem?_eq_some_iff.1 h.main).1
    rcases Nat.eq_zero_or_pos i with rfl | hpos
    · rw [h.main] at hi; cases hi
      obtain ⟨W', es, h1, ⟨h2, h2s⟩, h3, h4⟩ := hl (v.at d) (Idle.at_ v d) true (W.at d) (h.restr.at_ d)
      have hrunT := runT_crowd_go (P := P) (sl := sl') (i := 0) h.main (show stepG P (0 == 0) _ (W.at d) = _ from h1)
      have hone := Conc.runNT_one hst hrunT t
      refine ⟨1, _, W', sl', _, v.at d, Idle.at_ v d, hone, ⟨by simp [hlt0], ⟨q, leavers_main hL hlt0⟩, ?_, h2, fun k hk => ?_, fun op hop => ?_, fun op hop a => ?_⟩, fun k o hk hd => h2s k o hk hd, ⟨h3.tape, h3.os, h3.output, h3.size, fun k o hk hd => h3.block k o hk hd⟩⟩
      · exact (h.past.mono h3.size).own (fun e he => evL_of (v := v.at d) h.shun (h4 e he))
      · obtain ⟨o, ho, hd⟩ := h.shun k hk
        exact ⟨o, h2s k o ho (.inl hd), hd⟩
      · rcases Array.mem_append.1 hop with ho | ho
        · simpa using h.gsz op ho
        · obtain ⟨e, _, rfl⟩ := Conc.mem_ofEvents ho
          simpa using hlt0
      · rcases Array.mem_append.1 hop with ho | ho
        · exact h.norel op ho a
        · obtain ⟨e, he, rfl⟩ := Conc.mem_ofEvents ho
          exact evOk_norel (h4 e he) a
    · obtain ⟨g', es, k, hqk, hm, hrunT, hz, hL', hsum, hsz⟩ := leaver_slips (W := W.at d) (sl := sl') hL hpos hi hg
      obtain ⟨N, gs', W', sl2, t', v1, hi1, hr, ho, hst1, hb⟩ := ih _ (W.at d) sl' _ (v.at d) _ (by rw [hsz]; omega) hL'
        ⟨hz _ h.main rfl, ⟨_, hL'⟩, h.past.mute (by omega) hm, h.restr.at_ d, fun k hk => h.shun k hk, fun op hop => by
          rcases Array.mem_append.1 hop with ho | ho
          · rw [hsz]; exact h.gsz op ho
          · obtain ⟨e, _, rfl⟩ := Conc.mem_ofEvents ho
            rw [hsz]; exact (Array.getElem?_eq_some_iff.1 hi).1, fun op hop a => by
          rcases Array.mem_append.1 hop with ho | ho
          · exact h.norel op ho a
          · obtain ⟨e, he, rfl⟩ := Conc.mem_ofEvents ho
            exact mute_norel (hm e he) a⟩ (fun w1 hw => hl w1 ((Idle.at_ v d).trans hw))
      exact ⟨N + 1, gs', W', sl2, t', v1, (Idle.at_ v d).trans hi1, by simp only [runNT, hst, hrunT]; exact hr, ho, fun k o hk hd => hst1 k o hk hd, ⟨hb.tape, hb.os, hb.output, hb.size, fun k o hk hd => hb.block k o hk hd⟩⟩
end
def BigDeal (P : Program) (d : Deal) : Prop :=
  ∀ (SB : Nat → Prop) (gs : Array Goroutine) (W : World) (sl : Option (Nat × Nat)) (t : Trace) (fr : Frame) (cs : List Frame) (v : World), Outer P SB gs W t fr cs v → (∀ w1, Idle v w1 → d.pre fr cs w1) →
    ∃ (N : Nat) (gs' : Array Goroutine) (W' : World) (sl' : Option (Nat × Nat)) (t' : Trace) (v1 : World) (fr' : Frame) (cs' : List Frame) (v' : World) (SB' : Nat → Prop), Idle v v1 ∧ d.post fr cs v1 fr' cs' v' ∧
      runNT P N (crowd gs W sl) t = (.next (crowd gs' W' sl'), t') ∧ Outer P SB' gs' W' t' fr' cs' v' ∧ Stays v v' ∧ Beside v W W'
@[reducible] def outerD (P : Program) : Dealing := ⟨BigDeal P⟩
theorem outer_go {P : Program} {Φ : Frame → List Frame → World → Prop} {fr : Frame} {cs : List Frame} {v : World} (h : @Gx P (outerD P) Φ fr cs v) : ∀ {SB : Nat → Prop} {gs : Array Goroutine} {W : World} {sl : Option (Nat × Nat)} {t : Trace}, Outer P SB gs W t fr cs v →
    ∃ (N : Nat) (gs' : Array Goroutine) (W' : World) (sl' : Option (Nat × Nat)) (t' : Trace) (fr' : Frame) (cs' : List Frame) (v' : World) (SB' : Nat → Prop), (∀ w1, Idle v' w1 → Φ fr' cs' w1) ∧
      runNT P N (crowd gs W sl) t = (.next (crowd gs' W' sl'), t') ∧ Outer P SB' gs' W' t' fr' cs' v' ∧ Stays v v' ∧ Beside v W W' := by
  induction h with
  | stop h => intro SB gs W sl t ho; exact ⟨0, gs, W, sl, t, _, _, _, SB, h, rfl, ho, Stays.refl _, Beside.refl _ _⟩
  | step f hl _ ih =>
    intro SB gs W sl t ho
    obtain ⟨q, hL⟩ := ho.lv
    obtain ⟨N, gs1, W1, sl1, t1, v1, hi, hr, ho1, hs1, hb1⟩ := outer_step f _ gs W sl t _ q (Nat.le_refl _) hL ho hl
    obtain ⟨N2, gs2, W2, sl2, t2, fr2, cs2, v2, SB2, hΦ, hr2, ho2, hs2, hb2⟩ := ih v1 hi (sl := sl1) ho1
    exact ⟨N + N2, gs2, W2, sl2, t2, fr2, cs2, v2, SB2, hΦ, by rw [runNT_add, hr]; exact hr2, ho2, hs1.trans hs2, hb1.andThen hs1 hb2⟩
  | deal d hd hp _ ih =>
    intro SB gs W sl t ho
    obtain ⟨N, gs1, W1, sl1, t1, v1, fr1, cs1, v', SB1, hi, hpost, hr, ho1, hs1, hb1⟩ := hd SB gs W sl t _ _ _ ho hp
    obtain ⟨N2, gs2, W2, sl2, t2, fr2, cs2, v2, SB2, hΦ, hr2, ho2, hs2, hb2⟩ := ih v1 fr1 cs1 v' hi hpost (sl := sl1) ho1
    exact ⟨N + N2, gs2, W2, sl2, t2, fr2, cs2, v2, SB2, hΦ, by rw [runNT_add, hr]; exact hr2, ho2, hs1.trans hs2, hb1.andThen hs1 hb2⟩
end Go.Xq
namespace Go.Xq
open Go.Conc Go.ConcN Go.RowKit Go.Conc.Lib Go.ConcR.Gen Go.ConcN.Gen
open Go.ConcR (KK wgBlock WgAt stA smA rd wr mk DC0)
def RL (ty : TypeId) (Wg : Nat) (w w₁ : World) : Prop := WgLive ty Wg w → WgLive ty Wg w₁
theorem RL.refl {ty : TypeId} {Wg : Nat} (w : World) : RL ty Wg w w := id
theorem RL.trans {ty : TypeId} {Wg : Nat} (a b c : World) (h : RL ty Wg a b) (h' : RL ty Wg b c) : RL ty Wg a c := h' ∘ h
theorem rl_rely {ty : TypeId} {Wg : Nat} {w w₁ : World} (h : WgLive ty Wg w) (r : RL ty Wg w w₁) : WgLive ty Wg w₁ := r h
abbrev GL (P : Program) (ty : TypeId) (Wg : Nat) := Goes P true (RL ty Wg) DC0
section
variable (P : Program) (ty : TypeId) (Wg : Nat) (Back : Goroutine → World → Prop)
def AtKeA (g : Goroutine) (w : World) : Prop := g.status = .running ∧ ∃ g', stepG P true g w = .go g' w #[mk .enable] ∧ ∃ m, GL P ty Wg Back m g' w
def AtSaid (m : Mark) (Next : Goroutine → World → Prop) (g : Goroutine) (w : World) : Prop := g.status = .running ∧ ∃ g', stepG P true g w = .go g' w #[mk m] ∧ ∃ m, GL P ty Wg Next m g' w
def AtA1A (g : Goroutine) (w : World) : Prop :=
  g.status = .running ∧ ∀ v : Nat, v < 2147483647 → WgAt ty Wg w (v * KK) 0 →
    ∃ g', stepG P true g w = .go g' (w.setCell (stA Wg) (.int .u64 ((v + 1) * KK))) #[rd (stA Wg), wr (stA Wg)] ∧
      ((∃ m, GL P ty Wg (AtKeA P ty Wg Back) m g' (w.setCell (stA Wg) (.int .u64 ((v + 1) * KK)))) ∨ ∃ m, GL P ty Wg (AtSaid P ty Wg (.read ⟨Wg, 1, none⟩) (AtKeA P ty Wg Back)) m g' (w.setCell (stA Wg) (.int .u64 ((v + 1) * KK))))
def AtKdA (g : Goroutine) (w : World) : Prop := g.status = .running ∧ ∃ g', stepG P true g w = .go g' w #[mk .disable] ∧ ∃ m, GL P ty Wg (AtA1A P ty Wg Back) m g' w
def AtAcqW (g : Goroutine) (w : World) : Prop := g.status = .running ∧ ∃ g', stepG P true g w = .go g' w #[mk (.acquire (stA Wg))] ∧ ∃ m, GL P ty Wg Back m g' w
def AtKeW (g : Goroutine) (w : World) : Prop := g.status = .running ∧ ∃ g', stepG P true g w = .go g' w #[mk .enable] ∧ ∃ m, GL P ty Wg (AtAcqW P ty Wg Back) m g' w
def AtW4W (g : Goroutine) (w : World) : Prop := g.status = .running ∧ (WgAt ty Wg w 0 0 → ∃ g', stepG P true g w = .go g' w #[rd (stA Wg)] ∧ ∃ m, GL P ty Wg (AtKeW P ty Wg Back) m g' w)
def AtW3W (g : Goroutine) (w : World) : Prop :=
  g.status = .running ∧ g.offers = none ∧ ((∃ st, WgAt ty Wg w st 0) → stepG P true g w = .go { g with status := .blocked } w #[]) ∧
    (WgAt ty Wg w 0 1 → ∃ g', stepG P true g w = .go g' (w.setCell (smA Wg) (.int .u32 0)) (semEvents (smA Wg)) ∧ ∃ m, GL P ty Wg (AtW4W P ty Wg Back) m g' (w.setCell (smA Wg) (.int .u32 0)))
def AtW2W (Anch : Goroutine → World → Prop) (vs : Nat) (g : Goroutine) (w : World) : Prop :=
  g.status = .running ∧ ∀ v : Nat, v < 2147483648 → WgAt ty Wg w (v * KK) 0 →
    (v = vs → ∃ g', stepG P true g w = .go g' (w.setCell (stA Wg) (.int .u64 (v * KK + 1))) #[rd (stA Wg), wr (stA Wg)] ∧ ∃ m, GL P ty Wg (AtSaid P ty Wg (.write ⟨Wg, 1, none⟩) (AtW3W P ty Wg Back)) m g' (w.setCell (stA Wg) (.int .u64 (v * KK + 1)))) ∧
    (v ≠ vs → ∃ g', stepG P true g w = .go g' w #[rd (stA Wg)] ∧ ∃ m, GL P ty Wg Anch m g' w)
def AtW1W (Anch : Goroutine → World → Prop) (g : Goroutine) (w : World) : Prop :=
  g.status = .running ∧ ∀ v : Nat, v < 2147483648 → WgAt ty Wg w (v * KK) 0 → ∃ g', stepG P true g w = .go g' w #[rd (stA Wg)] ∧
    (v = 0 → ∃ m, GL P ty Wg (AtKeW P ty Wg Back) m g' w) ∧ (v ≠ 0 → ∃ m, GL P ty Wg (AtW2W P ty Wg Back Anch v) m g' w)
def AtKdW (Anch : Goroutine → World → Prop) (g : Goroutine) (w : World) : Prop := g.status = .running ∧ ∃ g', stepG P true g w = .go g' w #[mk .disable] ∧ ∃ m, GL P ty Wg Anch m g' w
end
def BackAt (fr : Frame) (cs : List Frame) : Goroutine → World → Prop := fun g _ => g = Conc.G fr cs
section
variable {L : WgLink} {Wg : Nat} {b₀ : Frame} {a₀ : Act} {ops₀ : Array Oper} {i₀ : Nat} {rest₀ : List Nat} {k₀ : List Item} {cs : List Frame}
set_option maxRecDepth 100000 in
set_option maxHeartbeats 8000000 in
theorem addPosW {P : Program} (H : WgLib P L) (w : World) (hF : WgLive L.tWg Wg w) :
    Goes P true (RL L.tWg Wg) DC0 (AtKdA P L.tWg Wg (BackAt (b₀.at (a₀.put ((ops₀[i₀]?).bind (·.dst)) (.tuple #[])) (.inRegion ops₀ rest₀ :: k₀)) cs)) 12
      (Conc.G ((base L.add).at ⟨#[.pointer (some ⟨Wg, 0, none⟩), .int .i64 1, undef, undef, undef, undef, undef, undef, undef, undef, undef, undef, undef, undef, undef, undef, undef, undef, undef, undef, undef, undef, undef, undef, undef, undef, undef, undef, undef, undef, undef, undef, undef, undef, undef, undef, undef, undef, undef, undef, undef, undef, undef, undef, undef, undef, undef, undef, undef, undef, undef, undef, undef, undef, undef, undef, undef, undef, undef, undef, undef, undef, undef, undef, undef, undef, undef, undef, undef, undef, undef, undef, undef, undef, undef, undef, undef, undef, undef, undef, undef, undef, undef, undef, undef, undef, undef, undef, undef, undef, undef, undef, undef, undef, undef, undef, undef, undef, undef, undef, undef, undef, undef, undef, undef, undef, undef, undef, undef, undef, undef, undef, undef, undef, undef, undef, undef], []⟩ [.code (body_add L)]) (b₀.at a₀ (.inRegion ops₀ (i₀ :: rest₀) :: k₀) :: cs)) w := by
  lib_facts
  simp only [body_add, addFn, Option.getD_some]
  u_c stepG_seq rl_rely hF
  u_cnd true rl_rely hF
  u_c stepG_seq rl_rely hF
  u_c stepG_seq rl_rely hF
  u_reg rl_rely hF
  u_op rl_rely hF
  u_op rl_rely hF
  u_c stepG_region_end rl_rely hF
  u_cnd false rl_rely hF
  u_c stepG_skip rl_rely hF
  u_c stepG_seq rl_rely hF
  u_reg rl_rely hF
  refine Goes.stop (fun w1 h1 => ?_)
  replace hF := rl_rely hF h1
  clear h1
  refine ⟨rfl, _, stepG_mark0 .disable (by simp) rfl rfl (by k_ne) rfl H.f_disable (x_disable_n L) (x_disable_b L) (x_disable_x L) (x_disable_f L), 40, ?_⟩
  walk_nrm
  u_c stepG_region_end rl_rely hF
  u_reg rl_rely hF
  u_defer rl_rely hF
  u_c stepG_region_end rl_rely hF
  u_c stepG_seq rl_rely hF
  u_reg rl_rely hF
  u_op rl_rely hF
  u_c stepG_region_end rl_rely hF
  u_c stepG_seq rl_rely hF
  u_c stepG_seq rl_rely hF
  u_reg rl_rely hF
  u_bub rl_rely hF
  u_c stepG_region_end rl_rely hF
  u_cnd false rl_rely hF
  u_c stepG_skip rl_rely hF
  u_c stepG_seq rl_rely hF
  u_reg rl_rely hF
  u_op rl_rely hF
  u_op rl_rely hF
  u_op rl_rely hF
  u_op rl_rely hF
  u_op rl_rely hF
  u_op rl_rely hF
  u_call H.f_uAdd (nm_uAdd L) uAddFn rl_rely hF
  u_c stepG_seq rl_rely hF
  u_reg rl_rely hF
  u_op rl_rely hF
  u_c stepG_region_end rl_rely hF
  u_c stepG_seq rl_rely hF
  u_reg rl_rely hF
  u_op rl_rely hF
  u_op rl_rely hF
  u_op rl_rely hF
  u_op rl_rely hF
  refine Goes.stop (fun w2 h2 => ?_)
  replace hF := rl_rely hF h2
  clear h2
  refine ⟨rfl, fun v hv hw => ?_⟩
  rcases Nat.eq_zero_or_pos v with rfl | hvp
  · replace hw : WgAt L.tWg Wg w2 0 0 := by simpa using hw
    have z : (((0 : Nat) : Int) + 1) * KK = KK := by simp
    rw [z]
    have e0 : IntKind.u64.wrap (0 + 4294967296) = KK := by decide
    refine ⟨_, (stepG_add_atomic rfl rfl (by k_ne) rfl H.f_addU64 (x_addU64_n L) (x_addU64_b L) (x_addU64_x L) .u64 (x_addU64_f L) rfl rfl hw.cellSt (hw.thaw 0)).trans (by rw [e0]; rfl), .inr ⟨110, ?_⟩⟩
    replace hF : WgLive L.tWg Wg (w2.setCell (stA Wg) (.int .u64 KK)) := ⟨_, _, hw.setSt _⟩
    clear hw
    simp only [KK] at hF ⊢
    walk_nrm
    u_op rl_rely hF
    u_c stepG_region_end rl_rely hF
    u_c stepG_ret' rl_rely hF
    u_leave1 H.f_uAdd rl_rely hF
    u_op rl_rely hF
    u_c stepG_region_end rl_rely hF
    u_c stepG_seq rl_rely hF
    u_c stepG_seq rl_rely hF
    u_reg rl_rely hF
    u_op rl_rely hF
    u_op rl_rely hF
    u_op rl_rely hF
    u_op rl_rely hF
    u_skip rl_rely hF
    u_skip rl_rely hF
    u_op rl_rely hF
    u_c stepG_region_end rl_rely hF
    u_cnd false rl_rely hF
    u_c stepG_skip rl_rely hF
    u_c stepG_seq rl_rely hF
    u_reg rl_rely hF
    u_op rl_rely hF
    u_op rl_rely hF
    u_op rl_rely hF
    u_op rl_rely hF
    u_c stepG_region_end rl_rely hF
    u_c stepG_seq rl_rely hF
    u_reg rl_rely hF
    u_op rl_rely hF
    u_op rl_rely hF
    u_op rl_rely hF
    u_op rl_rely hF
    u_c stepG_region_end rl_rely hF
    u_c stepG_seq rl_rely hF
    u_c stepG_seq rl_rely hF
    u_reg rl_rely hF
    u_op rl_rely hF
    u_op rl_rely hF
    u_op rl_rely hF
    u_op rl_rely hF
    u_op rl_rely hF
    u_op rl_rely hF
    u_op rl_rely hF
    u_op rl_rely hF
    u_op rl_rely hF
    u_op rl_rely hF
    u_c stepG_region_end rl_rely hF
    u_cnd true rl_rely hF
    u_reg rl_rely hF
    u_op rl_rely hF
    u_op rl_rely hF
    u_op rl_rely hF
    u_conv H.underlying_tPU32 H.room_tU32 (WgLive.cell1 hF).choose_spec rl_rely hF
    refine Goes.stop (fun w3 h3 => ?_)
    replace hF := rl_rely hF h3
    clear h3
    refine ⟨rfl, _, stepG_markAt .read (by simp) rfl rfl (by k_ne) rfl H.f_raceRead (x_raceRead_n L) (x_raceRead_b L) (x_raceRead_x L) (x_raceRead_f L) (ad := ⟨Wg, 1, none⟩) (by simp [Act.eval]), 60, ?_⟩
    walk_nrm
    u_c stepG_region_end rl_rely hF
    u_c stepG_seq rl_rely hF
    u_c stepG_seq rl_rely hF
    u_reg rl_rely hF
    u_op rl_rely hF
    u_op rl_rely hF
    u_c stepG_region_end rl_rely hF
    u_cnd false rl_rely hF
    u_c stepG_skip rl_rely hF
    u_c stepG_seq rl_rely hF
    u_c stepG_seq rl_rely hF
    u_reg rl_rely hF
    u_op rl_rely hF
    u_op rl_rely hF
    u_op rl_rely hF
    u_skip rl_rely hF
    u_skip rl_rely hF
    u_op rl_rely hF
    u_op rl_rely hF
    u_skip rl_rely hF
    u_skip rl_rely hF
    u_skip rl_rely hF
    u_skip rl_rely hF
    u_op rl_rely hF
    u_c stepG_region_end rl_rely hF
    u_cnd false rl_rely hF
    u_c stepG_skip rl_rely hF
    u_c stepG_seq rl_rely hF
    u_c stepG_seq rl_rely hF
    u_reg rl_rely hF
    u_op rl_rely hF
    u_op rl_rely hF
    u_op rl_rely hF
    u_skip rl_rely hF
    u_skip rl_rely hF
    u_op rl_rely hF
    u_c stepG_region_end rl_rely hF
    u_cnd true rl_rely hF
    u_c stepG_ret' rl_rely hF
    refine Goes.stop (fun w4 h4 => ?_)
    replace hF := rl_rely hF h4
    clear h4
    refine ⟨rfl, _, stepG_unwind_entry (v := .tuple #[]) (evs := #[mk .enable]) rfl H.f_enable (x_enable_n L) (x_enable_b L) (x_enable_x L) (x_enable_f L) (by simp [Extern.Race.none_]) (by simp [mk]) (by simp [mk]), 5, ?_⟩
    u_leave0 H.f_add rl_rely hF
    exact Goes.stop fun _ _ => rfl
  · obtain ⟨V, hV⟩ : ∃ V : Int, V = (v : Int) + 1 := ⟨_, rfl⟩
    obtain ⟨S, Seq⟩ : ∃ S : Int, S = V * KK := ⟨_, rfl⟩
    have eS : IntKind.u64.wrap ((v : Int) * KK + 4294967296) = S := by rw [IntKind.wrap_u64, Seq, hV]; simp only [KK]; omega
    rw [← hV, ← Seq]
    have a1 : S / 4294967296 = V := by rw [Seq]; simp only [KK]; omega
    have b1 : Go.bits .and .u64 S 2147483648 = 0 := by rw [Seq, hV]; have := st_flag (v + 1) 0 (by omega) (by omega); simpa [KK] using this
    have b2 : Go.bits .and .u64 S 2147483647 = 0 := by rw [Seq, hV]; have := st_waiters (v + 1) 0 (by omega) (by omega); simpa [KK] using this
    have c1 : IntKind.i32.wrap V = V := by rw [IntKind.wrap_i32]; omega
    have hV1 : 1 < V := by omega
    have hV2 : V < 2147483648 := by omega
    have q1 : (V == 1) = false := by simp; omega
    have q2 : decide (V = 1) = false := decide_eq_false (by omega)
    have q3 : decide (V < 0) = false := decide_eq_false (by omega)
    have q4 : decide (0 < V) = true := decide_eq_true (by omega)
    have q5 : (V == 0) = false := by simp; omega
    have q6 : decide (V = 0) = false := decide_eq_false (by omega)
    refine ⟨_, (stepG_add_atomic rfl rfl (by k_ne) rfl H.f_addU64 (x_addU64_n L) (x_addU64_b L) (x_addU64_x L) .u64 (x_addU64_f L) rfl rfl hw.cellSt (hw.thaw 0)).trans (by rw [eS]; rfl), .inl ⟨110, ?_⟩⟩
    replace hF : WgLive L.tWg Wg (w2.setCell (stA Wg) (.int .u64 S)) := ⟨_, _, hw.setSt _⟩
    clear hw Seq hV eS
    walk_nrm
    u_op rl_rely hF
    u_c stepG_region_end rl_rely hF
    u_c stepG_ret' rl_rely hF
    u_leave1 H.f_uAdd rl_rely hF
    u_op rl_rely hF
    u_c stepG_region_end rl_rely hF
    u_c stepG_seq rl_rely hF
    u_c stepG_seq rl_rely hF
    u_reg rl_rely hF
    u_op rl_rely hF
    u_op rl_rely hF
    u_op rl_rely hF
    u_op rl_rely hF
    u_skip rl_rely hF
    u_skip rl_rely hF
    u_op rl_rely hF
    u_c stepG_region_end rl_rely hF
    u_cnd false rl_rely hF
    u_c stepG_skip rl_rely hF
    u_c stepG_seq rl_rely hF
    u_reg rl_rely hF
    u_op rl_rely hF
    u_op rl_rely hF
    u_op rl_rely hF
    u_op rl_rely hF
    u_c stepG_region_end rl_rely hF
    u_c stepG_seq rl_rely hF
    u_reg rl_rely hF
    u_op rl_rely hF
    u_op rl_rely hF
    u_op rl_rely hF
    u_op rl_rely hF
    u_c stepG_region_end rl_rely hF
    u_c stepG_seq rl_rely hF
    u_c stepG_seq rl_rely hF
    u_reg rl_rely hF
    u_op rl_rely hF
    u_op rl_rely hF
    u_op rl_rely hF
    u_op rl_rely hF
    u_op rl_rely hF
    u_op rl_rely hF
    u_op rl_rely hF
    u_op rl_rely hF
    u_op rl_rely hF
    u_op rl_rely hF
    u_c stepG_region_end rl_rely hF
    u_cnd false rl_rely hF
    u_c stepG_skip rl_rely hF
    u_c stepG_seq rl_rely hF
    u_c stepG_seq rl_rely hF
    u_reg rl_rely hF
    u_op rl_rely hF
    u_op rl_rely hF
    u_c stepG_region_end rl_rely hF
    u_cnd false rl_rely hF
    u_c stepG_skip rl_rely hF
    u_c stepG_seq rl_rely hF
    u_c stepG_seq rl_rely hF
    u_reg rl_rely hF
    u_op rl_rely hF
    u_op rl_rely hF
    u_op rl_rely hF
    u_skip rl_rely hF
    u_skip rl_rely hF
    u_op rl_rely hF
    u_op rl_rely hF
    u_skip rl_rely hF
    u_skip rl_rely hF
    u_skip rl_rely hF
    u_skip rl_rely hF
    u_op rl_rely hF
    u_c stepG_region_end rl_rely hF
    u_cnd false rl_rely hF
    u_c stepG_skip rl_rely hF
    u_c stepG_seq rl_rely hF
    u_c stepG_seq rl_rely hF
    u_reg rl_rely hF
    u_op rl_rely hF
    u_op rl_rely hF
    u_op rl_rely hF
    u_skip rl_rely hF
    u_skip rl_rely hF
    u_op rl_rely hF
    u_c stepG_region_end rl_rely hF
    u_cnd true rl_rely hF
    u_c stepG_ret' rl_rely hF
    refine Goes.stop (fun w5 h5 => ?_)
    replace hF := rl_rely hF h5
    clear h5
    refine ⟨rfl, _, stepG_unwind_entry (v := .tuple #[]) (evs := #[mk .enable]) rfl H.f_enable (x_enable_n L) (x_enable_b L) (x_enable_x L) (x_enable_f L) (by simp [Extern.Race.none_]) (by simp [mk]) (by simp [mk]), 5, ?_⟩
    u_leave0 H.f_add rl_rely hF
    exact Goes.stop fun _ _ => rfl
end
section
variable {L : WgLink} {Wg : Nat} {b₀ : Frame} {a₀ : Act} {ops₀ : Array Oper} {i₀ : Nat} {rest₀ : List Nat} {k₀ : List Item} {cs : List Frame}
def AnchWW (L : WgLink) (Wg : Nat) (c : Frame) (cs : List Frame) (g : Goroutine) (w : World) : Prop :=
  ∃ T : Array Value, g = Conc.G ((base L.wait).at ⟨T, []⟩ [.code (L7 L), .inLoop (L7 L), .inBlock 0]) (c :: cs) ∧ T.size = 84 ∧ T[0]? = some (.pointer (some ⟨Wg, 0, none⟩)) ∧ WgLive L.tWg Wg w
set_option maxRecDepth 100000 in
set_option maxHeartbeats 8000000 in
theorem waitRoundW {P : Program} (H : WgLib P L) (g : Goroutine) (w : World) (h : AnchWW L Wg (b₀.at a₀ (.inRegion ops₀ (i₀ :: rest₀) :: k₀)) cs g w) :
    ∃ m, Goes P true (RL L.tWg Wg) DC0 (AtW1W P L.tWg Wg (BackAt (b₀.at (a₀.put ((ops₀[i₀]?).bind (·.dst)) (.tuple #[])) (.inRegion ops₀ rest₀ :: k₀)) cs) (AnchWW L Wg (b₀.at a₀ (.inRegion ops₀ (i₀ :: rest₀) :: k₀)) cs)) m g w := by
  lib_facts
  obtain ⟨T, rfl, hT84, t0, hF⟩ := h
  obtain ⟨v0, v1, v2, v3, v4, v5, v6, v7, v8, v9, v10, v11, v12, v13, v14, v15, v16, v17, v18, v19, v20, v21, v22, v23, v24, v25, v26, v27, v28, v29, v30, v31, v32, v33, v34, v35, v36, v37, v38, v39, v40, v41, v42, v43, v44, v45, v46, v47, v48, v49, v50, v51, v52, v53, v54, v55, v56, v57, v58, v59, v60, v61, v62, v63, v64, v65, v66, v67, v68, v69, v70, v71, v72, v73, v74, v75, v76, v77, v78, v79, v80, v81, v82, v83, rfl⟩ := array84 T hT84
  simp only [List.getElem?_toArray, List.getElem?_cons_zero, Option.some.injEq] at t0
  subst t0
  refine ⟨30, ?_⟩
  simp only [L7, body_wait, waitFn, Option.getD_some]
  u_c stepG_block rl_rely hF
  u_c stepG_seq rl_rely hF
  u_reg rl_rely hF
  u_op rl_rely hF
  u_op rl_rely hF
  u_op rl_rely hF
  u_call H.f_uLoad (nm_uLoad L) uLoadFn rl_rely hF
  u_c stepG_seq rl_rely hF
  u_reg rl_rely hF
  u_op rl_rely hF
  u_c stepG_region_end rl_rely hF
  u_c stepG_seq rl_rely hF
  u_reg rl_rely hF
  u_op rl_rely hF
  u_op rl_rely hF
  u_op rl_rely hF
  refine Goes.stop (fun w1 h1 => ?_)
  replace hF := rl_rely hF h1
  clear h1
  refine ⟨rfl, fun v hv hw => ?_⟩
  rcases Nat.eq_zero_or_pos v with rfl | hvp
  · replace hw : WgAt L.tWg Wg w1 0 0 := by simpa using hw
    refine ⟨_, stepG_load_atomic (v := 0) rfl rfl (by k_ne) rfl H.f_loadU64 (x_loadU64_n L) (x_loadU64_b L) (x_loadU64_x L) .u64 (x_loadU64_f L) rfl hw.cellSt, fun _ => ⟨50, ?_⟩, fun h => absurd rfl h⟩
    clear hw
    walk_nrm
    u_op rl_rely hF
    u_c stepG_region_end rl_rely hF
    u_c stepG_ret' rl_rely hF
    u_leave1 H.f_uLoad rl_rely hF
    u_op rl_rely hF
    u_c stepG_region_end rl_rely hF
    u_c stepG_seq rl_rely hF
    u_reg rl_rely hF
    u_op rl_rely hF
    u_op rl_rely hF
    u_op rl_rely hF
    u_op rl_rely hF
    u_c stepG_region_end rl_rely hF
    u_c stepG_seq rl_rely hF
    u_reg rl_rely hF
    u_op rl_rely hF
    u_op rl_rely hF
    u_op rl_rely hF
    u_op rl_rely hF
    u_c stepG_region_end rl_rely hF
    u_c stepG_seq rl_rely hF
    u_c stepG_seq rl_rely hF
    u_reg rl_rely hF
    u_op rl_rely hF
    u_op rl_rely hF
    u_c stepG_region_end rl_rely hF
    u_cnd true rl_rely hF
    u_c stepG_seq rl_rely hF
    u_cnd true rl_rely hF
    u_c stepG_seq rl_rely hF
    u_reg rl_rely hF
    refine Goes.stop (fun w5 h5 => ?_)
    replace hF := rl_rely hF h5
    clear h5
    refine ⟨rfl, _, stepG_mark0 .enable (by simp) rfl rfl (by k_ne) rfl H.f_enable (x_enable_n L) (x_enable_b L) (x_enable_x L) (x_enable_f L), 12, ?_⟩
    walk_nrm
    u_c stepG_region_end rl_rely hF
    u_reg rl_rely hF
    u_op rl_rely hF
    u_conv H.underlying_tWgP H.room_tWg (WgLive.cell0 hF).choose_spec rl_rely hF
    refine Goes.stop (fun w6 h6 => ?_)
    replace hF := rl_rely hF h6
    clear h6
    refine ⟨rfl, _, stepG_markAt .acquire (by simp) rfl rfl (by k_ne) rfl H.f_acquire (x_acquire_n L) (x_acquire_b L) (x_acquire_x L) (x_acquire_f L) (by simp [Act.eval, stA]), ⟨30, ?_⟩⟩
    walk_nrm
    u_c stepG_region_end rl_rely hF
    u_c stepG_seq rl_rely hF
    u_c stepG_seq rl_rely hF
    u_reg rl_rely hF
    u_op rl_rely hF
    u_op rl_rely hF
    u_op rl_rely hF
    u_op rl_rely hF
    u_op rl_rely hF
    u_op rl_rely hF
    u_op rl_rely hF
    u_op rl_rely hF
    u_skip rl_rely hF
    u_skip rl_rely hF
    u_op rl_rely hF
    u_c stepG_region_end rl_rely hF
    u_cnd false rl_rely hF
    u_c stepG_skip rl_rely hF
    u_c stepG_ret' rl_rely hF
    u_leave0 H.f_wait rl_rely hF
    exact Goes.stop fun _ _ => rfl
  · obtain ⟨S, hS⟩ : ∃ S : Int, (v : Int) * KK = S := ⟨_, rfl⟩
    have a1 : S / 4294967296 = (v : Int) := by rw [← hS]; simp only [KK]; omega
    have b1 : Go.bits .and .u64 S 2147483648 = 0 := by rw [← hS]; have := st_flag v 0 (by omega) (by omega); simpa [KK] using this
    have b2 : Go.bits .and .u64 S 2147483647 = 0 := by rw [← hS]; have := st_waiters v 0 (by omega) (by omega); simpa [KK] using this
    have c1 : IntKind.i32.wrap (v : Int) = (v : Int) := by rw [IntKind.wrap_i32]; omega
    have w1' : IntKind.u64.wrap (S + 1) = S + 1 := by rw [IntKind.wrap_u64, ← hS]; simp only [KK]; omega
    have q3 : decide ((v : Int) < 0) = false := decide_eq_false (by omega)
    have q4 : decide (0 < (v : Int)) = true := decide_eq_true (by omega)
    have q5 : ((v : Int) == 0) = false := by simp; omega
    have q6 : decide ((v : Int) = 0) = false := decide_eq_false (by omega)
    rw [hS] at hw
    refine ⟨_, stepG_load_atomic (v := S) rfl rfl (by k_ne) rfl H.f_loadU64 (x_loadU64_n L) (x_loadU64_b L) (x_loadU64_x L) .u64 (x_loadU64_f L) rfl hw.cellSt, fun h0 => absurd h0 (by omega), fun _ => ⟨60, ?_⟩⟩
    clear hw
    walk_nrm
    u_op rl_rely hF
    u_c stepG_region_end rl_rely hF
    u_c stepG_ret' rl_rely hF
    u_leave1 H.f_uLoad rl_rely hF
    u_op rl_rely hF
    u_c stepG_region_end rl_rely hF
    u_c stepG_seq rl_rely hF
    u_reg rl_rely hF
    u_op rl_rely hF
    u_op rl_rely hF
    u_op rl_rely hF
    u_op rl_rely hF
    u_c stepG_region_end rl_rely hF
    u_c stepG_seq rl_rely hF
    u_reg rl_rely hF
    u_op rl_rely hF
    u_op rl_rely hF
    u_op rl_rely hF
    u_op rl_rely hF
    u_c stepG_region_end rl_rely hF
    u_c stepG_seq rl_rely hF
    u_c stepG_seq rl_rely hF
    u_reg rl_rely hF
    u_op rl_rely hF
    u_op rl_rely hF
    u_c stepG_region_end rl_rely hF
    u_cnd false rl_rely hF
    u_c stepG_skip rl_rely hF
    u_c stepG_seq rl_rely hF
    u_reg rl_rely hF
    u_op rl_rely hF
    u_op rl_rely hF
    u_op rl_rely hF
    u_op rl_rely hF
    u_op rl_rely hF
    u_op rl_rely hF
    u_call H.f_uCas (nm_uCas L) uCasFn rl_rely hF
    u_c stepG_seq rl_rely hF
    u_reg rl_rely hF
    u_op rl_rely hF
    u_c stepG_region_end rl_rely hF
    u_c stepG_seq rl_rely hF
    u_reg rl_rely hF
    u_op rl_rely hF
    u_op rl_rely hF
    u_op rl_rely hF
    u_op rl_rely hF
    u_op rl_rely hF
    refine Goes.stop (fun w2 h2 => ?_)
    replace hF := rl_rely hF h2
    clear h2
    refine ⟨rfl, fun v' hv' hw => ⟨fun e => ?_, fun e => ?_⟩⟩
    · subst e
      rw [hS] at hw ⊢
      refine ⟨_, (stepG_cas_hit (v := S) (n := S + 1) rfl rfl (by k_ne) rfl H.f_casU64 (x_casU64_n L) (x_casU64_b L) (x_casU64_x L) .u64 (x_casU64_f L) rfl rfl rfl hw.cellSt (hw.thaw 0)).trans (by rfl), 50, ?_⟩
      replace hF : WgLive L.tWg Wg (w2.setCell (stA Wg) (.int .u64 (S + 1))) := ⟨_, _, hw.setSt _⟩
      clear hw
      walk_nrm
      u_op rl_rely hF
      u_c stepG_region_end rl_rely hF
      u_c stepG_ret' rl_rely hF
      u_leave1 H.f_uCas rl_rely hF
      u_c stepG_region_end rl_rely hF
      u_cnd true rl_rely hF
      u_c stepG_seq rl_rely hF
      u_c stepG_seq rl_rely hF
      u_reg rl_rely hF
      u_op rl_rely hF
      u_op rl_rely hF
      u_op rl_rely hF
      u_op rl_rely hF
      u_c stepG_region_end rl_rely hF
      u_cnd true rl_rely hF
      u_reg rl_rely hF
      u_op rl_rely hF
      u_op rl_rely hF
      u_op rl_rely hF
      u_conv H.underlying_tPU32 H.room_tU32 (WgLive.cell1 hF).choose_spec rl_rely hF
      refine Goes.stop (fun w7 h7 => ?_)
      replace hF := rl_rely hF h7
      clear h7
      refine ⟨rfl, _, stepG_markAt .write (by simp) rfl rfl (by k_ne) rfl H.f_raceWrite (x_raceWrite_n L) (x_raceWrite_b L) (x_raceWrite_x L) (x_raceWrite_f L) (ad := ⟨Wg, 1, none⟩) (by simp [Act.eval]), 40, ?_⟩
      walk_nrm
      u_c stepG_region_end rl_rely hF
      u_c stepG_seq rl_rely hF
      u_reg rl_rely hF
      u_op rl_rely hF
      u_c stepG_region_end rl_rely hF
      u_c stepG_seq rl_rely hF
      u_c stepG_seq rl_rely hF
      u_reg rl_rely hF
      u_op rl_rely hF
      u_op rl_rely hF
      u_op rl_rely hF
      u_op rl_rely hF
      u_skip rl_rely hF
      u_op rl_rely hF
      u_c stepG_region_end rl_rely hF
      u_cnd false rl_rely hF
      u_c stepG_skip rl_rely hF
      u_c stepG_seq rl_rely hF
      u_reg rl_rely hF
      u_op rl_rely hF
      u_op rl_rely hF
      u_op rl_rely hF
      u_op rl_rely hF
      refine Goes.stop (fun w3 h3 => ?_)
      replace hF := rl_rely hF h3
      clear h3
      refine ⟨rfl, rfl, fun ⟨st, hw⟩ => stepG_semacquire_wait rfl rfl rfl H.f_semacquire (x_semacquire_n L) (x_semacquire_b L) (x_semacquire_x L) (x_semacquire_f L) (by simp [Act.eval, smA]) hw.cellSm, fun hf => ?_⟩
      refine ⟨_, (stepG_semacquire (n := 1) rfl rfl (by k_ne) rfl H.f_semacquire (x_semacquire_n L) (x_semacquire_b L) (x_semacquire_x L) (x_semacquire_f L) (by simp [Act.eval, smA]) hf.cellSm (by k_ne) (hf.thaw 1)).trans (by rfl), 30, ?_⟩
      replace hF : WgLive L.tWg Wg (w3.setCell (smA Wg) (.int .u32 0)) := ⟨_, _, hf.setSm 0⟩
      clear hf
      walk_nrm
      u_c stepG_region_end rl_rely hF
      u_c stepG_seq rl_rely hF
      u_reg rl_rely hF
      u_op rl_rely hF
      u_op rl_rely hF
      u_op rl_rely hF
      u_call H.f_uLoad (nm_uLoad L) uLoadFn rl_rely hF
      u_c stepG_seq rl_rely hF
      u_reg rl_rely hF
      u_op rl_rely hF
      u_c stepG_region_end rl_rely hF
      u_c stepG_seq rl_rely hF
      u_reg rl_rely hF
      u_op rl_rely hF
      u_op rl_rely hF
      u_op rl_rely hF
      refine Goes.stop (fun w4 h4 => ?_)
      replace hF := rl_rely hF h4
      clear h4
      refine ⟨rfl, fun hw => ⟨_, stepG_load_atomic (v := 0) rfl rfl (by k_ne) rfl H.f_loadU64 (x_loadU64_n L) (x_loadU64_b L) (x_loadU64_x L) .u64 (x_loadU64_f L) rfl hw.cellSt, 30, ?_⟩⟩
      clear hw
      walk_nrm
      u_op rl_rely hF
      u_c stepG_region_end rl_rely hF
      u_c stepG_ret' rl_rely hF
      u_leave1 H.f_uLoad rl_rely hF
      u_op rl_rely hF
      u_op rl_rely hF
      u_c stepG_region_end rl_rely hF
      u_c stepG_seq rl_rely hF
      u_cnd true rl_rely hF
      u_c stepG_seq rl_rely hF
      u_reg rl_rely hF
      refine Goes.stop (fun w5 h5 => ?_)
      replace hF := rl_rely hF h5
      clear h5
      refine ⟨rfl, _, stepG_mark0 .enable (by simp) rfl rfl (by k_ne) rfl H.f_enable (x_enable_n L) (x_enable_b L) (x_enable_x L) (x_enable_f L), 12, ?_⟩
      walk_nrm
      u_c stepG_region_end rl_rely hF
      u_reg rl_rely hF
      u_op rl_rely hF
      u_conv H.underlying_tWgP H.room_tWg (WgLive.cell0 hF).choose_spec rl_rely hF
      refine Goes.stop (fun w6 h6 => ?_)
      replace hF := rl_rely hF h6
      clear h6
      refine ⟨rfl, _, stepG_markAt .acquire (by simp) rfl rfl (by k_ne) rfl H.f_acquire (x_acquire_n L) (x_acquire_b L) (x_acquire_x L) (x_acquire_f L) (by simp [Act.eval, stA]), ⟨20, ?_⟩⟩
      walk_nrm
      u_c stepG_region_end rl_rely hF
      u_c stepG_seq rl_rely hF
      u_c stepG_seq rl_rely hF
      u_reg rl_rely hF
      u_op rl_rely hF
      u_c stepG_region_end rl_rely hF
      u_cnd false rl_rely hF
      u_c stepG_skip rl_rely hF
      u_c stepG_ret' rl_rely hF
      u_leave0 H.f_wait rl_rely hF
      exact Goes.stop fun _ _ => rfl
    · refine ⟨_, stepG_cas_miss (v := (v' : Int) * KK) (old := S) (n := S + 1) rfl rfl (by k_ne) rfl H.f_casU64 (x_casU64_n L) (x_casU64_b L) (x_casU64_x L) .u64 (x_casU64_f L) rfl rfl rfl hw.cellSt (hw.thaw 0) (by rw [← hS]; simp only [KK]; omega), 20, ?_⟩
      clear hw
      walk_nrm
      u_op rl_rely hF
      u_c stepG_region_end rl_rely hF
      u_c stepG_ret' rl_rely hF
      u_leave1 H.f_uCas rl_rely hF
      u_c stepG_region_end rl_rely hF
      u_cnd false rl_rely hF
      u_c stepG_skip rl_rely hF
      u_c stepG_inBlock rl_rely hF
      u_c stepG_inLoop rl_rely hF
      refine Goes.stop (fun w3 h3 => ?_)
      replace hF := rl_rely hF h3
      clear h3
      exact ⟨_, rfl, by simp, by simp, hF⟩
set_option maxRecDepth 100000 in
theorem waitStartW {P : Program} (H : WgLib P L) (Anc : Frame) (hA : Anc = b₀.at a₀ (.inRegion ops₀ (i₀ :: rest₀) :: k₀)) (w : World) (hF : WgLive L.tWg Wg w) :
    Goes P true (RL L.tWg Wg) DC0 (AtKdW P L.tWg Wg (AnchWW L Wg Anc cs)) 3
      (Conc.G ((base L.wait).at ⟨#[.pointer (some ⟨Wg, 0, none⟩), undef, undef, undef, undef, undef, undef, undef, undef, undef, undef, undef, undef, undef, undef, undef, undef, undef, undef, undef, undef, undef, undef, undef, undef, undef, undef, undef, undef, undef, undef, undef, undef, undef, undef, undef, undef, undef, undef, undef, undef, undef, undef, undef, undef, undef, undef, undef, undef, undef, undef, undef, undef, undef, undef, undef, undef, undef, undef, undef, undef, undef, undef, undef, undef, undef, undef, undef, undef, undef, undef, undef, undef, undef, undef, undef, undef, undef, undef, undef, undef, undef, undef, undef], []⟩ [.code (body_wait L)]) (b₀.at a₀ (.inRegion ops₀ (i₀ :: rest₀) :: k₀) :: cs)) w := by
  subst hA
  lib_facts
  simp only [body_wait, waitFn, Option.getD_some]
  u_c stepG_seq rl_rely hF
  u_cnd true rl_rely hF
  u_reg rl_rely hF
  refine Goes.stop (fun w1 h1 => ?_)
  replace hF := rl_rely hF h1
  clear h1
  refine ⟨rfl, _, stepG_mark0 .disable (by simp) rfl rfl (by k_ne) rfl H.f_disable (x_disable_n L) (x_disable_b L) (x_disable_x L) (x_disable_f L), 3, ?_⟩
  walk_nrm
  u_c stepG_region_end rl_rely hF
  u_c stepG_block rl_rely hF
  u_c stepG_loop rl_rely hF
  refine Goes.stop (fun w2 h2 => ?_)
  replace hF := rl_rely hF h2
  clear h2
  exact ⟨_, rfl, by simp, by simp, hF⟩
end
end Go.Xq
