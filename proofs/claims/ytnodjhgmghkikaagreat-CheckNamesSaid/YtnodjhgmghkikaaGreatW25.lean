/- A part of the proof of this seat's statement. Conditions: in each theorem. -/
import Derived.Test.YtnodjhgmghkikaaGreatW24
namespace Go.Xq
open Go.Conc Go.ConcN Go.Conc.Lib Go.ConcR.Gen Go.ConcN.Gen
open Go.ConcR (KK wgBlock WgAt stA smA rd wr mk DC0)
structure HisOk (sp : Gp) (SB : Nat → Prop) (Wh : His) : Prop where
  X : ∀ k, sp.X k → sp.Y k ∧ ∃ o, sp.h0[k]? = some o ∧ NVo o ∧ Wh.W0.heap[k]? = some o
  out : ¬ SB sp.out
open Classical in
noncomputable def joinW (sp : Gp) (W V0 : World) (O : Nat → Hd) (u : Nat → World) : World :=
  { V0 with heap := V0.heap.mapIdx fun k o => if k = sp.Wg then deadO else if k = sp.out then (W.heap[k]?).getD deadO else if sp.X k then (sp.h0[k]?).getD deadO else
      if h : ∃ n o', O k = .dep n ∧ (u n).heap[k]? = some o' ∧ ¬ Dead o' then h.choose_spec.choose else o }
section
variable {P : Program} {sp : Gp} {Φ : Frame → List Frame → World → Prop} {k0 : Nat} {SB : Nat → Prop} {Wh : His} {x : Cf}
section
variable {W V0 : World} {O : Nat → Hd} {u : Nat → World}
open Classical in
theorem joinW_get (sp : Gp) {k : Nat} {o : Obj} (h : V0.heap[k]? = some o) : (joinW sp W V0 O u).heap[k]? = some (if k = sp.Wg then deadO else if k = sp.out then (W.heap[k]?).getD deadO else if sp.X k then (sp.h0[k]?).getD deadO else
      if h : ∃ n o', O k = .dep n ∧ (u n).heap[k]? = some o' ∧ ¬ Dead o' then h.choose_spec.choose else o) := by
  classical
  show (V0.heap.mapIdx _)[k]? = _
  rw [Array.getElem?_mapIdx, h]
  rfl
theorem joinW_back {k : Nat} {o : Obj} (h : (joinW sp W V0 O u).heap[k]? = some o) : ∃ o', V0.heap[k]? = some o' := by
  have hlt := (Array.getElem?_eq_some_iff.1 h).1
  have : k < V0.heap.size := by
    have e : (joinW sp W V0 O u).heap.size = V0.heap.size := by show (V0.heap.mapIdx _).size = _; simp
    omega
  exact ⟨_, Array.getElem?_eq_getElem this⟩
theorem joinW_size : (joinW sp W V0 O u).heap.size = V0.heap.size := by show (V0.heap.mapIdx _).size = _; simp
theorem joinW_same {k : Nat} {o : Obj} (h : V0.heap[k]? = some o) (h1 : k ≠ sp.Wg) (h2 : k ≠ sp.out) (h3 : ¬ sp.X k) (h4 : ∀ n, O k = .dep n → ∀ o', (u n).heap[k]? = some o' → Dead o') : (joinW sp W V0 O u).heap[k]? = some o := by
  rw [joinW_get sp h, if_neg h1, if_neg h2, if_neg h3, dif_neg]
  rintro ⟨n, o', e1, e2, e3⟩
  exact e3 (h4 n e1 o' e2)
theorem joinW_dep {k n : Nat} {o o' : Obj} (h : V0.heap[k]? = some o) (h1 : k ≠ sp.Wg) (h2 : k ≠ sp.out) (h3 : ¬ sp.X k) (h4 : O k = .dep n) (h5 : (u n).heap[k]? = some o') (h6 : ¬ Dead o') : (joinW sp W V0 O u).heap[k]? = some o' := by
  have hex : ∃ n o', O k = .dep n ∧ (u n).heap[k]? = some o' ∧ ¬ Dead o' := ⟨n, o', h4, h5, h6⟩
  rw [joinW_get sp h, if_neg h1, if_neg h2, if_neg h3, dif_pos hex]
  obtain ⟨e1, e2, _⟩ := hex.choose_spec.choose_spec
  have e1' := h4.symm.trans e1
  injection e1' with e1'
  have key : ∀ m z, n = m → (u m).heap[k]? = some z → z = o' := by
    rintro m z rfl hz
    rw [h5] at hz; cases hz; rfl
  exact congrArg some (key _ _ e1' e2)
end
theorem allOver (h : Bst P sp Φ k0 SB Wh x) (he : Ended P sp Φ x) {b : Nat} (hb : b < x.j) : (x.xs b).s = 1 := by
  obtain ⟨e, _⟩ := he
  have hm := h.mode
  rw [e] at hm
  have := (mode_fin (tag' := .ret) hm trivial trivial).2.2.2 b hb
  simp only [Cf.D] at this
  omega
theorem burst_join (ok : GpOk P sp) (ho : HisOk sp SB Wh) (h : Bst P sp Φ k0 SB Wh x) (he : Ended P sp Φ x) :
    ∃ fr cs v' r, Joined sp (x.V Option.none) v' ∧ @GxR (mainD P sp) P Φ r fr cs v' ∧ Outer P SB x.gs x.W x.t fr cs v' ∧
      (∀ (k : Nat) (o : Obj), Wh.v0.heap[k]? = some o → (Dead o ∨ Shr o) → k ≠ sp.Wg → k ≠ sp.out → ¬ sp.X k → v'.heap[k]? = some o ∧ x.W.heap[k]? = Wh.W0.heap[k]?) ∧
      x.W.tape = Wh.W0.tape ∧ x.W.os = Wh.W0.os ∧ x.W.output = Wh.W0.output ∧ Wh.W0.heap.size ≤ x.W.heap.size := by
  classical
  have hw := h.wst
  have r0 := hw.r _ hw.main
  have over := fun b hb => allOver h he (b := b) hb
  obtain ⟨etag, ed, ej, fr, cs, ea, hc⟩ := he
  obtain ⟨cc, hc1, hc2, hc3⟩ := h.outW
  have all : ∀ n, n < sp.N → x.dp n := fun n hn => h.dpd (n % sp.step) (by rw [ej]; exact ok.all n hn) (by rw [over _ (by rw [ej]; exact ok.all n hn)]; omega) n hn rfl
  have depDp : ∀ n, x.dp n → n < sp.N := fun n hn => (h.dpl n hn).1
  -- what stands there
  have V0 : ∀ {k : Nat}, k < x.W.heap.size → ∃ o, (x.V Option.none).heap[k]? = some o := fun hk => ⟨_, Array.getElem?_eq_getElem (by rw [r0.size]; exact hk)⟩
  have Xn : ∀ {k : Nat}, sp.X k → k ≠ sp.Wg ∧ k ≠ sp.out ∧ x.O k = .shr := fun hk => by
    have := hw.y _ (ho.X _ hk).1
    exact ⟨fun e => (by rw [e, hw.wg] at this; cases this), fun e => (by rw [e, hw.out] at this; cases this), this⟩
  obtain ⟨u, hu⟩ : ∃ u : Nat → World, (fun n => if x.dp n then x.u n else ({ x.W with heap := #[] } : World)) = u := ⟨_, rfl⟩
  have udp : ∀ n, x.dp n → u n = x.u n := fun n hn => by rw [← hu]; exact if_pos hn
  have uno : ∀ n, ¬ x.dp n → ∀ k : Nat, (u n).heap[k]? = (Option.none : Option Obj) := fun n hn k => by
    rw [← hu]
    show (if x.dp n then x.u n else ({ x.W with heap := #[] } : World)).heap[k]? = _
    rw [if_neg hn]; simp
  have ud : ∀ n (k : Nat) (o : Obj), (u n).heap[k]? = some o → ¬ Dead o → x.dp n ∧ ((x.O k = .dep n ∧ RAt o x.W k ∧ NVo o ∧ sp.h0.size ≤ k) ∨ (Shr o ∧ x.O k = .shr ∧ (x.V Option.none).heap[k]? = some o)) := fun n k o hk hd => by
    by_cases hn : x.dp n
    · rw [udp n hn] at hk
      exact ⟨hn, hw.ud n hn k o hk hd⟩
    · rw [uno n hn] at hk; cases hk
  -- at a place of goroutine 0's own, or shared, all is as it was
  have same : ∀ {k : Nat} {o : Obj}, (x.V Option.none).heap[k]? = some o → k ≠ sp.Wg → k ≠ sp.out → ¬ sp.X k → (∀ n, x.O k ≠ .dep n) → (joinW sp x.W (x.V Option.none) x.O u).heap[k]? = some o := fun hk h1 h2 h3 h4 =>
    joinW_same hk h1 h2 h3 fun n e => absurd e (h4 n)
  have liveO : ∀ {k : Nat} {o : Obj}, (x.V Option.none).heap[k]? = some o → ¬ Dead o → k ≠ sp.Wg ∧ k ≠ sp.out ∧ (∀ n, x.O k ≠ .dep n) ∧ (x.O k = .ag Option.none ∨ (Shr o ∧ x.O k = .shr)) := fun {k o} hk hd => by
    have h3 := hw.n _ hw.main k o hk hd
    exact ⟨fun e => (by rw [e, hw.wg] at h3; rcases h3 with h3 | ⟨_, h3⟩ <;> cases h3), fun e => (by rw [e, hw.out] at h3; rcases h3 with h3 | ⟨_, h3⟩ <;> cases h3), fun n e => (by rw [e] at h3; rcases h3 with h3 | ⟨_, h3⟩ <;> cases h3), h3⟩
  have hWg : (joinW sp x.W (x.V Option.none) x.O u).heap[sp.Wg]? = some deadO := by
    obtain ⟨o, hk⟩ := V0 hw.wgl
    rw [joinW_get sp hk, if_pos rfl]
  have hOut : (joinW sp x.W (x.V Option.none) x.O u).heap[sp.out]? = some (.cells cc sp.oe (0, 0)) := by
    obtain ⟨o, hk⟩ := V0 hw.outl
    rw [joinW_get sp hk, if_neg (Ne.symm ok.ne), if_pos rfl, hc1]; rfl
  have hX : ∀ k, sp.X k → (joinW sp x.W (x.V Option.none) x.O u).heap[k]? = sp.h0[k]? := fun k hk => by
    obtain ⟨h1, h2, h3⟩ := Xn hk
    obtain ⟨_, o', ho', _⟩ := ho.X k hk
    obtain ⟨o, hk0⟩ := V0 (hw.lt (k := k) (by rw [h3]; simp))
    rw [joinW_get sp hk0, if_neg h1, if_neg h2, if_pos hk, ho']; rfl
  have hDep : ∀ {k n : Nat} {o : Obj}, x.O k = .dep n → (u n).heap[k]? = some o → ¬ Dead o → (joinW sp x.W (x.V Option.none) x.O u).heap[k]? = some o := fun {k n o} hO hk hd => by
    obtain ⟨o', hk0⟩ := V0 (hw.lt (k := k) (by rw [hO]; simp))
    exact joinW_dep hk0 (fun e => (by rw [e, hw.wg] at hO; cases hO)) (fun e => (by rw [e, hw.out] at hO; cases hO)) (fun e => (by rw [(Xn e).2.2] at hO; cases hO)) hO hk hd
  -- every block of it
  have cases4 : ∀ {k : Nat} {o : Obj}, (joinW sp x.W (x.V Option.none) x.O u).heap[k]? = some o → o = deadO ∨ (k = sp.out ∧ o = .cells cc sp.oe (0, 0)) ∨ (sp.X k ∧ sp.h0[k]? = some o) ∨ (∃ n, x.O k = .dep n ∧ (u n).heap[k]? = some o ∧ ¬ Dead o) ∨ (x.V Option.none).heap[k]? = some o := fun {k o} hk => by
    obtain ⟨o', hk0⟩ := joinW_back hk
    by_cases h1 : k = sp.Wg
    · subst h1; rw [hWg] at hk; exact .inl (Option.some.inj hk).symm
    · by_cases h2 : k = sp.out
      · subst h2; rw [hOut] at hk; exact .inr (.inl ⟨rfl, (Option.some.inj hk).symm⟩)
      · by_cases h3 : sp.X k
        · rw [hX k h3] at hk; exact .inr (.inr (.inl ⟨h3, hk⟩))
        · by_cases h4 : ∃ n o', x.O k = .dep n ∧ (u n).heap[k]? = some o' ∧ ¬ Dead o'
          · obtain ⟨n, o2, e1, e2, e3⟩ := h4
            have := hDep e1 e2 e3
            rw [hk] at this; cases this
            exact .inr (.inr (.inr (.inl ⟨n, e1, e2, e3⟩)))
          · have := joinW_same (W := x.W) hk0 h1 h2 h3 (u := u) (O := x.O) fun n e1 o2 e2 => Classical.byContradiction fun e3 => h4 ⟨n, o2, e1, e2, e3⟩
            rw [hk] at this; cases this
            exact .inr (.inr (.inr (.inr hk0)))
  have same2 : ∀ {k : Nat} {o : Obj}, (x.V Option.none).heap[k]? = some o → k ≠ sp.Wg → k ≠ sp.out → ¬ sp.X k → (∀ n, x.O k = .dep n → ∀ o', (u n).heap[k]? = some o' → Dead o') → (joinW sp x.W (x.V Option.none) x.O u).heap[k]? = some o := fun hk h1 h2 h3 h4 => joinW_same hk h1 h2 h3 h4
  have hvz : (joinW sp x.W (x.V Option.none) x.O u).heap.size = (x.V Option.none).heap.size := joinW_size
  have hvt : (joinW sp x.W (x.V Option.none) x.O u).tape = (x.V Option.none).tape := rfl
  have hvd : (joinW sp x.W (x.V Option.none) x.O u).drawn = (x.V Option.none).drawn := rfl
  have hvo : (joinW sp x.W (x.V Option.none) x.O u).os = (x.V Option.none).os := rfl
  have hvp : (joinW sp x.W (x.V Option.none) x.O u).output = (x.V Option.none).output := rfl
  generalize hv : joinW sp x.W (x.V Option.none) x.O u = v' at *
  have hnv : NV v' := fun k o hk => by
    rcases cases4 hk with rfl | ⟨_, rfl⟩ | ⟨h1, h2⟩ | ⟨n, h1, h2, h3⟩ | h1
    · exact nvo_dead
    · exact ⟨rfl, fun _ _ h => by cases h⟩
    · obtain ⟨_, o', e1, e2, _⟩ := ho.X k h1
      rw [h2] at e1; cases e1
      exact e2
    · obtain ⟨_, ⟨_, _, h4, _⟩ | ⟨_, _, h4⟩⟩ := ud n k o h2 h3
      · exact h4
      · exact r0.nv k o h4
    · exact r0.nv k o h1
  have hJ : Joined sp (x.V Option.none) v' := by
    refine ⟨hvt, hvo, hvp, Nat.le_of_eq hvz.symm, hnv, hWg, fun k o hk hd hs => ?_, fun k o hnX hk hs => ?_, hX, fun k o hlt h1 h2 h3 hk hd => ?_, cc, u, hc2, hOut, fun n hn => ⟨?_, ?_, fun k o hk hd => ?_⟩⟩
    · obtain ⟨h1, h2, h3, h4⟩ := liveO hk hd
      refine same hk h1 h2 (fun e => ?_) h3
      rcases h4 with h4 | ⟨h4, _⟩
      · rw [(Xn e).2.2] at h4; cases h4
      · exact hs h4
    · obtain ⟨h1, h2, h3, _⟩ := liveO hk hs.not_dead
      exact same hk h1 h2 hnX h3
    · refine same2 hk h2 h1 h3 fun n e o' ho' => Classical.byContradiction fun hd' => ?_
      obtain ⟨_, ⟨_, _, _, h4⟩ | ⟨_, h4, _⟩⟩ := ud n k o' ho' hd'
      · omega
      · rw [e] at h4; cases h4
    · rw [udp n (all n hn)]; exact hc3 n (all n hn)
    · rw [udp n (all n hn), hvz, r0.size]; exact hw.uz n (all n hn)
    · obtain ⟨_, ⟨h1, _, _, h4⟩ | ⟨h1, h2, h3⟩⟩ := ud n k o hk hd
      · refine .inl ⟨hDep h1 hk hd, h4, fun o' ho' => Classical.byContradiction fun hd' => (liveO ho' hd').2.2.1 n h1, fun m _ hne o' ho' => Classical.byContradiction fun hd' => ?_⟩
        obtain ⟨_, ⟨h5, _⟩ | ⟨_, h5, _⟩⟩ := ud m k o' ho' hd'
        · rw [h1] at h5; injection h5 with h5; exact hne h5.symm
        · rw [h1] at h5; cases h5
      · exact .inr ⟨h1, h3⟩
  obtain ⟨r, hr⟩ := hc _ v' (Idle.refl _) hJ
  have rat_eq : ∀ {o : Obj} {k : Nat}, x.W.heap[k]? = some o → RAt o x.W k := fun h => ⟨fun _ => h, fun c e fr he => ⟨fr, he ▸ h⟩⟩
  refine ⟨fr, cs, v', r, hJ, hr, ?_, fun k o hk hd h1 h2 h3 => ?_, hw.tp, hw.wos, hw.wop, hw.sz⟩
  · refine ⟨ea ▸ h.a, ?_, h.past etag, ?_, fun k hk => ?_, fun op hop => ?_, fun op hop a => ?_⟩
    · have each : ∀ i, ∃ m, 0 < i → ∀ g, x.gs[i]? = some g → QuitsD P m (Deaf x.t i) g := fun i => by
        by_cases hik : i < k0
        · exact ⟨x.q i, fun hpos g hg => h.old i g hpos hik hg⟩
        · by_cases hb : i - k0 < x.j
          · obtain ⟨g, hg, hk⟩ := h.wk (i - k0) hb
            rw [show k0 + (i - k0) = i by omega] at hg
            have e1 := over _ hb
            have e2 := h.wd (i - k0) hb
            rw [show k0 + (i - k0) = i by omega] at e2
            cases hk with
            | work fr cs n h1 => omega
            | lib m h7 h1 hr' hL =>
              refine ⟨m, fun _ g2 hg2 => ?_⟩
              rw [hg] at hg2; cases hg2
              rw [e2]
              rw [e1] at hL
              cases hL with
              | quit hq => exact hq
          · refine ⟨0, fun _ g hg => ?_⟩
            have := (Array.getElem?_eq_some_iff.1 hg).1
            have := h.size
            omega
      obtain ⟨q, hq⟩ := Classical.axiomOfChoice each
      exact ⟨q, fun i g hpos hg => hq i hpos g hg, h.above⟩
    · refine restr_of (hvt.trans r0.tape) (hvd.trans r0.drawn) (hvo.trans r0.os) (hvp.trans r0.output) (hvz.trans r0.size) hnv fun k o hk hd => ?_
      rcases cases4 hk with rfl | ⟨rfl, rfl⟩ | ⟨h1, h2⟩ | ⟨n, h1, h2, h3⟩ | h1
      · exact absurd dead_deadO hd
      · exact rat_eq hc1
      · obtain ⟨_, o', e1, _, e3⟩ := ho.X k h1
        rw [h2] at e1; cases e1
        exact rat_eq ((hw.shW k (.inl (Xn h1).2.2)).trans e3)
      · obtain ⟨_, ⟨_, h4, _⟩ | ⟨_, _, h4⟩⟩ := ud n k o h2 h3
        · exact h4
        · exact r0.rat h4 hd
      · exact r0.rat h1 hd
    · by_cases e1 : k = sp.Wg
      · exact ⟨_, by rw [e1]; exact hWg, dead_deadO⟩
      · obtain ⟨o, ho', hdd⟩ := h.sbV k hk
        have h3 := h.sbO k hk
        exact ⟨o, same ho' e1 (fun e => ho.out (e ▸ hk)) (fun e => (by rw [(Xn e).2.2] at h3; rcases h3 with h3 | h3 <;> cases h3)) (fun n e => (by rw [e] at h3; rcases h3 with h3 | h3 <;> cases h3)), hdd⟩
    · obtain ⟨i, hi, rfl⟩ := Array.mem_iff_getElem.1 hop
      rw [h.size]
      exact h.tri.gs i _ (Array.getElem?_eq_getElem hi)
    · obtain ⟨i, hi, rfl⟩ := Array.mem_iff_getElem.1 hop
      intro e
      exact h.tri.norel i a (by simp [Trace.act?, Array.getElem?_eq_getElem hi, e])
  · obtain ⟨h4, h5⟩ := hw.st0 k o hk hd h1 h2
    exact ⟨same h5 h1 h2 h3 (fun n e => (by rw [e] at h4; rcases h4 with h4 | h4 <;> cases h4)), hw.shW k h4.symm⟩
end
end Go.Xq
namespace Go.Xq
open Go.Conc Go.ConcN Go.Conc.Lib Go.ConcR.Gen Go.ConcN.Gen
open Go.ConcR (KK wgBlock WgAt stA smA rd wr mk DC0)
def frozen : Obj → Obj
  | .cells c e _ => .cells c e (0, c.size + 2)
  | o => o
open Classical in
noncomputable def openW (sp : Gp) (w : World) : World :=
  { w with heap := w.heap.mapIdx fun k o => if k = sp.Wg then mkD 1 0 else if k = sp.out then mkD 5 0 else if sp.X k then frozen o else o }
structure BurstAt (P : Program) (sp : Gp) (Φ : Frame → List Frame → World → Prop) (fr : Frame) (cs : List Frame) (w : World) : Prop where
  ok : GpOk P sp
  h0 : sp.h0 = w.heap
  wg : WgAt sp.L.tWg sp.Wg w 0 0
  out : ∃ cc, w.heap[sp.out]? = some (.cells cc sp.oe (0, 0)) ∧ cc.size = sp.N * sp.ks
  X : ∀ k, sp.X k → k ≠ sp.Wg ∧ k ≠ sp.out ∧ sp.Y k ∧ ∃ c e fr, w.heap[k]? = some (.cells c e fr) ∧ FZ fr c.size
  Y : ∀ k, sp.Y k → sp.X k ∨ ∃ o, w.heap[k]? = some o ∧ Shr o
  gx : @Gx P (mainD P sp) Φ fr cs (openW sp w)
  fin : ∀ fr cs v, Φ fr cs v → v.heap[sp.Wg]? = some deadO
def burstD (P : Program) (sp : Gp) (Φ : Frame → List Frame → World → Prop) : Deal where
  pre fr cs w := ∃ v, Idle v w ∧ BurstAt P sp Φ fr cs v
  post _ _ _ fr' cs' w' := Φ fr' cs' w'
section
variable {sp : Gp} {v w : World}
open Classical in
theorem openW_get (sp : Gp) (w : World) (k : Nat) : (openW sp w).heap[k]? = (w.heap[k]?).map fun o => if k = sp.Wg then mkD 1 0 else if k = sp.out then mkD 5 0 else if sp.X k then frozen o else o := by
  show (w.heap.mapIdx _)[k]? = _
  rw [Array.getElem?_mapIdx]
theorem openW_size (sp : Gp) (w : World) : (openW sp w).heap.size = w.heap.size := by show (w.heap.mapIdx _).size = _; simp
theorem openW_same {k : Nat} (h1 : k ≠ sp.Wg) (h2 : k ≠ sp.out) (h3 : ¬ sp.X k) : (openW sp w).heap[k]? = w.heap[k]? := by
  rw [openW_get]; simp [h1, h2, h3]
theorem openW_wg {o : Obj} (h : w.heap[sp.Wg]? = some o) : (openW sp w).heap[sp.Wg]? = some (mkD 1 0) := by
  rw [openW_get, h, Option.map_some, if_pos rfl]
theorem openW_out {o : Obj} (hne : sp.Wg ≠ sp.out) (h : w.heap[sp.out]? = some o) : (openW sp w).heap[sp.out]? = some (mkD 5 0) := by
  rw [openW_get, h, Option.map_some, if_neg (Ne.symm hne), if_pos rfl]
theorem openW_X {k : Nat} {c : Array Value} {e : TypeId} {fr : Nat × Nat} (h1 : k ≠ sp.Wg) (h2 : k ≠ sp.out) (h3 : sp.X k) (h : w.heap[k]? = some (.cells c e fr)) : (openW sp w).heap[k]? = some (.cells c e (0, c.size + 2)) := by
  rw [openW_get, h, Option.map_some, if_neg h1, if_neg h2, if_pos h3]; rfl
theorem idle_openW (hi : Idle v w) (h1 : sp.Wg < v.heap.size) (h2 : sp.out < v.heap.size) (h3 : ∀ k, sp.X k → k < v.heap.size) : Idle (openW sp v) (openW sp w) := by
  obtain ⟨n, d, rfl⟩ := hi
  refine ⟨n, d, ?_⟩
  have e : (openW sp { v with heap := v.heap ++ Array.replicate n deadO, drawn := d }).heap = (openW sp v).heap ++ Array.replicate n deadO := by
    apply Array.ext_getElem?
    intro k
    have hz := openW_size sp v
    rw [openW_get, Array.getElem?_append, Array.getElem?_append, hz]
    by_cases hk : k < v.heap.size
    · rw [if_pos hk, if_pos hk, openW_get]
    · have e1 : k ≠ sp.Wg := by omega
      have e2 : k ≠ sp.out := by omega
      have e3 : ¬ sp.X k := fun e => hk (h3 k e)
      rw [if_neg hk, if_neg hk]
      simp [e1, e2, e3]
  rw [← e]
  rfl
end
section
variable {D : Dealing} {P : Program} {Φ : Frame → List Frame → World → Prop}
theorem gx_of_rank : ∀ {r : Rk} {fr : Frame} {cs : List Frame} {w : World}, @GxR D P Φ r fr cs w → @Gx P D Φ fr cs w := by
  intro r
  induction r with
  | z => exact fun h => @Gx.stop P D Φ _ _ _ h
  | s g ih =>
    intro fr cs w h
    rcases h with ⟨f, h1, h2⟩ | ⟨d, h1, h2, h3⟩
    · exact @Gx.step P D Φ _ _ _ f h1 fun w1 hi => ih _ (h2 w1 hi)
    · exact @Gx.deal P D Φ _ _ _ d h1 h2 fun w1 fr' cs' w' hi hp => ih _ (h3 w1 fr' cs' w' hi hp)
theorem outer_last {P : Program} {sp : Gp} {Φ : Frame → List Frame → World → Prop} {fr : Frame} {cs : List Frame} {v : World} (h : @Gx P (mainD P sp) Φ fr cs v) : v.heap[sp.Wg]? = some deadO → ∀ {SB : Nat → Prop} {gs : Array Goroutine} {W : World} {sl : Option (Nat × Nat)} {t : Trace}, Outer P SB gs W t fr cs v →
    ∃ (N : Nat) (gs' : Array Goroutine) (W' : World) (sl' : Option (Nat × Nat)) (t' : Trace) (fr' : Frame) (cs' : List Frame) (v' : World), Φ fr' cs' v' ∧
      runNT P N (crowd gs W sl) t = (.next (crowd gs' W' sl'), t') ∧ Outer P SB gs' W' t' fr' cs' v' ∧ Stays v v' ∧ Beside v W W' := by
  induction h with
  | stop h => intro _ SB gs W sl t ho; exact ⟨0, gs, W, sl, t, _, _, _, h _ (Idle.refl _), rfl, ho, Stays.refl _, Beside.refl _ _⟩
  | step f hl _ ih =>
    intro hw SB gs W sl t ho
    obtain ⟨q, hL⟩ := ho.lv
    obtain ⟨N, gs1, W1, sl1, t1, v1, hi, hr, ho1, hs1, hb1⟩ := outer_step f _ gs W sl t _ q (Nat.le_refl _) hL ho hl
    obtain ⟨N2, gs2, W2, sl2, t2, fr2, cs2, v2, hΦ, hr2, ho2, hs2, hb2⟩ := ih v1 hi (hs1 _ _ hw (.inl dead_deadO)) (sl := sl1) ho1
    exact ⟨N + N2, gs2, W2, sl2, t2, fr2, cs2, v2, hΦ, by rw [runNT_add, hr]; exact hr2, ho2, hs1.trans hs2, hb1.andThen hs1 hb2⟩
  | deal d hd hp _ ih =>
    intro hw SB gs W sl t _
    have hd : d = addDeal P sp ∨ d = spawnDeal P sp ∨ d = waitDeal P sp := hd
    have hw : _ = some (mkD 0 0) := hw
    rcases hd with rfl | rfl | rfl
    · obtain ⟨j, fr', _, h1, _⟩ := hp _ (Idle.refl _)
      exact absurd (mark_eq hw h1).1 (by omega)
    · obtain ⟨j, c, fr', cs', frc, _, h1, _⟩ := hp _ (Idle.refl _)
      exact absurd (mark_eq hw h1).1 (by omega)
    · obtain ⟨fr', h1, _⟩ := hp _ (Idle.refl _)
      exact absurd (mark_eq hw h1).1 (by omega)
end
end Go.Xq
namespace Go.Xq
open Go.Conc Go.ConcN Go.Conc.Lib Go.ConcR.Gen Go.ConcN.Gen
open Go.ConcR (KK wgBlock WgAt stA smA rd wr mk DC0)
theorem FZ.not2 {fr : Nat × Nat} {c : Array Value} {e : TypeId} (h : FZ fr c.size) : ¬ Dead (.cells c e fr) ∧ ¬ Shr (.cells c e fr) := by
  refine ⟨?_, ?_⟩
  · rintro ⟨e', n, h'⟩
    injection h' with h1 h2 h3
    subst h3
    rcases h with h | h
    · simp at h
    · injection h with a b; omega
  · rintro ⟨c', e', h'⟩
    injection h' with h1 h2 h3
    subst h1; subst h3
    rcases h with h | h
    · injection h with a b; omega
    · injection h with a b; omega
open Classical in
noncomputable def openO (sp : Gp) (v : World) (k : Nat) : Hd :=
  if k = sp.Wg ∨ k = sp.out then .none else if sp.X k then .shr else if ∃ o, v.heap[k]? = some o ∧ Shr o then .shr else if ∃ o, v.heap[k]? = some o ∧ Dead o then .old else if k < v.heap.size then .ag Option.none else .none
section
variable {P : Program} {sp : Gp} {Φ : Frame → List Frame → World → Prop} {SB : Nat → Prop} {gs : Array Goroutine} {W : World} {t : Trace} {fr : Frame} {cs : List Frame} {v : World}
theorem openO_none {k : Nat} (h : k = sp.Wg ∨ k = sp.out) : openO sp v k = .none := if_pos h
theorem openO_X {k : Nat} (h1 : k ≠ sp.Wg) (h2 : k ≠ sp.out) (h : sp.X k) : openO sp v k = .shr := by
  unfold openO
  rw [if_neg (by rintro (e | e) <;> contradiction), if_pos h]
theorem openO_shr {k : Nat} {o : Obj} (h1 : k ≠ sp.Wg) (h2 : k ≠ sp.out) (hk : v.heap[k]? = some o) (h : Shr o) : openO sp v k = .shr := by
  unfold openO
  rw [if_neg (by rintro (e | e) <;> contradiction)]
  by_cases h3 : sp.X k
  · rw [if_pos h3]
  · rw [if_neg h3, if_pos ⟨o, hk, h⟩]
theorem openO_old {k : Nat} {o : Obj} (h1 : k ≠ sp.Wg) (h2 : k ≠ sp.out) (h3 : ¬ sp.X k) (hk : v.heap[k]? = some o) (h : Dead o) : openO sp v k = .old := by
  unfold openO
  rw [if_neg (by rintro (e | e) <;> contradiction), if_neg h3, if_neg (by rintro ⟨o', e1, e2⟩; rw [hk] at e1; cases e1; exact h.not_shr e2), if_pos ⟨o, hk, h⟩]
theorem openO_own {k : Nat} {o : Obj} (h1 : k ≠ sp.Wg) (h2 : k ≠ sp.out) (h3 : ¬ sp.X k) (hk : v.heap[k]? = some o) (h : ¬ Dead o) (h' : ¬ Shr o) : openO sp v k = .ag Option.none := by
  unfold openO
  rw [if_neg (by rintro (e | e) <;> contradiction), if_neg h3, if_neg (by rintro ⟨o', e1, e2⟩; rw [hk] at e1; cases e1; exact h' e2), if_neg (by rintro ⟨o', e1, e2⟩; rw [hk] at e1; cases e1; exact h e2), if_pos (Array.getElem?_eq_some_iff.1 hk).1]
theorem openO_big {k : Nat} (hX : ∀ k, sp.X k → k < v.heap.size) (hk : v.heap.size ≤ k) : openO sp v k = .none := by
  unfold openO
  have e : v.heap[k]? = Option.none := Array.getElem?_eq_none hk
  by_cases h1 : k = sp.Wg ∨ k = sp.out
  · rw [if_pos h1]
  · rw [if_neg h1, if_neg (fun e => by have := hX k e; omega), if_neg (by rintro ⟨o', e1, _⟩; rw [e] at e1; cases e1), if_neg (by rintro ⟨o', e1, _⟩; rw [e] at e1; cases e1), if_neg (by omega)]
theorem openO_ag {k : Nat} {a : Option Nat} (h : openO sp v k = .ag a) : a = Option.none := by
  unfold openO at h
  split at h
  · cases h
  split at h
  · cases h
  split at h
  · cases h
  split at h
  · cases h
  split at h
  · cases h; rfl
  · cases h
theorem wgBlock_nd {ty : TypeId} {st sm : Int} : ¬ Dead (wgBlock ty st sm) ∧ ¬ Shr (wgBlock ty st sm) := bare_nd
theorem open_bst (ho : Outer P SB gs W t fr cs v) (ok : GpOk P sp) (wg : WgAt sp.L.tWg sp.Wg v 0 0) (hout : ∃ cc, v.heap[sp.out]? = some (.cells cc sp.oe (0, 0)) ∧ cc.size = sp.N * sp.ks)
    (hX : ∀ k, sp.X k → k ≠ sp.Wg ∧ k ≠ sp.out ∧ sp.Y k ∧ ∃ c e fr, v.heap[k]? = some (.cells c e fr) ∧ FZ fr c.size) (hY : ∀ k, sp.Y k → sp.X k ∨ ∃ o, v.heap[k]? = some o ∧ Shr o) (hh : sp.h0.size ≤ v.heap.size)
    {r : Rk} (hr : @GxR (mainD P sp) P Φ r fr cs (openW sp v)) : ∃ x : Cf, x.gs = gs ∧ x.W = W ∧ x.t = t ∧ Bst P sp Φ gs.size (fun k => SB k ∨ k = sp.Wg) ⟨W, openW sp v⟩ x := by
  obtain ⟨q, hL⟩ := ho.lv
  obtain ⟨cc, hc1, hc2⟩ := hout
  have hv := ho.restr
  have hg0 : 0 < gs.size := (Array.getElem?_eq_some_iff.1 ho.main).1
  have hwgv : v.heap[sp.Wg]? = some (wgBlock sp.L.tWg 0 0) := wg
  have hwl : sp.Wg < v.heap.size := (Array.getElem?_eq_some_iff.1 hwgv).1
  have hol : sp.out < v.heap.size := (Array.getElem?_eq_some_iff.1 hc1).1
  have hXl : ∀ k, sp.X k → k < v.heap.size := fun k hk => let ⟨_, _, _, _, _, _, e, _⟩ := hX k hk; (Array.getElem?_eq_some_iff.1 e).1
  have hwgW : WgAt sp.L.tWg sp.Wg W 0 0 := hv.own _ _ hwgv wgBlock_nd.1 wgBlock_nd.2
  have hSW : ¬ SB sp.Wg := fun h => by
    obtain ⟨o, e1, e2⟩ := ho.shun _ h
    rw [hwgv] at e1; cases e1
    exact wgBlock_nd.1 e2
  have hSo : ¬ SB sp.out := fun h => by
    obtain ⟨o, e1, e2⟩ := ho.shun _ h
    rw [hc1] at e1; cases e1
    exact bare_nd.1 e2
  have hSX : ∀ k, SB k → ¬ sp.X k := fun k h hx => by
    obtain ⟨o, e1, e2⟩ := ho.shun _ h
    obtain ⟨_, _, _, c, e, fr, e3, hz⟩ := hX k hx
    rw [e3] at e1; cases e1
    exact hz.not2.1 e2
  have hSO : ∀ k, SB k → openO sp v k = .old := fun k h => by
    obtain ⟨o, e1, e2⟩ := ho.shun _ h
    exact openO_old (fun e => hSW (e ▸ h)) (fun e => hSo (e ▸ h)) (hSX k h) e1 e2
  have live : ∀ {k : Nat} {o : Obj}, (openW sp v).heap[k]? = some o → ¬ Dead o → k ≠ sp.Wg ∧ k ≠ sp.out ∧ ((sp.X k ∧ ∃ c e fr, v.heap[k]? = some (.cells c e fr) ∧ FZ fr c.size ∧ o = .cells c e (0, c.size + 2)) ∨ (¬ sp.X k ∧ v.heap[k]? = some o)) := fun {k o} hk hd => by
    have h1 : k ≠ sp.Wg := fun e => by
      subst e; rw [openW_wg hwgv] at hk; cases hk; exact hd (dead_mkD _ _)
    have h2 : k ≠ sp.out := fun e => by
      subst e; rw [openW_out ok.ne hc1] at hk; cases hk; exact hd (dead_mkD _ _)
    refine ⟨h1, h2, ?_⟩
    by_cases h3 : sp.X k
    · obtain ⟨_, _, _, c, e, fr, e1, hz⟩ := hX k h3
      rw [openW_X h1 h2 h3 e1] at hk
      exact .inl ⟨h3, c, e, fr, e1, hz, (Option.some.inj hk).symm⟩
    · rw [openW_same h1 h2 h3] at hk
      exact .inr ⟨h3, hk⟩
  have nv : NV (openW sp v) := fun k o hk => by
    by_cases hd : Dead o
    · obtain ⟨e, n, rfl⟩ := hd; exact nvo_mkD _ _
    · obtain ⟨_, _, ⟨_, c, e, _, _, _, rfl⟩ | ⟨_, h1⟩⟩ := live hk hd
      · exact ⟨rfl, fun _ _ h => by cases h⟩
      · exact hv.nv k o h1
  have hr0 : Restr (openW sp v) W := restr_of hv.tape hv.drawn hv.os hv.output (by rw [openW_size]; exact hv.size) nv fun k o hk hd => by
    obtain ⟨_, _, ⟨_, c, e, fr, e1, hz, rfl⟩ | ⟨_, h1⟩⟩ := live hk hd
    · have := hv.own k _ e1 hz.not2.1 hz.not2.2
      exact ⟨fun hs => absurd ⟨c, e, rfl⟩ hs, fun c' e' fr' he => by cases he; exact ⟨_, this⟩⟩
    · exact hv.rat h1 hd
  let x : Cf := { gs := gs, W := W, t := t, j := 0, V := fun _ => openW sp v, O := openO sp v, dp := fun _ => False, u := fun _ => v, xs := fun _ => ⟨.z, 0, 1, 0⟩, rel := fun _ => Option.none, q := q, tag := .idle, r0 := r, d0 := 0, a := Conc.G fr cs, st := 0, sm := 0 }
  have hac : ∀ a, x.ac a → a = Option.none := fun a ha => by
    cases a with
    | none => rfl
    | some b => exact absurd ha.1 (Nat.not_lt_zero b)
  have hWst : Wst sp ⟨W, openW sp v⟩ W x.ac x.V x.O x.dp x.u (fun i => (x.xs i).c) := by
    refine ⟨trivial, fun a _ => hr0, fun a ha k o hk hd => ?_, fun a _ k o hk _ _ => hk, fun n hn => hn.elim, fun n hn => hn.elim, fun k hk => openO_big hXl (by rw [hv.size]; exact hk), fun k i hk => (by have := openO_ag hk; cases this), openO_none (.inl rfl), openO_none (.inr rfl), by rw [← hv.size]; exact hwl, by rw [← hv.size]; exact hol, fun _ _ => rfl, fun k hk => ?_, by rw [← hv.size]; exact hh, rfl, rfl, rfl, Nat.le_refl _, fun k o hk hd h1 h2 => ⟨?_, hk⟩⟩
    · rw [hac a ha]
      obtain ⟨h1, h2, ⟨h3, c, e, _, e1, _, rfl⟩ | ⟨h3, e1⟩⟩ := live hk hd
      · exact .inr ⟨⟨c, e, rfl⟩, openO_X h1 h2 h3⟩
      · by_cases hs : Shr o
        · exact .inr ⟨hs, openO_shr h1 h2 e1 hs⟩
        · exact .inl (openO_own h1 h2 h3 e1 hd hs)
    · rcases hY k hk with h1 | ⟨o, h1, h2⟩
      · obtain ⟨e1, e2, _⟩ := hX k h1
        exact openO_X e1 e2 h1
      · refine openO_shr (fun e => ?_) (fun e => ?_) h1 h2
        · subst e; rw [hwgv] at h1; cases h1; exact wgBlock_nd.2 h2
        · subst e; rw [hc1] at h1; cases h1; exact bare_nd.2 h2
    · show openO sp v k = .old ∨ openO sp v k = .shr
      have hk : (openW sp v).heap[k]? = some o := hk
      by_cases h3 : sp.X k
      · exact .inr (openO_X h1 h2 h3)
      · rw [openW_same h1 h2 h3] at hk
        rcases hd with hd | hd
        · exact .inl (openO_old h1 h2 h3 hk hd)
        · exact .inr (openO_shr h1 h2 hk hd)
  refine ⟨x, rfl, rfl, rfl, ⟨rfl, hg0, Nat.zero_le _, ho.main, fun i g hi _ hg => hL.old i g hi hg, fun i hi => hL.above i hi, ho.past.hears, fun i hi => absurd hi (Nat.not_lt_zero i), fun i hi => absurd hi (Nat.not_lt_zero i), fun i hi => absurd hi (Nat.not_lt_zero i), fun i hi => absurd hi (Nat.not_lt_zero i), hWst,
    ⟨cc, hv.own _ _ hc1 bare_nd.1 bare_nd.2, hc2, fun n hn => hn.elim⟩, fun n hn => hn.elim, fun i hi => absurd hi (Nat.not_lt_zero i), fun i hi => absurd hi (Nat.not_lt_zero i), .idle (openW_wg hwgv) hr, hwgW, ?_, ?_, fun e => (by cases e), fun k hk => ?_, .inr rfl, fun k i hk => (by have := openO_ag hk; cases this), fun k hk => ?_⟩⟩
  · have := Go.ConcN.Mode.opn (j := 0) (D := x.D) (tag := .sp (sp.J - 0) 8) trivial (fun b hb => absurd hb (Nat.not_lt_zero b)) (fun vs e => by cases e)
    have e0 : ((Vc 0 x.D + pend (.sp (sp.J - 0) 8) : Nat) : Int) * KK = 0 := by
      have : (Vc 0 x.D + pend (.sp (sp.J - 0) 8) : Nat) = 0 := rfl
      rw [this]; simp
    rw [e0] at this
    exact this
  · refine Tri.open_ ho.past ho.gsz ho.norel hSW (fun l g hl => ?_) fun l hl => ?_
    · have key : ∀ b, hdOw gs.size (openO sp v b) = .of g → g = 0 := fun b hb => by
        cases e : openO sp v b with
        | ag a =>
          have := openO_ag e
          subst this
          rw [e] at hb
          cases hb; rfl
        | _ => rw [e] at hb; cases hb
      cases l with
      | cell ad =>
        by_cases h6 : ad.block = sp.out
        · rw [show owL sp gs.size 0 (openO sp v) (.cell ad) = _ from ow_out h6] at hl
          split at hl
          · rw [if_neg (Nat.not_lt_zero _)] at hl; cases hl; rfl
          · cases hl
        · rw [show owL sp gs.size 0 (openO sp v) (.cell ad) = _ from ow_cell h6] at hl
          exact key _ hl
      | obj b => exact key _ hl
      | _ => cases hl
    · cases l with
      | cell ad =>
        refine ⟨rfl, ?_⟩
        rintro ⟨ad', e1, e2⟩
        cases e1
        refine hl ?_
        have h6 : ad.block ≠ sp.out := fun e => hSo (e ▸ e2)
        rw [show owL sp gs.size 0 (openO sp v) (.cell ad) = _ from ow_cell h6, hSO _ e2]
        rfl
      | obj b =>
        refine ⟨rfl, ?_⟩
        rintro ⟨ad', e1, _⟩
        cases e1
      | _ => exact absurd rfl hl
  · rcases hk with hk | rfl
    · exact .inr (hSO k hk)
    · exact .inl (openO_none (.inl rfl))
  · rcases hk with hk | rfl
    · obtain ⟨o, e1, e2⟩ := ho.shun k hk
      exact ⟨o, by show (openW sp v).heap[k]? = _; rw [openW_same (fun e => hSW (e ▸ hk)) (fun e => hSo (e ▸ hk)) (hSX k hk)]; exact e1, e2⟩
    · exact ⟨_, openW_wg hwgv, dead_mkD _ _⟩
theorem burst_big (P : Program) (sp : Gp) (Φ : Frame → List Frame → World → Prop) : BigDeal P (burstD P sp Φ) := by
  intro SB gs W sl t fr cs v ho hp
  obtain ⟨vb, hi, hb⟩ := hp v (Idle.refl _)
  have ok := hb.ok
  obtain ⟨cc, hc1, hc2⟩ := hb.out
  have hwg : vb.heap[sp.Wg]? = some (wgBlock sp.L.tWg 0 0) := hb.wg
  have hX : ∀ k, sp.X k → k ≠ sp.Wg ∧ k ≠ sp.out ∧ sp.Y k ∧ ∃ c e fr, v.heap[k]? = some (.cells c e fr) ∧ FZ fr c.size := fun k hk => let ⟨h1, h2, h3, c, e, fr, h4, h5⟩ := hb.X k hk; ⟨h1, h2, h3, c, e, fr, hi.some h4, h5⟩
  have hgi := idle_openW (sp := sp) hi (Array.getElem?_eq_some_iff.1 hwg).1 (Array.getElem?_eq_some_iff.1 hc1).1 (fun k hk => let ⟨_, _, _, _, _, _, e, _⟩ := hb.X k hk; (Array.getElem?_eq_some_iff.1 e).1)
  obtain ⟨r, hr⟩ := @Gx.rank (mainD P sp) P Φ _ _ _ hb.gx
  have hr := gxr_idle hr hgi
  have hwgv : v.heap[sp.Wg]? = some (wgBlock sp.L.tWg 0 0) := hi.some hwg
  have hcv := hi.some hc1
  obtain ⟨x, e1, e2, e3, hB⟩ := open_bst ho ok hwgv ⟨cc, hcv, hc2⟩ hX (fun k hk => (hb.Y k hk).imp id fun ⟨o, h1, h2⟩ => ⟨o, hi.some h1, h2⟩) (by rw [hb.h0]; exact hi.size) hr
  obtain ⟨N, sl1, x1, hrun, hB1, hE⟩ := burst_run ok hb.fin x hB sl
  have hH : HisOk sp (fun k => SB k ∨ k = sp.Wg) ⟨W, openW sp v⟩ := by
    refine ⟨fun k hk => ?_, ?_⟩
    · obtain ⟨_, _, h3, c, e, fr, h4, hz⟩ := hb.X k hk
      exact ⟨h3, _, by rw [hb.h0]; exact h4, ⟨rfl, fun _ _ h => by cases h⟩, ho.restr.own k _ (hi.some h4) hz.not2.1 hz.not2.2⟩
    · rintro (h | h)
      · obtain ⟨o, e1, e2⟩ := ho.shun _ h
        rw [hcv] at e1; cases e1
        exact bare_nd.1 e2
      · exact ok.ne h.symm
  obtain ⟨fr1, cs1, v1, r1, hJ, hr1, hO, hst, ht, hos, hop, hsz⟩ := burst_join ok hH hB1 hE
  obtain ⟨N2, gs2, W2, sl2, t2, fr2, cs2, v2, hΦ, hrun2, hO2, hs2, hb2⟩ := outer_last (gx_of_rank hr1) hJ.wg (sl := sl1) hO
  have stay : ∀ (k : Nat) (o : Obj), v.heap[k]? = some o → (Dead o ∨ Shr o) → v1.heap[k]? = some o ∧ x1.W.heap[k]? = W.heap[k]? := fun k o hk hd => by
    have h1 : k ≠ sp.Wg := fun e => by
      subst e; rw [hwgv] at hk; cases hk; exact hd.elim wgBlock_nd.1 wgBlock_nd.2
    have h2 : k ≠ sp.out := fun e => by
      subst e; rw [hcv] at hk; cases hk; exact hd.elim bare_nd.1 bare_nd.2
    have h3 : ¬ sp.X k := fun e => by
      obtain ⟨_, _, _, c, e', fr, e4, hz⟩ := hX k e
      rw [e4] at hk; cases hk; exact hd.elim hz.not2.1 hz.not2.2
    exact hst k o (by show (openW sp v).heap[k]? = _; rw [openW_same h1 h2 h3]; exact hk) hd h1 h2 h3
  have hs1 : Stays v v1 := fun k o hk hd => (stay k o hk hd).1
  have hb1 : Beside v W x1.W := ⟨ht, hos, hop, hsz, fun k o hk hd => (stay k o hk hd).2⟩
  rw [e1, e2, e3] at hrun
  exact ⟨N + N2, gs2, W2, sl2, t2, v, fr2, cs2, v2, _, Idle.refl _, hΦ, by rw [runNT_add, hrun]; exact hrun2, hO2, hs1.trans hs2, hb1.andThen hs1 hb2⟩
end
end Go.Xq
