/- A part of the proof of this seat's statement. Conditions: in each theorem. -/
import Derived.Test.YtnodjhgmghkikaaGreatW22
namespace Go.Xq
open Go.Conc Go.ConcN Go.Conc.Lib Go.ConcR.Gen Go.ConcN.Gen
open Go.ConcR (KK wgBlock WgAt stA smA rd wr mk DC0 bk_of_mute ofEvent_loc_mark)
section
variable {P : Program} {sp : Gp} {Φ : Frame → List Frame → World → Prop} {k0 : Nat} {SB : Nat → Prop} {Wh : His} {x : Cf}
theorem no_counts {t : Trace} {k : Nat} (fn : FuncId) (pos : String) (es : Array Event)
    (hes : ∀ jx e, es[jx]? = some e → (MemAct.ofEvent e).touch? = none ∨ ((∃ ad w, e = ⟨.cell ad, w, true⟩) ∧ 0 < deafBehind (Deaf t k) (es.extract 0 jx))) :
    ∀ z, t.size ≤ z → (t ++ MemOp.ofEvents k fn pos es).g? z = some k → ¬ (t ++ MemOp.ofEvents k fn pos es).counts z := by
  intro z hz _ hc
  obtain ⟨y, hy, _, hk⟩ := hc
  obtain ⟨act, hact, hyt⟩ := Option.bind_eq_some_iff.1 hy
  obtain ⟨op, ho, rfl⟩ := Option.map_eq_some_iff.1 hact
  have hj : (MemOp.ofEvents k fn pos es)[z - t.size]? = some op := by
    rw [Array.getElem?_append_right hz] at ho; exact ho
  have hsz : z - t.size < es.size := by
    have := (Array.getElem?_eq_some_iff.1 hj).1
    rw [Conc.ofEvents_eq] at this
    simpa using this
  have he : es[z - t.size]? = some es[z - t.size] := Array.getElem?_eq_getElem hsz
  have hop : op = { g := k, fn, pos, act := .ofEvent es[z - t.size] } := by
    rw [Conc.ofEvents_eq, Array.getElem?_map, he] at hj
    exact (Option.some.inj hj).symm
  subst hop
  rcases hes _ _ he with h0 | ⟨⟨ad, w, h1⟩, h2⟩
  · rw [h0] at hyt; cases hyt
  · rw [h1] at hyt
    have hyt : some (⟨.cell ad, w, .atomic⟩ : Touch) = some y := hyt
    cases hyt
    rcases hk with hk | ⟨g, hg, hd⟩
    · exact hk rfl
    · have hg' : g = k := by simpa [Trace.g?, ho] using hg.symm
      subst hg'
      have e := Conc.deaf_inside t g fn pos es (z - t.size) (Nat.le_of_lt hsz)
      rw [show t.size + (z - t.size) = z by omega, hd] at e
      omega
theorem work_aside (ok : GpOk P sp) (h : Bst P sp Φ k0 SB Wh x) {i : Nat} (hi : i < x.j) (hs7 : (x.xs i).s ≤ 7) {g g' : Goroutine} {W' : World} {es : Array Event} {m s' : Nat} {rel' : Nat → Option Nat} {st' sm' : Int} (hg : x.gs[k0 + i]? = some g) (hgo : stepG P false g x.W = .go g' W' es) (has : Aside sp.Wg x.W W') (hwg : WgAt sp.L.tWg sp.Wg W' st' sm')
    (hy7 : s' ≤ 7) (hy1 : 1 ≤ s') (hL : LSit P sp.L.tWg sp.Wg s' m (deafBehind (x.xs i).d es) g' W') (hro : ∀ b, b ≠ i → rel' b = x.rel b) (hrA : s' ≤ 6 → ∃ r, rel' i = some r) (hrB : 7 ≤ s' → rel' i = Option.none)
    (hmode : ∀ tag', (tag' = x.tag ∨ (x.tag = .blk ∧ tag' = .w3)) → (mayWake P g = true → g'.status = .running → tag' ≠ .blk) → Go.ConcN.Mode x.j (upd x.D i ⟨s', 0, deafBehind (x.xs i).d es⟩) (tag'.ctag sp.J x.j) st' sm')
    (htri : Tri SB sp.Wg k0 x.j x.W.heap.size (owL sp k0 x.j x.O) rel' (x.t ++ MemOp.ofEvents (k0 + i) g.frame.fn g.frame.place es))
    (hpast : x.tag = .bkW → Past (ShunB SB) x.W.heap.size (x.t ++ MemOp.ofEvents (k0 + i) g.frame.fn g.frame.place es))
    (hmu : (s' < (x.xs i).s ∧ Vc x.j (upd x.D i ⟨s', 0, deafBehind (x.xs i).d es⟩) ≤ Vc x.j x.D) ∨ (s' = (x.xs i).s ∧ Rk.lt (Rk.nat m) (x.xs i).r)) : StepTo P sp Φ k0 SB Wh x (k0 + i) := by
  have hsz : W'.heap.size = x.W.heap.size := has.size
  have hO : ∀ k, x.O k ≠ .none → W'.heap[k]? = x.W.heap[k]? := fun k hk => has.block k fun e => hk (by rw [e]; exact h.wst.wg)
  obtain ⟨cc, hc1, hc2⟩ := h.outW
  let y : Wd := { r := Rk.nat m, c := (x.xs i).c, s := s', d := deafBehind (x.xs i).d es }
  have hmin : (⟨min y.s 7, 0, y.d⟩ : WD) = ⟨s', 0, deafBehind (x.xs i).d es⟩ := by
    show (⟨min s' 7, 0, _⟩ : WD) = _
    rw [Nat.min_eq_left hy7]
  have hW := h.wst.aside has.tape has.os has.output hsz fun k hk => .inl (hO k hk)
  obtain ⟨tag', r0', htag, hB⟩ := h.workGo (y := y) (V' := fun b => padW (x.V b) W') (O' := x.O) (dp' := x.dp) (u' := x.u) (rel' := rel') (st' := st') (sm' := sm') (es := es) (g' := g') (W' := W') hi hg
    (fun tag' r0' => by
      rw [same_c (y := y) rfl]
      refine hW.less (fun b hb => ?_) trivial
      cases b with
      | none => trivial
      | some b =>
        obtain ⟨h1, h2⟩ := hb
        have h2 : (upd x.xs i y b).s = 8 := h2
        by_cases e : b = i
        · subst e; rw [upd_same] at h2
          have h2 : s' = 8 := h2
          omega
        · rw [upd_ne _ _ e] at h2; exact ⟨h1, h2⟩)
    (fun b _ => idle_pad _ _) (idle_pad _ _) hwg (.lib m hy7 hy1 rfl hL) rfl hrA hrB hro
    ⟨cc, by rw [has.block _ (Ne.symm ok.ne)]; exact hc1, hc2⟩ h.dpl (fun _ _ => Iff.rfl) (fun hc => by have hc : s' = 8 := hc; omega) (fun _ => h.dpd i hi hs7)
    (fun tag' ht hw => (hmode tag' ht hw).congr fun b _ => by rw [D_work, hmin])
    (by rw [hsz]; exact htri) (fun e => by rw [hsz]; exact hpast e) h.sbO h.agj
  exact ⟨_, _, run_work (h.k0i i) hg hgo, rfl, work_mu (y := y) hi h.jle htag (by
    rw [hmin]
    exact hmu), hB⟩
theorem tri_book (ok : GpOk P sp) (h : Bst P sp Φ k0 SB Wh x) {i : Nat} (hi : i < x.j) {es : Array Event} (fn : FuncId) (pos : String) (hev : ∀ e ∈ es, BkM sp.Wg e)
    (hes : ∀ jx e, es[jx]? = some e → (MemAct.ofEvent e).touch? = none ∨ ((∃ ad w, e = ⟨.cell ad, w, true⟩) ∧ 0 < deafBehind (x.xs i).d (es.extract 0 jx))) : Tri SB sp.Wg k0 x.j x.W.heap.size (owL sp k0 x.j x.O) x.rel (x.t ++ MemOp.ofEvents (k0 + i) fn pos es) := by
  have hat : ∀ op ∈ MemOp.ofEvents (k0 + i) fn pos es, ∀ z, op.act.touch? = some z → z.kind = .atomic := by
    intro op hop z hz
    obtain ⟨e, he, rfl⟩ := Conc.mem_ofEvents hop
    obtain ⟨jx, hjx⟩ := Array.mem_iff_getElem?.1 he
    rcases hes jx e hjx with h0 | ⟨⟨ad, w, rfl⟩, _⟩
    · rw [h0] at hz; cases hz
    · have hz : some (⟨.cell ad, w, .atomic⟩ : Touch) = some z := hz
      cases hz; rfl
  refine h.tri.app (rl := true) (Nat.le_refl _) (.inr ⟨i, hi, rfl⟩) (fun _ _ _ _ => rfl) (fun op hop => ?_) (fun op hop => ?_) (fun _ => no_counts fn pos es (by rw [h.wd i hi]; exact hes)) (fun _ => hat) (fun l o hl _ => .inl hl) (owL_fresh h.wst) (owL_wg ok.ne h.wst) owL_mem h.k0p
  · have hat2 := hat op hop
    obtain ⟨e, h1, rfl⟩ := Conc.mem_ofEvents hop
    obtain ⟨h2, h3, _⟩ := hev e h1
    exact ⟨rfl, h2, fun y hy => .inl ⟨(h3 y hy).1, h.sbW, (h3 y hy).2, fun hk => by rw [hat2 y hy] at hk; cases hk⟩⟩
  · obtain ⟨e, h1, rfl⟩ := Conc.mem_ofEvents hop
    exact (hev e h1).2.2 _ h.wst.wgl
theorem bkM_of_mute {Wg : Nat} {e : Event} (h : e.mute = true) : BkM Wg e := by
  obtain ⟨l, w, s⟩ := e
  cases l <;> simp_all [Event.mute]
  rename_i m
  cases m <;> simp_all
  · exact ⟨fun a => by simp [MemAct.ofEvent], fun y hy => by simp [MemAct.ofEvent, MemAct.touch?] at hy, fun B hB => trivial⟩
  · exact ⟨fun a => by simp [MemAct.ofEvent], fun y hy => by simp [MemAct.ofEvent, MemAct.touch?] at hy, fun B hB => trivial⟩
theorem D_st {i : Nat} (hs : (x.xs i).s ≤ 7) : (x.D i).stage = (x.xs i).s := Nat.min_eq_left hs
theorem Mode.retag' {j : Nat} {D : Nat → WD} {J : Nat} {tag tag' : MT} {st sm : Int} (h : Go.ConcN.Mode j D (tag.ctag J j) st sm) (e : tag' = tag ∨ (tag = .blk ∧ tag' = .w3)) : Go.ConcN.Mode j D (tag'.ctag J j) st sm := by
  rcases e with rfl | ⟨rfl, rfl⟩
  · exact h
  · exact h.retag (.inr ⟨rfl, rfl⟩)
theorem mode_idle {i : Nat} (hs : (x.xs i).s ≤ 7) {d : Nat} {st sm : Int} {tag : MT} (h : Go.ConcN.Mode x.j x.D (tag.ctag sp.J x.j) st sm) : Go.ConcN.Mode x.j (upd x.D i ⟨(x.xs i).s, 0, d⟩) (tag.ctag sp.J x.j) st sm :=
  h.congr fun b _ => by
    by_cases e : b = i
    · subst e; rw [upd_same, D_st hs]
    · rw [upd_ne _ _ e]
theorem work_idle (ok : GpOk P sp) (h : Bst P sp Φ k0 SB Wh x) {i : Nat} (hi : i < x.j) (hs7 : (x.xs i).s ≤ 7) (hs2 : 2 ≤ (x.xs i).s) {g g' : Goroutine} {m : Nat} (hg : x.gs[k0 + i]? = some g) (hgo : stepG P false g x.W = .go g' x.W #[]) (hr : (x.xs i).r = Rk.nat (m + 1)) (hL : LSit P sp.L.tWg sp.Wg (x.xs i).s m (x.xs i).d g' x.W) : StepTo P sp Φ k0 SB Wh x (k0 + i) := by
  refine work_aside ok h hi hs7 (s' := (x.xs i).s) (m := m) (rel' := x.rel) hg hgo (.refl _ _) h.wg hs7 (by omega) hL (fun _ _ => rfl) (h.relA i hi) (h.relB i hi) (fun tag' ht _ => Mode.retag' (mode_idle hs7 h.mode) ht) ?_ (fun e => absurd e (not_bkW h hi hs2)) (.inr ⟨rfl, by rw [hr]; exact Rk.nat_lt m⟩)
  rw [ofEvents_nil, Array.append_empty]; exact h.tri
theorem ev_two {d : Nat} (hd : 0 < d) (a b : Event) (ha : (∃ ad w, a = ⟨.cell ad, w, true⟩)) (hb : (∃ ad w, b = ⟨.cell ad, w, true⟩)) : ∀ jx e, (#[a, b] : Array Event)[jx]? = some e → (MemAct.ofEvent e).touch? = none ∨ ((∃ ad w, e = ⟨.cell ad, w, true⟩) ∧ 0 < deafBehind d ((#[a, b] : Array Event).extract 0 jx)) := by
  intro jx e he
  obtain ⟨ad, w, rfl⟩ := ha
  obtain ⟨ad', w', rfl⟩ := hb
  match jx, he with
  | 0, he => simp at he; subst he; exact .inr ⟨⟨_, _, rfl⟩, by simpa [deafBehind] using hd⟩
  | 1, he => simp at he; subst he; exact .inr ⟨⟨_, _, rfl⟩, by simpa [deafBehind] using hd⟩
  | jx + 2, he => simp at he
theorem ev_one {d : Nat} (hd : 0 < d) (ad : Addr) (w : Bool) : ∀ jx e, (#[⟨.cell ad, w, true⟩] : Array Event)[jx]? = some e → (MemAct.ofEvent e).touch? = none ∨ ((∃ ad w, e = ⟨.cell ad, w, true⟩) ∧ 0 < deafBehind d ((#[⟨.cell ad, w, true⟩] : Array Event).extract 0 jx)) := by
  intro jx e he
  match jx, he with
  | 0, he => simp at he; subst he; exact .inr ⟨⟨_, _, rfl⟩, by simpa [deafBehind] using hd⟩
  | jx + 1, he => simp at he
set_option maxHeartbeats 1600000 in
theorem work_lib (ok : GpOk P sp) (h : Bst P sp Φ k0 SB Wh x) {i : Nat} (hi : i < x.j) {g : Goroutine} (hg : x.gs[k0 + i]? = some g) (hrun : g.status = .running) {m : Nat} (hs7 : (x.xs i).s ≤ 7) (hr : (x.xs i).r = Rk.nat m) (hL : LSit P sp.L.tWg sp.Wg (x.xs i).s m (x.xs i).d g x.W) : StepTo P sp Φ k0 SB Wh x (k0 + i) := by
  have hDi := D_st hs7
  have hJ := ok.J
  have hjl := h.jle
  have hVj := Vc_le' x
  have hm := h.mode
  have hwg0 := h.wg
  generalize hst : (x.xs i).s = s at hL hDi
  generalize hde : (x.xs i).d = d at hL
  have rl := RL.refl (ty := sp.L.tWg) (Wg := sp.Wg) x.W
  have nr : 2 ≤ s → x.tag ≠ .bkW := fun hs => not_bkW h hi (by omega)
  have bound : x.j + pend (x.tag.ctag sp.J x.j) ≤ sp.J := by
    have hms := h.ms
    generalize ht : x.tag = tag at hms
    generalize x.r0 = r at hms
    generalize x.d0 = d at hms
    generalize x.a = a at hms
    generalize x.V Option.none = v at hms
    cases hms <;> simp only [MT.ctag, pend] <;> (try simp) <;> omega
  cases hL with
  | r0 hG =>
    rcases Goes.cases hG with hs | ⟨m', rfl, hs⟩
    · obtain ⟨_, g', hgo, m2, hG2⟩ := hs x.W rl
      have hdk : Deaf x.t (k0 + i) = 0 := by rw [h.wd i hi, hde]
      refine work_aside ok h hi hs7 (s' := 6) (m := m2) (rel' := upd x.rel i (some x.t.size)) hg hgo (.refl _ _) hwg0 (by omega) (by omega) (by rw [hde]; exact .k1 hG2) (fun b hb => upd_ne _ _ hb) (fun _ => ⟨_, upd_same _ _ _⟩) (fun h => by omega)
        (fun tag' ht _ => (Mode.retag' hm ht).counted hi (by omega) (.inl rfl) _ _) ?_ (fun e => absurd e (nr (by omega))) (.inl ⟨by omega, by have := Vc_upd x.D (⟨6, 0, deafBehind (x.xs i).d #[mk (.releaseMerge (stA sp.Wg))]⟩ : WD) hi; simp only [cnt] at this ⊢; rw [hDi] at this; simp at this; omega⟩)
      have htb := h.tri.app (u := MemOp.ofEvents (k0 + i) g.frame.fn g.frame.place #[mk (.releaseMerge (stA sp.Wg))]) (ow' := owL sp k0 x.j x.O) (rl := true) (Nat.le_refl _) (.inr ⟨i, hi, rfl⟩) (fun _ _ _ _ => rfl) (fun op hop => by
          obtain ⟨e, h1, rfl⟩ := Conc.mem_ofEvents hop
          simp only [List.mem_toArray, List.mem_singleton] at h1
          subst h1
          exact ⟨rfl, fun a => by simp [mk, MemAct.ofEvent], fun y hy => by simp [mk, MemAct.ofEvent, MemAct.touch?] at hy⟩) (fun op hop => by
          obtain ⟨e, h1, rfl⟩ := Conc.mem_ofEvents hop
          simp only [List.mem_toArray, List.mem_singleton] at h1
          subst h1
          exact h.wst.wgl) (fun _ => no_counts _ _ _ (fun jx e he => .inl (by
          have := Array.mem_of_getElem? he
          simp at this; subst this; rfl))) (fun _ op hop y hy => by
          obtain ⟨e, h1, rfl⟩ := Conc.mem_ofEvents hop
          simp only [List.mem_toArray, List.mem_singleton] at h1
          subst h1
          simp [mk, MemAct.ofEvent, MemAct.touch?] at hy) (fun l o hl _ => .inl hl) (owL_fresh h.wst) (owL_wg ok.ne h.wst) owL_mem h.k0p
      refine htb.rel_ hi (Go.ConcN.RelBy.new hdk _ _) fun z a ha hz => ?_
      obtain ⟨h1, _⟩ := touch_new ha (fun op hop => by
        obtain ⟨e, h1, rfl⟩ := Conc.mem_ofEvents hop
        simp only [List.mem_toArray, List.mem_singleton] at h1
        subst h1
        rfl)
      omega
    · obtain ⟨g', W', es, hgo, ⟨rfl, rfl⟩, hG2⟩ := hs x.W rl
      exact work_idle ok h hi hs7 (by omega) hg hgo hr (by rw [hst, hde]; exact .r0 hG2)
  | k1 hG =>
    rcases Goes.cases hG with hs | ⟨m', rfl, hs⟩
    · obtain ⟨_, g', hgo, m2, hG2⟩ := hs x.W rl
      exact work_aside ok h hi hs7 (s' := 5) (m := m2) (rel' := x.rel) hg hgo (.refl _ _) hwg0 (by omega) (by omega) (by rw [hde]; exact .d1 hG2) (fun _ _ => rfl) (fun _ => h.relA i hi (by omega)) (fun h => by omega)
        (fun tag' ht _ => (Mode.retag' hm ht).counted hi (by omega) (.inr rfl) _ _) (tri_book ok h hi _ _ (bk1 (bkM_mark _ (.inl rfl))) (fun jx e he => .inl (by
          have := Array.mem_of_getElem? he
          simp at this; subst this; rfl))) (fun e => absurd e (nr (by omega))) (.inl ⟨by omega, by have := Vc_upd x.D (⟨5, 0, deafBehind (x.xs i).d #[mk .disable]⟩ : WD) hi; simp only [cnt] at this ⊢; rw [hDi] at this; simp at this; omega⟩)
    · obtain ⟨g', W', es, hgo, ⟨rfl, rfl⟩, hG2⟩ := hs x.W rl
      exact work_idle ok h hi hs7 (by omega) hg hgo hr (by rw [hst, hde]; exact .k1 hG2)
  | d1 hG =>
    rcases Goes.cases hG with hs | ⟨m', rfl, hs⟩
    · obtain ⟨_, hall⟩ := hs x.W rl
      have hc1 : cnt (x.D i) = 1 := by simp only [cnt, hDi]; rfl
      have hV1 : 1 ≤ Vc x.j x.D := by have := le_sumTo (f := fun b => cnt (x.D b)) hi; simp only [Vc]; omega
      have evs := fun (fn : FuncId) (pos : String) => tri_book ok h hi fn pos (bk2 (Wg := sp.Wg)) (by rw [hde]; exact ev_two (by omega) (rd (stA sp.Wg)) (wr (stA sp.Wg)) ⟨_, _, rfl⟩ ⟨_, _, rfl⟩)
      have dfe : deafBehind (x.xs i).d #[rd (stA sp.Wg), wr (stA sp.Wg)] = 1 := by rw [hde]; rfl
      have opq : ∀ dd, OpenSt x.j x.D → OpenSt x.j (upd x.D i ⟨1, 0, dd⟩) := fun dd h a ha => by
        by_cases e : a = i
        · subst e; rw [upd_same]; simp
        · rw [upd_ne _ _ e]; exact h a ha
      have hvc : ∀ dd, Vc x.j (upd x.D i ⟨1, 0, dd⟩) + 1 = Vc x.j x.D := fun dd => by
        have := Vc_upd x.D (⟨1, 0, dd⟩ : WD) hi
        have h0 : cnt (⟨1, 0, dd⟩ : WD) = 0 := rfl
        omega
      have hvc4 : ∀ dd, Vc x.j (upd x.D i ⟨4, 0, dd⟩) + 1 = Vc x.j x.D := fun dd => by
        have := Vc_upd x.D (⟨4, 0, dd⟩ : WD) hi
        have h0 : cnt (⟨4, 0, dd⟩ : WD) = 0 := rfl
        omega
      generalize hct : x.tag.ctag sp.J x.j = ct at hm bound
      generalize hss : x.st = st0 at hm hwg0
      generalize hsm : x.sm = sm0 at hm hwg0
      cases hm with
      | opn h1 h2 h3 =>
        obtain ⟨v, hv⟩ : ∃ v, Vc x.j x.D + pend ct = v + 1 := ⟨Vc x.j x.D + pend ct - 1, by omega⟩
        rw [hv] at hwg0
        have hw1 : WgAt sp.L.tWg sp.Wg x.W (((v : Nat) + 1) * KK + ((0 : Nat) : Int)) 0 := by simpa using hwg0
        obtain ⟨g', hgo, _, hq⟩ := hall v 0 (by omega) (by omega) hw1
        obtain ⟨q, hq⟩ := hq (by omega)
        refine work_aside ok h hi hs7 (s' := 1) (m := q) (rel' := x.rel) hg hgo (aside_setCell x.W (stA sp.Wg) _) (hwg0.setSt _) (by omega) (by omega) (by rw [dfe]; exact .quit hq) (fun _ _ => rfl) (fun _ => h.relA i hi (by omega)) (fun h => by omega) (fun tag' ht _ => ?_) (evs _ _) (fun e => absurd e (nr (by omega))) (.inl ⟨by omega, by have := hvc (deafBehind (x.xs i).d #[rd (stA sp.Wg), wr (stA sp.Wg)]); omega⟩)
        refine Mode.retag' ?_ ht
        rw [hct]
        have hv' : Vc x.j (upd x.D i ⟨1, 0, deafBehind (x.xs i).d #[rd (stA sp.Wg), wr (stA sp.Wg)]⟩) + pend ct = v := by have := hvc (deafBehind (x.xs i).d #[rd (stA sp.Wg), wr (stA sp.Wg)]); omega
        have e : ((v : Nat) : Int) * KK + ((0 : Nat) : Int) = ((Vc x.j (upd x.D i ⟨1, 0, deafBehind (x.xs i).d #[rd (stA sp.Wg), wr (stA sp.Wg)]⟩) + pend ct : Nat) : Int) * KK := by rw [hv']; simp
        rw [e]
        exact .opn h1 (opq _ h2) (fun vs ev => by have := h3 vs ev; have := hvc (deafBehind (x.xs i).d #[rd (stA sp.Wg), wr (stA sp.Wg)]); omega)
      | reg h1 h2 h3 =>
        obtain ⟨v, hv⟩ : ∃ v, Vc x.j x.D = v + 1 := ⟨Vc x.j x.D - 1, by omega⟩
        rw [hv] at hwg0
        have hw1 : WgAt sp.L.tWg sp.Wg x.W (((v : Nat) + 1) * KK + ((1 : Nat) : Int)) 0 := by simpa using hwg0
        obtain ⟨g', hgo, hl, hq⟩ := hall v 1 (by omega) (by omega) hw1
        by_cases hv0 : v = 0
        · subst hv0
          obtain ⟨m2, hk⟩ := hl ⟨rfl, rfl⟩
          refine work_aside ok h hi hs7 (s' := 4) (m := m2) (rel' := x.rel) hg hgo (aside_setCell x.W (stA sp.Wg) _) (hwg0.setSt _) (by omega) (by omega) (by rw [dfe]; exact .d2 hk) (fun _ _ => rfl) (fun _ => h.relA i hi (by omega)) (fun h => by omega) (fun tag' ht _ => ?_) (evs _ _) (fun e => absurd e (nr (by omega))) (.inl ⟨by omega, by have := hvc4 (deafBehind (x.xs i).d #[rd (stA sp.Wg), wr (stA sp.Wg)]); omega⟩)
          refine Mode.retag' ?_ ht
          rw [hct]
          have hoth : ∀ a, a < x.j → a ≠ i → (x.D a).stage = 1 := fun a ha e => by
            have c0 := others_uncounted hi hv hc1 a ha e
            have := h2 a ha
            simp only [cnt] at c0
            split at c0 <;> omega
          have := Go.ConcN.Mode.last (j := x.j) (D := upd x.D i ⟨4, 0, deafBehind (x.xs i).d #[rd (stA sp.Wg), wr (stA sp.Wg)]⟩) (tag := ct) i h1 hi (by rw [upd_same]; simp) (fun a ha e => by rw [upd_ne _ _ e]; exact hoth a ha e)
          rw [upd_same] at this
          simpa using this
        · obtain ⟨q, hq⟩ := hq (by omega)
          refine work_aside ok h hi hs7 (s' := 1) (m := q) (rel' := x.rel) hg hgo (aside_setCell x.W (stA sp.Wg) _) (hwg0.setSt _) (by omega) (by omega) (by rw [dfe]; exact .quit hq) (fun _ _ => rfl) (fun _ => h.relA i hi (by omega)) (fun h => by omega) (fun tag' ht _ => ?_) (evs _ _) (fun e => absurd e (nr (by omega))) (.inl ⟨by omega, by have := hvc (deafBehind (x.xs i).d #[rd (stA sp.Wg), wr (stA sp.Wg)]); omega⟩)
          refine Mode.retag' ?_ ht
          rw [hct]
          have hv' : Vc x.j (upd x.D i ⟨1, 0, deafBehind (x.xs i).d #[rd (stA sp.Wg), wr (stA sp.Wg)]⟩) = v := by have := hvc (deafBehind (x.xs i).d #[rd (stA sp.Wg), wr (stA sp.Wg)]); omega
          have e : ((v : Nat) : Int) * KK + ((1 : Nat) : Int) = ((Vc x.j (upd x.D i ⟨1, 0, deafBehind (x.xs i).d #[rd (stA sp.Wg), wr (stA sp.Wg)]⟩) : Nat) : Int) * KK + 1 := by rw [hv']; simp
          rw [e]
          exact .reg h1 (opq _ h2) (by omega)
      | last L _ h2 h3 h4 =>
        by_cases e : i = L
        · subst e; omega
        · have := h4 i hi e; omega
      | sema h2 => have := h2 i hi; omega
      | fin _ h2 => have := h2 i hi; omega
    · obtain ⟨g', W', es, hgo, ⟨rfl, rfl⟩, hG2⟩ := hs x.W rl
      exact work_idle ok h hi hs7 (by omega) hg hgo hr (by rw [hst, hde]; exact .d1 hG2)
  | d2 hG =>
    rcases Goes.cases hG with hs | ⟨m', rfl, hs⟩
    · obtain ⟨_, hx⟩ := hs x.W rl
      obtain ⟨hW3, hoth, e1, e2⟩ := hm.isLast hi (by omega)
      rw [e1, e2, hDi] at hwg0
      obtain ⟨g', hgo, m2, hk⟩ := hx (by simpa using hwg0)
      refine work_aside ok h hi hs7 (s' := 3) (m := m2) (rel' := x.rel) hg hgo (.refl _ _) h.wg (by omega) (by omega) (by rw [hde]; exact .d3 hk) (fun _ _ => rfl) (fun _ => h.relA i hi (by omega)) (fun h => by omega) (fun tag' ht _ => ?_) (tri_book ok h hi _ _ (bk1 (bkM_cell _ _ _)) (by rw [hde]; exact ev_one (by omega) _ _)) (fun e => absurd e (nr (by omega))) (.inl ⟨by omega, by have := Vc_upd x.D (⟨3, 0, deafBehind (x.xs i).d #[rd (stA sp.Wg)]⟩ : WD) hi; have h0 : cnt (⟨3, 0, deafBehind (x.xs i).d #[rd (stA sp.Wg)]⟩ : WD) = 0 := rfl; omega⟩)
      refine Mode.retag' ?_ ht
      have := Go.ConcN.Mode.last (j := x.j) (D := upd x.D i ⟨3, 0, deafBehind (x.xs i).d #[rd (stA sp.Wg)]⟩) (tag := x.tag.ctag sp.J x.j) i hW3 hi (by rw [upd_same]; simp) (fun a ha e => by rw [upd_ne _ _ e]; exact hoth a ha e)
      rw [upd_same] at this
      rw [e1, e2, hDi]
      simpa using this
    · obtain ⟨g', W', es, hgo, ⟨rfl, rfl⟩, hG2⟩ := hs x.W rl
      exact work_idle ok h hi hs7 (by omega) hg hgo hr (by rw [hst, hde]; exact .d2 hG2)
  | d3 hG =>
    rcases Goes.cases hG with hs | ⟨m', rfl, hs⟩
    · obtain ⟨_, hx⟩ := hs x.W rl
      obtain ⟨hW3, hoth, e1, e2⟩ := hm.isLast hi (by omega)
      rw [e1, e2, hDi] at hwg0
      obtain ⟨g', hgo, m2, hk⟩ := hx (by simpa using hwg0)
      refine work_aside ok h hi hs7 (s' := 2) (m := m2) (rel' := x.rel) hg hgo (aside_setCell x.W (stA sp.Wg) _) (hwg0.setSt 0) (by omega) (by omega) (by rw [hde]; exact .d4 hk) (fun _ _ => rfl) (fun _ => h.relA i hi (by omega)) (fun h => by omega) (fun tag' ht _ => ?_) (tri_book ok h hi _ _ (bk1 (bkM_cell _ _ _)) (by rw [hde]; exact ev_one (by omega) _ _)) (fun e => absurd e (nr (by omega))) (.inl ⟨by omega, by have := Vc_upd x.D (⟨2, 0, deafBehind (x.xs i).d #[wr (stA sp.Wg)]⟩ : WD) hi; have h0 : cnt (⟨2, 0, deafBehind (x.xs i).d #[wr (stA sp.Wg)]⟩ : WD) = 0 := rfl; omega⟩)
      refine Mode.retag' ?_ ht
      have := Go.ConcN.Mode.last (j := x.j) (D := upd x.D i ⟨2, 0, deafBehind (x.xs i).d #[wr (stA sp.Wg)]⟩) (tag := x.tag.ctag sp.J x.j) i hW3 hi (by rw [upd_same]; simp) (fun a ha e => by rw [upd_ne _ _ e]; exact hoth a ha e)
      rw [upd_same] at this
      simpa using this
    · obtain ⟨g', W', es, hgo, ⟨rfl, rfl⟩, hG2⟩ := hs x.W rl
      exact work_idle ok h hi hs7 (by omega) hg hgo hr (by rw [hst, hde]; exact .d3 hG2)
  | d4 hG =>
    rcases Goes.cases hG with hs | ⟨m', rfl, hs⟩
    · obtain ⟨_, hmw, hx⟩ := hs x.W rl
      obtain ⟨hW3, hoth, e1, e2⟩ := hm.isLast hi (by omega)
      rw [e1, e2, hDi] at hwg0
      obtain ⟨g', hgo, q, hq⟩ := hx (by simpa using hwg0)
      have hrun' : g'.status = .running := by
        cases q with
        | zero => exact absurd hq.2 (by decide)
        | succ q => exact hq.elim (fun x => absurd x.2 (by decide)) (fun x => x.1)
      have dfe : deafBehind (x.xs i).d (semEvents (smA sp.Wg)) = 1 := by rw [hde]; rfl
      refine work_aside ok h hi hs7 (s' := 1) (m := q) (rel' := x.rel) hg hgo (aside_setCell x.W (smA sp.Wg) _) (hwg0.setSm 1) (by omega) (by omega) (by rw [dfe]; exact .quit hq) (fun _ _ => rfl) (fun _ => h.relA i hi (by omega)) (fun h => by omega) (fun tag' ht hw => ?_) (tri_book ok h hi _ _ bkS ?_) (fun e => absurd e (nr (by omega))) (.inl ⟨by omega, by have := Vc_upd x.D (⟨1, 0, deafBehind (x.xs i).d (semEvents (smA sp.Wg))⟩ : WD) hi; have h0 : cnt (⟨1, 0, deafBehind (x.xs i).d (semEvents (smA sp.Wg))⟩ : WD) = 0 := rfl; omega⟩)
      · have hnb := hw hmw hrun'
        have e3 : tag'.ctag sp.J x.j = .w3 := by
          rcases ht with h5 | ⟨h5, h6⟩
          · rw [← h5] at hW3
            revert hW3 hnb
            cases tag' <;> intro hW3 hnb <;> first | rfl | exact hW3.elim | exact absurd rfl hnb
          · rw [h6]; rfl
        rw [e3]
        simp only [if_true]
        exact .sema fun a ha => by
          by_cases e : a = i
          · subst e; rw [upd_same]
          · rw [upd_ne _ _ e]; exact hoth a ha e
      · rw [hde]
        intro jx e he
        match jx, he with
        | 0, he => simp [semEvents] at he; subst he; exact .inl rfl
        | 1, he => simp [semEvents] at he; subst he; exact .inr ⟨⟨_, _, rfl⟩, by simp [deafBehind, semEvents]⟩
        | 2, he => simp [semEvents] at he; subst he; exact .inr ⟨⟨_, _, rfl⟩, by simp [deafBehind, semEvents]⟩
        | 3, he => simp [semEvents] at he; subst he; exact .inl rfl
        | jx + 4, he => simp [semEvents] at he
    · obtain ⟨g', W', es, hgo, ⟨rfl, rfl⟩, hG2⟩ := hs x.W rl
      exact work_idle ok h hi hs7 (by omega) hg hgo hr (by rw [hst, hde]; exact .d4 hG2)
  | quit hq =>
    cases m with
    | zero => rw [hq.1] at hrun; cases hrun
    | succ q =>
      rcases hq with ⟨hf, _⟩ | ⟨_, g', es, hmute, hstep, hq2⟩
      · rw [hf] at hrun; cases hrun
      · refine work_aside ok h hi hs7 (s' := 1) (m := q) (rel' := x.rel) hg (hstep x.W) (.refl _ _) h.wg (by omega) (by omega) (by rw [hde]; exact .quit hq2) (fun _ _ => rfl) (fun _ => h.relA i hi (by omega)) (fun h => by omega) (fun tag' ht _ => ?_) (tri_book ok h hi _ _ (fun e he => bkM_of_mute (hmute e he)) (fun jx e he => .inl (Conc.touch_mute (hmute e (Array.mem_of_getElem? he))))) (fun e => (h.past e).mute (h.k0i i) hmute) (.inr ⟨hst.symm, by rw [hr]; exact Rk.nat_lt q⟩)
        have := mode_idle (d := deafBehind (x.xs i).d es) hs7 h.mode
        rw [hst] at this
        exact Mode.retag' this ht
end
end Go.Xq
