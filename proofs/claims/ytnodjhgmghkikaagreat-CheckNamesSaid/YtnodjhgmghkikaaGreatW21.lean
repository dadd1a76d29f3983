/- A part of the proof of this seat's statement. Conditions: in each theorem. -/
import Derived.Test.YtnodjhgmghkikaaGreatW20
namespace Go.Xq
open Go.Conc Go.ConcN Go.Conc.Lib Go.ConcR.Gen Go.ConcN.Gen
open Go.ConcR (KK wgBlock WgAt stA smA rd wr mk DC0)
section
variable {P : Program} {sp : Gp} {Φ : Frame → List Frame → World → Prop} {k0 : Nat} {SB : Nat → Prop} {Wh : His} {x : Cf}
theorem wgLive_of {ty : TypeId} {Wg : Nat} {W : World} {st sm : Int} (h : WgAt ty Wg W st sm) : WgLive ty Wg W := ⟨st, sm, h⟩
theorem Bst.k0i (h : Bst P sp Φ k0 SB Wh x) (i : Nat) : k0 + i ≠ 0 := by have := h.k0p; omega
theorem ev_g {n : Nat} {fn : FuncId} {pos : String} {es : Array Event} : ∀ op ∈ MemOp.ofEvents n fn pos es, op.g = n := fun op hop => by obtain ⟨e, _, rfl⟩ := Conc.mem_ofEvents hop; rfl
def Cf.mainTo (P : Program) (x : Cf) (a' : Goroutine) (W' : World) (es : Array Event) (V' : Option Nat → World) (O' : Nat → Hd) (tag' : MT) (r0' : Rk) (st' sm' : Int) : Cf :=
  { x with gs := (x.gs.map (Conc.woken P x.a a' W')).setIfInBounds 0 a', W := W', t := x.t ++ MemOp.ofEvents 0 x.a.frame.fn x.a.frame.place es, V := V', O := O', tag := tag', r0 := r0', d0 := deafBehind x.d0 es, a := a', st := st', sm := sm' }
theorem Bst.mainGo (h : Bst P sp Φ k0 SB Wh x) {a' : Goroutine} {W' : World} {es : Array Event} {V' : Option Nat → World} {O' : Nat → Hd} {tag' : MT} {r0' : Rk} {st' sm' : Int}
    (hW : Wst sp Wh W' x.ac V' O' x.dp x.u (fun i => (x.xs i).c)) (hV : ∀ i, Idle (x.V (some i)) (V' (some i))) (hl : WgAt sp.L.tWg sp.Wg W' st' sm')
    (hout : W'.heap[sp.out]? = x.W.heap[sp.out]?)
    (hms : MSt P sp Φ x.j tag' r0' (deafBehind x.d0 es) a' W' (V' Option.none)) (hmode : Go.ConcN.Mode x.j x.D (tag'.ctag sp.J x.j) st' sm')
    (htri : Tri SB sp.Wg k0 x.j W'.heap.size (owL sp k0 x.j O') x.rel (x.t ++ MemOp.ofEvents 0 x.a.frame.fn x.a.frame.place es))
    (hpast : tag' = .bkW → Past (ShunB SB) W'.heap.size (x.t ++ MemOp.ofEvents 0 x.a.frame.fn x.a.frame.place es))
    (hsb : ∀ k, SB k → O' k = .none ∨ O' k = .old) (hag : ∀ k i, O' k = .ag (some i) → i < x.j) (hsv : ∀ k, SB k → ∃ o, (V' Option.none).heap[k]? = some o ∧ Dead o) : Bst P sp Φ k0 SB Wh (x.mainTo P a' W' es V' O' tag' r0' st' sm') := by
  refine ⟨by simpa [Cf.mainTo] using h.size, h.k0p, h.jle, gs_me h.a, fun i g hi hik hg => ?_, fun i hi => ?_, ?_, fun i hi => ?_, fun i hi => ?_, h.relA, h.relB, hW, ?_, h.dpl, fun i hi hs m hm => ?_, h.dpd, hms, hl, hmode, htri, hpast, hsb, h.sbW, hag, hsv⟩
  · have hg : ((x.gs.map (Conc.woken P x.a a' W')).setIfInBounds 0 a')[i]? = some g := hg
    rw [Array.getElem?_setIfInBounds_ne (by omega), Array.getElem?_map] at hg
    obtain ⟨y, hy, rfl⟩ := Option.map_eq_some_iff.1 hg
    have hq := h.old i y hi hik hy
    rw [woken_quitsD hq]
    show QuitsD P (x.q i) (Deaf (x.t ++ _) i) y
    rw [Deaf_other x.t (g := i) (g' := 0) (by omega) _ ev_g]
    exact hq
  · show Deaf (x.t ++ _) i = 0
    have hi : ((x.gs.map (Conc.woken P x.a a' W')).setIfInBounds 0 a').size ≤ i := hi
    have h0 := (Array.getElem?_eq_some_iff.1 h.a).1
    rw [Deaf_other x.t (g := i) (g' := 0) (by simp at hi; omega) _ ev_g]
    exact h.above i (by simpa using hi)
  · show Deaf (x.t ++ _) 0 = deafBehind x.d0 es
    rw [Deaf_own, h.hd0]
  · obtain ⟨g, hg, hk⟩ := h.wk i hi
    refine ⟨_, gs_at hg (h.k0i i), ?_⟩
    rw [woken_still hk.status]
    exact hk.rely (hV i) (fun _ => wgLive_of hl)
  · show Deaf (x.t ++ _) (k0 + i) = _
    rw [Deaf_other x.t (g := k0 + i) (g' := 0) (Ne.symm (h.k0i i)) _ ev_g]
    exact h.wd i hi
  · obtain ⟨cc, h1, h2⟩ := h.outW
    exact ⟨cc, hout.trans h1, h2⟩
  · have hr := h.wst.r (some i) ⟨hi, hs⟩
    have hlt : sp.out < (x.V (some i)).heap.size := by rw [hr.size]; exact h.wst.outl
    exact h.dpw i hi hs m (by rw [← (hV i).block hlt]; exact hm)
def Cf.workTo (P : Program) (k0 : Nat) (x : Cf) (i : Nat) (g g' : Goroutine) (W' : World) (es : Array Event) (y : Wd) (V' : Option Nat → World) (O' : Nat → Hd) (dp' : Nat → Prop) (u' : Nat → World) (rel' : Nat → Option Nat) (tag' : MT) (r0' : Rk) (st' sm' : Int) : Cf :=
  { x with gs := (x.gs.map (Conc.woken P g g' W')).setIfInBounds (k0 + i) g', W := W', t := x.t ++ MemOp.ofEvents (k0 + i) g.frame.fn g.frame.place es, V := V', O := O', dp := dp', u := u', xs := upd x.xs i y, rel := rel', tag := tag', r0 := r0', a := Conc.woken P g g' W' x.a, st := st', sm := sm' }
theorem Bst.workGo (h : Bst P sp Φ k0 SB Wh x) {i : Nat} (hi : i < x.j) {g g' : Goroutine} {W' : World} {es : Array Event} {y : Wd} {V' : Option Nat → World} {O' : Nat → Hd} {dp' : Nat → Prop} {u' : Nat → World} {rel' : Nat → Option Nat} {st' sm' : Int}
    (hg : x.gs[k0 + i]? = some g)
    (hW : ∀ tag' r0', Wst sp Wh W' (x.workTo P k0 i g g' W' es y V' O' dp' u' rel' tag' r0' st' sm').ac V' O' dp' u' (fun b => (upd x.xs i y b).c)) (hV : ∀ b, b ≠ i → Idle (x.V (some b)) (V' (some b))) (hV0 : Idle (x.V Option.none) (V' Option.none)) (hl : WgAt sp.L.tWg sp.Wg W' st' sm')
    (hy : WOk P sp i y (V' (some i)) g' W') (hd : y.d = deafBehind (x.xs i).d es)
    (hrA : y.s ≤ 6 → ∃ r, rel' i = some r) (hrB : 7 ≤ y.s → rel' i = Option.none) (hro : ∀ b, b ≠ i → rel' b = x.rel b)
    (hout : ∃ cc, W'.heap[sp.out]? = some (.cells cc sp.oe (0, 0)) ∧ cc.size = sp.N * sp.ks ∧ ∀ n, dp' n → sp.S n (u' n) ((List.range sp.ks).map fun i => cc.getD (n * sp.ks + i) undef))
    (hdl : ∀ n, dp' n → n < sp.N ∧ n % sp.step < x.j) (hdo : ∀ n, n % sp.step ≠ i → (dp' n ↔ x.dp n)) (hdw : y.s = 8 → ∀ m, (V' (some i)).heap[sp.out]? = some (mkD 3 m) → ∀ n, n < sp.N → n % sp.step = i → (dp' n ↔ n < m)) (hdd : y.s ≤ 7 → ∀ n, n < sp.N → n % sp.step = i → dp' n)
    (hmode : ∀ tag', (tag' = x.tag ∨ (x.tag = .blk ∧ tag' = .w3)) → (mayWake P g = true → g'.status = .running → tag' ≠ .blk) → Go.ConcN.Mode x.j (fun b => ⟨min ((upd x.xs i y) b).s 7, 0, ((upd x.xs i y) b).d⟩) (tag'.ctag sp.J x.j) st' sm')
    (htri : Tri SB sp.Wg k0 x.j W'.heap.size (owL sp k0 x.j O') rel' (x.t ++ MemOp.ofEvents (k0 + i) g.frame.fn g.frame.place es))
    (hpast : x.tag = .bkW → Past (ShunB SB) W'.heap.size (x.t ++ MemOp.ofEvents (k0 + i) g.frame.fn g.frame.place es))
    (hsb : ∀ k, SB k → O' k = .none ∨ O' k = .old) (hag : ∀ k i, O' k = .ag (some i) → i < x.j) : ∃ tag' r0', (tag' = x.tag ∨ (x.tag = .blk ∧ tag' = .w3)) ∧ Bst P sp Φ k0 SB Wh (x.workTo P k0 i g g' W' es y V' O' dp' u' rel' tag' r0' st' sm') := by
  obtain ⟨tag', r0', hms, htag, hwk⟩ := (h.ms.rely (W' := W') (v' := V' Option.none) (fun _ => wgLive_of hl) hV0).wokenBy g g' W'
  refine ⟨tag', r0', htag, ?_⟩
  refine ⟨by simpa [Cf.workTo] using h.size, h.k0p, h.jle, gs_at h.a (Ne.symm (h.k0i i)), fun b g2 hb hbk hg2 => ?_, fun b hb => ?_, ?_, fun b hb => ?_, fun b hb => ?_, fun b hb hs => ?_, fun b hb hs => ?_, hW tag' r0', hout, hdl, fun b hb hs m hm n hn hnb => ?_, fun b hb hs n hn hnb => ?_, hms, hl, hmode tag' htag hwk, htri, fun e => ?_, hsb, h.sbW, hag, fun k hk => ?_⟩
  · have hg2 : ((x.gs.map (Conc.woken P g g' W')).setIfInBounds (k0 + i) g')[b]? = some g2 := hg2
    rw [Array.getElem?_setIfInBounds_ne (by omega), Array.getElem?_map] at hg2
    obtain ⟨z, hz, rfl⟩ := Option.map_eq_some_iff.1 hg2
    have hq := h.old b z hb hbk hz
    rw [woken_quitsD hq]
    show QuitsD P (x.q b) (Deaf (x.t ++ _) b) z
    rw [Deaf_other x.t (g := b) (g' := k0 + i) (by omega) _ ev_g]
    exact hq
  · show Deaf (x.t ++ _) b = 0
    have hb : ((x.gs.map (Conc.woken P g g' W')).setIfInBounds (k0 + i) g').size ≤ b := hb
    have h0 := (Array.getElem?_eq_some_iff.1 hg).1
    rw [Deaf_other x.t (g := b) (g' := k0 + i) (by simp at hb; omega) _ ev_g]
    exact h.above b (by simpa using hb)
  · show Deaf (x.t ++ _) 0 = x.d0
    rw [Deaf_other x.t (g := 0) (g' := k0 + i) (h.k0i i) _ ev_g]
    exact h.hd0
  · by_cases e : b = i
    · subst e
      refine ⟨g', gs_me hg, ?_⟩
      show WOk P sp b (upd x.xs b y b) (V' (some b)) g' W'
      rw [upd_same]; exact hy
    · obtain ⟨g2, hg2, hk⟩ := h.wk b hb
      refine ⟨_, gs_at hg2 (by omega), ?_⟩
      show WOk P sp b (upd x.xs i y b) (V' (some b)) _ W'
      rw [upd_ne _ _ e, woken_still hk.status]
      exact hk.rely (hV b e) (fun _ => wgLive_of hl)
  · show Deaf (x.t ++ _) (k0 + b) = (upd x.xs i y b).d
    by_cases e : b = i
    · subst e
      rw [Deaf_own, h.wd b hb, upd_same, hd]
    · rw [Deaf_other x.t (g := k0 + b) (g' := k0 + i) (by omega) _ ev_g, upd_ne _ _ e]
      exact h.wd b hb
  · have hs : (upd x.xs i y b).s ≤ 6 := hs
    show ∃ r, rel' b = some r
    by_cases e : b = i
    · subst e; rw [upd_same] at hs; exact hrA hs
    · rw [upd_ne _ _ e] at hs; rw [hro b e]; exact h.relA b hb hs
  · have hs : 7 ≤ (upd x.xs i y b).s := hs
    show rel' b = Option.none
    by_cases e : b = i
    · subst e; rw [upd_same] at hs; exact hrB hs
    · rw [upd_ne _ _ e] at hs; rw [hro b e]; exact h.relB b hb hs
  · have hs : (upd x.xs i y b).s = 8 := hs
    have hm : (V' (some b)).heap[sp.out]? = some (mkD 3 m) := hm
    show dp' n ↔ _
    by_cases e : b = i
    · subst e; rw [upd_same] at hs; exact hdw hs m hm n hn hnb
    · rw [upd_ne _ _ e] at hs
      have hr := h.wst.r (some b) ⟨hb, hs⟩
      have hlt : sp.out < (x.V (some b)).heap.size := by rw [hr.size]; exact h.wst.outl
      rw [hdo n (by omega)]
      exact h.dpw b hb hs m (by rw [← (hV b e).block hlt]; exact hm) n hn hnb
  · have hs : (upd x.xs i y b).s ≤ 7 := hs
    show dp' n
    by_cases e : b = i
    · subst e; rw [upd_same] at hs; exact hdd hs n hn hnb
    · rw [upd_ne _ _ e] at hs
      exact (hdo n (by omega)).2 (h.dpd b hb hs n hn hnb)
  · refine hpast ?_
    have e : tag' = .bkW := e
    rcases htag with h1 | ⟨_, h1⟩
    · rw [← h1]; exact e
    · rw [e] at h1; cases h1
  · obtain ⟨o, ho, hdd⟩ := h.sbV k hk
    exact ⟨o, hV0.some ho, hdd⟩
end
end Go.Xq
namespace Go.Xq
open Go.Conc Go.ConcN Go.Conc.Lib Go.ConcR.Gen Go.ConcN.Gen
open Go.ConcR (KK wgBlock WgAt stA smA rd wr mk DC0)
def gid (k0 : Nat) : Option Nat → Nat
  | Option.none => 0
  | some i => k0 + i
section
variable {P : Program} {sp : Gp} {Φ : Frame → List Frame → World → Prop} {k0 : Nat} {SB : Nat → Prop} {Wh : His}
theorem hdOw_ag (k0 : Nat) (a : Option Nat) : hdOw k0 (.ag a) = .of (gid k0 a) := by cases a <;> rfl
theorem ow_cell {O : Nat → Hd} {j : Nat} {a : Addr} (h : a.block ≠ sp.out) : owL sp k0 j O (.cell a) = hdOw k0 (O a.block) := if_neg h
theorem ow_out {O : Nat → Hd} {j : Nat} {a : Addr} (h : a.block = sp.out) : owL sp k0 j O (.cell a) = (if a.spot = Option.none then (if (a.off / sp.ks) % sp.step < j then .of (k0 + (a.off / sp.ks) % sp.step) else .of 0) else .nobody) := if_pos h
theorem evOk_low {v : World} {n : Nat} {e : Event} (h : EvOk v n e) : (MemAct.ofEvent e).low n := by
  obtain ⟨l, wr, sy⟩ := e
  rcases h with ⟨a, h1, h2, h3, _⟩ | ⟨r, h1, h2, h3, _⟩ | h1
  · have h1 : l = .cell a := h1
    have h2 : sy = false := h2
    subst h1; subst h2
    exact h3
  · have h1 : l = .obj r := h1
    have h2 : sy = false := h2
    subst h1; subst h2
    cases wr <;> exact h3
  · have h1 : l = .mark .noRoom := h1
    subst h1
    trivial
section
variable {W W' : World} {ac : Option Nat → Prop} {V : Option Nat → World} {O : Nat → Hd} {dp : Nat → Prop} {u : Nat → World} {c : Nat → Nat} {j : Nat}
theorem opOk_own (hW : Wst sp Wh W ac V O dp u c) {a : Option Nat} (ha : ac a) {n : Nat} {e : Event} (he : EvOk (V a) n e) (fn : FuncId) (pos : String) : OpOk SB sp.Wg W.heap.size (gid k0 a) (owL sp k0 j O) false { g := gid k0 a, fn, pos, act := .ofEvent e } := by
  refine ⟨rfl, fun b => evOk_norel he b, fun y hy => .inr ⟨rfl, ?_⟩⟩
  obtain ⟨l, wr, sy⟩ := e
  have hsz := (hW.r a ha).size
  rcases he with ⟨ad, h1, h2, _, h3⟩ | ⟨r, h1, h2, _, h3⟩ | h1
  · have h1 : l = .cell ad := h1
    have h2 : sy = false := h2
    subst h1; subst h2
    simp only [MemAct.ofEvent, MemAct.touch?, Option.some.injEq] at hy
    subst hy
    rcases h3 with h3 | ⟨o, h3, h4, h5⟩
    · refine ⟨?_, .inr (.inr ?_)⟩
      · rintro ⟨ad', e1, e2⟩
        cases e1
        have := hW.wgl; omega
      · rintro b (e1 | ⟨ad', e1, e2⟩)
        · cases e1
        · cases e1; omega
    · have hO := hW.n a ha _ o h3 h4
      have hne : O ad.block ≠ .none := by rcases hO with h | ⟨_, h⟩ <;> rw [h] <;> simp
      have h6 : ad.block ≠ sp.out := fun e => hne (by rw [e]; exact hW.out)
      refine ⟨?_, ?_⟩
      · rintro ⟨ad', e1, e2⟩
        cases e1
        exact hne (by rw [e2]; exact hW.wg)
      · rcases hO with h | ⟨h, h'⟩
        · exact .inl (by show owL sp k0 j O (.cell ad) = _; rw [ow_cell h6, h, hdOw_ag])
        · refine .inr (.inl ⟨by show owL sp k0 j O (.cell ad) = _; rw [ow_cell h6, h']; rfl, ?_⟩)
          cases hwr : wr with
          | false => rfl
          | true => exact absurd h (h5 hwr)
  · have h1 : l = .obj r := h1
    have h2 : sy = false := h2
    subst h1; subst h2
    have hy : (⟨.obj r, wr, .plain⟩ : Touch) = y := by cases wr <;> simpa [MemAct.ofEvent, MemAct.touch?] using hy
    subst hy
    refine ⟨(fun ⟨ad', e1, _⟩ => by cases e1), ?_⟩
    rcases h3 with h3 | ⟨o, h3, h4, h5⟩
    · refine .inr (.inr ?_)
      rintro b (e1 | ⟨ad', e1, e2⟩)
      · cases e1; omega
      · cases e1
    · rcases hW.n a ha _ o h3 h4 with h | ⟨h, _⟩
      · exact .inl (by show hdOw k0 (O r) = _; rw [h, hdOw_ag])
      · exact absurd h h5
  · have h1 : l = .mark .noRoom := h1
    subst h1
    simp [MemAct.ofEvent, MemAct.touch?] at hy
theorem owL_fresh (hW : Wst sp Wh W ac V O dp u c) (l : Loc) (hm : l.isMemory = true) (hf : FreshL W.heap.size l) : owL sp k0 j O l = .nobody := by
  cases l with
  | cell a =>
    have h1 := hf a.block (.inr ⟨a, rfl, rfl⟩)
    have h2 := hW.outl
    rw [ow_cell (by omega), hW.bnd _ h1]; rfl
  | obj r => show hdOw k0 (O r) = _; rw [hW.bnd _ (hf r (.inl rfl))]; rfl
  | _ => cases hm
theorem owL_wg (hne : sp.Wg ≠ sp.out) (hW : Wst sp Wh W ac V O dp u c) (l : Loc) (hl : WgL sp.Wg l) : owL sp k0 j O l = .nobody := by
  obtain ⟨a, rfl, h2⟩ := hl
  rw [ow_cell (by rw [h2]; exact hne), h2, hW.wg]; rfl
theorem owL_mem (l : Loc) (hm : l.isMemory = false) : owL sp k0 j O l = .nobody := by
  cases l <;> first | rfl | cases hm
theorem tri_own (hne : sp.Wg ≠ sp.out) (hk0 : 0 < k0) (hW : Wst sp Wh W ac V O dp u c) {rel : Nat → Option Nat} {t : Trace} (ht : Tri SB sp.Wg k0 j W.heap.size (owL sp k0 j O) rel t) {a : Option Nat} (ha : ac a) (hat : AtWork k0 j (gid k0 a)) (hrel : ∀ i, a = some i → rel i = Option.none)
    (hs : W.heap.size ≤ W'.heap.size) {es : Array Event} (he : ∀ e ∈ es, EvOk (V a) W'.heap.size e) (fn : FuncId) (pos : String) :
    Tri SB sp.Wg k0 j W'.heap.size (owL sp k0 j (newO O W.heap.size W'.heap.size (.ag a))) rel (t ++ MemOp.ofEvents (gid k0 a) fn pos es) := by
  refine ht.app (rl := false) hs hat (fun i r hg hr => ?_) (fun op hop => ?_) (fun op hop => ?_) (fun h => by cases h) (fun h => by cases h) (fun l o hl hno => ?_) (owL_fresh hW) (owL_wg hne hW) owL_mem hk0
  · cases a with
    | none => simp only [gid] at hg; omega
    | some i' =>
      simp only [gid] at hg
      have : i' = i := by omega
      subst this
      rw [hrel i' rfl] at hr; cases hr
  · obtain ⟨e, h1, rfl⟩ := Conc.mem_ofEvents hop
    exact opOk_own hW ha (he e h1) fn pos
  · obtain ⟨e, h1, rfl⟩ := Conc.mem_ofEvents hop
    exact evOk_low (he e h1)
  · have key : ∀ b, hdOw k0 (newO O W.heap.size W'.heap.size (.ag a) b) = o → hdOw k0 (O b) = o ∨ (o = .of (gid k0 a) ∧ W.heap.size ≤ b) := by
      intro b hb
      unfold newO at hb
      split at hb
      · rename_i hc
        rw [hdOw_ag] at hb
        exact .inr ⟨hb.symm, hc.1⟩
      · exact .inl hb
    cases l with
    | cell ad =>
      by_cases h6 : ad.block = sp.out
      · refine .inl ?_
        rw [ow_out h6] at hl ⊢
        exact hl
      · rw [ow_cell h6] at hl
        rcases key _ hl with h | ⟨h, h'⟩
        · exact .inl (by rw [ow_cell h6]; exact h)
        · refine .inr ⟨h, rfl, ?_⟩
          rintro b (e1 | ⟨ad', e1, e2⟩)
          · cases e1
          · cases e1; omega
    | obj r =>
      rcases key _ hl with h | ⟨h, h'⟩
      · exact .inl h
      · refine .inr ⟨h, rfl, ?_⟩
        rintro b (e1 | ⟨ad', e1, e2⟩)
        · cases e1; exact h'
        · cases e1
    | _ => exact absurd hl.symm hno
end
def Cf.at_ (x : Cf) (d : Nat) : Cf := { x with W := x.W.at d, V := fun b => padW (x.V b) (x.W.at d) }
theorem Bst.at_ {x : Cf} (h : Bst P sp Φ k0 SB Wh x) (d : Nat) : Bst P sp Φ k0 SB Wh (x.at_ d) :=
  ⟨h.size, h.k0p, h.jle, h.a, h.old, h.above, h.hd0, fun i hi => let ⟨g, h1, h2⟩ := h.wk i hi; ⟨g, h1, h2.rely (idle_pad _ _) id⟩, h.wd, h.relA, h.relB, h.wst.at_ d, h.outW, h.dpl,
    fun i hi hs m hm => h.dpw i hi hs m (by
      have hlt : sp.out < (x.V (some i)).heap.size := by rw [(h.wst.r (some i) ⟨hi, hs⟩).size]; exact h.wst.outl
      rw [← (idle_pad (x.V (some i)) (x.W.at d)).block hlt]; exact hm),
    h.dpd, h.ms.rely (W' := x.W.at d) id (idle_pad _ _), h.wg, h.mode, h.tri, h.past, h.sbO, h.sbW, h.agj, fun k hk => let ⟨o, h1, h2⟩ := h.sbV k hk; ⟨o, pad_old h1, h2⟩⟩
end
end Go.Xq
namespace Go.Xq
open Go.Conc Go.ConcN Go.Conc.Lib Go.ConcR.Gen Go.ConcN.Gen
open Go.ConcR (KK wgBlock WgAt stA smA rd wr mk DC0)
structure GpOk (P : Program) (sp : Gp) : Prop where
  H : WgLib P sp.L
  ne : sp.Wg ≠ sp.out
  J : sp.J < 2147483648
  st : 0 < sp.step
  Jst : sp.J ≤ sp.step
  all : ∀ n, n < sp.N → n % sp.step < sp.J
def BkM (Wg : Nat) (e : Event) : Prop :=
  (∀ a, MemAct.ofEvent e ≠ .mark (.release a)) ∧ (∀ y, (MemAct.ofEvent e).touch? = some y → WgL Wg y.loc ∧ y.kind ≠ .plain) ∧ ∀ B, Wg < B → (MemAct.ofEvent e).low B
theorem bkM_none (Wg : Nat) : ∀ e ∈ (#[] : Array Event), BkM Wg e := by intro e he; simp at he
theorem bkM_cell (Wg o : Nat) (w : Bool) : BkM Wg ⟨.cell ⟨Wg, o, none⟩, w, true⟩ :=
  ⟨fun a => by simp [MemAct.ofEvent], fun y hy => by simp only [MemAct.ofEvent, MemAct.touch?, Option.some.injEq] at hy; subst hy; exact ⟨⟨_, rfl, rfl⟩, by simp⟩, fun B hB => hB⟩
theorem bkM_mark (Wg : Nat) {m : Mark} (h : m = .disable ∨ m = .enable ∨ m = .acquire (stA Wg) ∨ m = .releaseMerge (stA Wg) ∨ m = .read ⟨Wg, 1, none⟩ ∨ m = .write ⟨Wg, 1, none⟩) : BkM Wg (mk m) := by
  rcases h with rfl | rfl | rfl | rfl | rfl | rfl <;>
    refine ⟨fun a => by simp [mk, MemAct.ofEvent], fun y hy => ?_, fun B hB => by first | trivial | exact hB⟩ <;>
    simp only [mk, MemAct.ofEvent, MemAct.touch?, Option.some.injEq, reduceCtorEq] at hy <;> subst hy <;> exact ⟨⟨_, rfl, rfl⟩, by simp⟩
def StepTo (P : Program) (sp : Gp) (Φ : Frame → List Frame → World → Prop) (k0 : Nat) (SB : Nat → Prop) (Wh : His) (x : Cf) (n : Nat) : Prop :=
  ∃ x' ops, (∀ sl, runT P (crowd x.gs x.W sl) n = (.next (crowd x'.gs x'.W sl), ops)) ∧ x'.t = x.t ++ ops ∧ MLt (k0 + sp.J) (x'.mu k0 sp) (x.mu k0 sp) ∧ Bst P sp Φ k0 SB Wh x'
section
variable {P : Program} {sp : Gp} {Φ : Frame → List Frame → World → Prop} {k0 : Nat} {SB : Nat → Prop} {Wh : His} {x : Cf}
theorem deaf_ev {v : World} {n : Nat} {es : Array Event} (h : ∀ e ∈ es, EvOk v n e) (d : Nat) : deafBehind d es = d := by
  refine Conc.deafBehind_still (fun e he => ?_) d
  rcases h e he with ⟨a, h1, _⟩ | ⟨r, h1, _⟩ | h1 <;> rw [h1] <;> simp
theorem main_aside (ok : GpOk P sp) (h : Bst P sp Φ k0 SB Wh x) {g' : Goroutine} {W' : World} {es : Array Event} {tag' : MT} {r0' : Rk} {st' sm' : Int} (hgo : stepG P true x.a x.W = .go g' W' es) (has : Aside sp.Wg x.W W') (hwg : WgAt sp.L.tWg sp.Wg W' st' sm') (hev : ∀ e ∈ es, BkM sp.Wg e)
    (hms : MSt P sp Φ x.j tag' r0' (deafBehind x.d0 es) g' W' (padW (x.V Option.none) W')) (hmode : Go.ConcN.Mode x.j x.D (tag'.ctag sp.J x.j) st' sm')
    (hpast : tag' = .bkW → Past (ShunB SB) W'.heap.size (x.t ++ MemOp.ofEvents 0 x.a.frame.fn x.a.frame.place es))
    (hmu : tag'.ph sp.J x.j (Vc x.j x.D) < x.tag.ph sp.J x.j (Vc x.j x.D) ∨ (tag'.ph sp.J x.j (Vc x.j x.D) = x.tag.ph sp.J x.j (Vc x.j x.D) ∧ Relation.TransGen Rk.lt r0' x.r0)) : StepTo P sp Φ k0 SB Wh x 0 := by
  have hsz : W'.heap.size = x.W.heap.size := has.size
  have hO : ∀ k, x.O k ≠ .none → W'.heap[k]? = x.W.heap[k]? := fun k hk => has.block k fun e => hk (by rw [e]; exact h.wst.wg)
  refine ⟨x.mainTo P g' W' es (fun b => padW (x.V b) W') x.O tag' r0' st' sm', _, fun sl => runT_crowd_go (i := 0) h.a hgo, rfl, ?_, ?_⟩
  · rcases hmu with h1 | ⟨h1, h2⟩
    · exact Prod.Lex.left _ _ (Nat.add_lt_add_right h1 _)
    · have e : (x.mainTo P g' W' es (fun b => padW (x.V b) W') x.O tag' r0' st' sm').mu k0 sp = ((x.mu k0 sp).1, (x.mu k0 sp).2.1, r0') := by
        exact Prod.ext (congrArg (· + sumTo x.j (fun i => (x.xs i).s)) h1) rfl
      rw [e]
      exact Prod.Lex.right _ (Prod.Lex.right _ h2)
  · refine h.mainGo (h.wst.aside has.tape has.os has.output hsz fun k hk => .inl (hO k hk)) (fun i => idle_pad _ _) hwg (has.block _ (Ne.symm ok.ne)) hms hmode ?_ hpast h.sbO h.agj (fun k hk => let ⟨o, h1, h2⟩ := h.sbV k hk; ⟨o, pad_old h1, h2⟩)
    have hwl : sp.Wg < x.W.heap.size := h.wst.wgl
    rw [hsz]
    refine h.tri.app (rl := false) (Nat.le_refl _) (.inl rfl) (fun i r hg _ => absurd hg.symm (h.k0i i)) (fun op hop => ?_) (fun op hop => ?_) (fun h => by cases h) (fun h => by cases h) (fun l o hl _ => .inl hl) (owL_fresh h.wst) (owL_wg ok.ne h.wst) owL_mem h.k0p
    · obtain ⟨e, h1, rfl⟩ := Conc.mem_ofEvents hop
      obtain ⟨h2, h3, _⟩ := hev e h1
      exact ⟨rfl, h2, fun y hy => .inl ⟨(h3 y hy).1, h.sbW, (h3 y hy).2, fun _ => rfl⟩⟩
    · obtain ⟨e, h1, rfl⟩ := Conc.mem_ofEvents hop
      exact (hev e h1).2.2 _ hwl
theorem mkD_inj {e n e' n' : Nat} (h : mkD e n = mkD e' n') : e = e' ∧ n = n' := by
  unfold mkD at h
  injection h with _ h1 h2
  injection h2 with h3 _
  exact ⟨h1, by omega⟩
theorem mark_eq {v : World} {k e n e' n' : Nat} (h : v.heap[k]? = some (mkD e n)) (h' : v.heap[k]? = some (mkD e' n')) : e = e' ∧ n = n' := by
  rw [h] at h'
  exact mkD_inj (Option.some.inj h')
theorem main_own (ok : GpOk P sp) (h : Bst P sp Φ k0 SB Wh x) {fr : Frame} {cs : List Frame} {f : World → Frame × List Frame × World} {gr : World × Frame × List Frame × World → Rk} (ha : x.a = Conc.G fr cs) (hr0 : x.r0 = .s gr) (hd0 : x.d0 = 0) (htag : x.tag ≠ .bkW)
    (hl : ∀ w1, Idle (x.V Option.none) w1 → Lifts P fr cs w1 (f w1).1 (f w1).2.1 (f w1).2.2)
    (hms : ∀ W', Stays (x.V Option.none) (f (x.V Option.none)).2.2 → MSt P sp Φ x.j x.tag (gr (x.V Option.none, f (x.V Option.none))) 0 (Conc.G (f (x.V Option.none)).1 (f (x.V Option.none)).2.1) W' (f (x.V Option.none)).2.2) : StepTo P sp Φ k0 SB Wh x 0 := by
  have hmain : x.ac Option.none := trivial
  obtain ⟨W', es, hgo, ⟨hr, hs⟩, hb, hev⟩ := hl _ (Idle.refl _) true x.W (h.wst.r _ hmain)
  have hW := h.wst.own hmain hr hs hb
  have stand : ∀ k, k < x.W.heap.size → x.O k ≠ .ag Option.none → W'.heap[k]? = x.W.heap[k]? := fun k h1 h2 => h.wst.stands hmain hb h1 h2
  have hdf : deafBehind x.d0 es = 0 := by rw [deaf_ev hev, hd0]
  rw [← ha] at hgo
  refine ⟨x.mainTo P (Conc.G (f (x.V Option.none)).1 (f (x.V Option.none)).2.1) W' es (fun b => if b = Option.none then (f (x.V Option.none)).2.2 else padW (x.V b) W') (newO x.O x.W.heap.size W'.heap.size (.ag Option.none)) x.tag (gr (x.V Option.none, f (x.V Option.none))) x.st x.sm, _, fun sl => runT_crowd_go (i := 0) h.a hgo, rfl, ?_, ?_⟩
  · have e : (x.mainTo P (Conc.G (f (x.V Option.none)).1 (f (x.V Option.none)).2.1) W' es (fun b => if b = Option.none then (f (x.V Option.none)).2.2 else padW (x.V b) W') (newO x.O x.W.heap.size W'.heap.size (.ag Option.none)) x.tag (gr (x.V Option.none, f (x.V Option.none))) x.st x.sm).mu k0 sp = ((x.mu k0 sp).1, (x.mu k0 sp).2.1, gr (x.V Option.none, f (x.V Option.none))) := rfl
    rw [e]
    refine Prod.Lex.right _ (Prod.Lex.right _ ?_)
    show Relation.TransGen Rk.lt _ x.r0
    rw [hr0]
    exact .single (.mk gr _)
  · refine h.mainGo hW (fun i => ?_) ?_ (stand _ h.wst.outl (by rw [h.wst.out]; simp)) ?_ h.mode ?_ (fun e => absurd e htag) (fun k hk => ?_) (fun k i hk => ?_) (fun k hk => ?_)
    · show Idle (x.V (some i)) (if (some i = (Option.none : Option Nat)) then _ else padW (x.V (some i)) W')
      rw [if_neg (by simp)]
      exact idle_pad _ _
    · show W'.heap[sp.Wg]? = _
      rw [stand _ h.wst.wgl (by rw [h.wst.wg]; simp)]
      exact h.wg
    · rw [hdf]
      show MSt P sp Φ x.j x.tag _ 0 _ W' (if (Option.none : Option Nat) = Option.none then _ else _)
      rw [if_pos rfl]
      exact hms W' hs
    · exact tri_own ok.ne h.k0p h.wst h.tri (a := Option.none) hmain (.inl rfl) (fun i hi => by cases hi) hb.size hev _ _
    · obtain ⟨o, ho, _⟩ := h.sbV k hk
      have hlt : k < x.W.heap.size := by rw [← (h.wst.r _ hmain).size]; exact (Array.getElem?_eq_some_iff.1 ho).1
      rw [newO_old hlt]; exact h.sbO k hk
    · unfold newO at hk
      split at hk
      · cases hk
      · exact h.agj k i hk
    · obtain ⟨o, ho, hdd⟩ := h.sbV k hk
      refine ⟨o, ?_, hdd⟩
      show (if (Option.none : Option Nat) = Option.none then (f (x.V Option.none)).2.2 else _).heap[k]? = some o
      rw [if_pos rfl]
      exact hs k o ho (.inl hdd)
end
end Go.Xq
namespace Go.Xq
open Go.Conc Go.ConcN Go.Conc.Lib Go.ConcR.Gen Go.ConcN.Gen
open Go.ConcR (KK wgBlock WgAt stA smA rd wr mk DC0)
section
variable {P : Program} {sp : Gp} {Φ : Frame → List Frame → World → Prop} {k0 : Nat} {SB : Nat → Prop} {Wh : His} {x : Cf}
def Ghost (P : Program) (sp : Gp) (Φ : Frame → List Frame → World → Prop) (k0 : Nat) (SB : Nat → Prop) (Wh : His) (x : Cf) : Prop :=
  ∃ x' : Cf, x'.gs = x.gs ∧ x'.W = x.W ∧ x'.t = x.t ∧ MLt (k0 + sp.J) (x'.mu k0 sp) (x.mu k0 sp) ∧ Bst P sp Φ k0 SB Wh x'
theorem mode_open {j : Nat} {D : Nat → WD} {tag tag' : CTag} {st sm : Int} (h : Go.ConcN.Mode j D tag st sm) (h1 : isOpen tag) (h2 : isOpen tag') (h3 : pend tag = pend tag') (h4 : ∀ vs, tag' ≠ .w2 vs) : Go.ConcN.Mode j D tag' st sm := by
  cases h with
  | opn _ a b => rw [h3]; exact .opn h2 a fun vs e => absurd e (h4 vs)
  | reg a _ _ => cases tag <;> first | exact h1.elim | exact a.elim
  | last _ a _ _ _ => cases tag <;> first | exact h1.elim | exact a.elim
  | sema _ => exact h1.elim
  | fin a _ => cases tag <;> first | exact h1.elim | exact a.elim
theorem mode_open_st {j : Nat} {D : Nat → WD} {tag : CTag} {st sm : Int} (h : Go.ConcN.Mode j D tag st sm) (h1 : isOpen tag) : st = ((Vc j D + pend tag : Nat) : Int) * KK ∧ sm = 0 ∧ OpenSt j D ∧ ∀ vs, tag = .w2 vs → Vc j D ≤ vs ∧ 1 ≤ vs := by
  cases h with
  | opn _ a b => exact ⟨rfl, rfl, a, b⟩
  | reg a _ _ => cases tag <;> first | exact h1.elim | exact a.elim
  | last _ a _ _ _ => cases tag <;> first | exact h1.elim | exact a.elim
  | sema _ => exact h1.elim
  | fin a _ => cases tag <;> first | exact h1.elim | exact a.elim
theorem mode_fin {j : Nat} {D : Nat → WD} {tag tag' : CTag} {st sm : Int} (h : Go.ConcN.Mode j D tag st sm) (h1 : isFin tag) (h2 : isFin tag') : Go.ConcN.Mode j D tag' st sm ∧ st = 0 ∧ sm = 0 ∧ AllQuit j D := by
  cases h with
  | opn a _ _ => cases tag <;> first | exact h1.elim | exact a.elim
  | reg a _ _ => cases tag <;> first | exact h1.elim | exact a.elim
  | last _ a _ _ _ => cases tag <;> first | exact h1.elim | exact a.elim
  | sema _ => exact h1.elim
  | fin _ b => exact ⟨.fin h2 b, rfl, rfl, b⟩
theorem allQuit_of {j : Nat} {D : Nat → WD} (h : OpenSt j D) (hv : Vc j D = 0) : AllQuit j D := by
  intro i hi
  have := le_sumTo (f := fun i => cnt (D i)) hi
  have h2 := h i hi
  simp only [Vc] at hv
  have hc : cnt (D i) = 0 := by omega
  unfold cnt at hc
  split at hc <;> omega
theorem mode_w3 {j : Nat} {D : Nat → WD} {st sm : Int} (h : Go.ConcN.Mode j D .w3 st sm) : (sm = 0 ∧ Go.ConcN.Mode j D .blk st sm) ∨ (st = 0 ∧ sm = 1 ∧ AllQuit j D) := by
  cases h with
  | opn a _ _ => exact a.elim
  | reg _ b c => exact .inl ⟨rfl, .reg trivial b c⟩
  | last L _ b c d => exact .inl ⟨rfl, .last L trivial b c d⟩
  | sema a => exact .inr ⟨rfl, rfl, a⟩
  | fin a _ => exact a.elim
theorem Vc_le' (x : Cf) : Vc x.j x.D ≤ x.j := Vc_le x.j x.D
theorem ofEvents_nil (n : Nat) (fn : FuncId) (pos : String) : MemOp.ofEvents n fn pos #[] = #[] := rfl
theorem main_idle (ok : GpOk P sp) (h : Bst P sp Φ k0 SB Wh x) {g' : Goroutine} {m : Nat} (hgo : stepG P true x.a x.W = .go g' x.W #[]) (hr : x.r0 = Rk.nat (m + 1)) (hms : MSt P sp Φ x.j x.tag (Rk.nat m) x.d0 g' x.W (x.V Option.none)) : StepTo P sp Φ k0 SB Wh x 0 :=
  main_aside ok h hgo (.refl _ _) h.wg (bkM_none _) (by
      have := hms.rely (W' := x.W) (v' := padW (x.V Option.none) x.W) (RL.refl _) (idle_pad _ _)
      exact this) h.mode (fun e => by rw [ofEvents_nil, Array.append_empty]; exact h.past e) (.inr ⟨rfl, by rw [hr]; exact .single (Rk.nat_lt m)⟩)
theorem main_to (ok : GpOk P sp) (h : Bst P sp Φ k0 SB Wh x) {g' : Goroutine} {W' : World} {es : Array Event} {tag' : MT} {r0' : Rk} {st' sm' : Int} (hgo : stepG P true x.a x.W = .go g' W' es) (has : Aside sp.Wg x.W W') (hwg : WgAt sp.L.tWg sp.Wg W' st' sm') (hev : ∀ e ∈ es, BkM sp.Wg e)
    (hms : MSt P sp Φ x.j tag' r0' (deafBehind x.d0 es) g' W' (x.V Option.none)) (hmode : Go.ConcN.Mode x.j x.D (tag'.ctag sp.J x.j) st' sm')
    (hpast : tag' ≠ .bkW) (hmu : tag'.ph sp.J x.j (Vc x.j x.D) < x.tag.ph sp.J x.j (Vc x.j x.D) ∨ (tag'.ph sp.J x.j (Vc x.j x.D) = x.tag.ph sp.J x.j (Vc x.j x.D) ∧ Relation.TransGen Rk.lt r0' x.r0)) : StepTo P sp Φ k0 SB Wh x 0 :=
  main_aside ok h hgo has hwg hev (hms.rely (RL.refl _) (idle_pad _ _)) hmode (fun e => absurd e hpast) hmu
theorem bk1 {Wg : Nat} {e : Event} (h : BkM Wg e) : ∀ e' ∈ #[e], BkM Wg e' := by intro e' he; simp at he; subst he; exact h
theorem bk2 {Wg : Nat} : ∀ e' ∈ #[rd (stA Wg), wr (stA Wg)], BkM Wg e' := by intro e' he; simp at he; rcases he with rfl | rfl <;> exact bkM_cell _ _ _
theorem bkS {Wg : Nat} : ∀ e' ∈ semEvents (smA Wg), BkM Wg e' := by
  intro e' he
  simp [semEvents] at he
  rcases he with rfl | rfl | rfl | rfl
  · exact bkM_mark Wg (.inl rfl)
  · exact bkM_cell _ _ _
  · exact bkM_cell _ _ _
  · exact bkM_mark Wg (.inr (.inl rfl))
theorem main_lib (ok : GpOk P sp) (h : Bst P sp Φ k0 SB Wh x) (hrun : x.a.status = .running) (h1 : x.tag ≠ .idle) (h2 : x.tag ≠ .pend) :
    StepTo P sp Φ k0 SB Wh x 0 ∨ (x.tag = .anch ∧ ∃ m, MSt P sp Φ x.j .w1 (Rk.nat m) x.d0 x.a x.W (x.V Option.none)) ∨ (x.tag = .bkA ∧ x.d0 = 0 ∧ x.j < sp.J ∧ ∃ fr cs, x.a = Conc.G fr cs ∧ (x.V Option.none).heap[sp.Wg]? = some (mkD 1 x.j) ∧ ContA P sp Φ x.j fr cs (x.V Option.none)) ∨
      (x.tag = .bkW ∧ x.d0 = 0 ∧ x.j = sp.J ∧ ∃ fr cs, x.a = Conc.G fr cs ∧ ContW P sp Φ fr cs (x.V Option.none)) := by
  have hms := h.ms
  have hm := h.mode
  have hVj := Vc_le' x
  have hjl := h.jle
  have hJ := ok.J
  generalize ht : x.tag = tag at hms hm h1 h2
  generalize hr : x.r0 = r at hms
  generalize hd : x.d0 = d at hms
  generalize ha : x.a = a at hms
  generalize hv : x.V Option.none = v at hms
  have hgo' : ∀ {s}, stepG P true a x.W = s → stepG P true x.a x.W = s := fun h => by rw [ha]; exact h
  have rl := RL.refl (ty := sp.L.tWg) (Wg := sp.Wg) x.W
  cases hms with
  | idle => exact absurd rfl h1
  | pend => exact absurd rfl h2
  | kdA hj hw hc hG =>
    refine .inl ?_
    rcases Goes.cases hG with hs | ⟨m', rfl, hs⟩
    · obtain ⟨_, g', hgo, m2, hG2⟩ := hs x.W rl
      exact main_to ok h (tag' := .a1) (hgo' hgo) (.refl _ _) h.wg (bk1 (bkM_mark _ (.inl rfl))) (by rw [hd, hv]; exact .a1 hj hw hc hG2) (mode_open hm trivial trivial rfl (by simp [MT.ctag])) (by simp) (.inl (by rw [ht]; simp only [MT.ph]; omega))
    · obtain ⟨g', W', es, hgo, ⟨rfl, rfl⟩, hG2⟩ := hs x.W rl
      exact main_idle ok h (hgo' hgo) hr (by rw [hd, hv, ht]; exact .kdA hj hw hc hG2)
  | a1 hj hw hc hG =>
    refine .inl ?_
    rcases Goes.cases hG with hs | ⟨m', rfl, hs⟩
    · obtain ⟨_, hall⟩ := hs x.W rl
      obtain ⟨e1, e2, hop, _⟩ := mode_open_st hm trivial
      have hwg := h.wg
      rw [e1, e2] at hwg
      simp only [MT.ctag, pend, show ¬ (4 ≤ 3) by omega, if_false, Nat.add_zero] at hwg
      obtain ⟨g', hgo, hG2⟩ := hall (Vc x.j x.D) (by omega) hwg
      have hm' : ∀ s, s ≤ 3 → Go.ConcN.Mode x.j x.D (.sp (sp.J - x.j) s) (((Vc x.j x.D : Nat) + 1 : Int) * KK) 0 := fun s hs => by
        have := Go.ConcN.Mode.opn (j := x.j) (D := x.D) (tag := .sp (sp.J - x.j) s) trivial hop (fun vs e => by cases e)
        simpa [pend, hs] using this
      rcases hG2 with ⟨m2, hG2⟩ | ⟨m2, hG2⟩
      · exact main_to ok h (tag' := .keA) (hgo' hgo) (aside_setCell x.W (stA sp.Wg) _) (hwg.setSt _) bk2 (by rw [hd, hv]; exact .keA hj hw hc hG2) (hm' 2 (by omega)) (by simp) (.inl (by rw [ht]; simp only [MT.ph]; omega))
      · exact main_to ok h (tag' := .said) (hgo' hgo) (aside_setCell x.W (stA sp.Wg) _) (hwg.setSt _) bk2 (by rw [hd, hv]; exact .said hj hw hc hG2) (hm' 3 (by omega)) (by simp) (.inl (by rw [ht]; simp only [MT.ph]; omega))
    · obtain ⟨g', W', es, hgo, ⟨rfl, rfl⟩, hG2⟩ := hs x.W rl
      exact main_idle ok h (hgo' hgo) hr (by rw [hd, hv, ht]; exact .a1 hj hw hc hG2)
  | said hj hw hc hG =>
    refine .inl ?_
    rcases Goes.cases hG with hs | ⟨m', rfl, hs⟩
    · obtain ⟨_, g', hgo, m2, hG2⟩ := hs x.W rl
      exact main_to ok h (tag' := .keA) (hgo' hgo) (.refl _ _) h.wg (bk1 (bkM_mark _ (.inr (.inr (.inr (.inr (.inl rfl))))))) (by rw [hd, hv]; exact .keA hj hw hc hG2) (mode_open hm trivial trivial rfl (by simp [MT.ctag])) (by simp) (.inl (by rw [ht]; simp only [MT.ph]; omega))
    · obtain ⟨g', W', es, hgo, ⟨rfl, rfl⟩, hG2⟩ := hs x.W rl
      exact main_idle ok h (hgo' hgo) hr (by rw [hd, hv, ht]; exact .said hj hw hc hG2)
  | keA hj hw hc hG =>
    refine .inl ?_
    rcases Goes.cases hG with hs | ⟨m', rfl, hs⟩
    · obtain ⟨_, g', hgo, m2, hG2⟩ := hs x.W rl
      exact main_to ok h (tag' := .bkA) (hgo' hgo) (.refl _ _) h.wg (bk1 (bkM_mark _ (.inr (.inl rfl)))) (by rw [hd, hv]; exact .bkA hj hw hc hG2) (mode_open hm trivial trivial rfl (by simp [MT.ctag])) (by simp) (.inl (by rw [ht]; simp only [MT.ph]; omega))
    · obtain ⟨g', W', es, hgo, ⟨rfl, rfl⟩, hG2⟩ := hs x.W rl
      exact main_idle ok h (hgo' hgo) hr (by rw [hd, hv, ht]; exact .keA hj hw hc hG2)
  | bkA hj hw hc hG =>
    rcases Goes.cases hG with hs | ⟨m', rfl, hs⟩
    · have := hs x.W rl
      exact .inr (.inr (.inl ⟨rfl, rfl, hj, _, _, this, hw, hc⟩))
    · obtain ⟨g', W', es, hgo, ⟨rfl, rfl⟩, hG2⟩ := hs x.W rl
      exact .inl (main_idle ok h (hgo' hgo) hr (by rw [hd, hv, ht]; exact .bkA hj hw hc hG2))
  | kdW hj hw hc hA hG =>
    refine .inl ?_
    rcases Goes.cases hG with hs | ⟨m', rfl, hs⟩
    · obtain ⟨_, g', hgo, m2, hG2⟩ := hs x.W rl
      exact main_to ok h (tag' := .anch) (hgo' hgo) (.refl _ _) h.wg (bk1 (bkM_mark _ (.inl rfl))) (by rw [hd, hv]; exact .anch hj hw hc hA hG2) (mode_open hm trivial trivial rfl (by simp [MT.ctag])) (by simp) (.inl (by rw [ht]; simp only [MT.ph]; omega))
    · obtain ⟨g', W', es, hgo, ⟨rfl, rfl⟩, hG2⟩ := hs x.W rl
      exact main_idle ok h (hgo' hgo) hr (by rw [hd, hv, ht]; exact .kdW hj hw hc hA hG2)
  | anch hj hw hc hA hG =>
    rcases Goes.cases hG with hs | ⟨m', rfl, hs⟩
    · obtain ⟨m2, hG2⟩ := hA _ _ (hs x.W rl)
      exact .inr (.inl ⟨rfl, m2, .w1 hj hw hc hA hG2⟩)
    · obtain ⟨g', W', es, hgo, ⟨rfl, rfl⟩, hG2⟩ := hs x.W rl
      exact .inl (main_idle ok h (hgo' hgo) hr (by rw [hd, hv, ht]; exact .anch hj hw hc hA hG2))
  | w1 hj hw hc hA hG =>
    refine .inl ?_
    rcases Goes.cases hG with hs | ⟨m', rfl, hs⟩
    · obtain ⟨_, hall⟩ := hs x.W rl
      obtain ⟨e1, e2, hop, _⟩ := mode_open_st hm trivial
      have hwg := h.wg
      rw [e1, e2] at hwg
      simp only [MT.ctag, pend, Nat.add_zero] at hwg
      obtain ⟨g', hgo, h0, hn⟩ := hall (Vc x.j x.D) (by omega) hwg
      rcases Nat.eq_zero_or_pos (Vc x.j x.D) with hz | hp
      · obtain ⟨m2, hG2⟩ := h0 hz
        exact main_to ok h (tag' := .keW) (hgo' hgo) (.refl _ _) hwg (bk1 (bkM_cell _ _ _)) (by rw [hd, hv]; exact .keW hj hw hc hG2) (by rw [hz]; show Go.ConcN.Mode x.j x.D .ke _ 0; simpa using Go.ConcN.Mode.fin (tag := .ke) trivial (allQuit_of hop hz)) (by simp) (.inl (by rw [ht]; simp only [MT.ph]; omega))
      · obtain ⟨m2, hG2⟩ := hn (by omega)
        exact main_to ok h (tag' := .w2 (Vc x.j x.D)) (hgo' hgo) (.refl _ _) hwg (bk1 (bkM_cell _ _ _)) (by rw [hd, hv]; exact .w2 hj hw hc hA hG2) (by
          have := Go.ConcN.Mode.opn (j := x.j) (D := x.D) (tag := .w2 (Vc x.j x.D)) trivial hop (fun vs e => by cases e; omega)
          show Go.ConcN.Mode x.j x.D (.w2 _) _ _
          simpa [pend] using this) (by simp) (.inl (by rw [ht]; simp only [MT.ph]; omega))
    · obtain ⟨g', W', es, hgo, ⟨rfl, rfl⟩, hG2⟩ := hs x.W rl
      exact main_idle ok h (hgo' hgo) hr (by rw [hd, hv, ht]; exact .w1 hj hw hc hA hG2)
  | @w2 vs _ _ _ _ _ _ _ hj hw hc hA hG =>
    refine .inl ?_
    rcases Goes.cases hG with hs | ⟨m', rfl, hs⟩
    · obtain ⟨_, hall⟩ := hs x.W rl
      obtain ⟨e1, e2, hop, hvs⟩ := mode_open_st hm trivial
      obtain ⟨hle, h1v⟩ := hvs vs rfl
      have hwg := h.wg
      rw [e1, e2] at hwg
      simp only [MT.ctag, pend, Nat.add_zero] at hwg
      obtain ⟨hhit, hmiss⟩ := hall (Vc x.j x.D) (by omega) hwg
      by_cases e : Vc x.j x.D = vs
      · obtain ⟨g', hgo, m2, hG2⟩ := hhit e
        exact main_to ok h (tag' := .w2s) (hgo' hgo) (aside_setCell x.W (stA sp.Wg) _) (hwg.setSt _) bk2 (by rw [hd, hv]; exact .w2s hj hw hc hG2) (.reg trivial hop (by omega)) (by simp) (.inl (by rw [ht]; simp only [MT.ph]; omega))
      · obtain ⟨g', hgo, m2, hG2⟩ := hmiss e
        exact main_to ok h (tag' := .anch) (hgo' hgo) (.refl _ _) hwg (bk1 (bkM_cell _ _ _)) (by rw [hd, hv]; exact .anch hj hw hc hA hG2) (by
          have := Go.ConcN.Mode.opn (j := x.j) (D := x.D) (tag := .anch) trivial hop (fun vs e => by cases e)
          show Go.ConcN.Mode x.j x.D .anch _ _
          simpa [pend] using this) (by simp) (.inl (by rw [ht]; simp only [MT.ph]; omega))
    · obtain ⟨g', W', es, hgo, ⟨rfl, rfl⟩, hG2⟩ := hs x.W rl
      exact main_idle ok h (hgo' hgo) hr (by rw [hd, hv, ht]; exact .w2 hj hw hc hA hG2)
  | w2s hj hw hc hG =>
    refine .inl ?_
    rcases Goes.cases hG with hs | ⟨m', rfl, hs⟩
    · obtain ⟨_, g', hgo, m2, hG2⟩ := hs x.W rl
      exact main_to ok h (tag' := .w3) (hgo' hgo) (.refl _ _) h.wg (bk1 (bkM_mark _ (.inr (.inr (.inr (.inr (.inr rfl))))))) (by rw [hd, hv]; exact .w3 hj hw hc hG2) hm (by simp) (.inl (by rw [ht]; simp only [MT.ph]; omega))
    · obtain ⟨g', W', es, hgo, ⟨rfl, rfl⟩, hG2⟩ := hs x.W rl
      exact main_idle ok h (hgo' hgo) hr (by rw [hd, hv, ht]; exact .w2s hj hw hc hG2)
  | @w3 m _ _ _ _ _ hj hw hc hG =>
    refine .inl ?_
    rcases Goes.cases hG with hs | ⟨m', rfl, hs⟩
    · obtain ⟨_, _, hb, hsem⟩ := hs x.W rl
      rcases mode_w3 hm with ⟨e1, hm'⟩ | ⟨e1, e2, hq⟩
      · have hwg := h.wg
        rw [e1] at hwg
        exact main_to ok h (tag' := .blk) (r0' := .z) (hgo' (hb ⟨_, hwg⟩)) (.refl _ _) h.wg (bkM_none _) (by rw [hd, hv]; exact .blk hj hw hc (fun W2 h2 => hs W2 h2)) hm' (by simp) (.inr ⟨by rw [ht]; rfl, by rw [hr]; exact Rk.z_lt _⟩)
      · have hwg := h.wg
        rw [e1, e2] at hwg
        obtain ⟨g', hgo, m2, hG2⟩ := hsem hwg
        exact main_to ok h (tag' := .w4) (hgo' hgo) (aside_setCell x.W (smA sp.Wg) _) (hwg.setSm 0) bkS (by rw [hd, hv]; exact .w4 hj hw hc hG2) (.fin trivial hq) (by simp) (.inl (by rw [ht]; simp only [MT.ph]; omega))
    · obtain ⟨g', W', es, hgo, ⟨rfl, rfl⟩, hG2⟩ := hs x.W rl
      exact main_idle ok h (hgo' hgo) (m := m' + 1) hr (by rw [hd, hv, ht]; exact .w3 hj hw hc hG2)
  | blk hj hw hc hG => rw [ha] at hrun; cases hrun
  | w4 hj hw hc hG =>
    refine .inl ?_
    rcases Goes.cases hG with hs | ⟨m', rfl, hs⟩
    · obtain ⟨_, hx⟩ := hs x.W rl
      obtain ⟨hm', e1, e2, _⟩ := mode_fin (tag' := .ke) hm trivial trivial
      have hwg := h.wg
      rw [e1, e2] at hwg
      obtain ⟨g', hgo, m2, hG2⟩ := hx hwg
      exact main_to ok h (tag' := .keW) (hgo' hgo) (.refl _ _) h.wg (bk1 (bkM_cell _ _ _)) (by rw [hd, hv]; exact .keW hj hw hc hG2) hm' (by simp) (.inl (by rw [ht]; simp only [MT.ph]; omega))
    · obtain ⟨g', W', es, hgo, ⟨rfl, rfl⟩, hG2⟩ := hs x.W rl
      exact main_idle ok h (hgo' hgo) hr (by rw [hd, hv, ht]; exact .w4 hj hw hc hG2)
  | keW hj hw hc hG =>
    refine .inl ?_
    rcases Goes.cases hG with hs | ⟨m', rfl, hs⟩
    · obtain ⟨_, g', hgo, m2, hG2⟩ := hs x.W rl
      exact main_to ok h (tag' := .acq) (hgo' hgo) (.refl _ _) h.wg (bk1 (bkM_mark _ (.inr (.inl rfl)))) (by rw [hd, hv]; exact .acq hj hw hc hG2) (mode_fin (tag' := .acq) hm trivial trivial).1 (by simp) (.inl (by rw [ht]; simp only [MT.ph]; omega))
    · obtain ⟨g', W', es, hgo, ⟨rfl, rfl⟩, hG2⟩ := hs x.W rl
      exact main_idle ok h (hgo' hgo) hr (by rw [hd, hv, ht]; exact .keW hj hw hc hG2)
  | acq hj hw hc hG =>
    refine .inl ?_
    rcases Goes.cases hG with hs | ⟨m', rfl, hs⟩
    · obtain ⟨_, g', hgo, m2, hG2⟩ := hs x.W rl
      obtain ⟨hm', _, _, hq⟩ := mode_fin (tag' := .ret) hm trivial trivial
      refine main_aside ok h (tag' := .bkW) (hgo' hgo) (.refl _ _) h.wg (bk1 (bkM_mark _ (.inr (.inr (.inl rfl))))) (by rw [hd, hv]; exact (MSt.bkW hj hw hc hG2).rely (RL.refl _) (idle_pad _ _)) hm' (fun _ => ?_) (.inl (by rw [ht]; simp only [MT.ph]; omega))
      refine h.tri.acquire (fun i hi => h.relA i hi ?_) (by rw [h.hd0, hd]) h.wst.wgl _ _
      have := hq i hi
      simp only [Cf.D] at this
      omega
    · obtain ⟨g', W', es, hgo, ⟨rfl, rfl⟩, hG2⟩ := hs x.W rl
      exact main_idle ok h (hgo' hgo) hr (by rw [hd, hv, ht]; exact .acq hj hw hc hG2)
  | bkW hj hw hc hG =>
    rcases Goes.cases hG with hs | ⟨m', rfl, hs⟩
    · have := hs x.W rl
      exact .inr (.inr (.inr ⟨rfl, rfl, hj, _, _, this, hc⟩))
    · obtain ⟨g', W', es, hgo, ⟨rfl, rfl⟩, hG2⟩ := hs x.W rl
      exact .inl (main_idle ok h (hgo' hgo) hr (by rw [hd, hv, ht]; exact .bkW hj hw hc hG2))
end
end Go.Xq
