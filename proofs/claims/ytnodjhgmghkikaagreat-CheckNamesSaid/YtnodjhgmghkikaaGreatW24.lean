/- A part of the proof of this seat's statement. Conditions: in each theorem. -/
import Derived.Test.YtnodjhgmghkikaaGreatW23
namespace Go.Xq
open Go.Conc Go.ConcN Go.Conc.Lib Go.ConcR.Gen Go.ConcN.Gen
open Go.ConcR (KK wgBlock WgAt stA smA rd wr mk DC0)
section
variable {SB : Nat → Prop} {Wg k0 j B : Nat} {ow : Loc → Ow} {rel : Nat → Option Nat} {t u : Trace}
theorem Tri.mute (h : Tri SB Wg k0 j B ow rel t) {g : Nat} (hg : g < k0) (hu : ∀ op ∈ u, op.g = g) (hn : ∀ op ∈ u, op.act.touch? = none) (hl : ∀ op ∈ u, op.act.low B) (hr : ∀ op ∈ u, ∀ a, op.act ≠ .mark (.release a)) : Tri SB Wg k0 j B ow rel (t ++ u) := by
  refine ⟨fun said => noRace_append (h.clean said) hu fun i a _ op hop b hb _ => (by rw [hn op hop] at hb; cases hb), fun op hop => ?_, fun l g' hl' x a ha e => ?_, fun l hl' g' hg' x a ha e hw => ?_, fun x a ha hw hk g' hg' => ?_, fun x a ha hw hk => ?_, fun x a ha hm => ?_, fun x g' hx hne hc => ?_, fun x op ho => ?_, fun x a hx => ?_, fun i r hr' => ?_⟩
  · exact (Array.mem_append.1 hop).elim (h.low op) (hl op)
  · obtain ⟨_, ha'⟩ := touch_new ha hn
    exact (h.own l g' hl' x a ha' e).app u
  · obtain ⟨_, ha'⟩ := touch_new ha hn
    exact (h.shr l hl' g' hg' x a ha' e hw).app u
  · obtain ⟨_, ha'⟩ := touch_new ha hn
    exact (h.wg x a ha' hw hk g' hg').app u
  · obtain ⟨_, ha'⟩ := touch_new ha hn
    exact (h.wgS x a ha' hw hk).app u
  · obtain ⟨hi, ha'⟩ := touch_new ha hn
    rcases h.known x a ha' hm with h1 | h1 | ⟨i, h1, h2, h3⟩
    · exact .inl (h1.app u)
    · exact .inr (.inl h1)
    · exact .inr (.inr ⟨i, h1, by rw [Conc.g?_old hi]; exact h2, h3⟩)
  · obtain ⟨hi, hc'⟩ := counts_new hc hn
    rcases h.over x g' (by rw [← Conc.g?_old (u := u) hi]; exact hx) hne hc' with ⟨z, h1, h2⟩ | h1
    · have hz : z < t.size := by
        obtain ⟨q, hq, _⟩ := Option.map_eq_some_iff.1 h1
        exact lt_size_of_getElem? hq
      exact .inl ⟨z, by rw [Conc.g?_old hz]; exact h1, Conc.hb_app u h2⟩
    · exact .inr h1
  · rcases getElem?_append_cases ho with ⟨_, ho'⟩ | ⟨_, hou⟩
    · exact h.gs x op ho'
    · rw [hu op hou]; omega
  · obtain ⟨op, ho, hoa⟩ := Option.map_eq_some_iff.1 hx
    rcases getElem?_append_cases ho with ⟨hi, _⟩ | ⟨_, hou⟩
    · exact h.norel x a (by rw [← act?_old (u := u) hi]; exact hx)
    · exact hr op hou a hoa
  · obtain ⟨h1, h2⟩ := h.rels i r hr'
    exact ⟨h1, h2.app fun x' _ _ hc => by have := (counts_new hc hn).1; omega⟩
theorem Deaf_two {x y : MemOp} {n m : Nat} (hx : x.act = .go n) (hy : y.act = .start) : Deaf (t ++ #[x, y]) m = Deaf t m := by
  have e : t ++ #[x, y] = t ++ #[x] ++ #[y] := by apply Array.ext'; simp
  rw [e, Conc.Deaf_push, Conc.Deaf_push]
  simp [Conc.deafStep, hx, hy]
end
section
variable {P : Program} {sp : Gp} {Φ : Frame → List Frame → World → Prop} {k0 : Nat} {SB : Nat → Prop} {Wh : His} {x : Cf}
theorem old_slip (h : Bst P sp Φ k0 SB Wh x) {i : Nat} (hpos : 0 < i) (hik : i < k0) {g : Goroutine} (hi : x.gs[i]? = some g) (hrun : g.status = .running) : StepTo P sp Φ k0 SB Wh x i := by
  have hq := h.old i g hpos hik hi
  have hi0 : (i == 0) = false := by simp; omega
  cases hqi : x.q i with
  | zero => rw [hqi] at hq; rw [hq.1] at hrun; cases hrun
  | succ k =>
    rw [hqi] at hq
    rcases hq with ⟨hf, _⟩ | ⟨_, g', es, hm, hstp, hq'⟩
    · rw [hf] at hrun; cases hrun
    have hmu : ∀ op ∈ MemOp.ofEvents i g.frame.fn g.frame.place es, ∃ e, e.mute = true ∧ op.act = .ofEvent e ∧ op.g = i := fun op hop => by
      obtain ⟨e, he, rfl⟩ := Conc.mem_ofEvents hop
      exact ⟨e, hm e he, rfl, rfl⟩
    have touch : ∀ op ∈ MemOp.ofEvents i g.frame.fn g.frame.place es, op.act.touch? = none := fun op hop => by obtain ⟨e, h1, h2, _⟩ := hmu op hop; rw [h2]; exact Conc.touch_mute h1
    have low : ∀ B, ∀ op ∈ MemOp.ofEvents i g.frame.fn g.frame.place es, op.act.low B := fun B op hop => by obtain ⟨e, h1, h2, _⟩ := hmu op hop; rw [h2]; exact Conc.low_mute h1 B
    have norel : ∀ op ∈ MemOp.ofEvents i g.frame.fn g.frame.place es, ∀ a, op.act ≠ .mark (.release a) := fun op hop a => by obtain ⟨e, h1, h2, _⟩ := hmu op hop; rw [h2]; exact mute_norel h1 a
    obtain ⟨tag', r0', hms, htag, hwk⟩ := h.ms.wokenBy g g' x.W
    have ne : ∀ b, k0 + b ≠ i := fun b => by omega
    refine ⟨{ x with gs := (x.gs.map (Conc.woken P g g' x.W)).setIfInBounds i g', t := x.t ++ MemOp.ofEvents i g.frame.fn g.frame.place es, q := upd x.q i k, tag := tag', r0 := r0', a := Conc.woken P g g' x.W x.a }, _, fun sl => runT_crowd_go hi (by rw [hi0]; exact hstp x.W), rfl, ?_, ⟨by simpa using h.size, h.k0p, h.jle, gs_at h.a (by omega), fun b g2 hb hbk hg2 => ?_, fun b hb => ?_, ?_, fun b hb => ?_, fun b hb => ?_, h.relA, h.relB, h.wst, h.outW, h.dpl, h.dpw, h.dpd, hms, h.wg, Mode.retag' h.mode htag, h.tri.mute hik (fun op hop => (hmu op hop).choose_spec.2.2) touch (low _) norel, fun e => ?_, h.sbO, h.sbW, h.agj, h.sbV⟩⟩
    · have e1 : (Cf.mu k0 sp { x with gs := (x.gs.map (Conc.woken P g g' x.W)).setIfInBounds i g', t := x.t ++ MemOp.ofEvents i g.frame.fn g.frame.place es, q := upd x.q i k, tag := tag', r0 := r0', a := Conc.woken P g g' x.W x.a }).1 = (x.mu k0 sp).1 := by
        show tag'.ph sp.J x.j (Vc x.j x.D) + _ = x.tag.ph sp.J x.j (Vc x.j x.D) + _
        rw [ph_retag _ _ _ htag]
      refine Prod.lex_def.2 (.inr ⟨e1, Prod.lex_def.2 (.inl ⟨i, by omega, ?_, fun b hb => ?_⟩)⟩)
      · show Rk.lt (if i < k0 then Rk.nat (upd x.q i k i) else _) (if i < k0 then Rk.nat (x.q i) else _)
        rw [if_pos hik, if_pos hik, upd_same, hqi]
        exact Rk.nat_lt k
      · show (if b < k0 then Rk.nat (upd x.q i k b) else _) = (if b < k0 then Rk.nat (x.q b) else _)
        rw [upd_ne _ _ hb]
    · have hg2 : ((x.gs.map (Conc.woken P g g' x.W)).setIfInBounds i g')[b]? = some g2 := hg2
      show QuitsD P (upd x.q i k b) (Deaf (x.t ++ _) b) g2
      by_cases e : b = i
      · subst e
        rw [gs_me hi] at hg2; cases hg2
        rw [upd_same, Deaf_own]
        exact hq'
      · rw [Array.getElem?_setIfInBounds_ne (Ne.symm e), Array.getElem?_map] at hg2
        obtain ⟨z, hz, rfl⟩ := Option.map_eq_some_iff.1 hg2
        have hq2 := h.old b z hb hbk hz
        rw [woken_quitsD hq2, upd_ne _ _ e, Deaf_other x.t (g := b) (g' := i) (Ne.symm e) _ ev_g]
        exact hq2
    · show Deaf (x.t ++ _) b = 0
      have hb : ((x.gs.map (Conc.woken P g g' x.W)).setIfInBounds i g').size ≤ b := hb
      have h0 := (Array.getElem?_eq_some_iff.1 hi).1
      rw [Deaf_other x.t (g := b) (g' := i) (by simp at hb; omega) _ ev_g]
      exact h.above b (by simpa using hb)
    · show Deaf (x.t ++ _) 0 = x.d0
      rw [Deaf_other x.t (g := 0) (g' := i) (by omega) _ ev_g]
      exact h.hd0
    · obtain ⟨g2, hg2, hk⟩ := h.wk b hb
      refine ⟨_, gs_at hg2 (ne b), ?_⟩
      rw [woken_still hk.status]
      exact hk
    · show Deaf (x.t ++ _) (k0 + b) = _
      rw [Deaf_other x.t (g := k0 + b) (g' := i) (Ne.symm (ne b)) _ ev_g]
      exact h.wd b hb
    · have e : tag' = .bkW := e
      refine (h.past ?_).mute (by omega) hm
      rcases htag with h1 | ⟨_, h1⟩
      · rw [← h1]; exact e
      · rw [e] at h1; cases h1
theorem main_spawn (ok : GpOk P sp) (h : Bst P sp Φ k0 SB Wh x) (htag : x.tag = .pend) (hd0 : x.d0 = 0) (hj : x.j < sp.J) {fr fr' frc : Frame} {cs cs' : List Frame} {c : Nat} {val : Value} {e : TypeId} {r' rc : Rk} (ha : x.a = Conc.G fr cs)
    (hc : (x.V Option.none).heap[c]? = some (.cells #[val] e (0, 0))) (hst : ∀ W, stepG P true (Conc.G fr cs) W = .spawn (Conc.G fr' cs') (Conc.G frc []) W #[])
    (hrc : @GxR (workerD P sp) P (WEnd P sp) rc frc [] (childW sp x.j c (x.V Option.none))) (hr' : @GxR (mainD P sp) P Φ r' fr' cs' (setB (setB (x.V Option.none) c deadO) sp.Wg (mkD 1 (x.j + 1)))) : StepTo P sp Φ k0 SB Wh x 0 := by
  have hmain : x.ac Option.none := trivial
  have r0 := h.wst.r _ hmain
  have hsz := h.size
  have hwl : sp.Wg < (x.V Option.none).heap.size := by rw [r0.size]; exact h.wst.wgl
  have hol : sp.out < (x.V Option.none).heap.size := by rw [r0.size]; exact h.wst.outl
  have hag : ∀ k, x.O k ≠ .ag (some x.j) := fun k hk => absurd (h.agj k _ hk) (Nat.lt_irrefl _)
  have hcO : x.O c = .ag Option.none := by
    rcases h.wst.n _ hmain c _ hc bare_nd.1 with h1 | ⟨h1, _⟩
    · exact h1
    · exact absurd h1 bare_nd.2
  have hcW : c ≠ sp.Wg := fun e => by rw [e, h.wst.wg] at hcO; cases hcO
  let y : Wd := ⟨rc, c, 8, 0⟩
  have hys : ∀ b, b < x.j → upd x.xs x.j y b = x.xs b := fun b hb => upd_ne _ _ (by omega)
  have hrel : x.rel x.j = Option.none := by
    cases hr : x.rel x.j with
    | none => rfl
    | some r => exact absurd (h.tri.rels _ _ hr).1 (Nat.lt_irrefl _)
  have hrun := fun sl => runT_crowd_spawn (sl := sl) (i := 0) h.a (show stepG P (0 == 0) x.a x.W = _ by rw [ha]; exact hst x.W)
  have hops : ((MemOp.ofEvents 0 x.a.frame.fn x.a.frame.place #[]).push { g := 0, fn := x.a.frame.fn, pos := x.a.frame.place, act := .go x.gs.size } |>.push { g := x.gs.size, fn := (Conc.G frc []).frame.fn, pos := x.a.frame.place, act := .start }) = #[{ g := 0, fn := x.a.frame.fn, pos := x.a.frame.place, act := .go x.gs.size }, { g := x.gs.size, fn := (Conc.G frc []).frame.fn, pos := x.a.frame.place, act := .start }] := by rw [ofEvents_nil]; rfl
  have hdf : ∀ m, Deaf (x.t ++ #[{ g := 0, fn := x.a.frame.fn, pos := x.a.frame.place, act := .go x.gs.size }, { g := x.gs.size, fn := (Conc.G frc []).frame.fn, pos := x.a.frame.place, act := .start }]) m = Deaf x.t m := fun m => Deaf_two rfl rfl
  have hgs : ∀ i, i < x.gs.size → i ≠ 0 → ((x.gs.setIfInBounds 0 (Conc.G fr' cs')).push (Conc.G frc []))[i]? = x.gs[i]? := fun i hi hne => by
    rw [Array.getElem?_push_lt (by simpa using hi), ← Array.getElem?_eq_getElem, Array.getElem?_setIfInBounds_ne (Ne.symm hne)]
  have hmode := mode_open_st h.mode (by rw [htag]; trivial)
  obtain ⟨hst1, hsm1, hop, _⟩ := hmode
  have hpd : pend (x.tag.ctag sp.J x.j) = 1 := by rw [htag]; rfl
  rw [hpd] at hst1
  refine ⟨{ x with gs := (x.gs.setIfInBounds 0 (Conc.G fr' cs')).push (Conc.G frc []), t := x.t ++ #[{ g := 0, fn := x.a.frame.fn, pos := x.a.frame.place, act := .go x.gs.size }, { g := x.gs.size, fn := (Conc.G frc []).frame.fn, pos := x.a.frame.place, act := .start }], j := x.j + 1, V := fun b => if b = Option.none then setB (setB (x.V Option.none) c deadO) sp.Wg (mkD 1 (x.j + 1)) else if b = some x.j then childW sp x.j c (x.V Option.none) else x.V b, O := fun k => if k = c then .ag (some x.j) else x.O k, xs := upd x.xs x.j y, tag := .idle, r0 := r', a := Conc.G fr' cs' }, _, fun sl => by rw [hrun sl, hops], rfl, ?_, ?_⟩
  · refine Prod.Lex.left _ _ ?_
    show 8 * sp.J + 20 + 32 * (sp.J - (x.j + 1)) + 8 + (sumTo x.j (fun i => (upd x.xs x.j y i).s) + (upd x.xs x.j y x.j).s) < x.tag.ph sp.J x.j (Vc x.j x.D) + sumTo x.j (fun i => (x.xs i).s)
    rw [htag, upd_same, sumTo_congr (f := fun i => (upd x.xs x.j y i).s) (g := fun i => (x.xs i).s) fun b hb => by rw [hys b hb]]
    show 8 * sp.J + 20 + 32 * (sp.J - (x.j + 1)) + 8 + (_ + 8) < 8 * sp.J + 20 + 32 * (sp.J - x.j) + _
    omega
  · have hV0 : (fun b : Option Nat => if b = Option.none then setB (setB (x.V Option.none) c deadO) sp.Wg (mkD 1 (x.j + 1)) else if b = some x.j then childW sp x.j c (x.V Option.none) else x.V b) Option.none = setB (setB (x.V Option.none) c deadO) sp.Wg (mkD 1 (x.j + 1)) := if_pos rfl
    have hVj : (fun b : Option Nat => if b = Option.none then setB (setB (x.V Option.none) c deadO) sp.Wg (mkD 1 (x.j + 1)) else if b = some x.j then childW sp x.j c (x.V Option.none) else x.V b) (some x.j) = childW sp x.j c (x.V Option.none) := by
      show (if (some x.j : Option Nat) = Option.none then _ else _) = _
      rw [if_neg (by simp), if_pos rfl]
    have hVb : ∀ b, b < x.j → (fun b : Option Nat => if b = Option.none then setB (setB (x.V Option.none) c deadO) sp.Wg (mkD 1 (x.j + 1)) else if b = some x.j then childW sp x.j c (x.V Option.none) else x.V b) (some b) = x.V (some b) := fun b hb => by
      show (if (some b : Option Nat) = Option.none then _ else _) = _
      rw [if_neg (by simp), if_neg (by simp; omega)]
    have hmw : (setB (setB (x.V Option.none) c deadO) sp.Wg (mkD 1 (x.j + 1))).heap[sp.Wg]? = some (mkD 1 (x.j + 1)) := setB_same (x := (x.V Option.none).heap[sp.Wg]) (by rw [setB_ne (Ne.symm hcW)]; exact Array.getElem?_eq_getElem hwl)
    have hjs : x.j % sp.step = x.j := Nat.mod_eq_of_lt (by have := ok.Jst; omega)
    refine ⟨by simp [hsz]; omega, h.k0p, hj, ?_, fun i g hi hik hg => ?_, fun i hi => ?_, (hdf 0).trans h.hd0, fun b hb => ?_, fun b hb => ?_, fun b hb hs => ?_, fun b hb hs => ?_, ?_, h.outW, fun n hn => ⟨(h.dpl n hn).1, by have := (h.dpl n hn).2; show _ < x.j + 1; omega⟩, fun b hb hs m hm n hn hnb => ?_, fun b hb hs n hn hnb => ?_, ?_, h.wg, ?_, ?_, fun e => (by cases e), fun k hk => ?_, h.sbW, fun k i hk => ?_, fun k hk => ?_⟩
    · show ((x.gs.setIfInBounds 0 (Conc.G fr' cs')).push (Conc.G frc []))[0]? = _
      have h0 : 0 < x.gs.size := (Array.getElem?_eq_some_iff.1 h.a).1
      rw [Array.getElem?_push_lt (by simpa using h0), ← Array.getElem?_eq_getElem, Array.getElem?_setIfInBounds_self_of_lt h0]
    · have hg : ((x.gs.setIfInBounds 0 (Conc.G fr' cs')).push (Conc.G frc []))[i]? = some g := hg
      rw [hgs i (by omega) (by omega)] at hg
      show QuitsD P (x.q i) (Deaf (x.t ++ _) i) g
      rw [hdf]
      exact h.old i g hi hik hg
    · show Deaf (x.t ++ _) i = 0
      rw [hdf]
      have hi : ((x.gs.setIfInBounds 0 (Conc.G fr' cs')).push (Conc.G frc [])).size ≤ i := hi
      exact h.above i (by simp at hi; omega)
    · have hb : b < x.j + 1 := hb
      show ∃ g, ((x.gs.setIfInBounds 0 (Conc.G fr' cs')).push (Conc.G frc []))[k0 + b]? = some g ∧ WOk P sp b (upd x.xs x.j y b) ((fun b : Option Nat => if b = Option.none then setB (setB (x.V Option.none) c deadO) sp.Wg (mkD 1 (x.j + 1)) else if b = some x.j then childW sp x.j c (x.V Option.none) else x.V b) (some b)) g x.W
      by_cases eb : b = x.j
      · subst eb
        refine ⟨Conc.G frc [], ?_, ?_⟩
        · have e2 : k0 + x.j = (x.gs.setIfInBounds 0 (Conc.G fr' cs')).size := by simp [hsz]
          rw [e2, Array.getElem?_push_size]
        · rw [hVj, upd_same]
          exact .work frc [] x.j rfl rfl rfl hrc (child_out sp x.j c ok.ne hol) hjs (child_wg sp x.j c hwl)
      · obtain ⟨g, h1, h2⟩ := h.wk b (by omega)
        refine ⟨g, ?_, ?_⟩
        · rw [hgs _ (by omega) (h.k0i b)]; exact h1
        · rw [hVb b (by omega), hys b (by omega)]; exact h2
    · have hb : b < x.j + 1 := hb
      show Deaf (x.t ++ _) (k0 + b) = (upd x.xs x.j y b).d
      rw [hdf]
      by_cases eb : b = x.j
      · subst eb
        rw [upd_same]
        exact h.above _ (by omega)
      · rw [hys b (by omega)]; exact h.wd b (by omega)
    · have hb : b < x.j + 1 := hb
      have hs : (upd x.xs x.j y b).s ≤ 6 := hs
      by_cases eb : b = x.j
      · subst eb; rw [upd_same] at hs; exact absurd hs (by show ¬ 8 ≤ 6; omega)
      · rw [hys b (by omega)] at hs; exact h.relA b (by omega) hs
    · have hb : b < x.j + 1 := hb
      have hs : 7 ≤ (upd x.xs x.j y b).s := hs
      by_cases eb : b = x.j
      · subst eb; exact hrel
      · rw [hys b (by omega)] at hs; exact h.relB b (by omega) hs
    · refine h.wst.spawn (dead_mkD _ _) hc hag (fun b hb => ?_) trivial (fun b hb => ?_) ?_
      · cases b with
        | none => exact .inl ⟨trivial, by simp⟩
        | some b =>
          obtain ⟨h1, h2⟩ := hb
          have h1 : b < x.j + 1 := h1
          have h2 : (upd x.xs x.j y b).s = 8 := h2
          by_cases eb : b = x.j
          · exact .inr (by rw [eb])
          · rw [hys b (by omega)] at h2
            exact .inl ⟨⟨by omega, h2⟩, by simpa using eb⟩
      · show (upd x.xs x.j y b).c = (x.xs b).c
        rw [upd_ne _ _ hb]
      · show (upd x.xs x.j y x.j).c = c
        rw [upd_same]
    · have hb : b < x.j + 1 := hb
      have hs : (upd x.xs x.j y b).s = 8 := hs
      have hm : ((fun b : Option Nat => if b = Option.none then setB (setB (x.V Option.none) c deadO) sp.Wg (mkD 1 (x.j + 1)) else if b = some x.j then childW sp x.j c (x.V Option.none) else x.V b) (some b)).heap[sp.out]? = some (mkD 3 m) := hm
      show x.dp n ↔ n < m
      by_cases eb : b = x.j
      · subst eb
        rw [hVj] at hm
        have := (mark_eq hm (child_out sp x.j c ok.ne hol)).2
        subst this
        refine ⟨fun hd => ?_, fun hlt => ?_⟩
        · have := (h.dpl n hd).2; omega
        · rw [Nat.mod_eq_of_lt (by have := ok.Jst; omega)] at hnb; omega
      · rw [hys b (by omega)] at hs
        rw [hVb b (by omega)] at hm
        exact h.dpw b (by omega) hs m hm n hn hnb
    · have hb : b < x.j + 1 := hb
      have hs : (upd x.xs x.j y b).s ≤ 7 := hs
      by_cases eb : b = x.j
      · subst eb; rw [upd_same] at hs; exact absurd hs (by show ¬ 8 ≤ 7; omega)
      · rw [hys b (by omega)] at hs; exact h.dpd b (by omega) hs n hn hnb
    · show MSt P sp Φ (x.j + 1) .idle r' x.d0 _ x.W ((fun b : Option Nat => if b = Option.none then setB (setB (x.V Option.none) c deadO) sp.Wg (mkD 1 (x.j + 1)) else if b = some x.j then childW sp x.j c (x.V Option.none) else x.V b) Option.none)
      rw [hV0, hd0]
      exact .idle hmw hr'
    · show Go.ConcN.Mode (x.j + 1) (fun b => ⟨min (upd x.xs x.j y b).s 7, 0, (upd x.xs x.j y b).d⟩) (.sp (sp.J - (x.j + 1)) 8) x.st x.sm
      have hD : ∀ b, b < x.j → (⟨min (upd x.xs x.j y b).s 7, 0, (upd x.xs x.j y b).d⟩ : WD) = x.D b := fun b hb => by rw [hys b hb]; rfl
      have hVc : Vc (x.j + 1) (fun b => (⟨min (upd x.xs x.j y b).s 7, 0, (upd x.xs x.j y b).d⟩ : WD)) = Vc x.j x.D + 1 := by
        show sumTo x.j _ + cnt ⟨min (upd x.xs x.j y x.j).s 7, 0, (upd x.xs x.j y x.j).d⟩ = _
        rw [upd_same, sumTo_congr (g := fun b => cnt (x.D b)) fun b hb => congrArg cnt (hD b hb)]
        rfl
      have := Go.ConcN.Mode.opn (j := x.j + 1) (D := fun b => ⟨min (upd x.xs x.j y b).s 7, 0, (upd x.xs x.j y b).d⟩) (tag := .sp (sp.J - (x.j + 1)) 8) trivial (fun b hb => by
        by_cases eb : b = x.j
        · subst eb; left; show min (upd x.xs x.j y x.j).s 7 = 7; rw [upd_same]; rfl
        · have := hop b (by omega)
          rw [← hD b (by omega)] at this
          exact this) (fun vs e => by cases e)
      rw [hVc] at this
      rw [hst1, hsm1]
      exact this
    · refine h.tri.fork (j := x.j) ⟨rfl, by show MemAct.go x.gs.size = _; rw [hsz]⟩ ⟨hsz, rfl⟩ (h.hd0.trans hd0) (h.above _ (by omega)) fun l o hl hno => ?_
      have key : ∀ b, hdOw k0 (if b = c then Hd.ag (some x.j) else x.O b) = o → hdOw k0 (x.O b) = o ∨ (o = .of (k0 + x.j) ∧ hdOw k0 (x.O b) = .of 0) := by
        intro b hb
        split at hb
        · rename_i e
          subst e
          exact .inr ⟨hb.symm, by rw [hcO]; rfl⟩
        · exact .inl hb
      cases l with
      | cell ad =>
        by_cases h6 : ad.block = sp.out
        · rw [ow_out h6] at hl ⊢
          by_cases h7 : ad.spot = Option.none
          · rw [if_pos h7] at hl ⊢
            by_cases h8 : (ad.off / sp.ks) % sp.step < x.j
            · rw [if_pos (show (ad.off / sp.ks) % sp.step < x.j + 1 by omega)] at hl
              rw [if_pos h8]; exact .inl hl
            · rw [if_neg h8]
              by_cases h9 : (ad.off / sp.ks) % sp.step < x.j + 1
              · rw [if_pos h9] at hl
                rw [show (ad.off / sp.ks) % sp.step = x.j by omega] at hl
                exact .inr ⟨hl.symm, rfl⟩
              · rw [if_neg h9] at hl; exact .inl hl
          · rw [if_neg h7] at hl ⊢; exact .inl hl
        · rw [ow_cell h6] at hl ⊢; exact key _ hl
      | obj r => exact key _ hl
      | _ => exact absurd hl.symm hno
    · have h3 := h.sbO k hk
      show (if k = c then Hd.ag (some x.j) else x.O k) = _ ∨ (if k = c then Hd.ag (some x.j) else x.O k) = _
      rw [if_neg (fun e => by rw [e, hcO] at h3; rcases h3 with h3 | h3 <;> cases h3)]
      exact h3
    · have hk : (if k = c then Hd.ag (some x.j) else x.O k) = _ := hk
      show i < x.j + 1
      split at hk
      · cases hk; omega
      · have := h.agj k i hk; omega
    · obtain ⟨o, ho, hdd⟩ := h.sbV k hk
      by_cases e1 : k = sp.Wg
      · exact ⟨_, by rw [e1]; exact (congrArg (fun w : World => w.heap[sp.Wg]?) hV0).trans hmw, dead_mkD _ _⟩
      · refine ⟨o, (congrArg (fun w : World => w.heap[k]?) hV0).trans ?_, hdd⟩
        show (setB (setB (x.V Option.none) c deadO) sp.Wg (mkD 1 (x.j + 1))).heap[k]? = some o
        rw [setB_ne e1, setB_ne (fun e => by subst e; rw [hc] at ho; cases ho; exact bare_nd.1 hdd)]
        exact ho
end
end Go.Xq
namespace Go.Xq
open Go.Conc Go.ConcN Go.Conc.Lib Go.ConcR.Gen Go.ConcN.Gen
open Go.ConcR (KK wgBlock WgAt stA smA rd wr mk DC0)
section
variable {P : Program} {sp : Gp} {Φ : Frame → List Frame → World → Prop} {k0 : Nat} {SB : Nat → Prop} {Wh : His} {x : Cf}
theorem MSt.tree {j : Nat} {tag : MT} {r : Rk} {d : Nat} {a : Goroutine} {W v : World} (h : MSt P sp Φ j tag r d a W v) (ht : tag = .idle ∨ tag = .pend) :
    ∃ fr cs, a = Conc.G fr cs ∧ d = 0 ∧ @GxR (mainD P sp) P Φ r fr cs v ∧ ((tag = .idle ∧ v.heap[sp.Wg]? = some (mkD 1 j)) ∨ (tag = .pend ∧ j < sp.J ∧ v.heap[sp.Wg]? = some (mkD 2 j))) := by
  cases h with
  | idle hw h => exact ⟨_, _, rfl, rfl, h, .inl ⟨rfl, hw⟩⟩
  | pend hj hw h => exact ⟨_, _, rfl, rfl, h, .inr ⟨rfl, hj, hw⟩⟩
  | _ => exact absurd ht (by simp)
theorem main_tree (ok : GpOk P sp) (h : Bst P sp Φ k0 SB Wh x) (hΦ : ∀ fr cs v, Φ fr cs v → v.heap[sp.Wg]? = some deadO) (ht : x.tag = .idle ∨ x.tag = .pend) : StepTo P sp Φ k0 SB Wh x 0 := by
  obtain ⟨fr, cs, ha, hd0, hg, hmk⟩ := h.ms.tree ht
  have hne : x.tag ≠ .bkW := by rcases ht with e | e <;> rw [e] <;> simp
  cases hr : x.r0 with
  | z =>
    rw [hr] at hg
    have hd := hΦ _ _ _ (hg _ (Idle.refl _))
    rcases hmk with ⟨_, h1⟩ | ⟨_, _, h1⟩
    · exact absurd (mark_eq (show _ = some (mkD 0 0) from hd) h1).1 (by omega)
    · exact absurd (mark_eq (show _ = some (mkD 0 0) from hd) h1).1 (by omega)
  | s gr =>
    rw [hr] at hg
    rcases hg with ⟨f, h1, h2⟩ | ⟨d, h1, h2, h3⟩
    · refine main_own ok h ha hr hd0 hne h1 fun W' hs => ?_
      rcases hmk with ⟨e, hw⟩ | ⟨e, hj, hw⟩
      · rw [e]; exact .idle (hs _ _ hw (.inl (dead_mkD _ _))) (h2 _ (Idle.refl _))
      · rw [e]; exact .pend hj (hs _ _ hw (.inl (dead_mkD _ _))) (h2 _ (Idle.refl _))
    · have h1 : d = addDeal P sp ∨ d = spawnDeal P sp ∨ d = waitDeal P sp := h1
      rcases h1 with rfl | rfl | rfl
      · obtain ⟨j', fr', hj', hw', b, a, ops, i, rest, k, e1, e2, hst⟩ := h2 _ (Idle.refl _)
        rcases hmk with ⟨et, hw⟩ | ⟨et, hj, hw⟩
        · have ej := (mark_eq hw' hw).2
          subst ej
          have hgo : stepG P true x.a x.W = .go (Conc.G (addEntry sp.L sp.Wg) (fr :: cs)) x.W #[] := by rw [ha]; exact hst true x.W
          have hG := addPosW (P := P) (L := sp.L) (Wg := sp.Wg) (b₀ := b) (a₀ := a) (ops₀ := ops) (i₀ := i) (rest₀ := rest) (k₀ := k) (cs := cs) ok.H x.W (wgLive_of h.wg)
          rw [← e1, ← e2] at hG
          refine main_to ok h (tag' := .kdA) (r0' := Rk.nat 12) hgo (.refl _ _) h.wg (bkM_none _) ?_ (mode_open h.mode (by rw [et]; trivial) trivial (by rw [et]; rfl) (by simp [MT.ctag])) (by simp) (.inl (by rw [et]; simp only [MT.ph]; omega))
          rw [hd0]
          exact .kdA hj' hw (fun v1 hi => ⟨_, h3 v1 fr' cs _ hi ⟨x.j, hj', ⟨hi.some hw, b, a, ops, i, rest, k, e1, e2, hst⟩, rfl, rfl⟩⟩) hG
        · exact absurd (mark_eq hw' hw).1 (by omega)
      · obtain ⟨j', c, fr', cs', frc, hsp⟩ := h2 _ (Idle.refl _)
        have hp := h3 _ fr' cs' _ (Idle.refl _) ⟨j', c, frc, hsp, rfl⟩
        obtain ⟨hj', hw', ⟨val, e, hc⟩, hst, hgx, _⟩ := hsp
        rcases hmk with ⟨et, hw⟩ | ⟨et, hj, hw⟩
        · exact absurd (mark_eq hw' hw).1 (by omega)
        · have ej := (mark_eq hw' hw).2
          subst ej
          obtain ⟨rc, hrc⟩ := @Gx.rank (workerD P sp) P _ _ _ _ hgx
          exact main_spawn ok h et hd0 hj ha hc hst hrc hp
      · obtain ⟨fr', hw', b, a, ops, i, rest, k, e1, e2, hst⟩ := h2 _ (Idle.refl _)
        rcases hmk with ⟨et, hw⟩ | ⟨et, hj, hw⟩
        · have ej := (mark_eq hw' hw).2
          have hgo : stepG P true x.a x.W = .go (Conc.G (waitEntry sp.L sp.Wg) (fr :: cs)) x.W #[] := by rw [ha]; exact hst true x.W
          have hG := waitStartW (P := P) (L := sp.L) (Wg := sp.Wg) (b₀ := b) (a₀ := a) (ops₀ := ops) (i₀ := i) (rest₀ := rest) (k₀ := k) (cs := cs) ok.H fr e1 x.W (wgLive_of h.wg)
          have hA : ∀ g W, AnchWW sp.L sp.Wg fr cs g W → ∃ m, GL P sp.L.tWg sp.Wg (AtW1W P sp.L.tWg sp.Wg (BackAt fr' cs) (AnchWW sp.L sp.Wg fr cs)) m g W := fun g W hg => by
            rw [e1] at hg
            have := waitRoundW (P := P) (L := sp.L) (Wg := sp.Wg) (b₀ := b) (a₀ := a) (ops₀ := ops) (i₀ := i) (rest₀ := rest) (k₀ := k) (cs := cs) ok.H g W hg
            rw [← e1, ← e2] at this
            exact this
          rw [← e1] at hG
          refine main_to ok h (tag' := .kdW) (r0' := Rk.nat 3) hgo (.refl _ _) h.wg (bkM_none _) ?_ (mode_open h.mode (by rw [et]; trivial) trivial (by rw [et]; rfl) (by simp [MT.ctag])) (by simp) (.inl (by rw [et]; simp only [MT.ph]; omega))
          rw [hd0]
          exact .kdW ej.symm hw (fun v1 v' hi hJ => ⟨_, h3 v1 fr' cs v' hi ⟨⟨hi.some (ej ▸ hw), b, a, ops, i, rest, k, e1, e2, hst⟩, rfl, hJ⟩⟩) hA hG
        · exact absurd (mark_eq hw' hw).1 (by omega)
def Ended (P : Program) (sp : Gp) (Φ : Frame → List Frame → World → Prop) (x : Cf) : Prop :=
  x.tag = .bkW ∧ x.d0 = 0 ∧ x.j = sp.J ∧ ∃ fr cs, x.a = Conc.G fr cs ∧ ContW P sp Φ fr cs (x.V Option.none)
theorem main_ghost1 (h : Bst P sp Φ k0 SB Wh x) (ht : x.tag = .anch) {m : Nat} (hms : MSt P sp Φ x.j .w1 (Rk.nat m) x.d0 x.a x.W (x.V Option.none)) : Ghost P sp Φ k0 SB Wh x := by
  refine ⟨{ x with tag := .w1, r0 := Rk.nat m }, rfl, rfl, rfl, ?_, ⟨h.size, h.k0p, h.jle, h.a, h.old, h.above, h.hd0, h.wk, h.wd, h.relA, h.relB, h.wst, h.outW, h.dpl, h.dpw, h.dpd, hms, h.wg, mode_open h.mode (by rw [ht]; trivial) trivial (by rw [ht]; rfl) (by simp [MT.ctag]), h.tri, (fun e => by cases e), h.sbO, h.sbW, h.agj, h.sbV⟩⟩
  refine Prod.Lex.left _ _ ?_
  show 8 * Vc x.j x.D + 6 + _ < x.tag.ph sp.J x.j (Vc x.j x.D) + _
  rw [ht]
  exact Nat.add_lt_add_right (by simp only [MT.ph]; omega) _
theorem main_ghost2 (h : Bst P sp Φ k0 SB Wh x) (ht : x.tag = .bkA) (hd0 : x.d0 = 0) (hj : x.j < sp.J) {fr : Frame} {cs : List Frame} (ha : x.a = Conc.G fr cs) (hc : ContA P sp Φ x.j fr cs (x.V Option.none)) : Ghost P sp Φ k0 SB Wh x := by
  obtain ⟨r, hr⟩ := hc _ (Idle.refl _)
  have hwl : sp.Wg < (x.V Option.none).heap.size := by rw [(h.wst.r _ h.wst.main).size]; exact h.wst.wgl
  have hm : (setB (x.V Option.none) sp.Wg (mkD 2 x.j)).heap[sp.Wg]? = some (mkD 2 x.j) := setB_same (x := (x.V Option.none).heap[sp.Wg]) (Array.getElem?_eq_getElem hwl)
  have hV0 : (fun b : Option Nat => if b = Option.none then setB (x.V Option.none) sp.Wg (mkD 2 x.j) else x.V b) Option.none = setB (x.V Option.none) sp.Wg (mkD 2 x.j) := if_pos rfl
  refine ⟨{ x with tag := .pend, r0 := r, V := fun b => if b = Option.none then setB (x.V Option.none) sp.Wg (mkD 2 x.j) else x.V b }, rfl, rfl, rfl, ?_, ⟨h.size, h.k0p, h.jle, h.a, h.old, h.above, h.hd0, h.wk, h.wd, h.relA, h.relB, h.wst.remark 2 x.j, h.outW, h.dpl, h.dpw, h.dpd, ?_, h.wg, mode_open h.mode (by rw [ht]; trivial) trivial (by rw [ht]; rfl) (by simp [MT.ctag]), h.tri, (fun e => by cases e), h.sbO, h.sbW, h.agj, fun k hk => ?_⟩⟩
  · refine Prod.Lex.left _ _ ?_
    show 8 * sp.J + 20 + 32 * (sp.J - x.j) + _ < x.tag.ph sp.J x.j (Vc x.j x.D) + _
    rw [ht]
    exact Nat.add_lt_add_right (by simp only [MT.ph]; omega) _
  · show MSt P sp Φ x.j .pend r x.d0 x.a x.W ((fun b : Option Nat => if b = Option.none then setB (x.V Option.none) sp.Wg (mkD 2 x.j) else x.V b) Option.none)
    rw [hV0, hd0, ha]
    exact .pend hj hm hr
  · obtain ⟨o, ho, hdd⟩ := h.sbV k hk
    by_cases e1 : k = sp.Wg
    · exact ⟨_, by rw [e1]; exact (congrArg (fun w : World => w.heap[sp.Wg]?) hV0).trans hm, dead_mkD _ _⟩
    · exact ⟨o, (congrArg (fun w : World => w.heap[k]?) hV0).trans ((setB_ne e1).trans ho), hdd⟩
def StepT (P : Program) (sp : Gp) (Φ : Frame → List Frame → World → Prop) (k0 : Nat) (SB : Nat → Prop) (Wh : His) (x : Cf) (n : Nat) : Prop :=
  ∃ x' ops, (∀ sl, runT P (crowd x.gs x.W sl) n = (.next (crowd x'.gs x'.W sl), ops)) ∧ x'.t = x.t ++ ops ∧ Relation.TransGen (MLt (k0 + sp.J)) (x'.mu k0 sp) (x.mu k0 sp) ∧ Bst P sp Φ k0 SB Wh x'
theorem StepTo.t {n : Nat} (h : StepTo P sp Φ k0 SB Wh x n) : StepT P sp Φ k0 SB Wh x n := let ⟨x', ops, h1, h2, h3, h4⟩ := h; ⟨x', ops, h1, h2, .single h3, h4⟩
theorem step_or (ok : GpOk P sp) (hΦ : ∀ fr cs v, Φ fr cs v → v.heap[sp.Wg]? = some deadO) : ∀ (x : Cf), Bst P sp Φ k0 SB Wh x → ∀ i g, x.gs[i]? = some g → g.status = .running →
    StepT P sp Φ k0 SB Wh x i ∨ ∃ x' : Cf, x'.gs = x.gs ∧ x'.W = x.W ∧ x'.t = x.t ∧ Bst P sp Φ k0 SB Wh x' ∧ Ended P sp Φ x' := by
  intro x
  induction h : x.mu k0 sp using (MLt.wf (k0 + sp.J)).induction generalizing x with
  | _ m ih =>
    subst h
    intro h i g hi hrun
    have again : Ghost P sp Φ k0 SB Wh x → StepT P sp Φ k0 SB Wh x i ∨ ∃ x' : Cf, x'.gs = x.gs ∧ x'.W = x.W ∧ x'.t = x.t ∧ Bst P sp Φ k0 SB Wh x' ∧ Ended P sp Φ x' := by
      rintro ⟨x1, e1, e2, e3, hlt, hB⟩
      rcases ih _ hlt x1 rfl hB i g (by rw [e1]; exact hi) hrun with ⟨x2, ops, h1, h2, h3, h4⟩ | ⟨x2, h1, h2, h3, h4⟩
      · exact .inl ⟨x2, ops, fun sl => by rw [← e1, ← e2]; exact h1 sl, by rw [← e3]; exact h2, h3.trans (.single hlt), h4⟩
      · exact .inr ⟨x2, h1.trans e1, h2.trans e2, h3.trans e3, h4⟩
    rcases Nat.eq_zero_or_pos i with rfl | hpos
    · have ea : x.a = g := Option.some.inj (h.a.symm.trans hi)
      by_cases ht : x.tag = .idle ∨ x.tag = .pend
      · exact .inl (main_tree ok h hΦ ht).t
      · rcases main_lib ok h (by rw [ea]; exact hrun) (fun e => ht (.inl e)) (fun e => ht (.inr e)) with h1 | ⟨h1, m, h2⟩ | ⟨h1, h2, h3, fr, cs, h4, _, h5⟩ | ⟨h1, h2, h3, fr, cs, h4, h5⟩
        · exact .inl h1.t
        · exact again (main_ghost1 h h1 h2)
        · exact again (main_ghost2 h h1 h2 h3 h4 h5)
        · exact .inr ⟨x, rfl, rfl, rfl, h, h1, h2, h3, fr, cs, h4, h5⟩
    · by_cases hik : i < k0
      · exact .inl (old_slip h hpos hik hi hrun).t
      · obtain ⟨b, rfl⟩ : ∃ b, i = k0 + b := ⟨i - k0, by omega⟩
        have hb : b < x.j := by
          have := (Array.getElem?_eq_some_iff.1 hi).1
          have := h.size
          omega
        obtain ⟨g2, hg2, hk⟩ := h.wk b hb
        rw [hi] at hg2; cases hg2
        cases hk with
        | work fr cs n hs hd hg hgx ho hn hw =>
          subst hg
          cases hr : (x.xs b).r with
          | z =>
            rw [hr] at hgx
            exact again (work_end ok h hb hs hd hi ho (hgx _ (Idle.refl _)))
          | s gr =>
            rw [hr] at hgx
            rcases hgx with ⟨f, h1, h2⟩ | ⟨d, h1, h2, h3⟩
            · exact .inl (work_own ok h hb hs hd hi hr ho hn hw h1 h2).t
            · have h1 : d = putDeal P sp := h1
              subst h1
              obtain ⟨n', c, xs, fr', cs', hp⟩ := h2 _ (Idle.refl _)
              have e1 := (mark_eq hp.1 ho).2
              have e2 := (mark_eq hp.2.1 hw).2
              subst e1; subst e2
              exact .inl (work_put ok h hb hs hd hi (by rw [hr]; exact .mk gr _) hn hp (h3 _ fr' cs' _ (Idle.refl _) ⟨_, _, xs, hp, rfl⟩)).t
        | lib m h7 h1 hr hL => exact .inl (work_lib ok h hb hi hrun h7 hr hL).t
end
end Go.Xq
namespace Go.Xq
open Go.Conc Go.ConcN Go.Conc.Lib Go.ConcR.Gen Go.ConcN.Gen
open Go.ConcR (KK wgBlock WgAt stA smA rd wr mk DC0)
section
variable {P : Program} {sp : Gp} {Φ : Frame → List Frame → World → Prop} {k0 : Nat} {SB : Nat → Prop} {Wh : His} {x : Cf}
theorem Bst.stat (h : Bst P sp Φ k0 SB Wh x) {i : Nat} {g : Goroutine} (hi : x.gs[i]? = some g) : g.status = .running ∨ g.status = .blocked ∨ g.status = .finished := by
  rcases Nat.eq_zero_or_pos i with rfl | hpos
  · have ea : x.a = g := Option.some.inj (h.a.symm.trans hi)
    subst ea
    rcases h.ms.status with ⟨h1, _⟩ | ⟨h1, _⟩
    · exact .inl h1
    · exact .inr (.inl h1)
  · by_cases hik : i < k0
    · exact (h.old i g hpos hik hi).status.elim .inl fun e => .inr (.inr e)
    · obtain ⟨b, rfl⟩ : ∃ b, i = k0 + b := ⟨i - k0, by omega⟩
      have hb : b < x.j := by
        have := (Array.getElem?_eq_some_iff.1 hi).1
        have := h.size
        omega
      obtain ⟨g2, hg2, hk⟩ := h.wk b hb
      rw [hi] at hg2; cases hg2
      exact hk.status.elim .inl fun e => .inr (.inr e)
theorem Bst.awake (h : Bst P sp Φ k0 SB Wh x) : ∀ g ∈ x.gs, Conc.awake g := by
  intro g hg
  obtain ⟨i, hi, rfl⟩ := Array.mem_iff_getElem.1 hg
  exact awake_of (h.stat (Array.getElem?_eq_getElem hi))
theorem Bst.runs (h : Bst P sp Φ k0 SB Wh x) {b : Nat} (hb : b < x.j) (hs : (x.D b).stage ≠ 1) : ∃ (i : Nat) (g : Goroutine), x.gs[i]? = some g ∧ g.status = .running := by
  obtain ⟨g, hg, hk⟩ := h.wk b hb
  refine ⟨k0 + b, g, hg, ?_⟩
  cases hk with
  | work fr cs n h1 h2 hg' _ _ _ _ => rw [hg']; rfl
  | lib m h7 h1 hr hL => exact hL.running_of (by rw [← D_st h7]; exact hs)
theorem Bst.some1 (h : Bst P sp Φ k0 SB Wh x) : ∃ (i : Nat) (g : Goroutine), x.gs[i]? = some g ∧ g.status = .running := by
  rcases h.ms.status with ⟨h1, _⟩ | ⟨_, h1⟩
  · exact ⟨0, x.a, h.a, h1⟩
  · have hm := h.mode
    rw [h1] at hm
    generalize hst : x.st = st at hm
    generalize hsm : x.sm = sm at hm
    have hm : Go.ConcN.Mode x.j x.D .blk st sm := hm
    cases hm with
    | opn a _ _ => exact a.elim
    | reg _ _ hv =>
      rcases Nat.eq_zero_or_pos (Vc x.j x.D) with e | _
      · omega
      · have : ∃ b, b < x.j ∧ cnt (x.D b) ≠ 0 := by
          apply Classical.byContradiction
          intro hn
          have := sumTo_le (f := fun i => cnt (x.D i)) (c := 0) (j := x.j) fun i hi => Nat.le_of_not_lt fun hlt => hn ⟨i, hi, by omega⟩
          simp only [Vc] at hv
          omega
        obtain ⟨b, hb, hc⟩ := this
        refine h.runs hb fun e => hc ?_
        simp [cnt, e]
    | last L _ hL hs _ => exact h.runs hL (by omega)
    | fin a _ => exact a.elim
theorem Ended.at_ (h : Ended P sp Φ x) (d : Nat) : Ended P sp Φ (x.at_ d) := let ⟨h1, h2, h3, fr, cs, h4, h5⟩ := h; ⟨h1, h2, h3, fr, cs, h4, h5.idle (idle_pad _ _)⟩
theorem burst_run (ok : GpOk P sp) (hΦ : ∀ fr cs v, Φ fr cs v → v.heap[sp.Wg]? = some deadO) : ∀ (x : Cf), Bst P sp Φ k0 SB Wh x → ∀ sl, ∃ N sl' x', runNT P N (crowd x.gs x.W sl) x.t = (.next (crowd x'.gs x'.W sl'), x'.t) ∧ Bst P sp Φ k0 SB Wh x' ∧ Ended P sp Φ x' := by
  intro x
  induction hx : x.mu k0 sp using (MLt.wf (k0 + sp.J)).transGen.induction generalizing x with
  | _ m ih =>
    subst hx
    intro h sl
    obtain ⟨i, g, d, sl', hi, hg, hst⟩ := crowd_pick (P := P) (w := x.W) (sl := sl) h.awake h.some1
    rcases step_or ok hΦ (x.at_ d) (h.at_ d) i g hi hg with ⟨x2, ops, h1, h2, h3, h4⟩ | ⟨x2, h1, h2, h3, h4, h5⟩
    · obtain ⟨N, sl2, x3, hr, h5, h6⟩ := ih (x2.mu k0 sp) h3 x2 rfl h4 sl'
      refine ⟨N + 1, sl2, x3, ?_, h5, h6⟩
      have e1 : runT P (crowd x.gs (x.W.at d) sl') i = _ := h1 sl'
      have e2 : x2.t = x.t ++ ops := h2
      simp only [runNT, hst, e1]
      rw [← e2]; exact hr
    · refine ⟨0, sl, x2.at_ x.W.drawn, ?_, h4.at_ _, h5.at_ _⟩
      have e1 : x2.gs = x.gs := h1
      have e2 : x2.W = x.W.at d := h2
      have e3 : x2.t = x.t := h3
      show (Stepped.next (crowd x.gs x.W sl), x.t) = (.next (crowd x2.gs (x2.W.at x.W.drawn) sl), x2.t)
      rw [e1, e2, e3]
      rfl
end
end Go.Xq
