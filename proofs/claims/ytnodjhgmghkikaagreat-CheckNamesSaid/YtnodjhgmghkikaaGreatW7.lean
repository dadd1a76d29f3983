/- A part of the proof of this seat's statement. Conditions: in each theorem. -/
import Derived.Test.YtnodjhgmghkikaaGreatW6
import Derived.Conc.Listed
namespace Go.Xq
def mkD (e n : Nat) : Obj := .cells #[] e (n + 5, 3)
def Dead (o : Obj) : Prop := ∃ e n, o = mkD e n
def deadO : Obj := mkD 0 0
theorem dead_deadO : Dead deadO := ⟨0, 0, rfl⟩
def Shr (o : Obj) : Prop := ∃ c e, o = .cells c e (0, c.size + 2)
theorem Dead.not_shr {o : Obj} (h : Dead o) : ¬ Shr o := by
  rintro ⟨c, e, h2⟩
  obtain ⟨e', n, rfl⟩ := h
  injection h2 with a b d
  cases d
theorem Shr.not_dead {o : Obj} (h : Shr o) : ¬ Dead o := fun h2 => h2.not_shr h
def Idle (w w1 : World) : Prop := ∃ n d, w1 = { w with heap := w.heap ++ Array.replicate n deadO, drawn := d }
theorem Idle.refl (w : World) : Idle w w := ⟨0, w.drawn, by simp⟩
theorem Idle.trans {w w1 w2 : World} (h : Idle w w1) (h' : Idle w1 w2) : Idle w w2 := by
  obtain ⟨n, d, rfl⟩ := h
  obtain ⟨k, e, rfl⟩ := h'
  refine ⟨n + k, e, ?_⟩
  simp [Array.append_assoc]
theorem Idle.draw (w : World) (d : Nat) : Idle w { w with drawn := d } := ⟨0, d, by simp⟩
theorem Idle.size {w w1 : World} (h : Idle w w1) : w.heap.size ≤ w1.heap.size := by
  obtain ⟨n, d, rfl⟩ := h
  simp
theorem Idle.block {w w1 : World} (h : Idle w w1) {k : Nat} (hk : k < w.heap.size) : w1.heap[k]? = w.heap[k]? := by
  obtain ⟨n, d, rfl⟩ := h
  exact Array.getElem?_append_left hk
theorem Idle.some {w w1 : World} (h : Idle w w1) {k : Nat} {o : Obj} (hk : w.heap[k]? = some o) : w1.heap[k]? = some o := by
  rw [h.block (Array.getElem?_eq_some_iff.1 hk).1, hk]
theorem Idle.os {w w1 : World} (h : Idle w w1) : w1.os = w.os := by obtain ⟨n, d, rfl⟩ := h; rfl
theorem Idle.output {w w1 : World} (h : Idle w w1) : w1.output = w.output := by obtain ⟨n, d, rfl⟩ := h; rfl
def NVo (o : Obj) : Prop := o.isChan = false ∧ ∀ a t, o ≠ .view a t
def NV (w : World) : Prop := ∀ (k : Nat) (o : Obj), w.heap[k]? = some o → NVo o
structure Restr (v W : World) : Prop where
  tape : v.tape = W.tape
  drawn : v.drawn = W.drawn
  os : v.os = W.os
  output : v.output = W.output
  size : v.heap.size = W.heap.size
  own : ∀ (k : Nat) (o : Obj), v.heap[k]? = some o → ¬ Dead o → ¬ Shr o → W.heap[k]? = some o
  shr : ∀ (k : Nat) (c : Array Value) (e : TypeId) (fr : Nat × Nat), v.heap[k]? = some (.cells c e fr) → Shr (.cells c e fr) → ∃ fr', W.heap[k]? = some (.cells c e fr')
  nv : NV v
def EvOk (v : World) (n : Nat) (e : Event) : Prop :=
  (∃ a, e.loc = .cell a ∧ e.sync = false ∧ a.block < n ∧ (v.heap.size ≤ a.block ∨ ∃ o, v.heap[a.block]? = some o ∧ ¬ Dead o ∧ (e.write = true → ¬ Shr o))) ∨
    (∃ r, e.loc = .obj r ∧ e.sync = false ∧ r < n ∧ (v.heap.size ≤ r ∨ ∃ o, v.heap[r]? = some o ∧ ¬ Dead o ∧ ¬ Shr o)) ∨ e.loc = .mark .noRoom
structure Beside (v0 W W' : World) : Prop where
  tape : W'.tape = W.tape
  os : W'.os = W.os
  output : W'.output = W.output
  size : W.heap.size ≤ W'.heap.size
  block : ∀ (k : Nat) (o : Obj), v0.heap[k]? = some o → (Dead o ∨ Shr o) → W'.heap[k]? = W.heap[k]?
theorem Beside.refl (v W : World) : Beside v W W := ⟨rfl, rfl, rfl, Nat.le_refl _, fun _ _ _ _ => rfl⟩
section
variable (P : Program)
def SQ {α : Type} : Sem α → World → Prop
  | .pure _, _ => True
  | .load m a k, w => m = .plain ∧ ∃ v, w.cell? a = some v ∧ SQ (k v) w
  | .store m a x k, w => m = .plain ∧ (∀ c, x ≠ .agg c) ∧ (∀ c, x ≠ .tuple c) ∧ (∃ v, w.cell? a = some v) ∧ w.frozen? a = false ∧ SQ k (w.setCell a x)
  | .new o k, w => NVo o ∧ SQ (k w.heap.size) { w with heap := w.heap.push o }
  | .shape r k, w => (∃ o, w.heap[r]? = some o ∧ ¬ Dead o) ∧ SQ (k (w.shape? r)) w
  | .freeze a n k, w => (∃ o, w.heap[a.block]? = some o ∧ ¬ Dead o ∧ ¬ Shr o) ∧ SQ k (w.freeze a n)
  | .frozen a k, w => (∃ o, w.heap[a.block]? = some o ∧ ¬ Dead o ∧ ¬ Shr o) ∧ SQ (k (w.frozen? a)) w
  | .getObj r k, w => ∃ o, w.heap[r]? = some o ∧ (∀ c e f, o ≠ .cells c e f) ∧ NVo o ∧ SQ (k o) w
  | .setObj r o k, w => (∃ o', w.heap[r]? = some o' ∧ (∀ c e f, o' ≠ .cells c e f)) ∧ NVo o ∧ SQ k { w with heap := w.heap.setIfInBounds r o }
  | .choose q k, w => if q.forced then SQ (k 0) w else SQ (k (q.cut (w.tape w.drawn q))) { w with drawn := w.drawn + 1 }
  | .sys _ _, _ => False
  | .program k, w => SQ (k P) w
  | .mark m k, w => (m = .noRoom ∨ ∃ f, m = .extern f) ∧ SQ k w
  | .halt _, _ => False
variable {P}
theorem SQ.bind {α β : Type} {s : Sem α} {w w' : World} {a : α} {f : α → Sem β} (hs : SQ P s w) (h : s.run P w = .ok a w') (h' : SQ P (f a) w') : SQ P (s >>= f) w := by
  change SQ P (s.bind f) w
  induction s generalizing w with
  | pure _ => cases h; exact h'
  | load m ad k ih =>
    obtain ⟨hm, v, hv, hs⟩ := hs
    simp only [Sem.run, hv] at h
    exact ⟨hm, v, hv, ih _ hs h⟩
  | store m ad x k ih =>
    obtain ⟨hm, h1, h2, ⟨v, hv⟩, hf, hs⟩ := hs
    have h : k.run P (w.setCell ad x) = .ok a w' := by
      cases x <;> first | exact absurd rfl (h1 _) | exact absurd rfl (h2 _) | simpa only [Sem.run, hv, hf, Bool.false_eq_true, if_false] using h
    exact ⟨hm, h1, h2, ⟨v, hv⟩, hf, ih hs h⟩
  | new o k ih => exact ⟨hs.1, ih _ hs.2 h⟩
  | shape r k ih => exact ⟨hs.1, ih _ hs.2 h⟩
  | freeze ad n k ih => exact ⟨hs.1, ih hs.2 h⟩
  | frozen ad k ih => exact ⟨hs.1, ih _ hs.2 h⟩
  | getObj r k ih =>
    obtain ⟨o, ho, hc, hn, hs⟩ := hs
    have h : (k o).run P w = .ok a w' := by
      simp only [Sem.run, ho] at h
      cases o <;> first | exact absurd rfl (hc _ _ _) | exact h
    exact ⟨o, ho, hc, hn, ih _ hs h⟩
  | setObj r o k ih =>
    obtain ⟨⟨o', ho, hc⟩, hn, hs⟩ := hs
    have h : k.run P { w with heap := w.heap.setIfInBounds r o } = .ok a w' := by
      simp only [Sem.run, ho] at h
      cases o' <;> first | exact absurd rfl (hc _ _ _) | exact h
    exact ⟨⟨o', ho, hc⟩, hn, ih hs h⟩
  | choose q k ih =>
    simp only [SQ, Sem.run] at hs h
    show if q.forced then SQ P ((k 0).bind f) w else SQ P ((k (q.cut (w.tape w.drawn q))).bind f) { w with drawn := w.drawn + 1 }
    split at hs
    · rename_i g; rw [if_pos g] at h; rw [if_pos g]; exact ih _ hs h
    · rename_i g; rw [if_neg g] at h; rw [if_neg g]; exact ih _ hs h
  | sys c k ih => exact hs.elim
  | program k ih => exact ih _ hs h
  | mark m k ih => exact ⟨hs.1, ih hs.2 h⟩
  | halt h => exact hs.elim
end
structure Dur (v0 W0 v W : World) : Prop where
  tape : v.tape = W.tape
  tapeV : v.tape = v0.tape
  drawn : v.drawn = W.drawn
  os : v.os = W.os
  osW : W.os = W0.os
  output : v.output = W.output
  outW : W.output = W0.output
  size : v.heap.size = W.heap.size
  grown : v0.heap.size ≤ v.heap.size
  dead : ∀ (k : Nat) (o : Obj), v0.heap[k]? = some o → (Dead o ∨ Shr o) → v.heap[k]? = some o ∧ W.heap[k]? = W0.heap[k]?
  own : ∀ (k : Nat), (∀ (o : Obj), v0.heap[k]? = some o → ¬ Dead o ∧ ¬ Shr o) → v.heap[k]? = W.heap[k]?
  nv : NV v
theorem Dur.start {v W : World} (h : Restr v W) : Dur v W v W := by
  refine ⟨h.tape, rfl, h.drawn, h.os, rfl, h.output, rfl, h.size, Nat.le_refl _, fun k o hk _ => ⟨hk, rfl⟩, fun k hk => ?_, h.nv⟩
  cases hv : v.heap[k]? with
  | none =>
    have := h.size
    rw [Array.getElem?_eq_none_iff] at hv
    exact (Array.getElem?_eq_none_iff.2 (by omega)).symm
  | some o => exact (h.own k o hv (hk o hv).1 (hk o hv).2).symm
theorem Dur.restr {v0 W0 v W : World} (hr : Restr v0 W0) (h : Dur v0 W0 v W) : Restr v W := by
  have cs : ∀ (k : Nat), (∃ (o : Obj), v0.heap[k]? = some o ∧ (Dead o ∨ Shr o)) ∨ ∀ (o : Obj), v0.heap[k]? = some o → ¬ Dead o ∧ ¬ Shr o := by
    intro k
    by_cases hx : ∃ o, v0.heap[k]? = some o ∧ (Dead o ∨ Shr o)
    · exact .inl hx
    · refine .inr fun o ho => ⟨fun e => hx ⟨o, ho, .inl e⟩, fun e => hx ⟨o, ho, .inr e⟩⟩
  refine ⟨h.tape, h.drawn, h.os, h.output, h.size, fun k o hk h1 h2 => ?_, fun k c e fr hk hs => ?_, h.nv⟩
  · rcases cs k with ⟨o', ho', hd⟩ | ho
    · have := (h.dead k o' ho' hd).1
      rw [hk] at this; cases this
      rcases hd with hd | hd
      · exact absurd hd h1
      · exact absurd hd h2
    · rw [← h.own k ho]; exact hk
  · rcases cs k with ⟨o', ho', hd⟩ | ho
    · obtain ⟨h3, h4⟩ := h.dead k o' ho' hd
      rw [hk] at h3; cases h3
      rw [h4]
      exact hr.shr k c e fr ho' hs
    · exact ⟨fr, by rw [← h.own k ho]; exact hk⟩
theorem Dur.beside {v0 W0 v W : World} (hr : Restr v0 W0) (h : Dur v0 W0 v W) : Beside v0 W0 W :=
  ⟨by rw [← h.tape, h.tapeV, hr.tape], h.osW, h.outW, by rw [← h.size, ← hr.size]; exact h.grown, fun k o hk hd => (h.dead k o hk hd).2⟩
theorem cell_not_dead {w : World} {a : Addr} {x : Value} (h : w.cell? a = some x) : ∃ c e fr, w.heap[a.block]? = some (.cells c e fr) ∧ ¬ Dead (.cells c e fr) ∧ a.off < c.size := by
  unfold World.cell? at h
  split at h
  · rename_i c e fr hc
    refine ⟨c, e, fr, hc, ?_, ?_⟩
    · intro hd
      obtain ⟨e', n, hd⟩ := hd
      injection hd with h1 h2 h3
      subst h1
      split at h <;> simp at h
    · split at h
      · cases h
      · exact (Array.getElem?_eq_some_iff.1 h).1
  · cases h
theorem not_shr_of_thawed {w : World} {a : Addr} {c : Array Value} {e : TypeId} {fr : Nat × Nat} (h : w.heap[a.block]? = some (.cells c e fr)) (ho : a.off < c.size) (hf : w.frozen? a = false) : ¬ Shr (.cells c e fr) := by
  rintro ⟨c', e', he⟩
  injection he with a1 a2 a3
  subst a1; subst a2; subst a3
  simp [World.frozen?, h] at hf
  omega
section
variable {P : Program} {v0 W0 : World}
theorem Dur.see (hr : Restr v0 W0) {v W : World} (h : Dur v0 W0 v W) {k : Nat} {o : Obj} (hk : v.heap[k]? = some o) (hd : ¬ Dead o) :
    (W.heap[k]? = some o ∧ ∀ o', v0.heap[k]? = some o' → ¬ Dead o' ∧ ¬ Shr o') ∨ (Shr o ∧ v0.heap[k]? = some o ∧ ∃ c e fr fr', o = .cells c e fr ∧ W.heap[k]? = some (.cells c e fr')) := by
  by_cases hx : ∃ o', v0.heap[k]? = some o' ∧ (Dead o' ∨ Shr o')
  · obtain ⟨o', ho', hd'⟩ := hx
    obtain ⟨h3, h4⟩ := h.dead k o' ho' hd'
    rw [hk] at h3; cases h3
    rcases hd' with hd' | hs
    · exact absurd hd' hd
    · obtain ⟨c, e, rfl⟩ := id hs
      obtain ⟨fr', h7⟩ := hr.shr k c e _ ho' hs
      exact .inr ⟨hs, ho', c, e, _, fr', rfl, by rw [h4]; exact h7⟩
  · have ho : ∀ o', v0.heap[k]? = some o' → ¬ Dead o' ∧ ¬ Shr o' := fun o' ho' => ⟨fun e => hx ⟨o', ho', .inl e⟩, fun e => hx ⟨o', ho', .inr e⟩⟩
    exact .inl ⟨by rw [← h.own k ho]; exact hk, ho⟩
theorem Dur.turn {v W v' W' : World} (h : Dur v0 W0 v W) {k0 : Nat} (hk0 : ∀ o', v0.heap[k0]? = some o' → ¬ Dead o' ∧ ¬ Shr o')
    (t1 : v'.tape = v.tape) (t2 : W'.tape = W.tape) (d : v'.drawn = W'.drawn) (o1 : v'.os = v.os) (o2 : W'.os = W.os) (p1 : v'.output = v.output) (p2 : W'.output = W.output)
    (s1 : v'.heap.size = W'.heap.size) (s2 : v.heap.size ≤ v'.heap.size) (hk : ∀ k, k ≠ k0 → v'.heap[k]? = v.heap[k]? ∧ W'.heap[k]? = W.heap[k]?) (hk1 : v'.heap[k0]? = W'.heap[k0]?) (hn : ∀ o, v'.heap[k0]? = some o → NVo o) : Dur v0 W0 v' W' := by
  refine ⟨by rw [t1, t2]; exact h.tape, t1.trans h.tapeV, d, by rw [o1, o2]; exact h.os, o2.trans h.osW, by rw [p1, p2]; exact h.output, p2.trans h.outW, s1, Nat.le_trans h.grown s2, fun k o ho hd => ?_, fun k ho => ?_, fun k o ho => ?_⟩
  · have hne : k ≠ k0 := by
      rintro rfl
      have := hk0 o ho
      rcases hd with h1 | h1
      · exact this.1 h1
      · exact this.2 h1
    rw [(hk k hne).1, (hk k hne).2]
    exact h.dead k o ho hd
  · by_cases hne : k = k0
    · subst hne; exact hk1
    · rw [(hk k hne).1, (hk k hne).2]; exact h.own k ho
  · by_cases hne : k = k0
    · subst hne; exact hn o ho
    · rw [(hk k hne).1] at ho; exact h.nv k o ho
def EvRaw (v : World) (n : Nat) (e : Event) : Prop := EvOk v n e ∨ ∃ f, e.loc = .mark (.extern f)
theorem evRaw_mark (v : World) (n : Nat) {m : Mark} (h : m = .noRoom ∨ ∃ f, m = .extern f) : EvRaw v n ⟨.mark m, false, true⟩ := by
  rcases h with rfl | ⟨f, rfl⟩
  · exact .inl (.inr (.inr rfl))
  · exact .inr ⟨f, rfl⟩
theorem Dur.evCell (hr : Restr v0 W0) {v W : World} (h : Dur v0 W0 v W) {a : Addr} {c : Array Value} {e : TypeId} {fr : Nat × Nat} (hk : v.heap[a.block]? = some (.cells c e fr)) (hd : ¬ Dead (.cells c e fr)) {wr : Bool} (hw : wr = true → ¬ Shr (.cells c e fr)) {n : Nat} (hn : W.heap.size ≤ n) :
    EvRaw v0 n ⟨.cell a, wr, false⟩ := by
  refine .inl (.inl ⟨a, rfl, rfl, by have := (Array.getElem?_eq_some_iff.1 hk).1; have := h.size; omega, ?_⟩)
  by_cases hs : v0.heap.size ≤ a.block
  · exact .inl hs
  · refine .inr ⟨v0.heap[a.block]'(by omega), by simp, ?_⟩
    have hv : v0.heap[a.block]? = some (v0.heap[a.block]'(by omega)) := by simp
    rcases h.see hr hk hd with ⟨_, h1⟩ | ⟨h1, h2, _⟩
    · exact ⟨(h1 _ hv).1, fun _ => (h1 _ hv).2⟩
    · rw [h2] at hv
      rw [← Option.some.inj hv]
      exact ⟨hd, hw⟩
theorem Dur.evObj (hr : Restr v0 W0) {v W : World} (h : Dur v0 W0 v W) {r : Nat} {o : Obj} (hk : v.heap[r]? = some o) (hc : ∀ c e f, o ≠ .cells c e f) {wr : Bool} {n : Nat} (hn : W.heap.size ≤ n) : EvRaw v0 n ⟨.obj r, wr, false⟩ := by
  refine .inl (.inr (.inl ⟨r, rfl, rfl, by have := (Array.getElem?_eq_some_iff.1 hk).1; have := h.size; omega, ?_⟩))
  by_cases hs : v0.heap.size ≤ r
  · exact .inl hs
  · refine .inr ⟨v0.heap[r]'(by omega), by simp, ?_⟩
    have hv : v0.heap[r]? = some (v0.heap[r]'(by omega)) := by simp
    rcases h.see hr hk (fun ⟨_, _, e⟩ => hc _ _ _ e) with ⟨_, h1⟩ | ⟨_, h2, c, e, fr, _, rfl, _⟩
    · exact h1 _ hv
    · exact absurd rfl (hc c e fr)
theorem sim (hr : Restr v0 W0) {α : Type} {s : Sem α} {v W v' : World} {r : α} {es : Array Event} (hs : SQ P s v) (hd : Dur v0 W0 v W) (h : s.run P v = .ok r v') :
    ∃ W' es', s.runT P W es = (.ok r W', es ++ es') ∧ Dur v0 W0 v' W' ∧ W.heap.size ≤ W'.heap.size ∧ ∀ e ∈ es', EvRaw v0 W'.heap.size e := by
  induction s generalizing v W es with
  | pure _ => cases h; exact ⟨W, #[], by simp [Sem.runT], hd, Nat.le_refl _, by simp⟩
  | load m a k ih =>
    obtain ⟨rfl, x, hx, hs⟩ := hs
    simp only [Sem.run, hx] at h
    obtain ⟨c, e, fr, hc, hnd, hlt⟩ := cell_not_dead hx
    have hW : W.cell? a = some x := by
      rcases hd.see hr hc hnd with ⟨h1, _⟩ | ⟨_, _, c', e', fr', fr2, he, h1⟩
      · simpa [World.cell?, hc, h1] using hx
      · injection he with a1 a2 a3
        subst a1; subst a2
        simpa [World.cell?, hc, h1] using hx
    obtain ⟨W', es', h1, h2, hz, h3⟩ := ih _ (es := es.push ⟨.cell a, false, false⟩) hs hd h
    refine ⟨W', #[⟨.cell a, false, false⟩] ++ es', ?_, h2, hz, ?_⟩
    · simp only [Sem.runT, hW]
      show (k x).runT P W (es.push ⟨.cell a, false, false⟩) = _
      rw [h1, ← Array.append_assoc]; rfl
    · intro ev hev
      rcases Array.mem_append.1 hev with h4 | h4
      · rw [Array.mem_singleton] at h4
        subst h4
        exact hd.evCell hr hc hnd (by simp) (hz)
      · exact h3 ev h4
  | store m a x k ih =>
    obtain ⟨rfl, g1, g2, ⟨y, hy⟩, hf, hs⟩ := hs
    have h : k.run P (v.setCell a x) = .ok r v' := by
      cases x <;> first | exact absurd rfl (g1 _) | exact absurd rfl (g2 _) | simpa only [Sem.run, hy, hf, Bool.false_eq_true, if_false] using h
    obtain ⟨c, e, fr, hc, hnd, hlt⟩ := cell_not_dead hy
    have hns := not_shr_of_thawed hc hlt hf
    obtain ⟨hW0, hown⟩ : W.heap[a.block]? = some (.cells c e fr) ∧ ∀ o', v0.heap[a.block]? = some o' → ¬ Dead o' ∧ ¬ Shr o' := by
      rcases hd.see hr hc hnd with h1 | ⟨h1, _⟩
      · exact h1
      · exact absurd h1 hns
    have hW : W.cell? a = some y := by simpa [World.cell?, hc, hW0] using hy
    have hWf : W.frozen? a = false := by simpa [World.frozen?, hc, hW0] using hf
    have hst : Dur v0 W0 (v.setCell a x) (W.setCell a x) := by
      refine hd.turn (k0 := a.block) hown rfl rfl hd.drawn rfl rfl rfl rfl (by simp [World.setCell, hd.size]) (by simp [World.setCell]) (fun k hk => ?_) ?_ ?_
      · simp [World.setCell, Array.getElem?_modify, Ne.symm hk]
      · simp [World.setCell, Array.getElem?_modify, hc, hW0]
      · intro o ho
        simp only [World.setCell, Array.getElem?_modify, hc, if_true, Option.map_some, Option.some.injEq] at ho
        subst ho
        exact ⟨rfl, fun _ _ => by simp⟩
    obtain ⟨W', es', h1, h2, hz, h3⟩ := ih (es := es.push ⟨.cell a, true, false⟩) hs hst h
    refine ⟨W', #[⟨.cell a, true, false⟩] ++ es', ?_, h2, Nat.le_trans (by simp [World.setCell]) hz, ?_⟩
    · have : (Sem.store Mode.plain a x k).runT P W es = k.runT P (W.setCell a x) (es.push ⟨.cell a, true, false⟩) := by
        cases x <;> first | exact absurd rfl (g1 _) | exact absurd rfl (g2 _) | (simp only [Sem.runT, hW, hWf, Bool.false_eq_true, if_false]; rfl)
      rw [this, h1, ← Array.append_assoc]; rfl
    · intro ev hev
      rcases Array.mem_append.1 hev with h4 | h4
      · rw [Array.mem_singleton] at h4
        subst h4
        exact hd.evCell hr hc hnd (fun _ => hns) (Nat.le_trans (by simp [World.setCell]) hz)
      · exact h3 ev h4
  | new o k ih =>
    obtain ⟨hn, hs⟩ := hs
    have hst : Dur v0 W0 { v with heap := v.heap.push o } { W with heap := W.heap.push o } := by
      refine hd.turn (k0 := v.heap.size) (fun o' ho' => ?_) rfl rfl hd.drawn rfl rfl rfl rfl (by simp [hd.size]) (by simp) (fun k hk => ?_) ?_ ?_
      · have := (Array.getElem?_eq_some_iff.1 ho').1
        have := hd.grown
        omega
      · have e := hd.size
        refine ⟨?_, ?_⟩
        · show (v.heap.push o)[k]? = _
          rw [Array.getElem?_push, if_neg hk]
        · show (W.heap.push o)[k]? = _
          rw [Array.getElem?_push, if_neg (by omega)]
      · show (v.heap.push o)[v.heap.size]? = (W.heap.push o)[v.heap.size]?
        rw [Array.getElem?_push, Array.getElem?_push, if_pos rfl, if_pos hd.size]
      · intro o' ho'
        have ho' : (v.heap.push o)[v.heap.size]? = some o' := ho'
        rw [Array.getElem?_push, if_pos rfl] at ho'
        cases ho'; exact hn
    obtain ⟨W', es', h1, h2, hz, h3⟩ := ih _ (es := es) hs hst h
    refine ⟨W', es', ?_, h2, Nat.le_trans (by simp) hz, h3⟩
    simp only [Sem.runT]
    rw [← hd.size]; exact h1
  | shape rr k ih =>
    obtain ⟨⟨o, ho, hnd⟩, hs⟩ := hs
    have e : W.shape? rr = v.shape? rr := by
      rcases hd.see hr ho hnd with ⟨h1, _⟩ | ⟨_, _, c', e', fr', fr2, rfl, h1⟩
      · simp [World.shape?, ho, h1]
      · simp [World.shape?, ho, h1]
    obtain ⟨W', es', h1, h2, hz, h3⟩ := ih _ (es := es) hs hd h
    refine ⟨W', es', ?_, h2, hz, h3⟩
    simp only [Sem.runT]
    rw [e]; exact h1
  | freeze a n k ih =>
    obtain ⟨⟨o, ho, hnd, hns⟩, hs⟩ := hs
    obtain ⟨hW0, hown⟩ : W.heap[a.block]? = some o ∧ ∀ o', v0.heap[a.block]? = some o' → ¬ Dead o' ∧ ¬ Shr o' := by
      rcases hd.see hr ho hnd with h1 | ⟨h1, _⟩
      · exact h1
      · exact absurd h1 hns
    have hst : Dur v0 W0 (v.freeze a n) (W.freeze a n) := by
      unfold World.freeze
      split
      · exact hd
      · refine hd.turn (k0 := a.block) hown rfl rfl hd.drawn rfl rfl rfl rfl (by simp [hd.size]) (by simp) (fun k hk => ?_) ?_ ?_
        · simp [Array.getElem?_modify, Ne.symm hk]
        · simp [Array.getElem?_modify, ho, hW0]
        · intro o' ho'
          have hno := hd.nv _ _ ho
          simp only [Array.getElem?_modify, ho, if_true, Option.map_some, Option.some.injEq] at ho'
          subst ho'
          cases o <;> first | exact hno | exact ⟨rfl, fun _ _ => by simp⟩
    obtain ⟨W', es', h1, h2, hz, h3⟩ := ih (es := es) hs hst h
    exact ⟨W', es', h1, h2, Nat.le_trans (by unfold World.freeze; split <;> simp) hz, h3⟩
  | frozen a k ih =>
    obtain ⟨⟨o, ho, hnd, hns⟩, hs⟩ := hs
    have e : W.frozen? a = v.frozen? a := by
      rcases hd.see hr ho hnd with ⟨h1, _⟩ | ⟨h1, _⟩
      · simp [World.frozen?, ho, h1]
      · exact absurd h1 hns
    obtain ⟨W', es', h1, h2, hz, h3⟩ := ih _ (es := es) hs hd h
    refine ⟨W', es', ?_, h2, hz, h3⟩
    simp only [Sem.runT]
    rw [e]; exact h1
  | getObj rr k ih =>
    obtain ⟨o, ho, hc, hn, hs⟩ := hs
    have h : (k o).run P v = .ok r v' := by
      simp only [Sem.run, ho] at h
      cases o <;> first | exact absurd rfl (hc _ _ _) | exact h
    have hW : W.heap[rr]? = some o := by
      rcases hd.see hr ho (fun ⟨_, _, e⟩ => hc _ _ _ e) with ⟨h1, _⟩ | ⟨_, _, c', e', fr', fr2, rfl, h1⟩
      · exact h1
      · exact absurd rfl (hc _ _ _)
    obtain ⟨W', es', h1, h2, hz, h3⟩ := ih _ (es := es.push ⟨.obj rr, false, false⟩) hs hd h
    refine ⟨W', #[⟨.obj rr, false, false⟩] ++ es', ?_, h2, hz, ?_⟩
    · have : (Sem.getObj rr k).runT P W es = (k o).runT P W (es.push ⟨.obj rr, false, false⟩) := by
        simp only [Sem.runT, hW]
        cases o <;> first | exact absurd rfl (hc _ _ _) | rfl | exact absurd hn.1 (by simp [Obj.isChan])
      rw [this, h1, ← Array.append_assoc]; rfl
    · intro ev hev
      rcases Array.mem_append.1 hev with h4 | h4
      · rw [Array.mem_singleton] at h4
        subst h4
        exact hd.evObj hr ho hc (hz)
      · exact h3 ev h4
  | setObj rr o k ih =>
    obtain ⟨⟨o', ho, hc⟩, hn, hs⟩ := hs
    have h : k.run P { v with heap := v.heap.setIfInBounds rr o } = .ok r v' := by
      simp only [Sem.run, ho] at h
      cases o' <;> first | exact absurd rfl (hc _ _ _) | exact h
    obtain ⟨hW, hown⟩ : W.heap[rr]? = some o' ∧ ∀ o'', v0.heap[rr]? = some o'' → ¬ Dead o'' ∧ ¬ Shr o'' := by
      rcases hd.see hr ho (fun ⟨_, _, e⟩ => hc _ _ _ e) with h1 | ⟨_, _, c', e', fr', fr2, rfl, h1⟩
      · exact h1
      · exact absurd rfl (hc _ _ _)
    have hst : Dur v0 W0 { v with heap := v.heap.setIfInBounds rr o } { W with heap := W.heap.setIfInBounds rr o } := by
      refine hd.turn (k0 := rr) hown rfl rfl hd.drawn rfl rfl rfl rfl (by simp [hd.size]) (by simp) (fun k hk => ?_) ?_ ?_
      · exact ⟨Array.getElem?_setIfInBounds_ne (Ne.symm hk), Array.getElem?_setIfInBounds_ne (Ne.symm hk)⟩
      · show (v.heap.setIfInBounds rr o)[rr]? = (W.heap.setIfInBounds rr o)[rr]?
        rw [Array.getElem?_setIfInBounds_self_of_lt (Array.getElem?_eq_some_iff.1 ho).1, Array.getElem?_setIfInBounds_self_of_lt (Array.getElem?_eq_some_iff.1 hW).1]
      · intro o2 ho2
        have ho2 : (v.heap.setIfInBounds rr o)[rr]? = some o2 := ho2
        rw [Array.getElem?_setIfInBounds_self_of_lt (Array.getElem?_eq_some_iff.1 ho).1] at ho2
        cases ho2; exact hn
    obtain ⟨W', es', h1, h2, hz, h3⟩ := ih (es := es.push ⟨.obj rr, true, false⟩) hs hst h
    refine ⟨W', #[⟨.obj rr, true, false⟩] ++ es', ?_, h2, Nat.le_trans (by simp) hz, ?_⟩
    · have : (Sem.setObj rr o k).runT P W es = k.runT P { W with heap := W.heap.setIfInBounds rr o } (es.push ⟨.obj rr, true, false⟩) := by
        simp only [Sem.runT, hW, hn.1]
      rw [this, h1, ← Array.append_assoc]; rfl
    · intro ev hev
      rcases Array.mem_append.1 hev with h4 | h4
      · rw [Array.mem_singleton] at h4
        subst h4
        exact hd.evObj hr ho hc (Nat.le_trans (by simp) hz)
      · exact h3 ev h4
  | choose q k ih =>
    simp only [SQ, Sem.run, Sem.runT] at hs h ⊢
    split at hs
    · rename_i g; rw [if_pos g] at h; rw [if_pos g]; exact ih _ hs hd h
    · rename_i g; rw [if_neg g] at h; rw [if_neg g]
      have e1 : q.cut (W.tape W.drawn q) = q.cut (v.tape v.drawn q) := by rw [hd.tape, hd.drawn]
      rw [e1]
      refine ih _ hs ?_ h
      exact ⟨hd.tape, hd.tapeV, congrArg (· + 1) hd.drawn, hd.os, hd.osW, hd.output, hd.outW, hd.size, hd.grown, hd.dead, hd.own, hd.nv⟩
  | program k ih =>exact ih _ hs hd h
  | mark m k ih =>
    obtain ⟨hm, hs⟩ := hs
    obtain ⟨W', es', h1, h2, hz, h3⟩ := ih (es := es.push ⟨.mark m, false, true⟩) hs hd h
    refine ⟨W', #[⟨.mark m, false, true⟩] ++ es', ?_, h2, hz, ?_⟩
    · simp only [Sem.runT]
      rw [h1, ← Array.append_assoc]; rfl
    · intro ev hev
      rcases Array.mem_append.1 hev with h4 | h4
      · rw [Array.mem_singleton] at h4
        subst h4
        exact evRaw_mark _ _ hm
      · exact h3 ev h4
  | sys c k ih => exact hs.elim
  | halt h => exact hs.elim
end
end Go.Xq
