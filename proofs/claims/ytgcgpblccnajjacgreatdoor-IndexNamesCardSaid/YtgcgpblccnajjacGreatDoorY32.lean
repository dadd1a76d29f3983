/- A part of the proof that what the evaluator answers is what the machine does. Its conditions stand in each theorem. -/
import Derived.Test.YtgcgpblccnajjacGreatDoorY31
namespace Go.Xq
section
variable {P : Program} {E : Env}
/-! ### One operation of a region that draws, whenever it comes -/
theorem pureK_ok {op : Op} {k : LK} (hp : pureK op = true) (h : lookK E op = some k) (T : Tr AV) (H H' : AH) : k.f T H = k.f T H' := by
  unfold lookK at h
  split at h <;> first | (simp [pureK] at hp; done) | skip
  · cases h; rfl
  · cases h; rfl
  · cases h; rfl
  · simp only [buildK, ob_some] at h
    obtain ⟨ti, _, z, _, h⟩ := h
    split at h
    · simp only [bt_some, ob_some, Option.some.injEq] at h
      obtain ⟨_, g, _, rfl⟩ := h; rfl
    · cases h
  · cases h; rfl
  · simp only [ob_some, Option.some.injEq] at h
    obtain ⟨g, _, rfl⟩ := h; rfl
  · simp only [ob_some] at h
    obtain ⟨ti, _, h⟩ := h
    split at h
    · cases h
    · cases h; rfl
  · split at h
    · cases h
    · cases h; rfl
  · simp only [fieldAddrK, ob_some] at h
    obtain ⟨ti, _, fd, _, tf, _, h⟩ := h
    split at h
    · cases h; rfl
    · cases h
  · simp only [fieldK, ob_some, Option.some.injEq] at h
    obtain ⟨ti, _, fd, _, k', _, rfl⟩ := h; rfl
  · simp only [indexAddrK, ob_some] at h
    obtain ⟨ti, _, h⟩ := h
    split at h
    · simp only [ob_some, Option.some.injEq] at h; obtain ⟨te, _, rfl⟩ := h; rfl
    · simp only [ob_some, Option.some.injEq] at h; obtain ⟨te, _, rfl⟩ := h; rfl
    · cases h
  · simp only [indexK, ob_some] at h
    obtain ⟨ti, _, h⟩ := h
    split at h
    · simp only [ob_some, Option.some.injEq] at h; obtain ⟨te, _, k', _, rfl⟩ := h; rfl
    · cases h; rfl
    · cases h
  · simp only [assertK, ob_some] at h
    obtain ⟨ti, _, h⟩ := h
    split at h
    · cases h; rfl
    · cases h; rfl
  · cases h; rfl
theorem want_at {ts : Array Value} {m : Ren} {T : Tr AV} {ops : Array Oper} {o : Oper} {g : Option (Nat × Bool)} (h : guardOf ops.toList o.guard = some g) (hv : ∀ d want, g = some (d, want) → VR m (oc (T.get (bits d)) undefA id) (ts.getD d undef)) :
    Region.wanted o (yielded ops ts) = wantA g T := by
  unfold Region.wanted
  cases hg : o.guard with
  | none => rw [hg] at h; cases h; rfl
  | some p =>
    obtain ⟨j, want⟩ := p
    rw [hg] at h
    simp only [guardOf, ob_some, Option.some.injEq] at h
    obtain ⟨x, h1, d, h2, rfl⟩ := h
    have hx : ops[j]? = some x := by rw [← Array.getElem?_toList]; exact h1
    have hv := hv d want rfl
    simp only [yielded, hx, Option.bind_some, h2, wantA, oc_some, wantG]
    generalize oc (T.get (bits d)) undefA id = av at hv ⊢
    by_cases hlt : d < ts.size
    · rw [Array.getElem?_eq_getElem hlt]
      have e : ts.getD d undef = ts[d] := by simp [Array.getD_eq_getD_getElem?, hlt]
      rw [e] at hv
      generalize ts[d] = cv at hv ⊢
      cases hv <;> simp [onBool, bEq_eq]
    · rw [Array.getElem?_eq_none (Nat.le_of_not_lt hlt)]
      have e : ts.getD d undef = undef := by simp [Array.getD_eq_getD_getElem?, hlt]
      rw [e] at hv
      generalize hu : undef = cv at hv
      cases hv <;> first | (simp [onBool]; done) | (simp [undef] at hu; done)
/-- what holds while some of the operations are done -/
structure Cur (cx : Cx) (ops : Array Oper) (hv : List Nat) (m0 : Ren) (H0 : AH) (w0 : World) (T0 : Tr AV) (D : List ADf) (s : DS) (L : Nat → Prop) (m : Ren) (a : Act) (w : World) : Prop where
  st : ∃ j G, hAt s.hs s.H j = some G ∧ St m0 H0 w0 m G w ∧ ∀ q i, hv[q]? = some i → (L i ↔ q < j)
  ed : ∀ (i : Nat) (o : Oper), ops.toList[i]? = some o → L i → ∀ e ∈ o.after.toList, bindsA e = true → L e.on
  size : a.tmps.size = cx.n
  tmp : ∀ t, (∃ d ∈ s.dn, L d.x.i ∧ d.x.o.dst = some t ∧ VR m d.v (a.tmps.getD t undef)) ∨ ((∀ d ∈ s.dn, L d.x.i → d.x.o.dst ≠ some t) ∧ VR m (oc (T0.get (bits t)) undefA id) (a.tmps.getD t undef))
  dfr : DfR m D a.defers
  rd : RdR cx m
  unm : ∀ d ∈ s.dn, ∀ b o, d.blk = some (b, o) → ¬ L d.x.i → m b = none
theorem Cur.put {cx : Cx} {ops : Array Oper} {hv : List Nat} {m0 : Ren} {H0 : AH} {w0 : World} {T0 : Tr AV} {D : List ADf} {s : DS} {L : Nat → Prop} {m : Ren} {a : Act} {w : World} (h : Cur cx ops hv m0 H0 w0 T0 D s L m a w)
    (one : ∀ d ∈ s.dn, ∀ e ∈ s.dn, d.x.i = e.x.i → d = e) {d : Done} (hd : d ∈ s.dn) {o : Oper} (ho : ops.toList[d.x.i]? = some o) (hod : d.x.o = o) (hdst : dstOk cx.n o.dst = true) (hed : ∀ e ∈ o.after.toList, bindsA e = true → L e.on)
    {m' : Ren} (hm : Le m m') {w' : World} {v' : Value} (hv' : VR m' d.v v')
    (hst : ∃ j G, hAt s.hs s.H j = some G ∧ St m0 H0 w0 m' G w' ∧ ∀ q i, hv[q]? = some i → ((L i ∨ i = d.x.i) ↔ q < j))
    (hun : ∀ e ∈ s.dn, ∀ b o, e.blk = some (b, o) → ¬ (L e.x.i ∨ e.x.i = d.x.i) → m' b = none) :
    Cur cx ops hv m0 H0 w0 T0 D s (fun i => L i ∨ i = d.x.i) m' (a.put o.dst v') w' := by
  have hsz : (a.put o.dst v').tmps.size = a.tmps.size := by cases o.dst <;> simp [Act.put]
  have hdf : (a.put o.dst v').defers = a.defers := by cases o.dst <;> rfl
  refine ⟨hst, ?_, by rw [hsz]; exact h.size, ?_, by rw [hdf]; exact h.dfr.mono hm, h.rd.mono hm, hun⟩
  · intro i o2 ho2 hL e he hb
    rcases hL with hL | rfl
    · exact .inl (h.ed i o2 ho2 hL e he hb)
    · rw [ho] at ho2; cases ho2
      exact .inl (hed e he hb)
  · intro t
    by_cases e : o.dst = some t
    · refine .inl ⟨d, hd, .inr rfl, by rw [hod, e], ?_⟩
      have hlt : t < cx.n := by rw [e] at hdst; simpa [dstOk, Nat.blt_eq] using hdst
      have : (a.put o.dst v').tmps.getD t undef = v' := by
        rw [e]; simp [Act.put, Array.getD_eq_getD_getElem?, h.size, hlt]
      rw [this]; exact hv'
    · have hg : (a.put o.dst v').tmps.getD t undef = a.tmps.getD t undef := by
        cases hq : o.dst with
        | none => rfl
        | some u =>
          have hne : u ≠ t := fun e2 => e (by rw [hq, e2])
          simp [Act.put, Array.getD_eq_getD_getElem?, Array.getElem?_setIfInBounds_ne hne]
      rw [hg]
      rcases h.tmp t with ⟨y, h1, h2, h3, h4⟩ | ⟨h1, h2⟩
      · exact .inl ⟨y, h1, .inl h2, h3, h4.mono hm⟩
      · refine .inr ⟨fun y hy hL => ?_, h2.mono hm⟩
        rcases hL with hL | hL
        · exact h1 y hy hL
        · have := one y hy d hd hL
          subst this; rw [hod]; exact e
theorem St.grow {m0 m : Ren} {H0 G G' : AH} {w0 w : World} (h : St m0 H0 w0 m G w) (hg : Grow G G') : St m0 H0 w0 m G' w :=
  ⟨⟨fun b o hb i hi => h.rel.live b o (by rw [← hg.get b (h.rel.bnd b i hi).1]; exact hb) i hi,
    fun b b' o o' i i' hb hb' hi hi' e => h.rel.inj b b' o o' i i' (by rw [← hg.get b (h.rel.bnd b i hi).1]; exact hb) (by rw [← hg.get b' (h.rel.bnd b' i' hi').1]; exact hb') hi hi' e,
    fun b i hi => ⟨Nat.lt_of_lt_of_le (h.rel.bnd b i hi).1 hg.next, (h.rel.bnd b i hi).2⟩, h.rel.glob⟩,
   h.ext, Nat.le_trans h.next hg.next, h.os, h.out, h.size, h.keep, h.new⟩
/-- a block of the run that was not yet made is made -/
theorem St.reveal {m0 m : Ren} {H0 G : AH} {w0 w w' : World} (h : St m0 H0 w0 m G w) {b : Nat} {o : AObj} (hb : G.get b = some o) (hmb : m b = none) (hlt : b < G.next) (hlo : H0.next ≤ b) {i : BI} {x : Obj} (hi : i.blk = w.heap.size) (hw : w'.heap = w.heap.push x)
    (ho : OR (m.ext b i) x o i) (hos : w'.os = w.os) (hout : w'.output = w.output) : Le m (m.ext b i) ∧ St m0 H0 w0 (m.ext b i) G w' := by
  have hle : Le m (m.ext b i) := fun b' i' h' => by
    rw [Ren.ext_ne m i (fun e => by subst e; rw [hmb] at h'; cases h')]; exact h'
  refine ⟨hle, ⟨⟨?_, ?_, ?_, ?_⟩, ?_, h.next, hos.trans h.os, hout.trans h.out, ?_, ?_, ?_⟩⟩
  · intro b' o' hb' i' hi'
    by_cases e : b' = b
    · subst e
      rw [Ren.ext_same] at hi'; cases hi'
      rw [hb] at hb'; cases hb'
      exact ⟨x, by rw [hw, hi]; simp, ho⟩
    · rw [Ren.ext_ne m i e] at hi'
      obtain ⟨y, h1, h2⟩ := h.rel.live b' o' hb' i' hi'
      have := (h.rel.bnd b' i' hi').2
      exact ⟨y, by rw [hw, Array.getElem?_push, if_neg (by omega)]; exact h1, h2.mono hle⟩
  · intro b1 b2 o1 o2 i1 i2 g1 g2 k1 k2 e
    by_cases e1 : b1 = b
    · by_cases e2 : b2 = b
      · rw [e1, e2]
      · subst e1
        rw [Ren.ext_same] at k1; cases k1
        rw [Ren.ext_ne m i e2] at k2
        have := (h.rel.bnd b2 i2 k2).2
        omega
    · rw [Ren.ext_ne m i e1] at k1
      by_cases e2 : b2 = b
      · subst e2
        rw [Ren.ext_same] at k2; cases k2
        have := (h.rel.bnd b1 i1 k1).2
        omega
      · rw [Ren.ext_ne m i e2] at k2
        exact h.rel.inj b1 b2 o1 o2 i1 i2 g1 g2 k1 k2 e
  · intro b' i' hi'
    rw [hw, Array.size_push]
    by_cases e : b' = b
    · subst e
      rw [Ren.ext_same] at hi'; cases hi'
      exact ⟨hlt, by omega⟩
    · rw [Ren.ext_ne m i e] at hi'
      have := h.rel.bnd b' i' hi'
      exact ⟨this.1, by omega⟩
  · intro g hg
    obtain ⟨i', h1, h2⟩ := h.rel.glob g hg
    exact ⟨i', hle _ _ h1, h2⟩
  · intro b' hb'
    rw [Ren.ext_ne m i (by omega)]; exact h.ext b' hb'
  · rw [hw, Array.size_push]; have := h.size; omega
  · intro k hk hn
    have := h.size
    rw [hw, Array.getElem?_push, if_neg (by omega)]; exact h.keep k hk hn
  · intro b' i' hi'
    by_cases e : b' = b
    · subst e
      rw [Ren.ext_same] at hi'; cases hi'
      exact .inl (by have := h.size; omega)
    · rw [Ren.ext_ne m i e] at hi'; exact h.new b' i' hi'
end
end Go.Xq
