/- A part of the proof of this seat's statement. Conditions: in each theorem. -/
import Derived.Test.YtnodjhgmghkikaaGreatW19
namespace Go.Xq
open Go.Conc Go.ConcN Go.Conc.Lib Go.ConcR.Gen Go.ConcN.Gen
open Go.ConcR (KK wgBlock WgAt stA smA rd wr mk DC0)
structure Gp where
  L : WgLink
  Wg : Nat
  out : Nat
  oe : TypeId
  ks : Nat
  N : Nat
  J : Nat
  step : Nat
  h0 : Array Obj
  X : Nat → Prop
  Y : Nat → Prop
  S : Nat → World → List Value → Prop
  cOf : Frame → Nat
def setB (w : World) (k : Nat) (o : Obj) : World := { w with heap := w.heap.setIfInBounds k o }
open Classical in
noncomputable def stripW (sp : Gp) (c : Nat) (w : World) : World := { w with heap := w.heap.mapIdx fun k o => if k = c ∨ Dead o ∨ (sp.Y k ∧ Shr o) then o else deadO }
open Classical in
noncomputable def childW (sp : Gp) (j c : Nat) (w : World) : World :=
  { w with heap := w.heap.mapIdx fun k o => if k = sp.Wg then mkD 4 c else if k = sp.out then mkD 3 j else if k = c ∨ (sp.Y k ∧ Shr o) then o else deadO }
noncomputable def addEntry (L : WgLink) (Wg : Nat) : Frame := (base L.add).at ⟨#[.pointer (some ⟨Wg, 0, none⟩), .int .i64 1, undef, undef, undef, undef, undef, undef, undef, undef, undef, undef, undef, undef, undef, undef, undef, undef, undef, undef, undef, undef, undef, undef, undef, undef, undef, undef, undef, undef, undef, undef, undef, undef, undef, undef, undef, undef, undef, undef, undef, undef, undef, undef, undef, undef, undef, undef, undef, undef, undef, undef, undef, undef, undef, undef, undef, undef, undef, undef, undef, undef, undef, undef, undef, undef, undef, undef, undef, undef, undef, undef, undef, undef, undef, undef, undef, undef, undef, undef, undef, undef, undef, undef, undef, undef, undef, undef, undef, undef, undef, undef, undef, undef, undef, undef, undef, undef, undef, undef, undef, undef, undef, undef, undef, undef, undef, undef, undef, undef, undef, undef, undef, undef, undef, undef, undef], []⟩ [.code (body_add L)]
noncomputable def waitEntry (L : WgLink) (Wg : Nat) : Frame := (base L.wait).at ⟨#[.pointer (some ⟨Wg, 0, none⟩), undef, undef, undef, undef, undef, undef, undef, undef, undef, undef, undef, undef, undef, undef, undef, undef, undef, undef, undef, undef, undef, undef, undef, undef, undef, undef, undef, undef, undef, undef, undef, undef, undef, undef, undef, undef, undef, undef, undef, undef, undef, undef, undef, undef, undef, undef, undef, undef, undef, undef, undef, undef, undef, undef, undef, undef, undef, undef, undef, undef, undef, undef, undef, undef, undef, undef, undef, undef, undef, undef, undef, undef, undef, undef, undef, undef, undef, undef, undef, undef, undef, undef, undef], []⟩ [.code (body_wait L)]
section
variable (P : Program) (sp : Gp)
def PutAt (n : Nat) (xs : List Value) (fr : Frame) (cs : List Frame) (fr' : Frame) (cs' : List Frame) : Prop :=
  ∀ main W cc, W.heap[sp.out]? = some (.cells cc sp.oe (0, 0)) → cc.size = sp.N * sp.ks → ∃ cc' es, stepG P main (Conc.G fr cs) W = .go (Conc.G fr' cs') (setB W sp.out (.cells cc' sp.oe (0, 0))) es ∧ cc'.size = cc.size ∧
    (∀ i, i < sp.ks → cc'[n * sp.ks + i]? = xs[i]?) ∧ (∀ j, (j < n * sp.ks ∨ n * sp.ks + sp.ks ≤ j) → cc'[j]? = cc[j]?) ∧ ∀ e ∈ es, ∃ i, i < sp.ks ∧ e = ⟨.cell ⟨sp.out, n * sp.ks + i, none⟩, true, false⟩
def PutOk (n c : Nat) (xs : List Value) (fr : Frame) (cs : List Frame) (w : World) (fr' : Frame) (cs' : List Frame) : Prop :=
  w.heap[sp.out]? = some (mkD 3 n) ∧ w.heap[sp.Wg]? = some (mkD 4 c) ∧ n < sp.N ∧ xs.length = sp.ks ∧ sp.S n (setB w c deadO) xs ∧ PutAt P sp n xs fr cs fr' cs'
noncomputable def putDeal : Deal where
  pre fr cs w := ∃ n c xs fr' cs', PutOk P sp n c xs fr cs w fr' cs'
  post fr cs w fr' cs' w' := ∃ n c xs, PutOk P sp n c xs fr cs w fr' cs' ∧ w' = setB (stripW sp c w) sp.out (mkD 3 (n + sp.step))
@[reducible] noncomputable def workerD : Dealing := ⟨fun d => d = putDeal P sp⟩
def WEnd : Frame → List Frame → World → Prop := fun fr cs w => (∃ n, w.heap[sp.out]? = some (mkD 3 n) ∧ sp.N ≤ n) ∧ ∀ W, WgLive sp.L.tWg sp.Wg W → ∃ m, LSit P sp.L.tWg sp.Wg 7 m 0 (Conc.G fr cs) W
def CallOk (tag j : Nat) (entry : Frame) (fr : Frame) (cs : List Frame) (w : World) (fr' : Frame) : Prop :=
  w.heap[sp.Wg]? = some (mkD tag j) ∧ ∃ (b : Frame) (a : Act) (ops : Array Oper) (i : Nat) (rest : List Nat) (k : List Item), fr = b.at a (.inRegion ops (i :: rest) :: k) ∧ fr' = b.at (a.put ((ops[i]?).bind (·.dst)) (.tuple #[])) (.inRegion ops rest :: k) ∧
    ∀ main W, stepG P main (Conc.G fr cs) W = .go (Conc.G entry (fr :: cs)) W #[]
noncomputable def addDeal : Deal where
  pre fr cs w := ∃ j fr', j < sp.J ∧ CallOk P sp 1 j (addEntry sp.L sp.Wg) fr cs w fr'
  post fr cs w fr' cs' w' := ∃ j, j < sp.J ∧ CallOk P sp 1 j (addEntry sp.L sp.Wg) fr cs w fr' ∧ cs' = cs ∧ w' = setB w sp.Wg (mkD 2 j)
def SpawnOk (j c : Nat) (fr : Frame) (cs : List Frame) (w : World) (fr' : Frame) (cs' : List Frame) (frc : Frame) : Prop :=
  j < sp.J ∧ w.heap[sp.Wg]? = some (mkD 2 j) ∧ (∃ val e, w.heap[c]? = some (.cells #[val] e (0, 0))) ∧ (∀ W, stepG P true (Conc.G fr cs) W = .spawn (Conc.G fr' cs') (Conc.G frc []) W #[]) ∧ @Gx P (workerD P sp) (WEnd P sp) frc [] (childW sp j c w) ∧ c = sp.cOf frc
noncomputable def spawnDeal : Deal where
  pre fr cs w := ∃ j c fr' cs' frc, SpawnOk P sp j c fr cs w fr' cs' frc
  post fr cs w fr' cs' w' := ∃ j c frc, SpawnOk P sp j c fr cs w fr' cs' frc ∧ w' = setB (setB w c deadO) sp.Wg (mkD 1 (j + 1))
structure Joined (w w' : World) : Prop where
  tape : w'.tape = w.tape
  os : w'.os = w.os
  output : w'.output = w.output
  size : w.heap.size ≤ w'.heap.size
  nv : NV w'
  wg : w'.heap[sp.Wg]? = some deadO
  own : ∀ (k : Nat) (o : Obj), w.heap[k]? = some o → ¬ Dead o → ¬ Shr o → w'.heap[k]? = some o
  shr : ∀ (k : Nat) (o : Obj), ¬ sp.X k → w.heap[k]? = some o → Shr o → w'.heap[k]? = some o
  thaw : ∀ k, sp.X k → w'.heap[k]? = sp.h0[k]?
  dead : ∀ (k : Nat) (o : Obj), k < sp.h0.size → k ≠ sp.out → k ≠ sp.Wg → ¬ sp.X k → w.heap[k]? = some o → Dead o → w'.heap[k]? = some o
  got : ∃ (cc : Array Value) (us : Nat → World), cc.size = sp.N * sp.ks ∧ w'.heap[sp.out]? = some (.cells cc sp.oe (0, 0)) ∧ ∀ n, n < sp.N →
    sp.S n (us n) ((List.range sp.ks).map fun i => cc.getD (n * sp.ks + i) undef) ∧
    (us n).heap.size ≤ w'.heap.size ∧
    ∀ (k : Nat) (o : Obj), (us n).heap[k]? = some o → ¬ Dead o → (w'.heap[k]? = some o ∧ sp.h0.size ≤ k ∧ (∀ o', w.heap[k]? = some o' → Dead o') ∧ ∀ m, m < sp.N → m ≠ n → ∀ o', (us m).heap[k]? = some o' → Dead o') ∨ (Shr o ∧ w.heap[k]? = some o)
noncomputable def waitDeal : Deal where
  pre fr cs w := ∃ fr', CallOk P sp 1 sp.J (waitEntry sp.L sp.Wg) fr cs w fr'
  post fr cs w fr' cs' w' := CallOk P sp 1 sp.J (waitEntry sp.L sp.Wg) fr cs w fr' ∧ cs' = cs ∧ Joined sp w w'
@[reducible] noncomputable def mainD : Dealing := ⟨fun d => d = addDeal P sp ∨ d = spawnDeal P sp ∨ d = waitDeal P sp⟩
end
end Go.Xq
namespace Go.Xq
def padW (v W' : World) : World := { v with heap := v.heap ++ Array.replicate (W'.heap.size - v.heap.size) deadO, drawn := W'.drawn }
theorem idle_pad (v W' : World) : Idle v (padW v W') := ⟨_, _, rfl⟩
theorem pad_get {v W' : World} {k : Nat} {o : Obj} (h : (padW v W').heap[k]? = some o) : v.heap[k]? = some o ∨ o = deadO := by
  have h : (v.heap ++ Array.replicate (W'.heap.size - v.heap.size) deadO)[k]? = some o := h
  rw [Array.getElem?_append] at h
  split at h
  · exact .inl h
  · rw [Array.getElem?_replicate] at h
    split at h
    · exact .inr (Option.some.inj h).symm
    · cases h
theorem pad_live {v W' : World} {k : Nat} {o : Obj} (h : (padW v W').heap[k]? = some o) (hd : ¬ Dead o) : v.heap[k]? = some o := by
  rcases pad_get h with h | h
  · exact h
  · exact absurd (h ▸ dead_deadO) hd
theorem pad_old {v W' : World} {k : Nat} {o : Obj} (h : v.heap[k]? = some o) : (padW v W').heap[k]? = some o := (idle_pad v W').some h
theorem pad_size {v W' : World} (h : v.heap.size ≤ W'.heap.size) : (padW v W').heap.size = W'.heap.size := by
  show (v.heap ++ Array.replicate (W'.heap.size - v.heap.size) deadO).size = _
  simp; omega
def RAt (o : Obj) (W : World) (k : Nat) : Prop := (¬ Shr o → W.heap[k]? = some o) ∧ ∀ c e fr, o = .cells c e fr → ∃ fr', W.heap[k]? = some (.cells c e fr')
theorem Restr.rat {v W : World} (h : Restr v W) {k : Nat} {o : Obj} (hk : v.heap[k]? = some o) (hd : ¬ Dead o) : RAt o W k := by
  refine ⟨h.own k o hk hd, fun c e fr he => ?_⟩
  by_cases hs : Shr o
  · subst he; exact h.shr k c e fr hk hs
  · exact ⟨fr, he ▸ h.own k o hk hd hs⟩
theorem RAt.congr {o : Obj} {W W' : World} {k : Nat} (h : RAt o W k) (e : W'.heap[k]? = W.heap[k]?) : RAt o W' k := ⟨fun hs => e.trans (h.1 hs), fun c t fr he => let ⟨fr', h2⟩ := h.2 c t fr he; ⟨fr', e.trans h2⟩⟩
theorem restr_of {v W : World} (h1 : v.tape = W.tape) (h2 : v.drawn = W.drawn) (h3 : v.os = W.os) (h4 : v.output = W.output) (h5 : v.heap.size = W.heap.size) (h6 : NV v) (h : ∀ (k : Nat) (o : Obj), v.heap[k]? = some o → ¬ Dead o → RAt o W k) : Restr v W :=
  ⟨h1, h2, h3, h4, h5, fun k o hk hd hs => (h k o hk hd).1 hs, fun k c e fr hk hs => (h k _ hk hs.not_dead).2 c e fr rfl, h6⟩
theorem nv_pad {v W' : World} (h : NV v) : NV (padW v W') := by
  intro k o hk
  rcases pad_get hk with hk | rfl
  · exact h k o hk
  · exact nvo_dead
theorem Restr.pad {v W W' : World} (h : Restr v W) (ht : W'.tape = W.tape) (ho : W'.os = W.os) (hp : W'.output = W.output) (hs : W.heap.size ≤ W'.heap.size) (hk : ∀ (k : Nat) (o : Obj), v.heap[k]? = some o → ¬ Dead o → W'.heap[k]? = W.heap[k]?) : Restr (padW v W') W' :=
  restr_of (by rw [ht]; exact h.tape) rfl (by rw [ho]; exact h.os) (by rw [hp]; exact h.output) (pad_size (by rw [h.size]; exact hs)) (nv_pad h.nv) fun k o hk' hd => by
    have h2 := pad_live hk' hd
    exact (h.rat h2 hd).congr (hk k o h2 hd)
structure His where
  W0 : World
  v0 : World
inductive Hd where
  | ag (a : Option Nat)
  | dep (n : Nat)
  | cell (i : Nat)
  | shr
  | old
  | none
def NDW (O : Nat → Hd) (A : Hd) (v : World) : Prop := ∀ (k : Nat) (o : Obj), v.heap[k]? = some o → ¬ Dead o → O k = A ∨ (Shr o ∧ O k = .shr)
structure Wst (sp : Gp) (Wh : His) (W : World) (ac : Option Nat → Prop) (V : Option Nat → World) (O : Nat → Hd) (dp : Nat → Prop) (u : Nat → World) (c : Nat → Nat) : Prop where
  main : ac Option.none
  r : ∀ a, ac a → Restr (V a) W
  n : ∀ a, ac a → NDW O (.ag a) (V a)
  s : ∀ a, ac a → ∀ (k : Nat) (o : Obj), (V a).heap[k]? = some o → ¬ Dead o → O k = .shr → (V Option.none).heap[k]? = some o
  ud : ∀ n, dp n → ∀ (k : Nat) (o : Obj), (u n).heap[k]? = some o → ¬ Dead o → (O k = .dep n ∧ RAt o W k ∧ NVo o ∧ sp.h0.size ≤ k) ∨ (Shr o ∧ O k = .shr ∧ (V Option.none).heap[k]? = some o)
  uz : ∀ n, dp n → (u n).heap.size ≤ W.heap.size
  bnd : ∀ k, W.heap.size ≤ k → O k = .none
  big : ∀ k i, O k = .ag (some i) → sp.h0.size ≤ k ∨ k = c i
  wg : O sp.Wg = .none
  out : O sp.out = .none
  wgl : sp.Wg < W.heap.size
  outl : sp.out < W.heap.size
  shW : ∀ k, (O k = .shr ∨ O k = .old) → W.heap[k]? = Wh.W0.heap[k]?
  y : ∀ k, sp.Y k → O k = .shr
  h0l : sp.h0.size ≤ W.heap.size
  tp : W.tape = Wh.W0.tape
  wos : W.os = Wh.W0.os
  wop : W.output = Wh.W0.output
  sz : Wh.W0.heap.size ≤ W.heap.size
  st0 : ∀ (k : Nat) (o : Obj), Wh.v0.heap[k]? = some o → (Dead o ∨ Shr o) → k ≠ sp.Wg → k ≠ sp.out → (O k = .old ∨ O k = .shr) ∧ (V Option.none).heap[k]? = some o
def newO (O : Nat → Hd) (n n' : Nat) (A : Hd) : Nat → Hd := fun k => if n ≤ k ∧ k < n' then A else O k
theorem newO_old {O : Nat → Hd} {n n' : Nat} {A : Hd} {k : Nat} (h : k < n) : newO O n n' A k = O k := if_neg (by omega)
section
variable {sp : Gp} {Wh : His} {W W' : World} {ac : Option Nat → Prop} {V : Option Nat → World} {O : Nat → Hd} {dp : Nat → Prop} {u : Nat → World} {c : Nat → Nat}
theorem Wst.lt (h : Wst sp Wh W ac V O dp u c) {k : Nat} (hk : O k ≠ .none) : k < W.heap.size := Nat.lt_of_not_le fun hle => hk (h.bnd k hle)
theorem Wst.stands (h : Wst sp Wh W ac V O dp u c) {a : Option Nat} (ha : ac a) (hb : Beside (V a) W W') {k : Nat} (hk : k < W.heap.size) (hO : O k ≠ .ag a) : W'.heap[k]? = W.heap[k]? := by
  have hr := h.r a ha
  have hv : (V a).heap[k]? = some ((V a).heap[k]'(by rw [hr.size]; exact hk)) := by simp
  refine hb.block k _ hv ?_
  by_cases hd : Dead ((V a).heap[k]'(by rw [hr.size]; exact hk))
  · exact .inl hd
  · rcases h.n a ha k _ hv hd with h1 | ⟨h1, _⟩
    · exact absurd h1 hO
    · exact .inr h1
theorem Wst.own (h : Wst sp Wh W ac V O dp u c) {a : Option Nat} (ha : ac a) {va : World} (hr : Restr va W') (hs : Stays (V a) va) (hb : Beside (V a) W W') :
    Wst sp Wh W' ac (fun b => if b = a then va else padW (V b) W') (newO O W.heap.size W'.heap.size (.ag a)) dp u c := by
  have hsz := hb.size
  -- of va's blocks
  have own : ∀ (k : Nat) (o : Obj), va.heap[k]? = some o → ¬ Dead o → (newO O W.heap.size W'.heap.size (.ag a)) k = .ag a ∨ (Shr o ∧ O k = .shr ∧ (V a).heap[k]? = some o ∧ k < W.heap.size) := by
    intro k o hk hd
    by_cases hlt : k < W.heap.size
    · have hv : (V a).heap[k]? = some ((V a).heap[k]'(by rw [(h.r a ha).size]; exact hlt)) := by simp
      rw [newO_old hlt]
      by_cases hd' : Dead ((V a).heap[k]'(by rw [(h.r a ha).size]; exact hlt))
      · have := hs k _ hv (.inl hd')
        rw [hk] at this; cases this
        exact absurd hd' hd
      · rcases h.n a ha k _ hv hd' with h1 | ⟨h1, h2⟩
        · exact .inl h1
        · have := hs k _ hv (.inr h1)
          rw [hk] at this; cases this
          exact .inr ⟨h1, h2, hv, hlt⟩
    · have := (Array.getElem?_eq_some_iff.1 hk).1
      have := hr.size
      exact .inl (if_pos ⟨by omega, by omega⟩)
  have keepO : ∀ {k : Nat}, O k ≠ .none → (newO O W.heap.size W'.heap.size (.ag a)) k = O k := fun hk => newO_old (h.lt hk)
  -- main's view of what is shared
  have shr0 : ∀ (k : Nat) (o : Obj), (V Option.none).heap[k]? = some o → ¬ Dead o → O k = .shr → (if (Option.none : Option Nat) = a then va else padW (V Option.none) W').heap[k]? = some o := by
    intro k o hk hd hO
    split
    · rename_i e
      subst e
      rcases h.n _ ha k o hk hd with h1 | ⟨h1, _⟩
      · rw [hO] at h1; cases h1
      · exact hs k o hk (.inr h1)
    · exact pad_old hk
  have oeq : ∀ {k : Nat} {A : Hd}, (newO O W.heap.size W'.heap.size (.ag a)) k = A → A ≠ .ag a → O k = A := by
    intro k A hk hA
    unfold newO at hk
    split at hk
    · exact absurd hk.symm hA
    · exact hk
  refine ⟨h.main, fun b hb' => ?_, fun b hb' k o hk hd => ?_, fun b hb' k o hk hd hO => ?_, fun n hn k o hk hd => ?_, fun n hn => Nat.le_trans (h.uz n hn) hsz, fun k hk => ?_, fun k i hk => ?_, ?_, ?_, Nat.lt_of_lt_of_le h.wgl hsz, Nat.lt_of_lt_of_le h.outl hsz, fun k hk => ?_, fun k hk => ?_, Nat.le_trans h.h0l hsz, hb.tape.trans h.tp, hb.os.trans h.wos, hb.output.trans h.wop, Nat.le_trans h.sz hsz, fun k o hk hd h1 h2 => ?_⟩
  · by_cases e : b = a
    · rw [if_pos e]; exact hr
    · rw [if_neg e]
      refine (h.r b hb').pad hb.tape hb.os hb.output hsz fun k o hk hd => ?_
      have hlt : k < W.heap.size := by rw [← (h.r b hb').size]; exact (Array.getElem?_eq_some_iff.1 hk).1
      refine h.stands ha hb hlt ?_
      rcases h.n b hb' k o hk hd with h1 | ⟨_, h1⟩
      · rw [h1]; intro h2; cases h2; exact e rfl
      · rw [h1]; intro h2; cases h2
  · by_cases e : b = a
    · rw [if_pos e] at hk
      subst e
      rcases own k o hk hd with h1 | ⟨h1, h2, _⟩
      · exact .inl h1
      · exact .inr ⟨h1, by rw [keepO (by rw [h2]; simp)]; exact h2⟩
    · rw [if_neg e] at hk
      rcases h.n b hb' k o (pad_live hk hd) hd with h1 | ⟨h1, h2⟩
      · exact .inl (by rw [keepO (by rw [h1]; simp)]; exact h1)
      · exact .inr ⟨h1, by rw [keepO (by rw [h2]; simp)]; exact h2⟩
  · have hO' := oeq hO (by simp)
    by_cases e : b = a
    · rw [if_pos e] at hk
      subst e
      rcases own k o hk hd with h1 | ⟨h1, h2, h3, _⟩
      · rw [hO] at h1; cases h1
      · exact shr0 k o (h.s b ha k o h3 hd h2) hd h2
    · rw [if_neg e] at hk
      exact shr0 k o (h.s b hb' k o (pad_live hk hd) hd hO') hd hO'
  · rcases h.ud n hn k o hk hd with ⟨h1, h2, h3, h4⟩ | ⟨h1, h2, h3⟩
    · exact .inl ⟨by rw [keepO (by rw [h1]; simp)]; exact h1, h2.congr (h.stands ha hb (h.lt (by rw [h1]; simp)) (by rw [h1]; simp)), h3, h4⟩
    · exact .inr ⟨h1, by rw [keepO (by rw [h2]; simp)]; exact h2, shr0 k o h3 hd h2⟩
  · exact (if_neg (by omega)).trans (h.bnd k (Nat.le_trans hsz hk))
  · unfold newO at hk
    split at hk
    · rename_i hc
      exact .inl (Nat.le_trans h.h0l hc.1)
    · exact h.big k i hk
  · rw [newO_old h.wgl]; exact h.wg
  · rw [newO_old h.outl]; exact h.out
  · have hO : O k = .shr ∨ O k = .old := hk.imp (fun hk => oeq hk (by simp)) (fun hk => oeq hk (by simp))
    rw [h.stands ha hb (h.lt (by rcases hO with e | e <;> rw [e] <;> simp)) (by rcases hO with e | e <;> rw [e] <;> simp)]
    exact h.shW k hO
  · rw [keepO (by rw [h.y k hk]; simp)]; exact h.y k hk
  · obtain ⟨h3, h4⟩ := h.st0 k o hk hd h1 h2
    refine ⟨?_, ?_⟩
    · rw [keepO (by rcases h3 with e | e <;> rw [e] <;> simp)]; exact h3
    · show (if (Option.none : Option Nat) = a then va else padW (V Option.none) W').heap[k]? = some o
      split
      · rename_i e
        subst e
        exact hs k o h4 hd
      · exact pad_old h4
theorem Wst.aside (h : Wst sp Wh W ac V O dp u c) (ht : W'.tape = W.tape) (ho : W'.os = W.os) (hp : W'.output = W.output) (hs : W'.heap.size = W.heap.size) (hk : ∀ k, O k ≠ .none → W'.heap[k]? = W.heap[k]? ∨ ∃ i, O k = .cell i) : Wst sp Wh W' ac (fun b => padW (V b) W') O dp u c := by
  have key : ∀ {k : Nat}, O k ≠ .none → (∀ i, O k ≠ .cell i) → W'.heap[k]? = W.heap[k]? := fun h1 h2 => by
    rcases hk _ h1 with h3 | ⟨i, h3⟩
    · exact h3
    · exact absurd h3 (h2 i)
  refine ⟨h.main, fun b hb => (h.r b hb).pad ht ho hp (by omega) fun k o hk' hd => ?_, fun b hb k o hk' hd => h.n b hb k o (pad_live hk' hd) hd, fun b hb k o hk' hd hO => pad_old (h.s b hb k o (pad_live hk' hd) hd hO), fun n hn k o hk' hd => ?_, fun n hn => by rw [hs]; exact h.uz n hn, fun k hk' => h.bnd k (by rw [← hs]; exact hk'), h.big, h.wg, h.out, by rw [hs]; exact h.wgl, by rw [hs]; exact h.outl, fun k hO => ?_, h.y, by rw [hs]; exact h.h0l, ht.trans h.tp, ho.trans h.wos, hp.trans h.wop, by rw [hs]; exact h.sz, fun k o hk' hd h1 h2 => let ⟨h3, h4⟩ := h.st0 k o hk' hd h1 h2; ⟨h3, pad_old h4⟩⟩
  · rcases h.n b hb k o hk' hd with h1 | ⟨_, h1⟩ <;> exact key (by rw [h1]; simp) (by rw [h1]; simp)
  · rcases h.ud n hn k o hk' hd with ⟨h1, h2, h3⟩ | ⟨h1, h2, h3⟩
    · exact .inl ⟨h1, h2.congr (key (by rw [h1]; simp) (by rw [h1]; simp)), h3⟩
    · exact .inr ⟨h1, h2, pad_old h3⟩
  · rw [key (by rcases hO with e | e <;> rw [e] <;> simp) (fun i => by rcases hO with e | e <;> rw [e] <;> simp)]; exact h.shW k hO
theorem Wst.at_ (h : Wst sp Wh W ac V O dp u c) (d : Nat) : Wst sp Wh (W.at d) ac (fun b => padW (V b) (W.at d)) O dp u c := h.aside rfl rfl rfl rfl fun _ _ => .inl rfl
end
end Go.Xq
namespace Go.Xq
open Go.Conc Go.ConcN Go.Conc.Lib Go.ConcR.Gen Go.ConcN.Gen
open Go.ConcR (KK wgBlock WgAt stA smA rd wr mk DC0)
structure Wd where
  r : Rk
  c : Nat
  s : Nat
  d : Nat
inductive WOk (P : Program) (sp : Gp) (i : Nat) (x : Wd) (v : World) (g : Goroutine) (W : World) : Prop
  | work (fr : Frame) (cs : List Frame) (n : Nat) (hs : x.s = 8) (hd : x.d = 0) (hg : g = Conc.G fr cs) (h : @GxR (workerD P sp) P (WEnd P sp) x.r fr cs v) (ho : v.heap[sp.out]? = some (mkD 3 n)) (hn : n % sp.step = i) (hw : v.heap[sp.Wg]? = some (mkD 4 x.c))
  | lib (m : Nat) (h7 : x.s ≤ 7) (h1 : 1 ≤ x.s) (hr : x.r = Rk.nat m) (h : LSit P sp.L.tWg sp.Wg x.s m x.d g W)
inductive MT where
  | idle | pend | kdA | a1 | said | keA | bkA | kdW | anch | w1 | w2 (vs : Nat) | w2s | w3 | blk | w4 | keW | acq | bkW
def MT.ctag (J j : Nat) : MT → CTag
  | .idle => .sp (J - j) 8 | .pend => .sp (J - j) 0 | .kdA => .sp (J - j) 5 | .a1 => .sp (J - j) 4 | .said => .sp (J - j) 3 | .keA => .sp (J - j) 2 | .bkA => .sp (J - j) 1
  | .kdW => .kd | .anch => .anch | .w1 => .w1 | .w2 vs => .w2 vs | .w2s => .w3 | .w3 => .w3 | .blk => .blk | .w4 => .w4 | .keW => .ke | .acq => .acq | .bkW => .ret
def MT.ph (J j v : Nat) : MT → Nat
  | .idle => 8 * J + 20 + 32 * (J - j) + 8 | .pend => 8 * J + 20 + 32 * (J - j) | .kdA => 8 * J + 20 + 32 * (J - j) + 5 | .a1 => 8 * J + 20 + 32 * (J - j) + 4 | .said => 8 * J + 20 + 32 * (J - j) + 3 | .keA => 8 * J + 20 + 32 * (J - j) + 2 | .bkA => 8 * J + 20 + 32 * (J - j) + 1
  | .kdW => 8 * J + 8 | .anch => 8 * v + 7 | .w1 => 8 * v + 6 | .w2 vs => 8 * vs + 5 | .w2s => 7 | .w3 => 6 | .blk => 6 | .w4 => 5 | .keW => 4 | .acq => 3 | .bkW => 2
section
variable (P : Program) (sp : Gp) (Φ : Frame → List Frame → World → Prop)
def ContA (j : Nat) (fr : Frame) (cs : List Frame) (v : World) : Prop := ∀ v1, Idle v v1 → ∃ r, @GxR (mainD P sp) P Φ r fr cs (setB v1 sp.Wg (mkD 2 j))
def ContW (fr : Frame) (cs : List Frame) (v : World) : Prop := ∀ v1 v', Idle v v1 → Joined sp v1 v' → ∃ r, @GxR (mainD P sp) P Φ r fr cs v'
inductive MSt (j : Nat) : MT → Rk → Nat → Goroutine → World → World → Prop
  | idle {r : Rk} {fr : Frame} {cs : List Frame} {W v : World} (hw : v.heap[sp.Wg]? = some (mkD 1 j)) (h : @GxR (mainD P sp) P Φ r fr cs v) : MSt j .idle r 0 (Conc.G fr cs) W v
  | pend {r : Rk} {fr : Frame} {cs : List Frame} {W v : World} (hj : j < sp.J) (hw : v.heap[sp.Wg]? = some (mkD 2 j)) (h : @GxR (mainD P sp) P Φ r fr cs v) : MSt j .pend r 0 (Conc.G fr cs) W v
  | kdA {m : Nat} {g : Goroutine} {W v : World} {fr : Frame} {cs : List Frame} (hj : j < sp.J) (hw : v.heap[sp.Wg]? = some (mkD 1 j)) (hc : ContA P sp Φ j fr cs v) (h : GL P sp.L.tWg sp.Wg (AtKdA P sp.L.tWg sp.Wg (BackAt fr cs)) m g W) : MSt j .kdA (Rk.nat m) 0 g W v
  | a1 {m : Nat} {g : Goroutine} {W v : World} {fr : Frame} {cs : List Frame} (hj : j < sp.J) (hw : v.heap[sp.Wg]? = some (mkD 1 j)) (hc : ContA P sp Φ j fr cs v) (h : GL P sp.L.tWg sp.Wg (AtA1A P sp.L.tWg sp.Wg (BackAt fr cs)) m g W) : MSt j .a1 (Rk.nat m) 1 g W v
  | said {m : Nat} {g : Goroutine} {W v : World} {fr : Frame} {cs : List Frame} (hj : j < sp.J) (hw : v.heap[sp.Wg]? = some (mkD 1 j)) (hc : ContA P sp Φ j fr cs v) (h : GL P sp.L.tWg sp.Wg (AtSaid P sp.L.tWg sp.Wg (.read ⟨sp.Wg, 1, none⟩) (AtKeA P sp.L.tWg sp.Wg (BackAt fr cs))) m g W) : MSt j .said (Rk.nat m) 1 g W v
  | keA {m : Nat} {g : Goroutine} {W v : World} {fr : Frame} {cs : List Frame} (hj : j < sp.J) (hw : v.heap[sp.Wg]? = some (mkD 1 j)) (hc : ContA P sp Φ j fr cs v) (h : GL P sp.L.tWg sp.Wg (AtKeA P sp.L.tWg sp.Wg (BackAt fr cs)) m g W) : MSt j .keA (Rk.nat m) 1 g W v
  | bkA {m : Nat} {g : Goroutine} {W v : World} {fr : Frame} {cs : List Frame} (hj : j < sp.J) (hw : v.heap[sp.Wg]? = some (mkD 1 j)) (hc : ContA P sp Φ j fr cs v) (h : GL P sp.L.tWg sp.Wg (BackAt fr cs) m g W) : MSt j .bkA (Rk.nat m) 0 g W v
  | kdW {m : Nat} {g : Goroutine} {W v : World} {fr A : Frame} {cs : List Frame} (hj : j = sp.J) (hw : v.heap[sp.Wg]? = some (mkD 1 j)) (hc : ContW P sp Φ fr cs v) (hA : ∀ g W, AnchWW sp.L sp.Wg A cs g W → ∃ m, GL P sp.L.tWg sp.Wg (AtW1W P sp.L.tWg sp.Wg (BackAt fr cs) (AnchWW sp.L sp.Wg A cs)) m g W)
      (h : GL P sp.L.tWg sp.Wg (AtKdW P sp.L.tWg sp.Wg (AnchWW sp.L sp.Wg A cs)) m g W) : MSt j .kdW (Rk.nat m) 0 g W v
  | anch {m : Nat} {g : Goroutine} {W v : World} {fr A : Frame} {cs : List Frame} (hj : j = sp.J) (hw : v.heap[sp.Wg]? = some (mkD 1 j)) (hc : ContW P sp Φ fr cs v) (hA : ∀ g W, AnchWW sp.L sp.Wg A cs g W → ∃ m, GL P sp.L.tWg sp.Wg (AtW1W P sp.L.tWg sp.Wg (BackAt fr cs) (AnchWW sp.L sp.Wg A cs)) m g W)
      (h : GL P sp.L.tWg sp.Wg (AnchWW sp.L sp.Wg A cs) m g W) : MSt j .anch (Rk.nat m) 1 g W v
  | w1 {m : Nat} {g : Goroutine} {W v : World} {fr A : Frame} {cs : List Frame} (hj : j = sp.J) (hw : v.heap[sp.Wg]? = some (mkD 1 j)) (hc : ContW P sp Φ fr cs v) (hA : ∀ g W, AnchWW sp.L sp.Wg A cs g W → ∃ m, GL P sp.L.tWg sp.Wg (AtW1W P sp.L.tWg sp.Wg (BackAt fr cs) (AnchWW sp.L sp.Wg A cs)) m g W)
      (h : GL P sp.L.tWg sp.Wg (AtW1W P sp.L.tWg sp.Wg (BackAt fr cs) (AnchWW sp.L sp.Wg A cs)) m g W) : MSt j .w1 (Rk.nat m) 1 g W v
  | w2 {vs m : Nat} {g : Goroutine} {W v : World} {fr A : Frame} {cs : List Frame} (hj : j = sp.J) (hw : v.heap[sp.Wg]? = some (mkD 1 j)) (hc : ContW P sp Φ fr cs v) (hA : ∀ g W, AnchWW sp.L sp.Wg A cs g W → ∃ m, GL P sp.L.tWg sp.Wg (AtW1W P sp.L.tWg sp.Wg (BackAt fr cs) (AnchWW sp.L sp.Wg A cs)) m g W)
      (h : GL P sp.L.tWg sp.Wg (AtW2W P sp.L.tWg sp.Wg (BackAt fr cs) (AnchWW sp.L sp.Wg A cs) vs) m g W) : MSt j (.w2 vs) (Rk.nat m) 1 g W v
  | w2s {m : Nat} {g : Goroutine} {W v : World} {fr : Frame} {cs : List Frame} (hj : j = sp.J) (hw : v.heap[sp.Wg]? = some (mkD 1 j)) (hc : ContW P sp Φ fr cs v) (h : GL P sp.L.tWg sp.Wg (AtSaid P sp.L.tWg sp.Wg (.write ⟨sp.Wg, 1, none⟩) (AtW3W P sp.L.tWg sp.Wg (BackAt fr cs))) m g W) : MSt j .w2s (Rk.nat m) 1 g W v
  | w3 {m : Nat} {g : Goroutine} {W v : World} {fr : Frame} {cs : List Frame} (hj : j = sp.J) (hw : v.heap[sp.Wg]? = some (mkD 1 j)) (hc : ContW P sp Φ fr cs v) (h : GL P sp.L.tWg sp.Wg (AtW3W P sp.L.tWg sp.Wg (BackAt fr cs)) m g W) : MSt j .w3 (Rk.nat (m + 1)) 1 g W v
  | blk {g : Goroutine} {W v : World} {fr : Frame} {cs : List Frame} (hj : j = sp.J) (hw : v.heap[sp.Wg]? = some (mkD 1 j)) (hc : ContW P sp Φ fr cs v) (h : ∀ W', RL sp.L.tWg sp.Wg W W' → AtW3W P sp.L.tWg sp.Wg (BackAt fr cs) g W') : MSt j .blk .z 1 { g with status := .blocked } W v
  | w4 {m : Nat} {g : Goroutine} {W v : World} {fr : Frame} {cs : List Frame} (hj : j = sp.J) (hw : v.heap[sp.Wg]? = some (mkD 1 j)) (hc : ContW P sp Φ fr cs v) (h : GL P sp.L.tWg sp.Wg (AtW4W P sp.L.tWg sp.Wg (BackAt fr cs)) m g W) : MSt j .w4 (Rk.nat m) 1 g W v
  | keW {m : Nat} {g : Goroutine} {W v : World} {fr : Frame} {cs : List Frame} (hj : j = sp.J) (hw : v.heap[sp.Wg]? = some (mkD 1 j)) (hc : ContW P sp Φ fr cs v) (h : GL P sp.L.tWg sp.Wg (AtKeW P sp.L.tWg sp.Wg (BackAt fr cs)) m g W) : MSt j .keW (Rk.nat m) 1 g W v
  | acq {m : Nat} {g : Goroutine} {W v : World} {fr : Frame} {cs : List Frame} (hj : j = sp.J) (hw : v.heap[sp.Wg]? = some (mkD 1 j)) (hc : ContW P sp Φ fr cs v) (h : GL P sp.L.tWg sp.Wg (AtAcqW P sp.L.tWg sp.Wg (BackAt fr cs)) m g W) : MSt j .acq (Rk.nat m) 0 g W v
  | bkW {m : Nat} {g : Goroutine} {W v : World} {fr : Frame} {cs : List Frame} (hj : j = sp.J) (hw : v.heap[sp.Wg]? = some (mkD 1 j)) (hc : ContW P sp Φ fr cs v) (h : GL P sp.L.tWg sp.Wg (BackAt fr cs) m g W) : MSt j .bkW (Rk.nat m) 0 g W v
end
def hdOw (k0 : Nat) : Hd → Ow
  | .ag Option.none => .of 0
  | .ag (some i) => .of (k0 + i)
  | .shr => .shr
  | _ => .nobody
def owL (sp : Gp) (k0 j : Nat) (O : Nat → Hd) : Loc → Ow
  | .cell a => if a.block = sp.out then (if a.spot = none then (if (a.off / sp.ks) % sp.step < j then .of (k0 + (a.off / sp.ks) % sp.step) else .of 0) else .nobody) else hdOw k0 (O a.block)
  | .obj r => hdOw k0 (O r)
  | _ => .nobody
structure Cf where
  gs : Array Goroutine
  W : World
  t : Trace
  j : Nat
  V : Option Nat → World
  O : Nat → Hd
  dp : Nat → Prop
  u : Nat → World
  xs : Nat → Wd
  rel : Nat → Option Nat
  q : Nat → Nat
  tag : MT
  r0 : Rk
  d0 : Nat
  a : Goroutine
  st : Int
  sm : Int
def Cf.ac (x : Cf) : Option Nat → Prop
  | Option.none => True
  | some i => i < x.j ∧ (x.xs i).s = 8
def Cf.D (x : Cf) : Nat → WD := fun i => ⟨min (x.xs i).s 7, 0, (x.xs i).d⟩
structure Bst (P : Program) (sp : Gp) (Φ : Frame → List Frame → World → Prop) (k0 : Nat) (SB : Nat → Prop) (Wh : His) (x : Cf) : Prop where
  size : x.gs.size = k0 + x.j
  k0p : 0 < k0
  jle : x.j ≤ sp.J
  a : x.gs[0]? = some x.a
  old : ∀ i g, 0 < i → i < k0 → x.gs[i]? = some g → QuitsD P (x.q i) (Deaf x.t i) g
  above : ∀ i, x.gs.size ≤ i → Deaf x.t i = 0
  hd0 : Deaf x.t 0 = x.d0
  wk : ∀ i, i < x.j → ∃ g, x.gs[k0 + i]? = some g ∧ WOk P sp i (x.xs i) (x.V (some i)) g x.W
  wd : ∀ i, i < x.j → Deaf x.t (k0 + i) = (x.xs i).d
  relA : ∀ i, i < x.j → (x.xs i).s ≤ 6 → ∃ r, x.rel i = some r
  relB : ∀ i, i < x.j → 7 ≤ (x.xs i).s → x.rel i = none
  wst : Wst sp Wh x.W x.ac x.V x.O x.dp x.u (fun i => (x.xs i).c)
  outW : ∃ cc, x.W.heap[sp.out]? = some (.cells cc sp.oe (0, 0)) ∧ cc.size = sp.N * sp.ks ∧ ∀ n, x.dp n → sp.S n (x.u n) ((List.range sp.ks).map fun i => cc.getD (n * sp.ks + i) undef)
  dpl : ∀ n, x.dp n → n < sp.N ∧ n % sp.step < x.j
  dpw : ∀ i, i < x.j → (x.xs i).s = 8 → ∀ m, (x.V (some i)).heap[sp.out]? = some (mkD 3 m) → ∀ n, n < sp.N → n % sp.step = i → (x.dp n ↔ n < m)
  dpd : ∀ i, i < x.j → (x.xs i).s ≤ 7 → ∀ n, n < sp.N → n % sp.step = i → x.dp n
  ms : MSt P sp Φ x.j x.tag x.r0 x.d0 x.a x.W (x.V Option.none)
  wg : WgAt sp.L.tWg sp.Wg x.W x.st x.sm
  mode : Go.ConcN.Mode x.j x.D (x.tag.ctag sp.J x.j) x.st x.sm
  tri : Tri SB sp.Wg k0 x.j x.W.heap.size (owL sp k0 x.j x.O) x.rel x.t
  past : x.tag = .bkW → Past (ShunB SB) x.W.heap.size x.t
  sbO : ∀ k, SB k → x.O k = .none ∨ x.O k = .old
  sbW : SB sp.Wg
  agj : ∀ k i, x.O k = .ag (some i) → i < x.j
  sbV : ∀ k, SB k → ∃ o, (x.V Option.none).heap[k]? = some o ∧ Dead o
def Cf.mu (k0 : Nat) (sp : Gp) (x : Cf) : Nat × (Nat → Rk) × Rk :=
  (x.tag.ph sp.J x.j (Vc x.j x.D) + sumTo x.j (fun i => (x.xs i).s), fun i => if i < k0 then Rk.nat (x.q i) else if i < k0 + x.j then (x.xs (i - k0)).r else .z, x.r0)
end Go.Xq
namespace Go.Xq
open Go.Conc Go.ConcN Go.Conc.Lib Go.ConcR.Gen Go.ConcN.Gen
open Go.ConcR (KK wgBlock WgAt stA smA rd wr mk DC0)
section
variable {P : Program} {sp : Gp} {Φ : Frame → List Frame → World → Prop}
theorem gxr_idle {D : Dealing} {Φ : Frame → List Frame → World → Prop} {r : Rk} {fr : Frame} {cs : List Frame} {w w' : World} (h : @GxR D P Φ r fr cs w) (hi : Idle w w') : @GxR D P Φ r fr cs w' := @GxR.idle D P Φ r fr cs w w' h hi
theorem ContA.idle {j : Nat} {fr : Frame} {cs : List Frame} {v v' : World} (h : ContA P sp Φ j fr cs v) (hi : Idle v v') : ContA P sp Φ j fr cs v' := fun v1 h1 => h v1 (hi.trans h1)
theorem ContW.idle {fr : Frame} {cs : List Frame} {v v' : World} (h : ContW P sp Φ fr cs v) (hi : Idle v v') : ContW P sp Φ fr cs v' := fun v1 v2 h1 => h v1 v2 (hi.trans h1)
theorem MSt.rely {j : Nat} {tag : MT} {r : Rk} {d : Nat} {a : Goroutine} {W W' v v' : World} (h : MSt P sp Φ j tag r d a W v) (hr : RL sp.L.tWg sp.Wg W W') (hi : Idle v v') : MSt P sp Φ j tag r d a W' v' := by
  cases h with
  | idle hw h => exact .idle (hi.some hw) (gxr_idle h hi)
  | pend hj hw h => exact .pend hj (hi.some hw) (gxr_idle h hi)
  | kdA hj hw hc h => exact .kdA hj (hi.some hw) (hc.idle hi) (Goes.rely RL.trans h hr)
  | a1 hj hw hc h => exact .a1 hj (hi.some hw) (hc.idle hi) (Goes.rely RL.trans h hr)
  | said hj hw hc h => exact .said hj (hi.some hw) (hc.idle hi) (Goes.rely RL.trans h hr)
  | keA hj hw hc h => exact .keA hj (hi.some hw) (hc.idle hi) (Goes.rely RL.trans h hr)
  | bkA hj hw hc h => exact .bkA hj (hi.some hw) (hc.idle hi) (Goes.rely RL.trans h hr)
  | kdW hj hw hc hA h => exact .kdW hj (hi.some hw) (hc.idle hi) hA (Goes.rely RL.trans h hr)
  | anch hj hw hc hA h => exact .anch hj (hi.some hw) (hc.idle hi) hA (Goes.rely RL.trans h hr)
  | w1 hj hw hc hA h => exact .w1 hj (hi.some hw) (hc.idle hi) hA (Goes.rely RL.trans h hr)
  | w2 hj hw hc hA h => exact .w2 hj (hi.some hw) (hc.idle hi) hA (Goes.rely RL.trans h hr)
  | w2s hj hw hc h => exact .w2s hj (hi.some hw) (hc.idle hi) (Goes.rely RL.trans h hr)
  | w3 hj hw hc h => exact .w3 hj (hi.some hw) (hc.idle hi) (Goes.rely RL.trans h hr)
  | blk hj hw hc h => exact .blk hj (hi.some hw) (hc.idle hi) fun W2 h2 => h W2 (RL.trans _ _ _ hr h2)
  | w4 hj hw hc h => exact .w4 hj (hi.some hw) (hc.idle hi) (Goes.rely RL.trans h hr)
  | keW hj hw hc h => exact .keW hj (hi.some hw) (hc.idle hi) (Goes.rely RL.trans h hr)
  | acq hj hw hc h => exact .acq hj (hi.some hw) (hc.idle hi) (Goes.rely RL.trans h hr)
  | bkW hj hw hc h => exact .bkW hj (hi.some hw) (hc.idle hi) (Goes.rely RL.trans h hr)
theorem MSt.status {j : Nat} {tag : MT} {r : Rk} {d : Nat} {a : Goroutine} {W v : World} (h : MSt P sp Φ j tag r d a W v) : (a.status = .running ∧ tag ≠ .blk) ∨ (a.status = .blocked ∧ tag = .blk) := by
  have run : ∀ {S : Goroutine → World → Prop} {m : Nat} {g : Goroutine} {W : World}, (∀ g w, S g w → g.status = .running) → GL P sp.L.tWg sp.Wg S m g W → g.status = .running := fun hS hG => Goes.running hS _ (RL.refl _) hG
  cases h with
  | idle => exact .inl ⟨rfl, by simp⟩
  | pend => exact .inl ⟨rfl, by simp⟩
  | kdA _ _ _ h => exact .inl ⟨run (fun _ _ x => x.1) h, by simp⟩
  | a1 _ _ _ h => exact .inl ⟨run (fun _ _ x => x.1) h, by simp⟩
  | said _ _ _ h => exact .inl ⟨run (fun _ _ x => x.1) h, by simp⟩
  | keA _ _ _ h => exact .inl ⟨run (fun _ _ x => x.1) h, by simp⟩
  | bkA _ _ _ h => exact .inl ⟨run (fun _ _ x => by rw [show _ = _ from x]; rfl) h, by simp⟩
  | kdW _ _ _ _ h => exact .inl ⟨run (fun _ _ x => x.1) h, by simp⟩
  | anch _ _ _ _ h => exact .inl ⟨run (fun _ _ x => by obtain ⟨T, rfl, _⟩ := x; rfl) h, by simp⟩
  | w1 _ _ _ _ h => exact .inl ⟨run (fun _ _ x => x.1) h, by simp⟩
  | w2 _ _ _ _ h => exact .inl ⟨run (fun _ _ x => x.1) h, by simp⟩
  | w2s _ _ _ h => exact .inl ⟨run (fun _ _ x => x.1) h, by simp⟩
  | w3 _ _ _ h => exact .inl ⟨run (fun _ _ x => x.1) h, by simp⟩
  | blk _ _ _ h => exact .inr ⟨rfl, rfl⟩
  | w4 _ _ _ h => exact .inl ⟨run (fun _ _ x => x.1) h, by simp⟩
  | keW _ _ _ h => exact .inl ⟨run (fun _ _ x => x.1) h, by simp⟩
  | acq _ _ _ h => exact .inl ⟨run (fun _ _ x => x.1) h, by simp⟩
  | bkW _ _ _ h => exact .inl ⟨run (fun _ _ x => by rw [show _ = _ from x]; rfl) h, by simp⟩
theorem MSt.wokenBy {j : Nat} {tag : MT} {r : Rk} {d : Nat} {a : Goroutine} {W v : World} (h : MSt P sp Φ j tag r d a W v) (g g' : Goroutine) (W' : World) :
    ∃ tag' r', MSt P sp Φ j tag' r' d (Conc.woken P g g' W' a) W v ∧ (tag' = tag ∨ (tag = .blk ∧ tag' = .w3)) ∧ (mayWake P g = true → g'.status = .running → tag' ≠ .blk) := by
  rcases h.status with ⟨hs, hb⟩ | ⟨hs, hb⟩
  · exact ⟨tag, r, by rw [woken_run hs]; exact h, .inl rfl, fun _ _ => hb⟩
  · subst hb
    cases h with
    | blk hj hw hc h =>
      rename_i g0 fr cs
      by_cases hk : (mayWake P g && g'.status != .blocked && g'.status != .waiting) = true
      · obtain ⟨h1, h2, _⟩ := h W (RL.refl W)
        have e : Conc.woken P g g' W' { g0 with status := .blocked } = g0 := by
          unfold Conc.woken
          rw [if_pos hk]
          obtain ⟨f, c, s, dy, o⟩ := g0
          simp only at h1 h2
          subst h1; subst h2
          rfl
        rw [e]
        exact ⟨.w3, _, .w3 (m := 0) hj hw hc (Goes.stop fun W2 h2 => h W2 h2), .inr ⟨rfl, rfl⟩, fun _ _ => by simp⟩
      · refine ⟨.blk, .z, ?_, .inl rfl, fun h1 h2 => ?_⟩
        · unfold Conc.woken
          rw [if_neg hk]
          exact .blk hj hw hc h
        · exact absurd (by simp [h1, h2]) hk
theorem WOk.rely {i : Nat} {x : Wd} {v v' : World} {g : Goroutine} {W W' : World} (h : WOk P sp i x v g W) (hi : Idle v v') (hl : WgLive sp.L.tWg sp.Wg W → WgLive sp.L.tWg sp.Wg W') : WOk P sp i x v' g W' := by
  cases h with
  | work fr cs n hs hd hg h ho hn hw => exact .work fr cs n hs hd hg (gxr_idle h hi) (hi.some ho) hn (hi.some hw)
  | lib m h7 h1 hr h =>
    exact .lib m h7 h1 hr (h.rely hl)
theorem WOk.status {i : Nat} {x : Wd} {v : World} {g : Goroutine} {W : World} (h : WOk P sp i x v g W) : g.status = .running ∨ g.status = .finished := by
  cases h with
  | work fr cs n hs hd hg h ho hn hw => rw [hg]; exact .inl rfl
  | lib m h7 h1 hr h =>
    exact h.status
theorem woken_still {g g' a : Goroutine} {W' : World} (h : a.status = .running ∨ a.status = .finished) : Conc.woken P g g' W' a = a := by
  unfold Conc.woken
  split
  · exact again_running _ h
  · rfl
theorem gs_at {gs : Array Goroutine} {n i : Nat} {g g' a : Goroutine} {W' : World} (hi : gs[i]? = some a) (hne : i ≠ n) : ((gs.map (Conc.woken P g g' W')).setIfInBounds n g')[i]? = some (Conc.woken P g g' W' a) := by
  rw [Array.getElem?_setIfInBounds_ne (Ne.symm hne), Array.getElem?_map, hi]; rfl
theorem gs_me {gs : Array Goroutine} {n : Nat} {g g' a : Goroutine} {W' : World} (hi : gs[n]? = some a) : ((gs.map (Conc.woken P g g' W')).setIfInBounds n g')[n]? = some g' := by
  rw [Array.getElem?_setIfInBounds_self_of_lt (by simpa using (Array.getElem?_eq_some_iff.1 hi).1)]
end
end Go.Xq
