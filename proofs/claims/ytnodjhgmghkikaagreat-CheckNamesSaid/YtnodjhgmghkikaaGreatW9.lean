/- A part of the proof of this seat's statement. Conditions: in each theorem. -/
import Derived.Test.YtnodjhgmghkikaaGreatW8
import Derived.Conc.Own5
namespace Go.Xq
structure Deal where
  pre : Frame → List Frame → World → Prop
  post : Frame → List Frame → World → Frame → List Frame → World → Prop
class Dealing where
  ok : Deal → Prop
def Stays (v v' : World) : Prop := ∀ (k : Nat) (o : Obj), v.heap[k]? = some o → (Dead o ∨ Shr o) → v'.heap[k]? = some o
theorem Stays.refl (v : World) : Stays v v := fun _ _ h _ => h
theorem Stays.trans {v v' v2 : World} (h : Stays v v') (h' : Stays v' v2) : Stays v v2 := fun k o hk hd => h' k o (h k o hk hd) hd
section
variable (P : Program)
def Lifts (fr : Frame) (cs : List Frame) (v : World) (fr' : Frame) (cs' : List Frame) (v' : World) : Prop :=
  ∀ main W, Restr v W → ∃ W' es, stepG P main (Conc.G fr cs) W = .go (Conc.G fr' cs') W' es ∧ (Restr v' W' ∧ Stays v v') ∧ Beside v W W' ∧ ∀ e ∈ es, EvOk v W'.heap.size e
variable [Dealing]
inductive Gx (Φ : Frame → List Frame → World → Prop) : Frame → List Frame → World → Prop
  | stop {fr : Frame} {cs : List Frame} {w : World} (h : ∀ w1, Idle w w1 → Φ fr cs w1) : Gx Φ fr cs w
  | step {fr : Frame} {cs : List Frame} {w : World} (f : World → Frame × List Frame × World) (hl : ∀ w1, Idle w w1 → Lifts P fr cs w1 (f w1).1 (f w1).2.1 (f w1).2.2) (hg : ∀ w1, Idle w w1 → Gx Φ (f w1).1 (f w1).2.1 (f w1).2.2) : Gx Φ fr cs w
  | deal {fr : Frame} {cs : List Frame} {w : World} (d : Deal) (hd : Dealing.ok d) (hp : ∀ w1, Idle w w1 → d.pre fr cs w1) (hg : ∀ w1 fr' cs' w', Idle w w1 → d.post fr cs w1 fr' cs' w' → Gx Φ fr' cs' w') : Gx Φ fr cs w
end
section
variable {P : Program} {fr fr' : Frame} {cs cs' : List Frame} {w w' : World}
theorem Lifts.ctl (h : ∀ main W, stepG P main (Conc.G fr cs) W = .go (Conc.G fr' cs') W #[]) : Lifts P fr cs w fr' cs' w :=
  fun main W hr => ⟨W, #[], h main W, ⟨hr, Stays.refl _⟩, Beside.refl _ _, fun e he => by simp at he⟩
end
section
variable {P : Program} [Dealing] {Φ Ψ : Frame → List Frame → World → Prop} {fr fr' : Frame} {cs cs' : List Frame} {w w' : World}
theorem Gx.bind (h : Gx P Φ fr cs w) (hq : ∀ fr cs w, Φ fr cs w → Gx P Ψ fr cs w) : Gx P Ψ fr cs w := by
  induction h with
  | stop h => exact hq _ _ _ (h _ (Idle.refl _))
  | step f hl _ ih => exact .step f hl ih
  | deal d hd hp _ ih => exact .deal d hd hp ih
theorem Gx.idle (h : Gx P Φ fr cs w) (hi : Idle w w') : Gx P Φ fr cs w' := by
  cases h with
  | stop h => exact .stop fun w1 h1 => h w1 (hi.trans h1)
  | step f hl hg => exact .step f (fun w1 h1 => hl w1 (hi.trans h1)) (fun w1 h1 => hg w1 (hi.trans h1))
  | deal d hd hp hg => exact .deal d hd (fun w1 h1 => hp w1 (hi.trans h1)) (fun w1 fr' cs' w' h1 => hg w1 fr' cs' w' (hi.trans h1))
theorem Gx.mono (h : Gx P Φ fr cs w) (hq : ∀ fr cs w, Φ fr cs w → Ψ fr cs w) : Gx P Ψ fr cs w := by
  induction h with
  | stop h => exact .stop fun w1 h1 => hq _ _ _ (h w1 h1)
  | step f hl _ ih => exact .step f hl ih
  | deal d hd hp _ ih => exact .deal d hd hp ih
theorem Gx.step' (h : ∀ w1, Idle w w1 → ∃ fr' cs' w', Lifts P fr cs w1 fr' cs' w' ∧ Gx P Φ fr' cs' w') : Gx P Φ fr cs w := by
  have key : ∀ w1, ∃ r : Frame × List Frame × World, Idle w w1 → Lifts P fr cs w1 r.1 r.2.1 r.2.2 ∧ Gx P Φ r.1 r.2.1 r.2.2 := by
    intro w1
    by_cases hi : Idle w w1
    · obtain ⟨fr', cs', w', h1, h2⟩ := h w1 hi
      exact ⟨(fr', cs', w'), fun _ => ⟨h1, h2⟩⟩
    · exact ⟨(fr, cs, w), fun h => absurd h hi⟩
  refine .step (fun w1 => (key w1).choose) (fun w1 hi => ((key w1).choose_spec hi).1) (fun w1 hi => ((key w1).choose_spec hi).2)
theorem Gx.ctl (h : ∀ main W, stepG P main (Conc.G fr cs) W = .go (Conc.G fr' cs') W #[]) (hg : Gx P Φ fr' cs' w) : Gx P Φ fr cs w :=
  .step' fun w1 hi => ⟨fr', cs', w1, .ctl h, hg.idle hi⟩
end
theorem EvOk.mono {v : World} {n n' : Nat} (hn : n ≤ n') {e : Event} (h : EvOk v n e) : EvOk v n' e := by
  rcases h with ⟨a, h1, h2, h3, h4⟩ | ⟨r, h1, h2, h3, h4⟩ | h1
  · exact .inl ⟨a, h1, h2, Nat.lt_of_lt_of_le h3 hn, h4⟩
  · exact .inr (.inl ⟨r, h1, h2, Nat.lt_of_lt_of_le h3 hn, h4⟩)
  · exact .inr (.inr h1)
theorem mem_seenOk {P : Program} {fn : FuncId} {v : World} {n : Nat} {es : Array Event} (h : ∀ e ∈ es, EvRaw v n e) : ∀ e ∈ seen P fn es, EvOk v n e := by
  intro e he
  rw [Conc.seen_def] at he
  have key : ∀ (l : List Event) (q : Bool) (kept : Array Event), (∀ x ∈ l, EvRaw v n x) → (∀ x ∈ kept, EvOk v n x) → ∀ x ∈ (l.foldl (Conc.seenStep fun f => (P.funcs[f]?).any (·.norace)) (q, kept)).2, EvOk v n x := by
    intro l
    induction l with
    | nil => intro q kept _ h2; exact h2
    | cons a l ih =>
      intro q kept h1 h2
      rw [List.foldl_cons]
      have ha := h1 a (by simp)
      have hl : ∀ x ∈ l, EvRaw v n x := fun x hx => h1 x (by simp [hx])
      rcases ha with ha | ⟨f, hf⟩
      · have : ∃ q' kept', Conc.seenStep (fun f => (P.funcs[f]?).any (·.norace)) (q, kept) a = (q', kept') ∧ (kept' = kept ∨ kept' = kept.push a) := by
          have hne : ∀ f, a.loc ≠ .mark (.extern f) := by
            rintro f hf
            rcases ha with ⟨_, h3, _⟩ | ⟨_, h3, _⟩ | h3 <;> rw [hf] at h3 <;> cases h3
          cases hloc : a.loc with
          | mark mm =>
            cases mm with
            | extern f => exact absurd hloc (hne f)
            | _ => simp only [Conc.seenStep, hloc]; exact ⟨_, _, rfl, by split <;> simp⟩
          | _ => simp only [Conc.seenStep, hloc]; exact ⟨_, _, rfl, by split <;> simp⟩
        obtain ⟨q', kept', e1, e2⟩ := this
        rw [e1]
        refine ih q' kept' hl ?_
        rcases e2 with rfl | rfl
        · exact h2
        · intro x hx
          rcases Array.mem_push.1 hx with hx | rfl
          · exact h2 x hx
          · exact ha
      · have : Conc.seenStep (fun f => (P.funcs[f]?).any (·.norace)) (q, kept) a = ((P.funcs[f]?).any (·.norace), kept) := by simp [Conc.seenStep, hf]
        rw [this]
        exact ih _ kept hl h2
  exact key _ _ #[] (fun x hx => h x (by simpa using hx)) (by simp) e he
section
variable {m m2 : Ren} {H H2 : AH} {w w1 w2 w3 : World}
theorem Rel.idle (h : Rel m H w) (hi : Idle w w1) : Rel m H w1 := by
  refine ⟨fun b o hb i hm => ?_, h.inj, fun b i hm => ?_, h.glob⟩
  · obtain ⟨x, h1, h2⟩ := h.live b o hb i hm
    exact ⟨x, hi.some h1, h2⟩
  · have := h.bnd b i hm
    exact ⟨this.1, Nat.lt_of_lt_of_le this.2 hi.size⟩
theorem St.idleR (h : St m H w m2 H2 w2) (hi : Idle w2 w3) : St m H w m2 H2 w3 := by
  refine ⟨h.rel.idle hi, h.ext, h.next, hi.os.trans h.os, hi.output.trans h.out, Nat.le_trans h.size hi.size, fun k hk hn => ?_, h.new⟩
  rw [hi.block (Nat.lt_of_lt_of_le hk h.size)]
  exact h.keep k hk hn
theorem St.idleL (h : St m H w1 m2 H2 w2) (hi : Idle w w1) : St m H w m2 H2 w2 := by
  refine ⟨h.rel, h.ext, h.next, h.os.trans hi.os, h.out.trans hi.output, Nat.le_trans hi.size h.size, fun k hk hn => ?_, fun b i hb hl => ?_⟩
  · rw [h.keep k (Nat.lt_of_lt_of_le hk hi.size) hn, hi.block hk]
  · rcases h.new b i hb hl with h1 | h1
    · exact .inl (Nat.le_trans hi.size h1)
    · exact .inr h1
theorem St.ofIdle (h : Rel m H w) (hi : Idle w w1) : St m H w m H w1 := (St.refl h).idleR hi
end
end Go.Xq
namespace Go.Xq
variable [Dealing]
omit [Dealing] in
structure Leaves (P : Program) (fr : Frame) (w : World) (v : Value) : Prop where
  mode : fr.mode = .returning
  defers : fr.defers = []
  fn : ∃ fn, P.funcs[fr.fn]? = some fn ∧ (results fn fr.tmps).run P w = .ok v w
omit [Dealing] in
def CsOk (kind : CallKind) (cs : List Frame) : Prop := kind = .normal ∨ (kind = .deferred ∧ ∃ c r, cs = c :: r ∧ (c.mode = .returning ∨ c.mode = .panicking [goexitEntry]))
omit [Dealing] in
def XQ (P : Program) (kind : CallKind) (f : FuncId) (cs : List Frame) (Q : Value → World → Prop) : Frame → List Frame → World → Prop :=
  fun fr cs' w' => cs' = cs ∧ fr.kind = kind ∧ fr.fn = f ∧ ∀ w1, Idle w' w1 → ∃ v, Q v w1 ∧ Leaves P fr w1 v
def XC (P : Program) (kind : CallKind) (f : FuncId) (args : Array Value) (w : World) (Q : Value → World → Prop) : Prop :=
  ∀ cs, CsOk kind cs → Gx P (XQ P kind f cs Q) (Frame.enter P f args kind) cs w
omit [Dealing] in
def XF (c : Frame) (cs : List Frame) (Q : Value → World → Prop) : Frame → List Frame → World → Prop := fun fr cs' w' => cs' = cs ∧ ∃ v, Q v w' ∧ fr = c.finish v
def XR (P : Program) (l : Nat) (f : FuncId) (tmps : Array Value) (a b : Code) (w : World) (Q : Value → World → Prop) : Prop :=
  ∀ c cs, Gx P (XF c cs Q) (Frame.round l f tmps a b .normal) (c :: cs) w
theorem XC.mono {P : Program} {kind f args w} {Q Q' : Value → World → Prop} (h : XC P kind f args w Q) (hq : ∀ v w', Q v w' → Q' v w') : XC P kind f args w Q' :=
  fun cs hc => (h cs hc).mono fun _ _ _ ⟨h1, h2, h3, h⟩ => ⟨h1, h2, h3, fun w1 hi => let ⟨v, h4, h5⟩ := h w1 hi; ⟨v, hq _ _ h4, h5⟩⟩
theorem XR.mono {P : Program} {l f tmps a b w} {Q Q' : Value → World → Prop} (h : XR P l f tmps a b w Q) (hq : ∀ v w', Q v w' → Q' v w') : XR P l f tmps a b w Q' :=
  fun c cs => (h c cs).mono fun _ _ _ ⟨h1, v, h2, h3⟩ => ⟨h1, v, hq _ _ h2, h3⟩
inductive Outc (P : Program) (s : Sem Next) (w : World) (Q : Value → World → Prop) : Prop
  | value (v : Value) (w' : World) (h : s.run P w = .ok (.value v) w') (hq : Q v w')
  | skip (w' : World) (h : s.run P w = .ok .skip w') (hq : Q undef w')
  | enter (f : FuncId) (args : Array Value) (w1 : World) (h : s.run P w = .ok (.enter f args) w1) (hx : XC P .normal f args w1 Q)
  | round (l : Nat) (f : FuncId) (tmps : Array Value) (a b : Code) (w1 : World) (h : s.run P w = .ok (.round l f tmps a b) w1) (hx : XR P l f tmps a b w1 Q)
omit [Dealing] in
def Post (m : Ren) (H : AH) (w : World) (v : AV) (H2 : AH) : Value → World → Prop := fun v' w' => ∃ m2, St m H w m2 H2 w' ∧ VR m2 v v'
omit [Dealing] in
def Enters (P : Program) (f : FuncId) : Prop := ∃ fn, P.funcs[f]? = some fn ∧ (fn.name == "runtime.NumGoroutine") = false ∧ fn.body.isNone = false
structure RecOk (P : Program) (R : Rec) : Prop where
  call : ∀ f args H v H2, R.call f args H = some (v, H2) → Enters P f ∧ ∀ m w vs, Rel m H w → VL m args vs → XC P .normal f vs.toArray w (Post m H w v H2)
  dcall : ∀ f args H v H2, R.dcall f args H = some (v, H2) → Enters P f ∧ ∀ m w vs, Rel m H w → VL m args vs → XC P .deferred f vs.toArray w (Post m H w v H2)
  round : ∀ l args H v H2, R.round l args H = some (v, H2) → ∀ m w vs i, Rel m H w → VL m args vs → m l = some i →
    ∃ f tmps a b, (Instr.yield i.blk vs.toArray).run P w = .ok (.round i.blk f tmps a b) w ∧ XR P i.blk f tmps a b w (Post m H w v H2)
def HvOk (P : Program) (k : HvK) (o : Oper) : Prop :=
  ∀ (R : Rec), RecOk P R → ∀ (m : Ren) (H : AH) (w : World) (T : Tr AV) (ρ : Operand → Value) (v : AV) (H2 : AH), Rel m H w → ER m T ρ → k.f R T H = some (v, H2) →
    Outc P (execOp ρ o) w (Post m H w v H2)
omit [Dealing] in
theorem undef_ok (m : Ren) : VR m undefA undef := .tup .nil [] .nil
section
variable {P : Program} {E : Env} (hE : TyOk P E) {o : Oper}
omit [Dealing] in
theorem Rel.wrs {m : Ren} {H : AH} {w : World} (hr : Rel m H w) {b : Nat} {x x2 : AObj} {i : BI} {k : Nat} {l : AV} {vs : List Value} (hb : H.get b = some x) (hi : m b = some i) (hv : VL m l vs) (h : wrCells l x k = some x2) :
    ∃ w', (storeCells ⟨i.blk, i.base + k, none⟩ vs).run P w = .ok () w' ∧ St m H w m (H.set b x2) w' := by
  obtain ⟨y, hy, hor⟩ := hr.live _ _ hb _ hi
  by_cases hc : ∃ c e fr, y = .cells c e fr
  · obtain ⟨c, e, fr, rfl⟩ := hc
    obtain ⟨g1, g2, g3, g4⟩ := hor.wrs hv h
    by_cases hn : vs = []
    · subst hn
      refine ⟨w, by simp [storeCells], St.upd hr hb hi g4 ?_ rfl rfl⟩
      apply Array.ext_getElem?
      intro j
      rw [Array.getElem?_setIfInBounds]
      split
      · rename_i e; subst e; split
        · exact hy
        · rename_i h2; rw [Array.getElem?_eq_none (by omega)]
      · rfl
    · have := run_storeCells (P := P) vs 0 c w (o := i.base + k) hy g1 (g2 hn) (by have := g3 hn; omega)
      exact ⟨_, this, St.upd hr hb hi g4 rfl rfl rfl⟩
  · cases hv with
    | nil =>
      simp [wrCells] at h; subst h
      refine ⟨w, by simp [storeCells], St.upd hr hb hi hor ?_ rfl rfl⟩
      apply Array.ext_getElem?
      intro j
      rw [Array.getElem?_setIfInBounds]
      split
      · rename_i e; subst e; split
        · exact hy
        · rename_i h2; rw [Array.getElem?_eq_none (by omega)]
      · rfl
    | cons a v l vs h1 h2 =>
      simp only [wrCells, ob_some] at h
      obtain ⟨o1, h3, _⟩ := h
      obtain ⟨c, e, fr, h4, _⟩ := hor.wr h3 h1
      exact absurd ⟨c, e, fr, h4⟩ hc
include hE
omit [Dealing] in
theorem stK_ok {t : Nat} {k : WK} (h : stK E t = some k) {m : Ren} {H H2 : AH} {w : World} {p v : AV} {u x : Value} (hr : Rel m H w) (hp : VR m p u) (hv : VR m v x) (hk : k.f H v p = some H2) :
    ∃ a w', u = .pointer (some a) ∧ (storeVar t a x).run P w = .ok () w' ∧ St m H w m H2 w' := by
  simp only [stK, ob_some] at h
  obtain ⟨ti, ht, h⟩ := h
  have key : ∀ n, n = ti.size → stN n H v p = some H2 → ∃ a w', u = .pointer (some a) ∧ (storeVar t a x).run P w = .ok () w' ∧ St m H w m H2 w' := by
    intro n hn hk
    simp only [stN, onPtr_some, ob_some, bt_some, Option.some.injEq] at hk
    obtain ⟨b, off, rfl, y, hb, hl, y2, hw, rfl⟩ := hk
    obtain ⟨i, hi, rfl⟩ := hp.ptr_inv
    obtain ⟨w', h1, h2⟩ := hr.wrs (P := P) hb hi hv.cellsT hw
    have hsz : x.cells.size = ti.size := by
      have := hv.cellsT.len; rw [Nat.eq_of_beq_eq_true hl] at this; rw [← hn, this]; simp
    refine ⟨_, w', rfl, ?_, h2⟩
    simp only [storeVar, Sem.run_bind, run_sizeOf hE ht, Result.andThen]
    rw [if_neg (by simp [hsz])]
    exact h1
  split at h
  · rename_i hn
    cases h
    have hn : ti.size = 1 := Nat.eq_of_beq_eq_true hn
    simp only [st1'] at hk
    cases hag : aggB v with
    | true => rw [hag] at hk; exact key 1 hn.symm hk
    | false =>
      rw [hag] at hk
      have hc : cellsA v = .cons v .nil := by cases v <;> first | rfl | (simp [aggB] at hag; done)
      apply key 1 hn.symm
      simp only [bt_false, st1, onPtr_some, ob_some, Option.some.injEq] at hk
      obtain ⟨b, off, rfl, y, hb, y2, hw, rfl⟩ := hk
      simp [stN, onPtr, hb, hc, AV.len, wrCells, hw]
  · cases h
    exact key _ rfl hk
theorem hv_store {t : Nat} {a x : Operand} {k : WK} (h : stK E t = some k) (ho : o.op = .store t a x) : HvOk P ⟨hvStore k a x⟩ o := by
  intro R hR m H w T ρ v H2 hr he hk
  simp only [hvStore, ob_some, Option.some.injEq, Prod.mk.injEq] at hk
  obtain ⟨p, g1, y, g2, H', g3, rfl, rfl⟩ := hk
  obtain ⟨ad, w', e1, h1, h2⟩ := stK_ok hE h hr (he a p g1) (he x y g2) g3
  refine .skip w' ?_ ⟨m, h2, undef_ok m⟩
  simp only [execOp, ho]; apply run_u
  simp [Instr.storeAt, e1, Instr.sureAddr, h1]
end
end Go.Xq
namespace Go.Xq
section
variable {P : Program} {E : Env} (hE : TyOk P E) {o : Oper}
def byteV (n k : Nat) : Value := .int .u8 (.ofNat (byteAt n k))
theorem lengthA_ok {m : Ren} {a : AV} {v : Value} {L : Nat} (hv : VR m a v) (h : lengthA a = some L) (w : World) : (Builtin.lenOf v).run P w = .ok L w := by
  cases a <;> simp [lengthA] at h
  · subst h; rw [hv.snil_inv]; rfl
  · subst h
    obtain ⟨s, rfl, e, _⟩ := hv.str_inv
    subst e
    have : s.size = s.data.toList.length := by simp
    simp only [Builtin.lenOf, Sem.run_pure, this]
  · subst h
    obtain ⟨a, c', rfl, _⟩ := hv.sl_inv
    rfl
theorem map_bytes (s : ByteArray) (n : Nat) (hn : n ≤ s.data.toList.length) : ((s.extract 0 n).data.map fun b => Value.int .u8 b.toNat) = ((List.range n).map (byteV (leNat s.data.toList))).toArray := by
  apply Array.ext_getElem?
  intro k
  by_cases hk : k < n
  · have h1 := bytes_vals s k (by omega)
    have hsz : n ≤ s.data.size := by simpa using hn
    simp only [Array.getElem?_map] at h1 ⊢
    rw [ByteArray.data_extract, Array.getElem?_extract]
    simp [hk, byteV]
    have hk' : k < s.data.size := by omega
    have hss : s.size = s.data.size := rfl
    rw [Array.getElem?_eq_getElem hk'] at h1 ⊢
    exact ⟨_, ⟨by omega, rfl⟩, by simpa using h1⟩
  · have hsz : n ≤ s.data.size := by simpa using hn
    rw [Array.getElem?_eq_none (by simp; omega), Array.getElem?_eq_none (by simp; omega)]
theorem run_loadBytes {w : World} {b o n num : Nat} (h : ∀ k, k < n → w.cell? ⟨b, o + k, none⟩ = some (byteV num k)) :
    (loadCells ⟨b, o, none⟩ n).run P w = .ok ((List.range n).map (byteV num)).toArray w := by
  have := run_loadCells (P := P) (w := w) (b := b) (o := o) (vs := (List.range n).map (byteV num)) (by
    intro k v hk
    have hk2 : k < n := by
      rcases Nat.lt_or_ge k n with h | h
      · exact h
      · rw [List.getElem?_eq_none (by simp; omega)] at hk; cases hk
    rw [List.getElem?_map, List.getElem?_range hk2] at hk
    simp at hk
    rw [h k hk2, hk])
  simpa using this
theorem first_bytes {m : Ren} {H : AH} {w : World} (hr : Rel m H w) {a : AV} {v : Value} {L num n : Nat} (hv : VR m a v) (h : bytesA H a = some (L, num)) (hn : n ≤ L) :
    (Builtin.firstCells 1 n v).run P w = .ok ((List.range n).map (byteV num)).toArray w := by
  cases a <;> simp only [bytesA, Option.some.injEq, Prod.mk.injEq, reduceCtorEq] at h
  · obtain ⟨rfl, rfl⟩ := h
    have : n = 0 := by omega
    subst this
    rw [hv.snil_inv]; rfl
  · obtain ⟨rfl, rfl⟩ := h
    obtain ⟨s, rfl, rfl, rfl⟩ := hv.str_inv
    simp only [Builtin.firstCells, Sem.run_pure, map_bytes s n hn]
  · rename_i b off len c
    obtain ⟨ad, c', rfl, _, hcase⟩ := hv.sl_inv
    by_cases hl : len = 0
    · subst hl
      simp [bytesSl] at h
      have : n = 0 := by omega
      subst this
      simp [Builtin.firstCells, loadCells, loadCellsFrom]
    · rcases hcase with ⟨i, hi, rfl, _⟩ | ⟨e, _⟩
      · obtain ⟨e1, _, e3⟩ := bytesSl_ok hr (fun _ => hi) h
        subst e1
        simp only [Builtin.firstCells, Nat.mul_one]
        exact run_loadBytes fun k hk => e3 k (by omega)
      · exact absurd e hl
theorem first_cells {m : Ren} {H : AH} {w : World} (hr : Rel m H w) {a l : AV} {v : Value} {es n L : Nat} (hv : VR m a v) (hL : lengthA a = some L) (hn : n ≤ L) (h : firstA H es n a = some l) :
    ∃ vs, (∀ w2 : World, w2.heap = w.heap → (Builtin.firstCells es n v).run P w2 = .ok vs.toArray w2) ∧ VL m l vs := by
  cases a <;> simp only [firstA, reduceCtorEq] at h
  · cases h
    rw [hv.snil_inv]
    exact ⟨[], fun _ _ => rfl, .nil⟩
  · rename_i len num
    obtain ⟨s, rfl, rfl, rfl⟩ := hv.str_inv
    simp [lengthA] at hL
    simp only [bt_some] at h
    obtain ⟨_, h⟩ := h
    have hb : ∀ (k j : Nat) (l : AV), rdCells (.bys 0 s.data.toList.length false (leNat s.data.toList)) k j = some l → VL m l ((List.range k).map fun t => byteV (leNat s.data.toList) (j + t)) := by
      intro k
      induction k with
      | zero => intro j l h; cases h; exact .nil
      | succ k ih =>
        intro j l h
        simp only [rdCells, ob_some, rdCell, onObj3, rdBy, bt_some] at h
        obtain ⟨x, ⟨_, h1⟩, l', h2, h3⟩ := h
        cases h1; cases h3
        rw [List.range_succ_eq_map, List.map_cons, List.map_map]
        refine .cons _ _ _ _ (.int _ _) ?_
        have := ih (j + 1) l' h2
        have e : (fun t => byteV (leNat s.data.toList) (j + 1 + t)) = (fun t => byteV (leNat s.data.toList) (j + t)) ∘ Nat.succ := by
          funext t; simp only [Function.comp]; congr 1; omega
        rw [← e]; exact this
    refine ⟨_, fun w2 _ => ?_, hb _ _ _ h⟩
    simp only [Nat.zero_add]
    simp only [Builtin.firstCells, Sem.run_pure]
    rw [map_bytes s n (by simp; omega)]
  · rename_i b off len c
    obtain ⟨ad, c', rfl, _, hcase⟩ := hv.sl_inv
    simp [lengthA] at hL
    subst hL
    cases n with
    | zero =>
      simp at h; subst h
      exact ⟨[], fun w2 _ => by simp [Builtin.firstCells, loadCells, loadCellsFrom], .nil⟩
    | succ n =>
      simp only [nc_succ, ob_some] at h
      obtain ⟨x, hb, h⟩ := h
      rcases hcase with ⟨i, hi, rfl, _⟩ | ⟨e, _⟩
      · obtain ⟨vs, h1, h2, h3⟩ := hr.rds hb hi _ _ _ h
        refine ⟨vs, fun w2 hw2 => ?_, h2⟩
        simp only [Builtin.firstCells]
        have := run_loadCells (P := P) (w := w2) (fun j u hu => by
          have := h3 j u hu
          simp only [World.cell?] at this ⊢
          rw [hw2]; exact this)
        rw [h1] at this
        exact this
      · omega
theorem OR.over {m : Ren} {c : Array Value} {e0 : TypeId} {fr : Nat × Nat} {e sz x off n num : Nat} {op : Bool} {i : BI} {o2 : AObj} (h : OR m (.cells c e0 fr) (.bys e sz op x) i) (hw : overBlk off n num e sz op x = some o2) :
    FZ fr c.size ∧ i.base + off + n ≤ c.size ∧ OR m (.cells (spl c (i.base + off) ((List.range n).map (byteV num))) e0 fr) o2 i := by
  cases h with | bys c fr e size opn nn i hc he hs hf h =>
  simp only [overBlk, bt_some, Option.some.injEq] at hw
  obtain ⟨h1, rfl⟩ := hw
  have h1 : off + n ≤ sz := Nat.le_of_ble_eq_true h1
  refine ⟨hc ▸ hf, by omega, .bys _ _ _ _ _ _ _ (by rw [spl_size]; exact hc) he hs hf ?_⟩
  intro k hk
  have hv : num.mod ((1 : Nat).shiftLeft (Nat.mul 8 n)) < 256 ^ n := by
    show num % (1 <<< (8 * n)) < _
    rw [Nat.shiftLeft_eq, Nat.one_mul, Nat.pow_mul]
    exact Nat.mod_lt _ (Nat.pow_pos (by decide))
  have hv2 : num.mod ((1 : Nat).shiftLeft (Nat.mul 8 n)) = num % 256 ^ n := by
    show num % (1 <<< (8 * n)) = _
    rw [Nat.shiftLeft_eq, Nat.one_mul, Nat.pow_mul]
  rw [spl_get _ _ _ _ (by simp; omega), byteAt_over _ _ _ _ _ hv, hv2]
  simp only [List.length_map, List.length_range]
  by_cases h3 : off ≤ k ∧ k < off + n
  · rw [if_pos (by omega), if_neg (by omega), if_pos (by omega)]
    rw [show i.base + k - (i.base + off) = k - off from by omega, List.getElem?_map, List.getElem?_range (by omega), byteAt_mod _ _ _ (by omega)]
    rfl
  · rw [if_neg (by omega), h k hk]
    by_cases h4 : k < off
    · rw [if_pos h4]
    · rw [if_neg h4, if_neg (by omega)]
theorem layA_ok {m : Ren} {H H2 : AH} {w : World} (hr : Rel m H w) {a : AV} {v : Value} {es b off n L : Nat} {i : BI} (hv : VR m a v) (hL : lengthA a = some L) (hn : n ≤ L) (hi : m b = some i) (h : layA H es b off n a = some H2) :
    ∃ vs w', (Builtin.firstCells es n v).run P w = .ok vs.toArray w ∧ (storeCells ⟨i.blk, i.base + off, none⟩ vs).run P w = .ok () w' ∧ St m H w m H2 w' := by
  simp only [layA, ob_some, onObj_some] at h
  obtain ⟨x, hb, h⟩ := h
  rcases h with ⟨e, s, p, y, rfl, h⟩ | ⟨e, a', s, p, z, t, rfl, h⟩
  · simp only [bt_some, ob_some, Option.some.injEq] at h
    obtain ⟨hes, ⟨L', num⟩, h1, o2, h2, rfl⟩ := h
    have hes := Nat.eq_of_beq_eq_true hes
    subst hes
    have hLL : L' = L := by
      cases a <;> simp [bytesA, lengthA] at h1 hL
      · omega
      · omega
      · rename_i b' off' len' c'
        subst hL
        cases len' with
        | zero => simp [bytesSl] at h1; omega
        | succ j =>
          obtain ⟨ad, c', e1, _, hcase⟩ := hv.sl_inv
          rcases hcase with ⟨i', hi', _⟩ | ⟨e, _⟩
          · exact (bytesSl_ok hr (fun _ => hi') h1).1
          · omega
    subst hLL
    obtain ⟨y, hy, hor⟩ := hr.live _ _ hb _ hi
    have hcells : ∃ c e fr, y = .cells c e fr := by cases hor; exact ⟨_, _, _, rfl⟩
    obtain ⟨c, e0, fr, rfl⟩ := hcells
    obtain ⟨g1, g2, g3⟩ := hor.over h2
    refine ⟨_, _, first_bytes hr hv h1 hn, run_storeCells (P := P) _ 0 c w (o := i.base + off) hy ?_ g1 (by simp; omega), St.upd hr hb hi g3 rfl rfl rfl⟩
    intro u hu
    simp only [List.mem_map] at hu
    obtain ⟨_, _, rfl⟩ := hu
    rfl
  · simp only [Option.some.injEq] at h
    obtain ⟨l, h1, o2, h2, rfl⟩ := h
    obtain ⟨vs, h3, h4⟩ := first_cells (P := P) hr hv hL hn h1
    obtain ⟨w', h5, h6⟩ := hr.wrs (P := P) hb hi h4 h2
    exact ⟨vs, w', h3 w rfl, h5, h6⟩
end
end Go.Xq
namespace Go.Xq
variable [Dealing]
section
variable {P : Program} {E : Env} (hE : TyOk P E) {o : Oper}
omit [Dealing] in
theorem run_setObj {w : World} {r : Nat} {x : Obj} (y : Obj) (h : w.heap[r]? = some x) (hx : ∀ c e f, x ≠ .cells c e f) : (setObj r y).run P w = .ok () { w with heap := w.heap.setIfInBounds r y } := by
  unfold setObj Sem.run
  rw [h]
  cases x <;> first | rfl | exact absurd rfl (hx _ _ _)
omit [Dealing] in
theorem run_builtin_v {c : Call} {b : Builtin} {s : Sem Value} (ho : o.op = .call c) (hc : c.callee = .builtin b) {ρ : Operand → Value}
    (hs : ∀ cs, builtin b c.argTypes o.type cs (c.args.map ρ) = (do pure (.value (← s)))) {w w' : World} {v : Value} (h : s.run P w = .ok v w') :
    (execOp ρ o).run P w = .ok (.value v) w' := by
  rw [run_builtin ho hc, hs]
  exact run_v h
omit [Dealing] in
theorem EntsR.append {m : Ren} {e : MEnt} {f : MapEntry} (he : EntR m e f) : ∀ {l : List MEnt} {k : List MapEntry}, EntsR m l k → EntsR m (l ++ [e]) (k ++ [f])
  | _, _, .nil => .cons _ _ _ _ he .nil
  | _, _, .cons e' f' l k h hl => .cons _ _ _ _ h (hl.append he)
omit [Dealing] in
theorem EntsR.erase {m : Ren} : ∀ {i : Nat} {l : List MEnt} {k : List MapEntry}, EntsR m l k → EntsR m (eraseN i l) (k.eraseIdx i)
  | 0, _, _, .nil => .nil
  | _ + 1, _, _, .nil => .nil
  | 0, _, _, .cons _ _ _ _ _ hl => hl
  | i + 1, _, _, .cons e f l k h hl => .cons _ _ _ _ h (hl.erase (i := i))
omit [Dealing] in
theorem EntsR.setN {m : Ren} {a b : AV} {u v : Value} (ha : VR m a u) (hb : VR m b v) : ∀ {i : Nat} {l : List MEnt} {k : List MapEntry}, EntsR m l k → EntsR m (Go.Xq.setN i a b l) (k.modify i fun e => { e with key := u, val := v })
  | 0, _, _, .nil => .nil
  | _ + 1, _, _, .nil => .nil
  | 0, _, _, .cons e f l k h hl => by
    cases h with | mk h1 h2 h3 =>
    exact .cons _ _ _ _ (.mk _ _ ha hb h3) hl
  | i + 1, _, _, .cons e f l k h hl => .cons _ _ _ _ h (hl.setN ha hb (i := i))
omit [Dealing] in
theorem findA_at {q : KyK} {H : AH} {k : AV} : ∀ {l : List MEnt} {i j : Nat} {a : AV}, findA q H k l i = some (some (j, a)) → ∃ d e, j = i + d ∧ l[d]? = some e ∧ q.f H k e.key = some true
  | [], i, j, a, h => by cases h
  | e :: l, i, j, a, h => by
    simp only [findA, ob_some] at h
    obtain ⟨s, hs, h⟩ := h
    cases s
    · obtain ⟨d, e', h1, h2, h3⟩ := findA_at (i := i + 1) h
      exact ⟨d + 1, e', by omega, by simpa using h2, h3⟩
    · simp only [bt_true, Option.some.injEq, Prod.mk.injEq] at h
      exact ⟨0, e, by omega, rfl, hs⟩
omit [Dealing] in
theorem key_same {t : Nat} {q : KyK} (hq : keyK E t = some q) {m : Ren} {H : AH} {k k2 : AV} {u u2 : Value} (h1 : VR m k u) (h2 : VR m k2 u2) (h : q.f H k k2 = some true) : u = u2 ∧ ∀ n, Instr.sameBits n u u = true := by
  simp only [keyK, ob_some] at hq
  obtain ⟨ti, _, hq⟩ := hq
  split at hq
  · cases hq
    simp only [kyInt] at h
    split at h
    · simp only [bt_some, Option.some.injEq] at h
      rw [h1.int_inv, h2.int_inv, kEq_iff.1 h.1, eqI_iff.1 h.2]
      exact ⟨rfl, fun n => by cases n <;> simp [Instr.sameBits]⟩
    · cases h
  · cases hq
    simp only [kyStr] at h
    split at h
    · obtain ⟨s1, e1, rfl, rfl⟩ := h1.str_inv
      obtain ⟨s2, e2, rfl, rfl⟩ := h2.str_inv
      simp only [Option.some.injEq, sEq_ok] at h
      subst e1; subst e2
      have : s1 = s2 := by
        have := eq_of_beq h
        exact ByteArray.ext (Array.toList_inj.1 this)
      subst this
      exact ⟨rfl, fun n => by cases n <;> simp [Instr.sameBits, beq_toListBytes]⟩
    · cases h
  · cases hq
    simp only [kyBool] at h
    split at h
    · simp only [Option.some.injEq, bEq_iff] at h
      rw [h1.bool_inv, h2.bool_inv, h]
      exact ⟨rfl, fun n => by cases n <;> simp [Instr.sameBits]⟩
    · cases h
  · simp only [ob_some] at hq
    obtain ⟨te, _, hq⟩ := hq
    split at hq
    · cases hq
    · cases hq
      simp only [kyPtr] at h
      split at h
      · rename_i b o' b' o2
        simp only [samePtrA] at h
        by_cases e : Nat.beq b b' = true
        · rw [e] at h
          simp only [bt_true, Option.some.injEq] at h
          have e1 := Nat.eq_of_beq_eq_true e
          have e2 := Nat.eq_of_beq_eq_true h
          subst e1; subst e2
          obtain ⟨i, hi, rfl⟩ := h1.ptr_inv
          obtain ⟨j, hj, rfl⟩ := h2.ptr_inv
          rw [hi] at hj; cases hj
          exact ⟨rfl, fun n => by cases n <;> simp [Instr.sameBits]⟩
        · have e : Nat.beq b b' = false := eq_false_of_ne_true e
          rw [e] at h
          simp only [bt_false, ob_some, bt_some] at h
          obtain ⟨_, _, _, _, _, _, h⟩ := h
          cases h
      · cases h
  · cases hq
include hE
theorem hv_mapSet {t kt et : Nat} {x k v : Operand} {ti : TI} {q : KyK} (h1 : tyOf E t = some ti) (h2 : ti.d = .map kt et) (hq : keyK E kt = some q) (ho : o.op = .mapUpdate t x k v ∨ o.op = .insert t x k v) : HvOk P ⟨mapSetA q x k v⟩ o := by
  intro R hR m H w T ρ res H2 hr he hk
  simp only [mapSetA, ob_some] at hk
  obtain ⟨a, g1, b, g2, c, g3, hk⟩ := hk
  have e1 := he x a g1
  have e2 := he k b g2
  have e3 := he v c g3
  have hop : (execOp ρ o) = (do Instr.mapUpdate t (ρ x) (ρ k) (ρ v); pure .skip) := by
    rcases ho with ho | ho <;> simp only [execOp, ho]
  simp only [onMap_some, reduceCtorEq, and_false, false_or, ob_some, onMp_some] at hk
  obtain ⟨r, rfl, y, hg, es, clock, rfl, s, hf, hk⟩ := hk
  obtain ⟨i, hi, ex⟩ := e1.mp_inv
  obtain ⟨y, hy, hor⟩ := hr.live _ _ hg _ hi
  cases hor with | mp en _ _ _ hen =>
  obtain ⟨r', q1, q2⟩ := findKey_ok hE hq hr e2 hen hf
  rw [hop, ex]
  cases q2 with
  | none =>
    simp only [oc_none, Option.some.injEq, Prod.mk.injEq] at hk
    obtain ⟨rfl, rfl⟩ := hk
    refine .skip _ (run_u (w2 := { w with heap := w.heap.setIfInBounds i.blk (.map (en.push { key := ρ k, val := ρ v, born := clock }) (clock + 1)) }) ?_) ⟨m, St.upd hr hg hi (.mp _ _ _ _ ?_) rfl rfl rfl, undef_ok m⟩
    · simp only [Instr.mapUpdate, Sem.run_bind, run_underlying hE h1, Result.andThen, h2, run_getObj hy (by simp), keyK_check hE hq, q1, run_setObj _ hy (by simp)]
    · rw [Array.toList_push]
      exact hen.append (.mk _ _ e2 e3 rfl)
  | some j av vv hv =>
    simp only [oc_some, Option.some.injEq, Prod.mk.injEq] at hk
    obtain ⟨rfl, rfl⟩ := hk
    obtain ⟨d, e, hd, he2, hsame⟩ := findA_at hf
    have hjd : d = j := by omega
    subst hjd
    obtain ⟨f, hf1, hf2⟩ := hen.get he2
    cases hf2 with | mk hf3 _ _ =>
    obtain ⟨hs1, hs2⟩ := key_same hq e2 hf3 hsame
    have hkey : (en[d]?.map (·.key)).getD (ρ k) = ρ k := by
      have : en[d]? = some f := by rw [← Array.getElem?_toList]; exact hf1
      rw [this]; simp [hs1]
    refine .skip _ (run_u (w2 := { w with heap := w.heap.setIfInBounds i.blk (.map (en.modify d fun e => { e with key := ρ k, val := ρ v }) clock) }) ?_) ⟨m, St.upd hr hg hi (.mp _ _ _ _ ?_) rfl rfl rfl, undef_ok m⟩
    · simp only [Instr.mapUpdate, Sem.run_bind, run_underlying hE h1, Result.andThen, h2, run_getObj hy (by simp), keyK_check hE hq, q1, hkey, Instr.keyThatStays, hs2, if_true, Sem.run_pure, run_setObj _ hy (by simp)]
    · rw [Array.toList_modify]
      exact hen.setN e2 e3
theorem hv_delete {c : Call} {x k : Operand} {t kt et : Nat} {ts : List Nat} {ti : TI} {q : KyK} (h1 : tyOf E t = some ti) (h2 : ti.d = .map kt et) (hq : keyK E kt = some q) (ho : o.op = .call c) (hc : c.callee = .builtin .delete)
    (ha : c.args.toList = [x, k]) (hty : c.argTypes.toList = t :: ts) : HvOk P ⟨deleteA q x k⟩ o := by
  have ea : c.args = #[x, k] := by rw [← ha]
  have et : c.argTypes[0]? = some t := by rw [← Array.getElem?_toList, hty]; rfl
  intro R hR m H w T ρ res H2 hr he hk
  simp only [deleteA, ob_some] at hk
  obtain ⟨a, g1, b, g2, hk⟩ := hk
  have e1 := he x a g1
  have e2 := he k b g2
  simp only [onMap_some, ob_some, onMp_some, Option.some.injEq, Prod.mk.injEq] at hk
  rcases hk with ⟨rfl, rfl, rfl⟩ | ⟨r, rfl, y, hg, es, clock, rfl, s, hf, hk⟩
  · refine .value undef w (run_builtin_v ho hc (fun _ => rfl) ?_) ⟨m, St.refl hr, undef_ok m⟩
    simp only [Builtin.delete_, et, ea, List.map_toArray, List.map_cons, List.map_nil, List.getElem?_toArray, List.getElem?_cons_zero, List.getElem?_cons_succ, Sem.run_bind, run_underlying hE h1, Result.andThen, h2, e1.mnil_inv, keyK_check hE hq, Sem.run_pure]
    rfl
  · obtain ⟨i, hi, ex⟩ := e1.mp_inv
    obtain ⟨y, hy, hor⟩ := hr.live _ _ hg _ hi
    cases hor with | mp en _ _ _ hen =>
    obtain ⟨r', q1, q2⟩ := findKey_ok hE hq hr e2 hen hf
    cases q2 with
    | none =>
      simp only [oc_none, Option.some.injEq, Prod.mk.injEq] at hk
      obtain ⟨rfl, rfl⟩ := hk
      refine .value undef { w with heap := w.heap.setIfInBounds i.blk (.map en clock) } (run_builtin_v ho hc (fun _ => rfl) ?_) ⟨m, St.world hr ?_ rfl rfl, undef_ok m⟩
      · simp only [Builtin.delete_, et, ea, ex, List.map_toArray, List.map_cons, List.map_nil, List.getElem?_toArray, List.getElem?_cons_zero, List.getElem?_cons_succ, Sem.run_bind, run_underlying hE h1, Result.andThen, h2,
          keyK_check hE hq, run_getObj hy (by simp), q1, run_setObj _ hy (by simp), Sem.run_pure]
        rfl
      · apply Array.ext_getElem?
        intro j
        rw [Array.getElem?_setIfInBounds]
        split
        · rename_i e; subst e; split
          · exact hy.symm
          · rename_i h2; rw [Array.getElem?_eq_none (by omega)]
        · rfl
    | some j av vv hv =>
      simp only [oc_some, Option.some.injEq, Prod.mk.injEq] at hk
      obtain ⟨rfl, rfl⟩ := hk
      refine .value undef { w with heap := w.heap.setIfInBounds i.blk (.map (en.eraseIdxIfInBounds j) clock) } (run_builtin_v ho hc (fun _ => rfl) ?_) ⟨m, St.upd hr hg hi (.mp _ _ _ _ ?_) rfl rfl rfl, undef_ok m⟩
      · simp only [Builtin.delete_, et, ea, ex, List.map_toArray, List.map_cons, List.map_nil, List.getElem?_toArray, List.getElem?_cons_zero, List.getElem?_cons_succ, Sem.run_bind, run_underlying hE h1, Result.andThen, h2,
          keyK_check hE hq, run_getObj hy (by simp), q1, run_setObj _ hy (by simp), Sem.run_pure]
        rfl
      · have : (en.eraseIdxIfInBounds j).toList = en.toList.eraseIdx j := by
          simp only [Array.eraseIdxIfInBounds]
          split
          · simp
          · rename_i hlt; rw [List.eraseIdx_of_length_le (by simpa using hlt)]
        rw [this]
        exact hen.erase
theorem hv_clear {c : Call} {x : Operand} {t : Nat} {ts : List Nat} {k : HvK} (h : clearK E t x = some k) (ho : o.op = .call c) (hc : c.callee = .builtin .clear)
    (ha : c.args.toList = [x]) (hty : c.argTypes.toList = t :: ts) : HvOk P k o := by
  have ea : c.args = #[x] := by rw [← ha]
  have et : c.argTypes[0]? = some t := by rw [← Array.getElem?_toList, hty]; rfl
  simp only [clearK, ob_some] at h
  obtain ⟨ti, h1, h⟩ := h
  intro R hR m H w T ρ res H2 hr he hk
  split at h
  · rename_i e hd
    simp only [ob_some, zeroA, Option.some.injEq] at h
    obtain ⟨z, ⟨te, h3, hz⟩, rfl⟩ := h
    simp only [clSlice, ob_some, onSl_some, Option.some.injEq, Prod.mk.injEq] at hk
    obtain ⟨a, g1, hk⟩ := hk
    have e1 := he x a g1
    obtain ⟨zv, q1, q2, _⟩ := run_zeroValue (w := w) hE h3 hz
    rcases hk with ⟨rfl, rfl, rfl⟩ | ⟨b, off, n, cp, rfl, hk⟩
    · refine .value undef w (run_builtin_v ho hc (fun _ => rfl) ?_) ⟨m, St.refl hr, undef_ok m⟩
      simp only [Builtin.clear_, et, ea, List.map_toArray, List.map_cons, List.map_nil, List.getElem?_toArray, List.getElem?_cons_zero, Sem.run_bind, run_underlying hE h1, Result.andThen, hd, e1.snil_inv, Sem.run_pure]
      rfl
    · obtain ⟨ad, c', ex, _, hcase⟩ := e1.sl_inv
      cases n with
      | zero =>
        simp only [nc_zero, Option.some.injEq, Prod.mk.injEq] at hk
        obtain ⟨rfl, rfl⟩ := hk
        refine .value undef w (run_builtin_v ho hc (fun _ => rfl) ?_) ⟨m, St.refl hr, undef_ok m⟩
        simp only [Builtin.clear_, et, ea, ex, List.map_toArray, List.map_cons, List.map_nil, List.getElem?_toArray, List.getElem?_cons_zero, Sem.run_bind, run_underlying hE h1, Result.andThen, hd, Sem.run_pure]
        rfl
      | succ n =>
        simp only [nc_succ, ob_some, storeAll, Option.some.injEq, Prod.mk.injEq] at hk
        obtain ⟨H', ⟨y, hb, y2, hw, rfl⟩, rfl, rfl⟩ := hk
        rcases hcase with ⟨i, hi, rfl, _⟩ | ⟨e, _⟩
        · obtain ⟨w', g2, g3⟩ := hr.wrs (P := P) hb hi (zerosA_ok (q2 m).cellsT (n + 1)) hw
          refine .value undef w' (run_builtin_v ho hc (fun _ => rfl) ?_) ⟨m, g3, undef_ok m⟩
          have hz : (Builtin.zeroCells zv.cells (n + 1)).toList = (List.replicate (n + 1) zv.cells.toList).flatten := by
            rw [Builtin.zeroCells, zeros_arr]
          simp only [Builtin.clear_, et, ea, ex, List.map_toArray, List.map_cons, List.map_nil, List.getElem?_toArray, List.getElem?_cons_zero, Sem.run_bind, run_underlying hE h1, Result.andThen, hd, q1, hz, g2, Sem.run_pure]
          rfl
        · omega
  · rename_i hd
    simp only [Option.some.injEq] at h
    subst h
    simp only [clMap, ob_some, onMap_some, onMp_some, Option.some.injEq, Prod.mk.injEq] at hk
    obtain ⟨a, g1, hk⟩ := hk
    have e1 := he x a g1
    rcases hk with ⟨rfl, rfl, rfl⟩ | ⟨r, rfl, y, hg, es, clock, rfl, rfl, rfl⟩
    · refine .value undef w (run_builtin_v ho hc (fun _ => rfl) ?_) ⟨m, St.refl hr, undef_ok m⟩
      simp only [Builtin.clear_, et, ea, List.map_toArray, List.map_cons, List.map_nil, List.getElem?_toArray, List.getElem?_cons_zero, Sem.run_bind, run_underlying hE h1, Result.andThen, hd, e1.mnil_inv, Sem.run_pure]
      rfl
    · obtain ⟨i, hi, ex⟩ := e1.mp_inv
      obtain ⟨y, hy, hor⟩ := hr.live _ _ hg _ hi
      cases hor with | mp en _ _ _ hen =>
      refine .value undef { w with heap := w.heap.setIfInBounds i.blk (.map #[] clock) } (run_builtin_v ho hc (fun _ => rfl) ?_) ⟨m, St.upd hr hg hi (.mp _ _ _ _ .nil) rfl rfl rfl, undef_ok m⟩
      simp only [Builtin.clear_, et, ea, ex, List.map_toArray, List.map_cons, List.map_nil, List.getElem?_toArray, List.getElem?_cons_zero, Sem.run_bind, run_underlying hE h1, Result.andThen, hd, run_getObj hy (by simp), run_setObj _ hy (by simp), Sem.run_pure]
      rfl
  · cases h
theorem hv_copy {c : Call} {d s : Operand} {t e : Nat} {ts : List Nat} {ti te : TI} (h1 : tyOf E t = some ti) (h2 : ti.d = .slice e) (h3 : tyOf E e = some te) (ho : o.op = .call c) (hc : c.callee = .builtin .copy)
    (ha : c.args.toList = [d, s]) (hty : c.argTypes.toList = t :: ts) : HvOk P ⟨hvCopy te.size d s⟩ o := by
  have ea : c.args = #[d, s] := by rw [← ha]
  have et : c.argTypes[0]? = some t := by rw [← Array.getElem?_toList, hty]; rfl
  intro R hR m H w T ρ res H2 hr he hk
  simp only [hvCopy, copyA, ob_some] at hk
  obtain ⟨a, g1, b, g2, L, hL, hk⟩ := hk
  have e1 := he d a g1
  have e2 := he s b g2
  have hlen := lengthA_ok (P := P) e2 hL w
  have zero : ∀ (w : World), (Builtin.firstCells te.size 0 (ρ s)).run P w = .ok #[] w := by
    intro w
    cases b <;> simp [lengthA] at hL
    · rw [e2.snil_inv]; rfl
    · obtain ⟨st, e, _⟩ := e2.str_inv
      rw [e]
      simp [Builtin.firstCells]
    · obtain ⟨ad, c', e, _⟩ := e2.sl_inv
      rw [e]
      simp [Builtin.firstCells, loadCells, loadCellsFrom]
  simp only [onSl_some, Option.some.injEq, Prod.mk.injEq] at hk
  rcases hk with ⟨rfl, rfl, rfl⟩ | ⟨bb, off, n, cp, rfl, hk⟩
  · refine .value (.int .i64 0) w (run_builtin_v ho hc (fun _ => rfl) ?_) ⟨m, St.refl hr, .int _ _⟩
    simp only [Builtin.copy_, et, ea, List.map_toArray, List.map_cons, List.map_nil, List.getElem?_toArray, List.getElem?_cons_zero, List.getElem?_cons_succ, Sem.run_bind, run_underlying hE h1, Result.andThen, h2, e1.snil_inv, Sem.run_pure, hlen,
      run_sizeOf hE h3, Nat.min_eq_min, Nat.min_zero, zero, goInt]
    rfl
  · obtain ⟨ad, c', ex, _, hcase⟩ := e1.sl_inv
    by_cases hmn : Nat.min L n = 0
    · rw [hmn] at hk
      simp only [nc_zero, Option.some.injEq, Prod.mk.injEq] at hk
      obtain ⟨rfl, rfl⟩ := hk
      refine .value (.int .i64 0) w (run_builtin_v ho hc (fun _ => rfl) ?_) ⟨m, St.refl hr, .int _ _⟩
      simp only [Builtin.copy_, et, ea, ex, List.map_toArray, List.map_cons, List.map_nil, List.getElem?_toArray, List.getElem?_cons_zero, List.getElem?_cons_succ, Sem.run_bind, run_underlying hE h1, Result.andThen, h2, Sem.run_pure, hlen,
        run_sizeOf hE h3, hmn, zero, goInt, storeCells]
      rfl
    · obtain ⟨j, hj⟩ : ∃ j, Nat.min L n = j + 1 := ⟨Nat.min L n - 1, by omega⟩
      rw [hj] at hk
      simp only [nc_succ, ob_some, Option.some.injEq, Prod.mk.injEq] at hk
      obtain ⟨H', hlay, rfl, rfl⟩ := hk
      have hle : j + 1 ≤ L ∧ j + 1 ≤ n := by rw [← hj]; exact ⟨Nat.min_le_left _ _, Nat.min_le_right _ _⟩
      rcases hcase with ⟨i, hi, rfl, _⟩ | ⟨e, _⟩
      · obtain ⟨vs, w', q1, q2, q3⟩ := layA_ok (P := P) hr e2 hL hle.1 hi hlay
        refine .value (goInt (j + 1 : Nat)) w' (run_builtin_v ho hc (fun _ => rfl) ?_) ⟨m, q3, .int _ _⟩
        simp only [Builtin.copy_, et, ea, ex, List.map_toArray, List.map_cons, List.map_nil, List.getElem?_toArray, List.getElem?_cons_zero, List.getElem?_cons_succ, Sem.run_bind, run_underlying hE h1, Result.andThen, h2, Sem.run_pure, hlen,
          run_sizeOf hE h3, hj, q1, q2]
      · omega
end
end Go.Xq
