/- A part of the proof of this seat's statement. Conditions: in each theorem. -/
import Derived.Test.YtnodjhgmghkikaaGreatW12
namespace Go.Xq
section
variable {P : Program} {main : Bool} {b c : Frame} {a : Act} {k : List Item} {cs : List Frame} {W : World}
theorem gR_skip : stepG P main (Conc.G (b.atR a (.code .skip :: k)) cs) W = .go (Conc.G (b.atR a k) cs) W #[] := by simp [Conc.G, stepG, stepG.exec, Frame.atR]
theorem gR_label {l : Nat} : stepG P main (Conc.G (b.atR a (.code (.label l) :: k)) cs) W = .go (Conc.G (b.atR a k) cs) W #[] := by simp [Conc.G, stepG, stepG.exec, Frame.atR]
theorem gR_inBlock {id : Nat} : stepG P main (Conc.G (b.atR a (.inBlock id :: k)) cs) W = .go (Conc.G (b.atR a k) cs) W #[] := by simp [Conc.G, stepG, stepG.exec, Frame.atR]
theorem gR_scope {x : Code} : stepG P main (Conc.G (b.atR a (.code (.scope x) :: k)) cs) W = .go (Conc.G (b.atR a (.code x :: .inScope x :: k)) cs) W #[] := by simp [Conc.G, stepG, stepG.exec, Frame.atR]
theorem gR_inScope {x : Code} : stepG P main (Conc.G (b.atR a (.inScope x :: k)) cs) W = .go (Conc.G (b.atR a k) cs) W #[] := by simp [Conc.G, stepG, stepG.exec, Frame.atR]
theorem gR_seq {x y : Code} : stepG P main (Conc.G (b.atR a (.code (.seq x y) :: k)) cs) W = .go (Conc.G (b.atR a (.code x :: .code y :: k)) cs) W #[] := by simp [Conc.G, stepG, stepG.exec, Frame.atR]
theorem gR_cond {q : Operand} {x y : Code} {t : Bool} (h : a.eval q = .bool t) : stepG P main (Conc.G (b.atR a (.code (.cond q x y) :: k)) cs) W = .go (Conc.G (b.atR a (.code (if t then x else y) :: k)) cs) W #[] := by
  have := congrFun (Frame.eval_atR b a (.code (.cond q x y) :: k)) q
  simp only [Frame.atR] at this
  simp [Conc.G, stepG, stepG.exec, Frame.atR, this, h]
theorem gR_block {id : Nat} {x : Code} : stepG P main (Conc.G (b.atR a (.code (.block id x) :: k)) cs) W = .go (Conc.G (b.atR a (.code x :: .inBlock id :: k)) cs) W #[] := by simp [Conc.G, stepG, stepG.exec, Frame.atR]
theorem gR_loop {x : Code} : stepG P main (Conc.G (b.atR a (.code (.loop x) :: k)) cs) W = .go (Conc.G (b.atR a (.code x :: .inLoop x :: k)) cs) W #[] := by simp [Conc.G, stepG, stepG.exec, Frame.atR]
theorem gR_inLoop {x : Code} : stepG P main (Conc.G (b.atR a (.inLoop x :: k)) cs) W = .go (Conc.G (b.atR a (.code x :: .inLoop x :: k)) cs) W #[] := by simp [Conc.G, stepG, stepG.exec, Frame.atR]
theorem gR_exit {id : Nat} {k' : List Item} (h : exitTo id k = some k') : stepG P main (Conc.G (b.atR a (.code (.exit id) :: k)) cs) W = .go (Conc.G (b.atR a k') cs) W #[] := by simp [Conc.G, stepG, stepG.exec, Frame.atR, h]
theorem gR_ret (hb : b.roundOf = none) : stepG P main (Conc.G (b.atR a (.code .ret :: k)) cs) W = .go (Conc.G { b.atR a (.code .ret :: k) with mode := .returning } cs) W #[] := by simp [Conc.G, stepG, stepG.exec, Frame.atR, hb]
theorem gR_end (hb : b.roundOf = none) : stepG P main (Conc.G (b.atR a []) cs) W = .go (Conc.G { b.atR a [] with mode := .returning } cs) W #[] := by simp [Conc.G, stepG, stepG.exec, Frame.atR, hb]
variable {ops : Array Oper}
theorem gR_region {id : Nat} : stepG P main (Conc.G (b.atR a (.code (.region id ops false) :: k)) cs) W = .go (Conc.G (b.atR a (.inRegion ops (List.range ops.size) :: k)) cs) W #[] := by simp [Conc.G, stepG, stepG.exec, Frame.atR]
theorem gR_draw {id : Nat} : stepG P main (Conc.G (b.atR a (.code (.region id ops true) :: k)) cs) W = .go (Conc.G (b.atR a (.inRegion ops (Region.schedule (P.follows .mixedOrders) ops (W.tape W.drawn (.order b.fn id))) :: k)) cs) { W with drawn := W.drawn + 1 } #[] := by
  simp [Conc.G, stepG, stepG.exec, Frame.atR, choose, Sem.run, Question.forced, Question.cut]
theorem gR_regEnd : stepG P main (Conc.G (b.atR a (.inRegion ops [] :: k)) cs) W = .go (Conc.G (b.atR a k) cs) W #[] := by simp [Conc.G, stepG, stepG.exec, Frame.atR]
theorem gR_opSkip {i : Nat} {rest : List Nat} (h : ((ops[i]?).map (Region.wanted · (yielded ops a.tmps))).getD false = false) :
    stepG P main (Conc.G (b.atR a (.inRegion ops (i :: rest) :: k)) cs) W = .go (Conc.G (b.atR (a.put ((ops[i]?).bind (·.dst)) undef) (.inRegion ops rest :: k)) cs) W #[] := by
  rw [← Frame.finish_atR]
  have h' := h
  simp only [Frame.atR] at *
  simp [Conc.G, stepG, stepG.exec, h']
theorem gR_op {i : Nat} {rest : List Nat} {o : Oper} (ho : ops[i]? = some o) (hw : Region.wanted o (yielded ops a.tmps) = true) :
    stepG P main (Conc.G (b.atR a (.inRegion ops (i :: rest) :: k)) cs) W = stepG.apply P true (b.atR a (.inRegion ops (i :: rest) :: k)) cs none (o.semAt b.roundOf a.eval) W := by
  have he := Frame.eval_atR b a (.inRegion ops (i :: rest) :: k)
  simp only [Frame.atR] at he
  simp only [Conc.G, stepG, stepG.exec, stepG.oper, Frame.oper?, Frame.atR, ho, hw, he, Option.map_some, Option.getD_some, if_true, Oper.semAt]
  cases b.roundOf <;> cases o.op <;> rfl
end
section
variable {P : Program}
theorem lift_run {α : Type} {s : Sem α} {x : α} {v v' W : World} (fn : FuncId) (hq : QG P s v) (hrun : s.run P v = .ok x v') (hr : Restr v W) :
    ∃ W', s.run P W = .ok x W' ∧ (Restr v' W' ∧ Stays v v') ∧ Beside v W W' ∧ ∀ e ∈ seen P fn (s.events P W #[]), EvOk v W'.heap.size e := by
  obtain ⟨hs, _⟩ := hq x v' hr.nv hrun
  obtain ⟨W', es, h1, h2, _, h3⟩ := sim hr (es := #[]) hs (Dur.start hr) hrun
  rw [Sem.runT_eq] at h1
  injection h1 with h4 h5
  refine ⟨W', h4, ⟨h2.restr hr, fun k o hk hd => (h2.dead k o hk hd).1⟩, h2.beside hr, ?_⟩
  rw [h5]
  exact mem_seenOk (by simpa using h3)
theorem seen_pick {b : Bool} {fn : FuncId} {v : World} {n : Nat} {es : Array Event} (h : ∀ e ∈ seen P fn es, EvOk v n e) : ∀ e ∈ seen P fn (if b = true then #[] else es), EvOk v n e := by
  split
  · intro e he; rw [show seen P fn #[] = #[] from rfl] at he; simp at he
  · exact h
theorem Lifts.apply {fr : Frame} {cs : List Frame} {s : Sem Next} {x : Next} {v v' : World} {fr' : Frame} {cs' : List Frame} (hq : QG P s v) (hrun : s.run P v = .ok x v')
    (hst : ∀ main W, stepG P main (Conc.G fr cs) W = stepG.apply P true fr cs none s W)
    (hx : ∀ W W', s.run P W = .ok x W' → stepG.apply P true fr cs none s W = .go (Conc.G fr' cs') W' (seen P fr.fn (if (fr.kind == .early) = true then #[] else s.events P W #[]))) : Lifts P fr cs v fr' cs' v' := by
  intro main W hr
  obtain ⟨W', h1, h2, h3, h4⟩ := lift_run fr.fn hq hrun hr
  exact ⟨W', _, by rw [hst, hx W W' h1], h2, h3, seen_pick h4⟩
theorem plain_results {fn : Func} {ts : Array Value} : Plain P (results fn ts) := by
  unfold results
  refine (plain_mapMA (fun x => ?_) _).bind fun _ => plain_pure
  split
  · exact plain_pure
  · exact plain_asAddr.bind fun _ => plain_loadVar
theorem lift_runD {α : Type} {s : Sem α} {x : α} {v v' W : World} (fn : FuncId) (hq : QG P s v) (hrun : s.run P v = .ok x v') (hr : Restr v W) :
    ∃ W', s.run P W = .ok x W' ∧ Dur v W v' W' ∧ ∀ e ∈ seen P fn (s.events P W #[]), EvOk v W'.heap.size e := by
  obtain ⟨hs, _⟩ := hq x v' hr.nv hrun
  obtain ⟨W', es, h1, h2, _, h3⟩ := sim hr (es := #[]) hs (Dur.start hr) hrun
  rw [Sem.runT_eq] at h1
  injection h1 with h4 h5
  refine ⟨W', h4, h2, ?_⟩
  rw [h5]
  exact mem_seenOk (by simpa using h3)
theorem Dur.ev {v W v' W' : World} (h : Dur v W v' W') {n : Nat} {e : Event} (he : EvOk v' n e) : EvOk v n e := by
  have key : ∀ (k : Nat) (o : Obj), v'.heap[k]? = some o → ¬ Dead o → v.heap.size ≤ k ∨ ∃ o', v.heap[k]? = some o' ∧ ¬ Dead o' ∧ (¬ Shr o → ¬ Shr o') := by
    intro k o ho hd
    by_cases hs : v.heap.size ≤ k
    · exact .inl hs
    · have hv : v.heap[k]? = some (v.heap[k]'(by omega)) := by simp
      refine .inr ⟨_, hv, ?_, ?_⟩
      · intro e
        have := (h.dead k _ hv (.inl e)).1
        rw [ho] at this; cases this
        exact hd e
      · intro hn hs'
        have := (h.dead k _ hv (.inr hs')).1
        rw [ho] at this; cases this
        exact hn hs'
  rcases he with ⟨a, h1, h2, hlt, h3⟩ | ⟨r, h1, h2, hlt, h3⟩ | h1
  · refine .inl ⟨a, h1, h2, hlt, ?_⟩
    rcases h3 with h3 | ⟨o, h3, h4, h5⟩
    · exact .inl (Nat.le_trans h.grown h3)
    · rcases key _ o h3 h4 with h6 | ⟨o', h6, h7, h8⟩
      · exact .inl h6
      · exact .inr ⟨o', h6, h7, fun hw => h8 (h5 hw)⟩
  · refine .inr (.inl ⟨r, h1, h2, hlt, ?_⟩)
    rcases h3 with h3 | ⟨o, h3, h4, h5⟩
    · exact .inl (Nat.le_trans h.grown h3)
    · rcases key _ o h3 h4 with h6 | ⟨o', h6, h7, h8⟩
      · exact .inl h6
      · exact .inr ⟨o', h6, h7, h8 h5⟩
  · exact .inr (.inr h1)
theorem Beside.trans {v W v' W' W2 : World} (hr : Restr v W) (h : Dur v W v' W') (h' : Beside v' W' W2) : Beside v W W2 := by
  have hb := h.beside hr
  exact ⟨h'.tape.trans hb.tape, h'.os.trans hb.os, h'.output.trans hb.output, Nat.le_trans hb.size h'.size, fun k o hk hd => by
    rw [h'.block k o (h.dead k o hk hd).1 hd, hb.block k o hk hd]⟩
end
end Go.Xq
namespace Go.Xq
variable [Dealing]
omit [Dealing] in
abbrev Sit := Frame × List Frame × World
omit [Dealing] in
def lone (fr : Frame) (cs : List Frame) (w : World) : Sit := (fr, cs, w)
def Steps (P : Program) (s s' : Sit) : Prop := ∀ Φ, Gx P Φ s'.1 s'.2.1 s'.2.2 → Gx P Φ s.1 s.2.1 s.2.2
omit [Dealing] in
def Ctl (P : Program) (s s' : Sit) : Prop := s'.2.2 = s.2.2 ∧ ∀ main W, stepG P main (Conc.G s.1 s.2.1) W = .go (Conc.G s'.1 s'.2.1) W #[]
theorem Steps.refl (P : Program) (s : Sit) : Steps P s s := fun _ h => h
theorem Steps.trans {P : Program} {s s' s2 : Sit} (h : Steps P s s') (h' : Steps P s' s2) : Steps P s s2 := fun Φ g => h Φ (h' Φ g)
theorem Steps.one {P : Program} {s s' : Sit} (h : Ctl P s s') : Steps P s s' := fun Φ g => .ctl h.2 (by rw [← h.1]; exact g)
theorem Steps.head {P : Program} {s s' s2 : Sit} (h : Ctl P s s') (h' : Steps P s' s2) : Steps P s s2 := (Steps.one h).trans h'
section
variable {P : Program} {E : Env} {b : Frame} {a : Act} {K : List Item} {cs : List Frame} {w : World} {ops : Array Oper}
omit [Dealing] in
theorem stepR_skip : Ctl P (lone (b.atR a (.code .skip :: K)) cs w) (lone (b.atR a K) cs w) := ⟨rfl, fun _ _ => gR_skip⟩
omit [Dealing] in
theorem stepR_label {l : Nat} : Ctl P (lone (b.atR a (.code (.label l) :: K)) cs w) (lone (b.atR a K) cs w) := ⟨rfl, fun _ _ => gR_label⟩
omit [Dealing] in
theorem stepR_inBlock {id : Nat} : Ctl P (lone (b.atR a (.inBlock id :: K)) cs w) (lone (b.atR a K) cs w) := ⟨rfl, fun _ _ => gR_inBlock⟩
omit [Dealing] in
theorem stepR_scope {c : Code} : Ctl P (lone (b.atR a (.code (.scope c) :: K)) cs w) (lone (b.atR a (.code c :: .inScope c :: K)) cs w) := ⟨rfl, fun _ _ => gR_scope⟩
omit [Dealing] in
theorem stepR_inScope {c : Code} : Ctl P (lone (b.atR a (.inScope c :: K)) cs w) (lone (b.atR a K) cs w) := ⟨rfl, fun _ _ => gR_inScope⟩
omit [Dealing] in
theorem stepR_seq {x y : Code} : Ctl P (lone (b.atR a (.code (.seq x y) :: K)) cs w) (lone (b.atR a (.code x :: .code y :: K)) cs w) := ⟨rfl, fun _ _ => gR_seq⟩
omit [Dealing] in
theorem stepR_cond {q : Operand} {x y : Code} {t : Bool} (h : a.eval q = .bool t) : Ctl P (lone (b.atR a (.code (.cond q x y) :: K)) cs w) (lone (b.atR a (.code (if t then x else y) :: K)) cs w) := ⟨rfl, fun _ _ => gR_cond h⟩
omit [Dealing] in
theorem stepR_block {id : Nat} {x : Code} : Ctl P (lone (b.atR a (.code (.block id x) :: K)) cs w) (lone (b.atR a (.code x :: .inBlock id :: K)) cs w) := ⟨rfl, fun _ _ => gR_block⟩
omit [Dealing] in
theorem stepR_loop {x : Code} : Ctl P (lone (b.atR a (.code (.loop x) :: K)) cs w) (lone (b.atR a (.code x :: .inLoop x :: K)) cs w) := ⟨rfl, fun _ _ => gR_loop⟩
omit [Dealing] in
theorem stepR_inLoop {x : Code} : Ctl P (lone (b.atR a (.inLoop x :: K)) cs w) (lone (b.atR a (.code x :: .inLoop x :: K)) cs w) := ⟨rfl, fun _ _ => gR_inLoop⟩
omit [Dealing] in
theorem stepR_exit {id : Nat} {k' : List Item} (h : exitTo id K = some k') : Ctl P (lone (b.atR a (.code (.exit id) :: K)) cs w) (lone (b.atR a k') cs w) := ⟨rfl, fun _ _ => gR_exit h⟩
omit [Dealing] in
theorem stepR_ret (hb : b.roundOf = none) : Ctl P (lone (b.atR a (.code .ret :: K)) cs w) (lone { b.atR a (.code .ret :: K) with mode := .returning } cs w) := ⟨rfl, fun _ _ => gR_ret hb⟩
omit [Dealing] in
theorem stepR_end (hb : b.roundOf = none) : Ctl P (lone (b.atR a []) cs w) (lone { b.atR a [] with mode := .returning } cs w) := ⟨rfl, fun _ _ => gR_end hb⟩
omit [Dealing] in
theorem stepR_region {id : Nat} : Ctl P (lone (b.atR a (.code (.region id ops false) :: K)) cs w) (lone (b.atR a (.inRegion ops (List.range ops.size) :: K)) cs w) := ⟨rfl, fun _ _ => gR_region⟩
omit [Dealing] in
theorem stepR_region_end : Ctl P (lone (b.atR a (.inRegion ops [] :: K)) cs w) (lone (b.atR a K) cs w) := ⟨rfl, fun _ _ => gR_regEnd⟩
omit [Dealing] in
theorem stepR_op_skip {i : Nat} {rest : List Nat} (h : ((ops[i]?).map (Region.wanted · (yielded ops a.tmps))).getD false = false) :
    Ctl P (lone (b.atR a (.inRegion ops (i :: rest) :: K)) cs w) (lone (b.atR (a.put ((ops[i]?).bind (·.dst)) undef) (.inRegion ops rest :: K)) cs w) := ⟨rfl, fun _ _ => gR_opSkip h⟩
theorem step_leave {fr c : Frame} {Q : Value → World → Prop} {Φ : Frame → List Frame → World → Prop} (h : ∀ w1, Idle w w1 → ∃ v, Q v w1 ∧ Leaves P fr w1 v) (hk : fr.kind = .normal) (hc : ∀ v w', Q v w' → Gx P Φ (c.finish v) cs w') : Gx P Φ fr (c :: cs) w := by
  refine .step' fun w1 hi => ?_
  obtain ⟨v, h1, h2⟩ := h w1 hi
  obtain ⟨fn, hf, hr⟩ := h2.fn
  refine ⟨c.finish v, cs, w1, fun main W hR => ?_, hc v w1 h1⟩
  obtain ⟨W', g1, g2, g3, g4⟩ := lift_run fr.fn plain_results.qg hr hR
  exact ⟨W', _, by simp [Conc.G, stepG, unwind, doReturn, h2.mode, h2.defers, hk, hf, g1]; rfl, g2, g3, g4⟩
theorem step_leave_deferred {fr c : Frame} {Q : Value → World → Prop} {Φ : Frame → List Frame → World → Prop} (h : ∀ w1, Idle w w1 → ∃ v, Q v w1 ∧ Leaves P fr w1 v) (hk : fr.kind = .deferred) (hm : c.mode = .returning) (hc : ∀ v w', Q v w' → Gx P Φ c cs w') : Gx P Φ fr (c :: cs) w := by
  refine .step' fun w1 hi => ?_
  obtain ⟨v, h1, h2⟩ := h w1 hi
  obtain ⟨fn, hf, hr⟩ := h2.fn
  refine ⟨c, cs, w1, fun main W hR => ?_, hc v w1 h1⟩
  obtain ⟨W', g1, g2, g3, g4⟩ := lift_run fr.fn plain_results.qg hr hR
  exact ⟨W', _, by simp [Conc.G, stepG, unwind, doReturn, h2.mode, h2.defers, hk, hf, g1, hm]; rfl, g2, g3, g4⟩
theorem step_op {i : Nat} {rest : List Nat} {o : Oper} {Q : Value → World → Prop} {Φ : Frame → List Frame → World → Prop} (ho : ops[i]? = some o) (hw : Region.wanted o (yielded ops a.tmps) = true) (hs : o.semAt b.roundOf a.eval = execOp a.eval o)
    (h : ∀ w1, Idle w w1 → QG P (execOp a.eval o) w1 ∧ Outc P (execOp a.eval o) w1 Q) (hk : ∀ v w', Q v w' → Gx P Φ (b.atR (a.put o.dst v) (.inRegion ops rest :: K)) cs w') :
    Gx P Φ (b.atR a (.inRegion ops (i :: rest) :: K)) cs w := by
  have hg : ∀ main W, stepG P main (Conc.G (b.atR a (.inRegion ops (i :: rest) :: K)) cs) W = stepG.apply P true (b.atR a (.inRegion ops (i :: rest) :: K)) cs none (execOp a.eval o) W := fun main W => by
    rw [gR_op ho hw, hs]
  have hfin : ∀ v, (b.atR a (.inRegion ops (i :: rest) :: K)).finish v = b.atR (a.put o.dst v) (.inRegion ops rest :: K) := by
    intro v; rw [Frame.finish_atR, ho]; rfl
  refine .step' fun w1 hi => ?_
  obtain ⟨hq, hout⟩ := h w1 hi
  cases hout with
  | value v w' hr hq' =>
    refine ⟨_, cs, w', Lifts.apply hq hr hg ?_, hk v w' hq'⟩
    intro W W' he
    rw [← hfin]; simp [stepG.apply, he, GStep.after, Conc.G]
  | skip w' hr hq' =>
    refine ⟨_, cs, w', Lifts.apply hq hr hg ?_, hk undef w' hq'⟩
    intro W W' he
    rw [← hfin]; simp [stepG.apply, he, GStep.after, Conc.G]
  | enter f args w2 hr hx =>
    refine ⟨Frame.enter P f args .normal, b.atR a (.inRegion ops (i :: rest) :: K) :: cs, w2, Lifts.apply hq hr hg ?_, (hx _ (.inl rfl)).bind ?_⟩
    · intro W W' he
      simp [stepG.apply, he, GStep.after, Conc.G, Frame.atR]
    · rintro fr cs' w' ⟨rfl, h1, _, h2⟩
      refine step_leave h2 h1 fun v w' h3 => ?_
      rw [hfin]; exact hk v w' h3
  | round l f tmps x y w2 hr hx =>
    refine ⟨Frame.round l f tmps x y .normal, b.atR a (.inRegion ops (i :: rest) :: K) :: cs, w2, Lifts.apply hq hr hg ?_, (hx _ _).bind ?_⟩
    · intro W W' he
      simp [stepG.apply, he, GStep.after, Conc.G, Frame.atR]
    · rintro fr cs' w' ⟨rfl, v, h2, rfl⟩
      have := hk v w' h2
      rw [← hfin] at this
      exact this
theorem step_defer_op {i : Nat} {rest : List Nat} {o : Oper} {d : Deferred} (ho : ops[i]? = some o) (hw : Region.wanted o (yielded ops a.tmps) = true) (hb : b.roundOf = none)
    (hq : ∀ w, QG P (execOp a.eval o) w) (hr : ∀ w, (execOp a.eval o).run P w = .ok (.defer d) w) :
    Steps P (lone (b.atR a (.inRegion ops (i :: rest) :: K)) cs w) (lone (b.atR ({ a with defers := d :: a.defers }.put o.dst undef) (.inRegion ops rest :: K)) cs w) := by
  intro Φ hΦ
  have hfin := Frame.finish_atR b { a with defers := d :: a.defers } ops i rest K undef
  rw [ho] at hfin
  have hfin : ({ b.atR a (.inRegion ops (i :: rest) :: K) with defers := d :: (b.atR a (.inRegion ops (i :: rest) :: K)).defers } : Frame).finish undef = b.atR ({ a with defers := d :: a.defers }.put o.dst undef) (.inRegion ops rest :: K) := hfin
  change Gx P Φ (b.atR a (.inRegion ops (i :: rest) :: K)) cs w
  refine .step' fun w1 hi => ⟨_, cs, w1, Lifts.apply (hq w1) (hr w1) (fun main W => by rw [gR_op ho hw, hb, Oper.semAt_none]) ?_, hΦ.idle hi⟩
  intro W W' he
  change _ = GStep.go (Conc.G (b.atR ({ a with defers := d :: a.defers }.put o.dst undef) (.inRegion ops rest :: K)) cs) W' _
  rw [← hfin]
  generalize b.atR a (.inRegion ops (i :: rest) :: K) = fr
  simp [stepG.apply, he, GStep.after, Conc.G]
theorem step_recover_op {i : Nat} {rest : List Nat} {o : Oper} (ho : ops[i]? = some o) (hw : Region.wanted o (yielded ops a.tmps) = true) (hb : b.roundOf = none) (hk : CsOk b.kind cs)
    (hq : ∀ w, QG P (execOp a.eval o) w) (hr : ∀ w, (execOp a.eval o).run P w = .ok .recover w) :
    Steps P (lone (b.atR a (.inRegion ops (i :: rest) :: K)) cs w) (lone (b.atR (a.put o.dst .nilIface) (.inRegion ops rest :: K)) cs w) := by
  intro Φ hΦ
  have hfin := Frame.finish_atR b a ops i rest K .nilIface
  rw [ho] at hfin
  have hro : (b.atR a (.inRegion ops (i :: rest) :: K)).roundOf = none := hb
  have htry : tryRecover (b.atR a (.inRegion ops (i :: rest) :: K)) cs = none := by
    have hkk : (b.atR a (.inRegion ops (i :: rest) :: K)).kind = b.kind := rfl
    rcases hk with h | ⟨h, c, r, rfl, hm⟩
    · unfold tryRecover; rw [hkk, h]
    · unfold tryRecover; rw [hkk, h]
      rcases hm with hm | hm <;> simp [hm, goexitEntry]
  change Gx P Φ (b.atR a (.inRegion ops (i :: rest) :: K)) cs w
  refine .step' fun w1 hi => ⟨_, cs, w1, Lifts.apply (hq w1) (hr w1) (fun main W => by rw [gR_op ho hw, hb, Oper.semAt_none]) ?_, hΦ.idle hi⟩
  intro W W' he
  change _ = GStep.go (Conc.G (b.atR (a.put o.dst .nilIface) (.inRegion ops rest :: K)) cs) W' _
  have hfin : (b.atR a (.inRegion ops (i :: rest) :: K)).finish .nilIface = b.atR (a.put o.dst .nilIface) (.inRegion ops rest :: K) := hfin
  rw [← hfin]
  revert hro htry
  generalize b.atR a (.inRegion ops (i :: rest) :: K) = fr
  intro hro htry
  simp [stepG.apply, he, GStep.after, Conc.G, hro, htry]
end
omit [Dealing] in
inductive DfR1 (m : Ren) : ADf → Deferred → Prop
  | mark (k : Nat) (i : BI) (f args : AV) (h : m k = some i) : DfR1 m { mark := some k, f, args } { target := .collected i.blk, args := #[] }
  | call (q g : Fn) (first cap args : AV) (vc vs : List Value) (hf : FR m q g) (hc : VL m cap vc) (ha : VL m args vs) : DfR1 m { mark := none, f := .fn q first cap, args } { target := .fn g vc.toArray, args := vs.toArray }
omit [Dealing] in
inductive DfR (m : Ren) : List ADf → List Deferred → Prop
  | nil : DfR m [] []
  | cons (x d l k) (h : DfR1 m x d) (hl : DfR m l k) : DfR m (x :: l) (d :: k)
omit [Dealing] in
theorem DfR1.mono {m m2 : Ren} (hm : Le m m2) {x d} (h : DfR1 m x d) : DfR1 m2 x d := by
  cases h with
  | mark k i f args h => exact .mark k i f args (hm _ _ h)
  | call q g first cap args vc vs hf hc ha => exact .call q g first cap args vc vs (hf.mono hm) (hc.mono hm) (ha.mono hm)
omit [Dealing] in
theorem DfR.mono {m m2 : Ren} (hm : Le m m2) : ∀ {l k}, DfR m l k → DfR m2 l k
  | _, _, .nil => .nil
  | _, _, .cons x d l k h hl => .cons x d l k (h.mono hm) (hl.mono hm)
omit [Dealing] in
structure Cx where
  n : Nat
  rd : Option Nat
  ro : Option Nat
omit [Dealing] in
def RdR (c : Cx) (m : Ren) : Prop := (c.rd = none ∧ c.ro = none) ∨ ∃ l i, c.rd = some l ∧ m l = some i ∧ c.ro = some i.blk
omit [Dealing] in
theorem RdR.mono {c : Cx} {m m2 : Ren} (hm : Le m m2) (h : RdR c m) : RdR c m2 := by
  rcases h with h | ⟨l, i, h1, h2, h3⟩
  · exact .inl h
  · exact .inr ⟨l, i, h1, hm _ _ h2, h3⟩
omit [Dealing] in
structure FrR (n : Cx) (m : Ren) (T : Tr AV) (D : List ADf) (a : Act) : Prop where
  t : TR n.n m T a.tmps
  d : DfR m D a.defers
  r : RdR n m
omit [Dealing] in
theorem FrR.mono {n : Cx} {m m2 : Ren} (hm : Le m m2) {T D a} (h : FrR n m T D a) : FrR n m2 T D a := ⟨h.t.mono hm, h.d.mono hm, h.r.mono hm⟩
omit [Dealing] in
theorem TR.put {n : Nat} {m : Ren} {T : Tr AV} {ts : Array Value} (h : TR n m T ts) {d : Nat} (hd : d < n) {v : AV} {x : Value} (hv : VR m v x) : TR n m (T.put (some v) (bits d)) (ts.setIfInBounds d x) := by
  refine ⟨by simpa using h.size, fun t q hq => ?_⟩
  by_cases e : t = d
  · subst e
    rw [Tr.get_put_same] at hq
    cases hq
    have : (ts.setIfInBounds t x).getD t undef = x := by
      simp [Array.getD_eq_getD_getElem?, h.size, hd]
    rw [this]; exact hv
  · rw [Tr.get_put_ne _ _ _ _ (bits_ne (Ne.symm e))] at hq
    have : (ts.setIfInBounds d x).getD t undef = ts.getD t undef := by
      simp [Array.getD_eq_getD_getElem?, Array.getElem?_setIfInBounds_ne (Ne.symm e)]
    rw [this]; exact h.at_ t q hq
omit [Dealing] in
theorem FrR.put {n : Cx} {m : Ren} {T : Tr AV} {D : List ADf} {a : Act} (h : FrR n m T D a) {dst : Option Nat} (hd : dstOk n.n dst = true) {v : AV} {x : Value} (hv : VR m v x) : FrR n m (putA T dst v) D (a.put dst x) := by
  cases dst with
  | none => exact h
  | some d => exact ⟨h.t.put (by simpa [dstOk, Nat.blt_eq] using hd) hv, h.d, h.r⟩
omit [Dealing] in
theorem FrR.er {n : Cx} {m : Ren} {H : AH} {w : World} (hr : Rel m H w) {T D} {a : Act} (h : FrR n m T D a) : ER m T a.eval := ER.of hr.glob h.t
end Go.Xq
namespace Go.Xq
variable [Dealing]
section
variable {P : Program} {E : Env} (hE : TyOk P E) (hX : ExtRun P E) (hQ : ExtQ P E)
omit [Dealing] in
theorem actK_look {op : Op} {k : LK} (h : actK E op = .look k) : lookK E op = some k ∨ ∀ T H, k.f T H = none := by
  unfold actK at h
  repeat' split at h
  all_goals first | (cases h; exact .inl (by assumption)) | (cases h; exact .inr fun _ _ => rfl) | (cases h; done)
omit [Dealing] in
theorem actK_fresh {op : Op} {k : FrK} (h : actK E op = .fresh k) : freshK E op = some k := by
  unfold actK at h
  repeat' split at h
  all_goals first | (cases h; assumption) | (cases h; done)
omit [Dealing] in
theorem actK_heavy {op : Op} {k : HvK} (h : actK E op = .heavy k) : heavyK E op = some k := by
  unfold actK at h
  repeat' split at h
  all_goals first | (cases h; assumption) | (cases h; done)
omit [Dealing] in
theorem actK_dfr {op : Op} {f : Operand} {l : LsK} (h : actK E op = .dfr f l) : ∃ c, op = .defer c ∧ c.callee = .value f ∧ l = opnds c.args.toList := by
  unfold actK at h
  repeat' split at h
  all_goals first | (cases h; exact ⟨_, rfl, by assumption, rfl⟩) | (cases h; done)
omit [Dealing] in
theorem actK_rcv {op : Op} (h : actK E op = .rcv) : ∃ c, op = .call c ∧ c.callee = .builtin .recover := by
  unfold actK at h
  repeat' split at h
  all_goals first | (cases h; exact ⟨_, rfl, by assumption⟩) | (cases h; done)
omit [Dealing] in
theorem look_nodefer {op : Op} {k : LK} (h : lookK E op = some k) (c : Call) : op ≠ .defer c := by
  rintro rfl; simp [lookK] at h
omit [Dealing] in
theorem fresh_nodefer {op : Op} {k : FrK} (h : freshK E op = some k) (c : Call) : op ≠ .defer c := by
  rintro rfl; simp [freshK] at h
omit [Dealing] in
theorem heavy_nodefer {op : Op} {k : HvK} (h : heavyK E op = some k) (c : Call) : op ≠ .defer c := by
  rintro rfl; simp [heavyK] at h
include hE in
theorem look_outc {o : Oper} {k : LK} (h : lookK E o.op = some k) {m : Ren} {H : AH} {w : World} {T : Tr AV} {ρ : Operand → Value} {v : AV} (hr : Rel m H w) (he : ER m T ρ) (hk : k.f T H = some v) : Outc P (execOp ρ o) w (Post m H w v H) := by
  obtain ⟨v', h1, h2⟩ := lookK_ok hE h m H w T ρ v hr he hk
  exact .value v' w h1 ⟨m, St.refl hr, h2⟩
include hE in
theorem fresh_outc {o : Oper} {k : FrK} (h : freshK E o.op = some k) {m : Ren} {H : AH} {w : World} {T : Tr AV} {ρ : Operand → Value} {v : AV} {x : AObj} (hr : Rel m H w) (he : ER m T ρ) (hk : k.f T H.next = some (v, x)) :
    Outc P (execOp ρ o) w (Post m H w v (H.new x)) := by
  obtain ⟨v', y, w', i, h1, h2, h3, h4, h5, h6⟩ := freshK_ok hE h m w T ρ H.next v x he hk
  obtain ⟨g1, g2⟩ := h6 (m.ext H.next i) (hr.le (Ext.ext _ _ _)) (Ren.ext_same _ _ _)
  exact .value v' w' h1 ⟨_, St.newBlk hr h5 h2 g2 h3 h4, g1⟩
omit [Dealing] in
theorem want_at {ts : Array Value} {m : Ren} {T : Tr AV} {ops : Array Oper} {o : Oper} {g : Option (Nat × Bool)} {bw : Bool} (h : guardOf ops.toList o.guard = some g)
    (hv : ∀ d want, g = some (d, want) → ∀ v, T.get (bits d) = some v → VR m v (ts.getD d undef)) (hw : wantA g T = some bw) : Region.wanted o (yielded ops ts) = bw := by
  unfold Region.wanted
  cases hg : o.guard with
  | none => rw [hg] at h; cases h; cases hw; rfl
  | some p =>
    obtain ⟨j, want⟩ := p
    rw [hg] at h
    simp only [guardOf, ob_some, Option.some.injEq] at h
    obtain ⟨x, h1, d, h2, rfl⟩ := h
    have hx : ops[j]? = some x := by rw [← Array.getElem?_toList]; exact h1
    simp only [wantA, oc_some, wantG, ob_some, Option.some.injEq] at hw
    obtain ⟨av, h3, rfl⟩ := hw
    have hv := hv d want rfl av h3
    simp only [yielded, hx, Option.bind_some, h2]
    by_cases hlt : d < ts.size
    · rw [Array.getElem?_eq_getElem hlt]
      have e : ts.getD d undef = ts[d] := by simp [Array.getD_eq_getD_getElem?, hlt]
      rw [e] at hv
      generalize ts[d] = cv at hv ⊢
      cases hv <;> simp [onBool, bEq_eq]
    · rw [Array.getElem?_eq_none (Nat.le_of_not_lt hlt)]
      have e : ts.getD d undef = undef := by simp [Array.getD_eq_getD_getElem?, hlt]
      rw [e] at hv
      generalize hu : undef = cv at hv
      cases hv <;> first | (simp [onBool]; done) | (simp [undef] at hu; done)
omit [Dealing] in
theorem Post.idleL {m : Ren} {H : AH} {w : World} {v : AV} {H2 : AH} {x : Value} {w' w1 : World} (h : Post m H w1 v H2 x w') (hi : Idle w w1) : Post m H w v H2 x w' := let ⟨m2, h1, h2⟩ := h; ⟨m2, h1.idleL hi, h2⟩
theorem Outc.mono {P : Program} {s : Sem Next} {w : World} {Q Q' : Value → World → Prop} (h : Outc P s w Q) (hq : ∀ v w', Q v w' → Q' v w') : Outc P s w Q' := by
  cases h with
  | value v w' h1 h2 => exact .value v w' h1 (hq _ _ h2)
  | skip w' h1 h2 => exact .skip w' h1 (hq _ _ h2)
  | enter f args w1 h1 h2 => exact .enter f args w1 h1 (h2.mono hq)
  | round l f tmps a b w1 h1 h2 => exact .round l f tmps a b w1 h1 (h2.mono hq)
omit [Dealing] in
def OQ (b : Frame) (n : Cx) (K : List Item) (cs : List Frame) (m : Ren) (H : AH) (w : World) : Out → Frame → List Frame → World → Prop
  | .bad => fun _ _ _ => True
  | .nor T D H2 => fun fr cs' w2 => cs' = cs ∧ ∃ m2 a2, St m H w m2 H2 w2 ∧ FrR n m2 T D a2 ∧ fr = b.atR a2 K
  | .ext id T D H2 => fun fr cs' w2 => cs' = cs ∧ ∃ m2 a2 K2, St m H w m2 H2 w2 ∧ FrR n m2 T D a2 ∧ exitTo id K2 = exitTo id K ∧ fr = b.atR a2 (.code (.exit id) :: K2)
  | .ret T D H2 => fun fr cs' w2 => cs' = cs ∧ ∃ m2 a2 K2, St m H w m2 H2 w2 ∧ FrR n m2 T D a2 ∧ fr = b.atR a2 (.code .ret :: K2)
def OutOk (P : Program) (b : Frame) (n : Cx) (K : List Item) (cs : List Frame) (m : Ren) (H : AH) (w : World) (s0 : Sit) : Out → Prop
  | .bad => True
  | out => Gx P (OQ b n K cs m H w out) s0.1 s0.2.1 s0.2.2
omit [Dealing] in
theorem OQ.pre {b : Frame} {n : Cx} {K : List Item} {cs : List Frame} {m m2 : Ren} {H H2 : AH} {w w2 : World} {out : Out} (hst : St m H w m2 H2 w2) : ∀ fr cs' w', OQ b n K cs m2 H2 w2 out fr cs' w' → OQ b n K cs m H w out fr cs' w' := by
  intro fr cs' w' h
  cases out with
  | bad => trivial
  | nor T D H3 => obtain ⟨h0, m3, a3, h1, h2⟩ := h; exact ⟨h0, m3, a3, hst.trans h1, h2⟩
  | ext id T D H3 => obtain ⟨h0, m3, a3, K3, h1, h2⟩ := h; exact ⟨h0, m3, a3, K3, hst.trans h1, h2⟩
  | ret T D H3 => obtain ⟨h0, m3, a3, K3, h1, h2⟩ := h; exact ⟨h0, m3, a3, K3, hst.trans h1, h2⟩
section
variable {P : Program} {b : Frame} {n : Cx} {K K' : List Item} {cs : List Frame} {m m2 : Ren} {H H2 : AH} {w w2 : World} {s0 s1 : Sit} {out : Out}
theorem OutOk.gx {Φ : Frame → List Frame → World → Prop} (h : OutOk P b n K cs m H w s0 out) (hb : out ≠ .bad) (hq : ∀ fr cs' w', OQ b n K cs m H w out fr cs' w' → Gx P Φ fr cs' w') : Gx P Φ s0.1 s0.2.1 s0.2.2 := by
  cases out with
  | bad => exact absurd rfl hb
  | nor T D H3 => exact Gx.bind h hq
  | ext id T D H3 => exact Gx.bind h hq
  | ret T D H3 => exact Gx.bind h hq
theorem OutOk.of (h : out ≠ .bad → Gx P (OQ b n K cs m H w out) s0.1 s0.2.1 s0.2.2) : OutOk P b n K cs m H w s0 out := by
  cases out with
  | bad => trivial
  | nor T D H3 => exact h (by simp)
  | ext id T D H3 => exact h (by simp)
  | ret T D H3 => exact h (by simp)
theorem OutOk.to (h : OutOk P b n K cs m H w s0 out) (hb : out ≠ .bad) : Gx P (OQ b n K cs m H w out) s0.1 s0.2.1 s0.2.2 := by
  cases out with
  | bad => exact absurd rfl hb
  | nor T D H3 => exact h
  | ext id T D H3 => exact h
  | ret T D H3 => exact h
theorem OutOk.steps (hs : Steps P s0 s1) (hst : St m H w m2 H2 w2) (h : OutOk P b n K cs m2 H2 w2 s1 out) : OutOk P b n K cs m H w s0 out :=
  .of fun hb => hs _ ((h.to hb).mono (OQ.pre hst))
theorem OutOk.nor {T : Tr AV} {D : List ADf} {a2 : Act} (hst : St m H w m2 H2 w2) (hf : FrR n m2 T D a2) : OutOk P b n K cs m H w (lone (b.atR a2 K) cs w2) (.nor T D H2) :=
  Gx.stop fun _ hi => ⟨rfl, m2, a2, hst.idleR hi, hf, rfl⟩
theorem OutOk.ext {id : Nat} {T : Tr AV} {D : List ADf} {a2 : Act} {K2 : List Item} (hst : St m H w m2 H2 w2) (hf : FrR n m2 T D a2) (hx : exitTo id K2 = exitTo id K) : OutOk P b n K cs m H w (lone (b.atR a2 (.code (.exit id) :: K2)) cs w2) (.ext id T D H2) :=
  Gx.stop fun _ hi => ⟨rfl, m2, a2, K2, hst.idleR hi, hf, hx, rfl⟩
theorem OutOk.ret {T : Tr AV} {D : List ADf} {a2 : Act} {K2 : List Item} (hst : St m H w m2 H2 w2) (hf : FrR n m2 T D a2) : OutOk P b n K cs m H w (lone (b.atR a2 (.code .ret :: K2)) cs w2) (.ret T D H2) :=
  Gx.stop fun _ hi => ⟨rfl, m2, a2, K2, hst.idleR hi, hf, rfl⟩
theorem OutOk.andThen {T : Tr AV} {D : List ADf} (h : OutOk P b n K' cs m H w s0 (.nor T D H2)) (hk : ∀ m2 a2 w2, St m H w m2 H2 w2 → FrR n m2 T D a2 → OutOk P b n K cs m2 H2 w2 (lone (b.atR a2 K') cs w2) out) : OutOk P b n K cs m H w s0 out :=
  .of fun hb => Gx.bind h fun fr cs' w' ⟨h0, m2, a2, h1, h2, h3⟩ => by
    subst h0; subst h3
    exact ((hk m2 a2 w' h1 h2).to hb).mono (OQ.pre h1)
theorem OutOk.extK {id : Nat} {T : Tr AV} {D : List ADf} (h : OutOk P b n K' cs m H w s0 (.ext id T D H2)) (hx : exitTo id K' = exitTo id K) : OutOk P b n K cs m H w s0 (.ext id T D H2) :=
  Gx.mono h fun _ _ _ ⟨h0, m2, a2, K2, h1, h2, h3, h4⟩ => ⟨h0, m2, a2, K2, h1, h2, h3.trans hx, h4⟩
theorem OutOk.retK {T : Tr AV} {D : List ADf} (h : OutOk P b n K' cs m H w s0 (.ret T D H2)) : OutOk P b n K cs m H w s0 (.ret T D H2) :=
  Gx.mono h fun _ _ _ ⟨h0, m2, a2, K2, h1, h2, h4⟩ => ⟨h0, m2, a2, K2, h1, h2, h4⟩
theorem OutOk.andExit {id : Nat} {T : Tr AV} {D : List ADf} (h : OutOk P b n K' cs m H w s0 (.ext id T D H2)) (hk : ∀ m2 a2 w2 K2, St m H w m2 H2 w2 → FrR n m2 T D a2 → exitTo id K2 = exitTo id K' → OutOk P b n K cs m2 H2 w2 (lone (b.atR a2 (.code (.exit id) :: K2)) cs w2) out) : OutOk P b n K cs m H w s0 out :=
  .of fun hb => Gx.bind h fun fr cs' w' ⟨h0, m2, a2, K2, h1, h2, h3, h4⟩ => by
    subst h0; subst h4
    exact ((hk m2 a2 w' K2 h1 h2 h3).to hb).mono (OQ.pre h1)
end
def RKOk (P : Program) (b : Frame) (n : Cx) (its : List Item) (k : RK) : Prop :=
  ∀ R, RecOk P R → ∀ m H w T D a K cs, CsOk b.kind cs → Rel m H w → FrR n m T D a → OutOk P b n K cs m H w (lone (b.atR a (its ++ K)) cs w) (k.f R T D H)
include hE hX hQ in
theorem tSp_ok {b : Frame} {n : Cx} {rd : Bool} (hrd : rd = b.roundOf.isSome) {ops : Array Oper} {i : Nat} {rest : List Nat} {o : Oper} {sp : Sp} {nx : RK} (ho : ops[i]? = some o) (hsp : spK E n.n ops.toList o = some sp) (hd : (rd && isDfr sp.act) = false)
    (hnx : RKOk P b n [.inRegion ops rest] nx) : RKOk P b n [.inRegion ops (i :: rest)] (tSp sp nx) := by
  simp only [spK, ob_some, bt_some, Option.some.injEq] at hsp
  obtain ⟨g, hg, hdst, rfl⟩ := hsp
  intro R hR m H w T D a K cs hcs hr hf
  have hwant : ∀ bw, wantA g T = some bw → Region.wanted o (yielded ops a.tmps) = bw := fun bw hw => want_at hg (fun d want _ v hv => hf.t.at_ d v hv) hw
  -- wanted
  have act : Region.wanted o (yielded ops a.tmps) = true → OutOk P b n K cs m H w (lone (b.atR a ([.inRegion ops (i :: rest)] ++ K)) cs w) ((tAct o.dst nx (actK E o.op)).f R T D H) := by
    intro hw
    have go : ∀ {v : AV} {H2 : AH}, (∀ c, o.op ≠ .defer c) → (∀ w1, Idle w w1 → QG P (execOp a.eval o) w1 ∧ Outc P (execOp a.eval o) w1 (Post m H w1 v H2)) → OutOk P b n K cs m H w (lone (b.atR a ([.inRegion ops (i :: rest)] ++ K)) cs w) (nx.f R (putA T o.dst v) D H2) := by
      intro v H2 hnd hout
      refine .of fun hbad => step_op (b := b) (K := K) (cs := cs) (rest := rest) (Q := Post m H w v H2) ho hw (Oper.semAt_eq _ _ _ hnd) (fun w1 hi => ⟨(hout w1 hi).1, (hout w1 hi).2.mono fun _ _ h => h.idleL hi⟩) ?_
      rintro v' w' ⟨m2, hst, hv⟩
      exact ((hnx R hR m2 H2 w' _ D _ K cs hcs hst.rel ((hf.mono (St.le hr hst)).put hdst hv)).to hbad).mono (OQ.pre hst)
    cases hact : actK E o.op with
    | look k =>
      simp only [tAct, tLook]
      cases hk : k.f T H with
      | none => trivial
      | some v =>
        rcases actK_look hact with h | h
        · exact go (look_nodefer h) fun w1 hi => ⟨lookK_q hE h (hr.idle hi) (hf.er hr) hk, look_outc hE h (hr.idle hi) (hf.er hr) hk⟩
        · rw [h] at hk; cases hk
    | fresh k =>
      simp only [tAct, tFresh]
      cases hk : k.f T H.next with
      | none => trivial
      | some p =>
        obtain ⟨v, x⟩ := p
        have h := actK_fresh hact
        exact go (fresh_nodefer h) fun w1 hi => ⟨freshK_q hE h (hf.er hr) hk, fresh_outc hE h (hr.idle hi) (hf.er hr) hk⟩
    | heavy k =>
      simp only [tAct, tHeavy]
      cases hk : k.f R T H with
      | none => trivial
      | some p =>
        obtain ⟨v, H2⟩ := p
        have h := actK_heavy hact
        exact go (heavy_nodefer h) fun w1 hi => ⟨heavyK_q hE hQ hR h (hr.idle hi) (hf.er hr) hk, heavyK_ok hE hX h R hR m H w1 T a.eval v H2 (hr.idle hi) (hf.er hr) hk⟩
    | dfr f l =>
      obtain ⟨c, hop, hc, rfl⟩ := actK_dfr hact
      have hb : b.roundOf = none := by
        simp only [hact, isDfr, Bool.and_true] at hd
        rw [hd] at hrd
        cases hro : b.roundOf with
        | none => rfl
        | some l => rw [hro] at hrd; cases hrd
      simp only [tAct, tDfr]
      cases hk : (ob (opnd f T) fun fv => ob ((opnds c.args.toList).f T) fun l => onFn fv fun q first cap => some ({ mark := none, f := .fn q .nil cap, args := AV.app first l } : ADf)) with
      | none => trivial
      | some d =>
        simp only [ob_some, onFn_some, Option.some.injEq] at hk
        obtain ⟨fv, h1, l, h2, q, first, cap, rfl, rfl⟩ := hk
        have he := hf.er hr
        obtain ⟨g', va, vc, hq, ha, hc', e⟩ := (he f _ h1).fn_inv
        have hl := run_map_ops he h2
        have hqq : ∀ w, QG P (execOp a.eval o) w := fun w => by
          simp only [execOp, hop]
          exact QG.bind plain_resolve.qg fun _ _ _ => QG.pure
        have hrun : ∀ w, (execOp a.eval o).run P w = .ok (.defer { target := .fn g' vc.toArray, args := (va ++ (c.args.map a.eval).toList).toArray }) w := fun w => by
          have harr : va.toArray ++ c.args.map a.eval = (va ++ (c.args.map a.eval).toList).toArray := by apply Array.toList_inj.1; simp
          simp only [execOp, hop, resolve, hc, e, Deferred.ofValue, Sem.run_bind, Sem.run_pure, Result.andThen, harr]
        have hs := step_defer_op (b := b) (K := K) (cs := cs) (w := w) (rest := rest) ho hw hb hqq hrun
        refine OutOk.steps hs (St.refl hr) (hnx R hR m H w _ _ _ K cs hcs hr (FrR.put ?_ hdst (undef_ok m)))
        exact ⟨hf.t, .cons _ _ _ _ (.call _ _ _ _ _ _ _ hq hc' (ha.app hl)) hf.d, hf.r⟩
    | rcv =>
      obtain ⟨c, hop, hc⟩ := actK_rcv hact
      have hb : b.roundOf = none := by
        simp only [hact, isDfr, Bool.and_true] at hd
        rw [hd] at hrd
        cases hro : b.roundOf with
        | none => rfl
        | some l => rw [hro] at hrd; cases hrd
      have hrun : ∀ w, (execOp a.eval o).run P w = .ok .recover w := fun w => by
        rw [run_builtin hop hc]; rfl
      have hqq : ∀ w, QG P (execOp a.eval o) w := fun w => by
        simp only [execOp, hop]
        exact QG.after plain_resolve (a := { target := .builtin .recover c.argTypes o.type (c.args.map fun | .const _ => true | _ => false), args := c.args.map a.eval }) (w1 := w) (by unfold resolve; rw [hc]; rfl) QG.pure
      have hs := step_recover_op (b := b) (K := K) (cs := cs) (w := w) (rest := rest) ho hw hb hcs hqq hrun
      exact OutOk.steps hs (St.refl hr) (hnx R hR m H w _ D _ K cs hcs hr (hf.put hdst .inil))
  have skip : Region.wanted o (yielded ops a.tmps) = false → OutOk P b n K cs m H w (lone (b.atR a ([.inRegion ops (i :: rest)] ++ K)) cs w) (nx.f R (putA T o.dst undefA) D H) := by
    intro hw
    have hs := stepR_op_skip (P := P) (b := b) (a := a) (K := K) (cs := cs) (w := w) (ops := ops) (i := i) (rest := rest) (by simp [ho, hw])
    rw [ho] at hs
    exact OutOk.steps (.one hs) (St.refl hr) (hnx R hR m H w _ D _ K cs hcs hr (hf.put hdst (undef_ok m)))
  simp only [tSp]
  cases g with
  | none =>
    exact act (hwant true rfl)
  | some p =>
    obtain ⟨d, want⟩ := p
    simp only [wantA, oc_some] at hwant
    show OutOk P b n K cs m H w _ (oc (wantG d want T) .bad fun bw => bt bw ((tAct o.dst nx (actK E o.op)).f R T D H) (nx.f R (putA T o.dst undefA) D H))
    cases hwg : wantG d want T with
    | none => trivial
    | some bw =>
      cases bw with
      | true => exact act (hwant true hwg)
      | false => exact skip (hwant false hwg)
end
end Go.Xq
namespace Go.Xq
variable [Dealing]
section
variable {P : Program} {E : Env} (hE : TyOk P E) (hX : ExtRun P E) (hQ : ExtQ P E) {b : Frame} {n : Cx} {rd : Bool}
omit [Dealing] in
@[simp] theorem oOut_nor (T D H) (k : Tr AV → List ADf → AH → Out) : oOut (.nor T D H) k = k T D H := rfl
omit [Dealing] in
@[simp] theorem oOut_bad (k : Tr AV → List ADf → AH → Out) : oOut .bad k = .bad := rfl
omit [Dealing] in
@[simp] theorem oOut_ext (id T D H) (k : Tr AV → List ADf → AH → Out) : oOut (.ext id T D H) k = .ext id T D H := rfl
omit [Dealing] in
@[simp] theorem oOut_ret (T D H) (k : Tr AV → List ADf → AH → Out) : oOut (.ret T D H) k = .ret T D H := rfl
include hE hX hQ in
theorem opsK_ok (hrd : rd = b.roundOf.isSome) {ops : Array Oper} : ∀ {r : List Oper} {i : Nat} {k : RK}, ops.toList.drop i = r → opsK E n.n rd ops.toList r = some k → RKOk P b n [.inRegion ops (List.range' i r.length)] k
  | [], i, k, _, h => by
    cases h
    intro R hR m H w T D a K cs hcs hr hf
    exact OutOk.steps (.one stepR_region_end) (St.refl hr) (OutOk.nor (St.refl hr) hf)
  | o :: r, i, k, hd, h => by
    simp only [opsK, ob_some] at h
    obtain ⟨sp, hsp, h⟩ := h
    cases hdf : (rd && isDfr sp.act) with
    | true => rw [hdf] at h; cases h
    | false =>
      rw [hdf] at h
      simp only [bt_false, ob_some, Option.some.injEq] at h
      obtain ⟨nx, hnx, rfl⟩ := h
      have ho : ops[i]? = some o := by
        rw [← Array.getElem?_toList]
        have : (ops.toList.drop i)[0]? = some o := by rw [hd]; rfl
        simpa using this
      have hd2 : ops.toList.drop (i + 1) = r := by
        rw [← List.drop_drop, hd]; rfl
      rw [List.length_cons, List.range'_succ]
      exact tSp_ok hE hX hQ hrd ho hsp hdf (opsK_ok hrd hd2 hnx)
include hE hX hQ in
theorem region_ok (hrd : rd = b.roundOf.isSome) {id : Nat} {ops : Array Oper} {k : RK} (h : opsK E n.n rd ops.toList ops.toList = some k) : RKOk P b n [.code (.region id ops false)] k := by
  intro R hR m H w T D a K cs hcs hr hf
  have h1 := opsK_ok hE hX hQ hrd (i := 0) (by simp) h R hR m H w T D a K cs hcs hr hf
  rw [Array.length_toList, ← List.range_eq_range'] at h1
  exact OutOk.steps (.one stepR_region) (St.refl hr) h1
theorem skip_ok {c : Code} (hc : c = .skip ∨ ∃ l, c = .label l) : RKOk P b n [.code c] ⟨fun _ T D H => .nor T D H⟩ := by
  intro R hR m H w T D a K cs hcs hr hf
  rcases hc with rfl | ⟨l, rfl⟩
  · exact OutOk.steps (.one stepR_skip) (St.refl hr) (OutOk.nor (St.refl hr) hf)
  · exact OutOk.steps (.one stepR_label) (St.refl hr) (OutOk.nor (St.refl hr) hf)
theorem seq_ok {c d : Code} {x y : RK} (hx : RKOk P b n [.code c] x) (hy : RKOk P b n [.code d] y) : RKOk P b n [.code (.seq c d)] ⟨cSeq x y⟩ := by
  intro R hR m H w T D a K cs hcs hr hf
  have h1 := hx R hR m H w T D a (.code d :: K) cs hcs hr hf
  have hs : Steps P (lone (b.atR a ([.code (.seq c d)] ++ K)) cs w) (lone (b.atR a ([.code c] ++ (.code d :: K))) cs w) := .one stepR_seq
  refine OutOk.steps hs (St.refl hr) ?_
  show OutOk P b n K cs m H w _ (oOut (x.f R T D H) fun T D H => y.f R T D H)
  cases ho : x.f R T D H with
  | bad => trivial
  | nor T2 D2 H2 =>
    rw [ho] at h1
    exact h1.andThen fun m2 a2 w2 g1 g2 => hy R hR m2 H2 w2 T2 D2 a2 K cs hcs g1.rel g2
  | ext id T2 D2 H2 => rw [ho] at h1; exact h1.extK rfl
  | ret T2 D2 H2 => rw [ho] at h1; exact h1.retK
theorem cond_ok {q : Operand} {c d : Code} {x y : RK} (hx : RKOk P b n [.code c] x) (hy : RKOk P b n [.code d] y) : RKOk P b n [.code (.cond q c d)] ⟨cCond q x y⟩ := by
  intro R hR m H w T D a K cs hcs hr hf
  show OutOk P b n K cs m H w _ (oc (ob (opnd q T) fun v => onBool v some) .bad fun t => bt t (x.f R T D H) (y.f R T D H))
  cases hq : (ob (opnd q T) fun v => onBool v some) with
  | none => trivial
  | some t =>
    simp only [ob_some, onBool_some, Option.some.injEq] at hq
    obtain ⟨v, h1, t', rfl, rfl⟩ := hq
    have hv := (hf.er hr q _ h1).bool_inv
    have hs := stepR_cond (P := P) (b := b) (K := K) (cs := cs) (w := w) (x := c) (y := d) hv
    cases t'
    · exact OutOk.steps (.one hs) (St.refl hr) (hy R hR m H w T D a K cs hcs hr hf)
    · exact OutOk.steps (.one hs) (St.refl hr) (hx R hR m H w T D a K cs hcs hr hf)
theorem exit_ok {id : Nat} : RKOk P b n [.code (.exit id)] ⟨fun _ T D H => .ext id T D H⟩ := by
  intro R hR m H w T D a K cs hcs hr hf
  exact OutOk.ext (St.refl hr) hf rfl
theorem ret_ok : RKOk P b n [.code .ret] ⟨fun _ T D H => .ret T D H⟩ := by
  intro R hR m H w T D a K cs hcs hr hf
  exact OutOk.ret (St.refl hr) hf
theorem block_ok {id : Nat} {c : Code} {x : RK} (hx : RKOk P b n [.code c] x) : RKOk P b n [.code (.block id c)] ⟨cBlock id x⟩ := by
  intro R hR m H w T D a K cs hcs hr hf
  have h1 := hx R hR m H w T D a (.inBlock id :: K) cs hcs hr hf
  have hs : Steps P (lone (b.atR a ([.code (.block id c)] ++ K)) cs w) (lone (b.atR a ([.code c] ++ (.inBlock id :: K))) cs w) := .one stepR_block
  refine OutOk.steps hs (St.refl hr) ?_
  show OutOk P b n K cs m H w _ (bOut id (x.f R T D H))
  cases ho : x.f R T D H with
  | bad => trivial
  | nor T2 D2 H2 =>
    rw [ho] at h1
    exact h1.andThen fun m2 a2 w2 g1 g2 => OutOk.steps (.one stepR_inBlock) (St.refl g1.rel) (OutOk.nor (St.refl g1.rel) g2)
  | ext id2 T2 D2 H2 =>
    rw [ho] at h1
    show OutOk P b n K cs m H w _ (bt (Nat.beq id2 id) (.nor T2 D2 H2) (.ext id2 T2 D2 H2))
    cases hb : Nat.beq id2 id with
    | true =>
      have := Nat.eq_of_beq_eq_true hb
      subst this
      refine h1.andExit fun m2 a2 w2 K2 g1 g2 g3 => ?_
      simp only [exitTo, beq_self_eq_true, if_true] at g3
      exact OutOk.steps (.one (stepR_exit g3)) (St.refl g1.rel) (OutOk.nor (St.refl g1.rel) g2)
    | false =>
      have hne : ¬ id = id2 := fun e => by subst e; simp at hb
      refine h1.extK ?_
      simp only [exitTo]
      rw [if_neg (by simpa using hne)]
  | ret T2 D2 H2 => rw [ho] at h1; exact h1.retK
end
end Go.Xq
