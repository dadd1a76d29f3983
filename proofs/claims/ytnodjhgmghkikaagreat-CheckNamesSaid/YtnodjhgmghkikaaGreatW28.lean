/- A part of the proof of this seat's statement. Conditions: in each theorem. -/
import Derived.Test.YtnodjhgmghkikaaGreatW27
import Derived.Test.YtnodjhgmghkikaaGreatW25
import Derived.Laws.CopyRow
import Derived.Conc.AppendEvents
namespace Go.Xq
variable [Dealing]
noncomputable section
omit [Dealing] in
def tl : List (Nat × AV) → Tr AV
  | [] => .e
  | p :: l => (tl l).put (some p.2) (bits p.1)
omit [Dealing] in
def tget (i : Nat) : List (Nat × AV) → Option AV
  | [] => none
  | p :: l => bt (Nat.beq i p.1) (some p.2) (tget i l)
omit [Dealing] in
theorem get_tl (i : Nat) : ∀ l, (tl l).get (bits i) = tget i l
  | [] => by simp [tl, tget]
  | p :: l => by
    show ((tl l).put (some p.2) (bits p.1)).get (bits i) = _
    by_cases e : i = p.1
    · subst e; rw [Tr.get_put_same]; simp [tget]
    · rw [Tr.get_put_ne _ _ _ _ (bits_ne (Ne.symm e)), get_tl i l]
      have : Nat.beq i p.1 = false := by
        cases h : Nat.beq i p.1 with
        | false => rfl
        | true => exact absurd (Nat.eq_of_beq_eq_true h) e
      simp [tget, this]
omit [Dealing] in
theorem opnd_tl (i : Nat) (l : List (Nat × AV)) : opnd (.tmp i) (tl l) = tget i l := get_tl i l
omit [Dealing] in
def lsub : List (Nat × AV) → List (Nat × AV) → Prop
  | [], _ => True
  | p :: l, k => tget p.1 k = some p.2 ∧ lsub l k
section
variable {P : Program} {E : Env} {b : Frame} {n : Cx} {T T2 : Tr AV} {D D2 : List ADf} {H H2 : AH} {Q Q' : Out → Prop} {its its2 : List Item}
omit [Dealing] in
structure Lk where
  k : LK
  dst : Option Nat
  g : Option (Nat × Bool)
omit [Dealing] in
def lkv (x : Lk) (w : Bool) (T : Tr AV) (H : AH) : Option AV := bt w (x.k.f T H) (some undefA)
omit [Dealing] in
def runLk : List Lk → Tr AV → AH → Option (Tr AV)
  | [], T, _ => some T
  | x :: r, T, H => ob (wantA x.g T) fun w => ob (lkv x w T H) fun v => runLk r (putA T x.dst v) H
omit [Dealing] in
def lksOf (E : Env) (n : Nat) (all : List Oper) : List Oper → Option (List Lk)
  | [] => some []
  | o :: r => ob (guardOf all o.guard) fun g => ob (lookK E o.op) fun k => bt (dstOk n o.dst) (ob (lksOf E n all r) fun l => some (⟨k, o.dst, g⟩ :: l)) none
omit [Dealing] in
theorem lksOf_run {rd : Bool} {all : List Oper} : ∀ {ops : List Oper} {ls : List Lk}, lksOf E n.n all ops = some ls → ∃ k, opsK E n.n rd all ops = some k ∧ ∀ R T D H T2, runLk ls T H = some T2 → k.f R T D H = .nor T2 D H
  | [], ls, h => by
    cases h
    exact ⟨_, rfl, fun R T D H T2 h => by cases h; rfl⟩
  | o :: r, ls, h => by
    unfold lksOf at h
    simp only [ob_some, bt_some] at h
    obtain ⟨g, hg, k, hk, hd, l, hl, e⟩ := h
    cases e
    obtain ⟨nx, h1, h2⟩ := lksOf_run (rd := rd) (all := all) hl
    have hact : actK E o.op = .look k := by unfold actK; rw [hk]
    have hsp : spK E n.n all o = some { g := g, dst := o.dst, act := .look k } := by
      simp only [spK, hg, ob_some', hd, bt_true, hact]
    refine ⟨tSp { g := g, dst := o.dst, act := .look k } nx, ?_, fun R T D H T2 h => ?_⟩
    · simp only [opsK, hsp, ob_some', isDfr, Bool.and_false, bt_false, h1]
    · simp only [runLk, ob_some, lkv] at h
      obtain ⟨w, hw, v, hv, h⟩ := h
      cases g with
      | none =>
        cases hw
        show oc (k.f T H) .bad (fun v => nx.f R (putA T o.dst v) D H) = _
        rw [bt_true] at hv
        rw [hv]
        exact h2 R _ D H T2 h
      | some p =>
        obtain ⟨d, want⟩ := p
        show oc (wantG d want T) .bad (fun b => bt b (oc (k.f T H) .bad (fun v => nx.f R (putA T o.dst v) D H)) (nx.f R (putA T o.dst undefA) D H)) = _
        have hw : wantG d want T = some w := hw
        rw [hw]
        cases w with
        | true => rw [bt_true] at hv; simp only [oc_some, bt_true, hv]; exact h2 R _ D H T2 h
        | false => rw [bt_false] at hv; cases hv; exact h2 R _ D H T2 h
theorem recNone_ok : RecOk P { call := fun _ _ _ => none, dcall := fun _ _ _ => none, round := fun _ _ _ => none } := ⟨by simp, by simp, by simp⟩
omit [Dealing] in
structure Dk where
  ts : List Nat
  k : LK
  dst : Option Nat
  g : Option (Nat × Bool)
omit [Dealing] in
def dkv (x : Dk) (w : Bool) (T : Tr AV) (H : AH) : Option AV := bt w (x.k.f (resT x.ts T) H) (some undefA)
omit [Dealing] in
def runDk : List Dk → Tr AV → AH → Option (Tr AV)
  | [], T, _ => some T
  | x :: r, T, H => ob (wantA x.g T) fun w => ob (dkv x w T H) fun v => runDk r (putA T x.dst v) H
omit [Dealing] in
def dkOf (x : RO) : Option Dk :=
  match x.sp.act with
  | .look k => bt (Nat.beq x.lo 0 && (Nat.beq x.hi 0 && !x.heavy)) (some ⟨looksA x, k, x.sp.dst, x.sp.g⟩) none
  | _ => none
omit [Dealing] in
def dksL : List RO → Option (List Dk)
  | [] => some []
  | x :: r => ob (dkOf x) fun d => ob (dksL r) fun l => some (d :: l)
omit [Dealing] in
def dksOf (E : Env) (n : Nat) (ops : List Oper) : Option (List Dk) := ob (analyse E n ops) fun a => dksL a.ord
end
end
end Go.Xq
namespace Go.Xq
open Go.Conc Go.ConcN Go.Conc.Lib Go.ConcR.Gen Go.ConcN.Gen
section
variable {m : Ren} {H H' : AH} {w w' : World}
theorem Rel.of (h : Rel m H w) (hn : H'.next = H.next) (hs : w.heap.size ≤ w'.heap.size) (hl : ∀ b o, H'.get b = some o → (∃ o0, H.get b = some o0) ∧ ∀ i, m b = some i → ∃ x, w'.heap[i.blk]? = some x ∧ OR m x o i) : Rel m H' w' :=
  ⟨fun b o hb i hi => (hl b o hb).2 i hi, fun b b' o o' i i' h1 h2 => let ⟨_, e1⟩ := (hl b o h1).1; let ⟨_, e2⟩ := (hl b' o' h2).1; h.inj b b' _ _ i i' e1 e2, fun b i hi => ⟨by rw [hn]; exact (h.bnd b i hi).1, Nat.lt_of_lt_of_le (h.bnd b i hi).2 hs⟩, h.glob⟩
noncomputable def ahOf (next : Nat) : List (Nat × AObj) → AH
  | [] => ⟨next, .e⟩
  | (b, o) :: l => (ahOf next l).set b o
theorem ahOf_next (next : Nat) : ∀ l, (ahOf next l).next = next
  | [] => rfl
  | (b, o) :: l => by rw [ahOf, AH.next_set, ahOf_next next l]
theorem ahOf_nil (next b : Nat) : (ahOf next []).get b = none := by
  show Tr.get (bits b) .e = none
  simp
theorem ahOf_get (next : Nat) (b : Nat) (o : AObj) (l : List (Nat × AObj)) (b' : Nat) : (ahOf next ((b, o) :: l)).get b' = if b' = b then some o else (ahOf next l).get b' := AH.get_set _ _ _ _
theorem ahOf_mem (next : Nat) : ∀ (l : List (Nat × AObj)) (b : Nat) (o : AObj), (ahOf next l).get b = some o → (b, o) ∈ l
  | [], b, o, h => by rw [ahOf_nil] at h; cases h
  | (b', o') :: l, b, o, h => by
    rw [ahOf_get] at h
    split at h
    · rename_i e; subst e; cases h; exact List.mem_cons_self
    · exact List.mem_cons_of_mem _ (ahOf_mem next l b o h)
noncomputable def roF : AObj → Nat → Option AV
  | .bys _ size _ n => fun k => if k < size then some (.int .u8 (.ofNat (byteAt n k))) else none
  | .cs _ es size _ z t => rdCs es size z t
  | .ro _ f => f
  | _ => fun _ => none
end
section
variable [Dealing]
def WPL (P : Program) (n0 : Nat) (m0 : Ren) (b : Frame) (n : Cx) (its : List Item) (T : Tr AV) (D : List ADf) (H : AH) (Q : Out → Prop) : Prop :=
  n0 ≤ H.next → ∀ m w a K cs, Ext n0 m0 m → CsOk b.kind cs → Rel m H w → FrR n m T D a → Gx P (WQ b n K cs m H w Q) (b.atR a (its ++ K)) cs w
variable {P : Program} {b : Frame} {n : Cx} {T : Tr AV} {D : List ADf} {H : AH} {Q Q' : Out → Prop} {its : List Item} {n0 : Nat} {m0 : Ren}
end
end Go.Xq
namespace Go.Xq
open Go.Conc Go.ConcN Go.Conc.Lib Go.ConcR.Gen Go.ConcN.Gen
section
variable {P : Program} {main : Bool} {b : Frame} {a : Act} {k : List Item} {cs : List Frame} {w : World} {ops : Array Oper} {i : Nat} {rest : List Nat} {o : Oper}
theorem stepG_callF {g : FuncId} {fn : Func} {c : Code} {as : Array Operand} {ats : Array TypeId} (ho : ops[i]? = some o) (hw : Region.wanted o (yielded ops a.tmps) = true) (hk : b.kind ≠ .early)
    (hop : o.op = .call { callee := .value (.func g), args := as, argTypes := ats }) (hf : P.funcs[g]? = some fn) (hname : (fn.name == "runtime.NumGoroutine") = false) (hb : fn.body = some c) :
    stepG P main (Conc.G (b.at a (.inRegion ops (i :: rest) :: k)) cs) w = .go (Conc.G (Frame.enter P g (as.map a.eval) .normal) (b.at a (.inRegion ops (i :: rest) :: k) :: cs)) w #[] := by
  have ef : a.eval (.func g) = .func (.func g) #[] #[] := rfl
  have h1 : fn.name ≠ "runtime.NumGoroutine" := by simpa using hname
  have hr : (execOp a.eval o).run P w = .ok (.enter g (as.map a.eval)) w := by
    unfold execOp
    simp [hop, resolve, Deferred.ofValue, ef, invoke, callFunc, hf, h1, hb]
  have he : (execOp a.eval o).events P w #[] = #[] := by
    unfold execOp
    simp [hop, resolve, Deferred.ofValue, ef, invoke, callFunc, hf, h1, hb]
  rw [stepG_enter ho hw hk hr]
  unfold listed
  rw [he, seen_none]
theorem stepG_goV {f : Fn} {first cap : Array Value} {x : Operand} {as : Array Operand} {ats : Array TypeId} (ho : ops[i]? = some o) (hw : Region.wanted o (yielded ops a.tmps) = true) (hk : b.kind ≠ .early)
    (hop : o.op = .go { callee := .value x, args := as, argTypes := ats }) (hx : a.eval x = .func f first cap) :
    stepG P main (Conc.G (b.at a (.inRegion ops (i :: rest) :: k)) cs) w = .spawn (Conc.G (b.at (a.put o.dst undef) (.inRegion ops rest :: k)) cs) (born P { target := .fn f cap, args := first ++ as.map a.eval }) w #[] := by
  have hr : (execOp a.eval o).run P w = .ok (.spawn { target := .fn f cap, args := first ++ as.map a.eval }) w := by
    unfold execOp
    simp [hop, resolve, Deferred.ofValue, hx]
  have he : (execOp a.eval o).events P w #[] = #[] := by
    unfold execOp
    simp [hop, resolve, Deferred.ofValue, hx]
  rw [stepG_spawn ho hw hk hr rfl]
  unfold listed
  rw [he, seen_none]
theorem rep115 : Array.replicate 115 undef = #[undef, undef, undef, undef, undef, undef, undef, undef, undef, undef, undef, undef, undef, undef, undef, undef, undef, undef, undef, undef, undef, undef, undef, undef, undef, undef, undef, undef, undef, undef, undef, undef, undef, undef, undef, undef, undef, undef, undef, undef, undef, undef, undef, undef, undef, undef, undef, undef, undef, undef, undef, undef, undef, undef, undef, undef, undef, undef, undef, undef, undef, undef, undef, undef, undef, undef, undef, undef, undef, undef, undef, undef, undef, undef, undef, undef, undef, undef, undef, undef, undef, undef, undef, undef, undef, undef, undef, undef, undef, undef, undef, undef, undef, undef, undef, undef, undef, undef, undef, undef, undef, undef, undef, undef, undef, undef, undef, undef, undef, undef, undef, undef, undef, undef, undef] := by
  apply Array.toList_inj.1
  simp only [Array.toList_replicate, List.replicate]
theorem repW : Array.replicate 83 undef = #[undef, undef, undef, undef, undef, undef, undef, undef, undef, undef, undef, undef, undef, undef, undef, undef, undef, undef, undef, undef, undef, undef, undef, undef, undef, undef, undef, undef, undef, undef, undef, undef, undef, undef, undef, undef, undef, undef, undef, undef, undef, undef, undef, undef, undef, undef, undef, undef, undef, undef, undef, undef, undef, undef, undef, undef, undef, undef, undef, undef, undef, undef, undef, undef, undef, undef, undef, undef, undef, undef, undef, undef, undef, undef, undef, undef, undef, undef, undef, undef, undef, undef, undef] := by
  apply Array.toList_inj.1
  simp only [Array.toList_replicate, List.replicate]
theorem enter_add {sp : Gp} (H : WgLib P sp.L) : Frame.enter P sp.L.add #[.pointer (some ⟨sp.Wg, 0, none⟩), .int .i64 1] .normal = addEntry sp.L sp.Wg := by
  rw [enter_at (fn := addFn sp.L) (c := body_add sp.L) _ H.f_add rfl]
  have e : (addFn sp.L).ntmps - (#[Value.pointer (some ⟨sp.Wg, 0, none⟩), .int .i64 1] : Array Value).size = 115 := rfl
  rw [e, rep115]
  simp only [addEntry, List.append_toArray, List.cons_append, List.nil_append]
theorem enter_wait {sp : Gp} (H : WgLib P sp.L) : Frame.enter P sp.L.wait #[.pointer (some ⟨sp.Wg, 0, none⟩)] .normal = waitEntry sp.L sp.Wg := by
  rw [enter_at (fn := waitFn sp.L) (c := body_wait sp.L) _ H.f_wait rfl]
  have e : (waitFn sp.L).ntmps - (#[Value.pointer (some ⟨sp.Wg, 0, none⟩)] : Array Value).size = 83 := rfl
  rw [e, repW]
  simp only [waitEntry, List.append_toArray, List.cons_append, List.nil_append]
set_option maxRecDepth 100000 in
theorem enter_done {L : WgLink} {Wg : Nat} (H : WgLib P L) : Frame.enter P L.done #[.pointer (some ⟨Wg, 0, none⟩)] .deferred = (baseD L.done).at ⟨#[.pointer (some ⟨Wg, 0, none⟩), undef, undef, undef], []⟩ [.code (body_done L)] := by
  rw [enter_atD (fn := doneFn L) (c := body_done L) _ H.f_done rfl]
  rfl
theorem callOk_add {sp : Gp} {j : Nat} {as : Array Operand} {ats : Array TypeId} (H : WgLib P sp.L) (ho : ops[i]? = some o) (hw : Region.wanted o (yielded ops a.tmps) = true) (hk : b.kind ≠ .early)
    (hop : o.op = .call { callee := .value (.func sp.L.add), args := as, argTypes := ats }) (has : as.map a.eval = #[.pointer (some ⟨sp.Wg, 0, none⟩), .int .i64 1]) (hm : w.heap[sp.Wg]? = some (mkD 1 j)) :
    CallOk P sp 1 j (addEntry sp.L sp.Wg) (b.at a (.inRegion ops (i :: rest) :: k)) cs w (b.at (a.put ((ops[i]?).bind (·.dst)) (.tuple #[])) (.inRegion ops rest :: k)) :=
  ⟨hm, b, a, ops, i, rest, k, rfl, rfl, fun main W => by rw [stepG_callF ho hw hk hop H.f_add rfl rfl, has, enter_add H]⟩
theorem callOk_wait {sp : Gp} {j : Nat} {as : Array Operand} {ats : Array TypeId} (H : WgLib P sp.L) (ho : ops[i]? = some o) (hw : Region.wanted o (yielded ops a.tmps) = true) (hk : b.kind ≠ .early)
    (hop : o.op = .call { callee := .value (.func sp.L.wait), args := as, argTypes := ats }) (has : as.map a.eval = #[.pointer (some ⟨sp.Wg, 0, none⟩)]) (hm : w.heap[sp.Wg]? = some (mkD 1 j)) :
    CallOk P sp 1 j (waitEntry sp.L sp.Wg) (b.at a (.inRegion ops (i :: rest) :: k)) cs w (b.at (a.put ((ops[i]?).bind (·.dst)) (.tuple #[])) (.inRegion ops rest :: k)) :=
  ⟨hm, b, a, ops, i, rest, k, rfl, rfl, fun main W => by rw [stepG_callF ho hw hk hop H.f_wait rfl rfl, has, enter_wait H]⟩
end
end Go.Xq
namespace Go.Xq
open Go.Conc Go.ConcN Go.Conc.Lib Go.ConcR.Gen Go.ConcN.Gen
def bornF (P : Program) : Frame := { (default : Frame) with fn := P.funcs.size, defers := [], mode := .panicking [goexitEntry] }
section
variable {P : Program} {main : Bool} {w : World}
theorem stepG_born {f : FuncId} {fn : Func} {c : Code} {cap args : Array Value} (hf : P.funcs[f]? = some fn) (hname : (fn.name == "runtime.NumGoroutine") = false) (hb : fn.body = some c) :
    stepG P main (born P { target := .fn (.func f) cap, args := args }) w = .go (Conc.G (Frame.enter P f (args ++ cap) .deferred) [bornF P]) w #[] := by
  have h1 : ¬ fn.name = "runtime.NumGoroutine" := by simpa using hname
  simp [born, bornF, Conc.G, stepG, unwind, callDeferred, invoke, callFunc, hf, h1, hb, GStep.after, seen_none]
theorem quits_born {b : Frame} {T : Array Value} {todo : List Item} {fn : Func} (hn : b.kind = .deferred) (hf : P.funcs[b.fn]? = some fn) (hr : fn.results = #[]) : QuitsD P 2 0 (Conc.G { b.at ⟨T, []⟩ todo with mode := .returning } [bornF P]) := by
  refine QuitsD.ctl (g' := Conc.G (bornF P) []) rfl (fun w => ?_) (QuitsD.ctl (g' := { Conc.G (bornF P) [] with status := .finished }) rfl (fun w => ?_) ⟨rfl, rfl⟩)
  · simp [Conc.G, stepG, unwind, doReturn, Frame.at, hn, hf, bornF, seen, GStep.after, results_none hr, events_results_none hr, goexitEntry]
  · simp [Conc.G, stepG, unwind, bornF, goexitEntry, Frame.catches]
    rfl
theorem worker_done [Dealing] {sp : Gp} (H : WgLib P sp.L) {b : Frame} {T : Array Value} {fn : Func} (hn : b.kind = .deferred) (hb : b.roundOf = none) (hf : P.funcs[b.fn]? = some fn) (hr : fn.results = #[]) {v : World} {n : Nat} (ho : v.heap[sp.out]? = some (mkD 3 n)) (hN : sp.N ≤ n) :
    Gx P (WEnd P sp) (b.at ⟨T, [dcall sp.L.done #[.pointer (some ⟨sp.Wg, 0, none⟩)]]⟩ []) [bornF P] v := by
  refine Gx.ctl (fr' := { b.at ⟨T, [dcall sp.L.done #[.pointer (some ⟨sp.Wg, 0, none⟩)]]⟩ [] with mode := .returning }) (cs' := [bornF P]) (fun main W => ?_) ?_
  · have := gR_end (P := P) (main := main) (b := b) (a := ⟨T, [dcall sp.L.done #[.pointer (some ⟨sp.Wg, 0, none⟩)]]⟩) (cs := [bornF P]) (W := W) hb
    rw [Frame.atR_of_none hb] at this
    exact this
  · refine Gx.ctl (fr' := (baseD sp.L.done).at ⟨#[.pointer (some ⟨sp.Wg, 0, none⟩), undef, undef, undef], []⟩ [.code (body_done sp.L)]) (cs' := [{ b.at ⟨T, []⟩ [] with mode := .returning }, bornF P]) (fun main W => ?_) ?_
    · rw [stepG_unwind_enter (fn := doneFn sp.L) (c := body_done sp.L) rfl H.f_done rfl rfl, ← enter_atD (fn := doneFn sp.L) (c := body_done sp.L) _ H.f_done rfl, enter_done H]
    · refine Gx.stop fun w1 hi => ⟨⟨n, hi.some ho, hN⟩, fun W hl => ⟨23, .r0 ?_⟩⟩
      exact doneW H rfl (quits_born hn hf hr) W hl
end
end Go.Xq
namespace Go.Xq
open Go.Conc Go.ConcN Go.Conc.Lib Go.ConcR.Gen Go.ConcN.Gen
theorem events_storeCells_in {P : Program} (g o : Nat) (t : TypeId) : ∀ (vs : List Value) (i : Nat) (cur : Array Value) (w : World) (es : Array Event), w.heap[g]? = some (.cells cur t (0, 0)) → o + i + vs.length ≤ cur.size → (∀ v ∈ vs, v.oneCell' = true) →
    ∀ ev ∈ (storeCells ⟨g, o, none⟩ vs i).events P w es, ev ∈ es ∨ ∃ j, j < i + vs.length ∧ ev = ⟨.cell ⟨g, o + j, none⟩, true, false⟩
  | [], _, _, _, _, _, _, _ => fun ev h => .inl (by simpa [storeCells] using h)
  | v :: rest, i, cur, w, es, hg, hl, h1 => fun ev h => by
    have hi : o + i < cur.size := by simp at hl; omega
    have hadd : (⟨g, o, none⟩ : Addr).add i = ⟨g, o + i, none⟩ := by unfold Addr.add; split <;> simp_all
    have hcell : w.cell? ⟨g, o + i, none⟩ = some cur[o + i] := by simp [World.cell?, hg, hi]
    have hfro : w.frozen? ⟨g, o + i, none⟩ = false := by simp [World.frozen?, hg]
    have hst : (store ((⟨g, o, none⟩ : Addr).add i) v).run P w = .ok () (w.setRow g (cur.setIfInBounds (o + i) v)) := by
      rw [hadd, run_store P w _ v _ (h1 v (by simp)), hcell]
      simp [hfro, setCell_eq_setRow w g (o + i) cur t (0, 0) v hg]
    have hev : (store ((⟨g, o, none⟩ : Addr).add i) v).events P w es = es.push ⟨.cell ⟨g, o + i, none⟩, true, false⟩ := by
      rw [hadd, events_store P w es _ v _ (h1 v (by simp)), hcell]
      simp only [hfro, Bool.false_eq_true, if_false]
      rfl
    simp only [storeCells, Sem.events_bind, hst, Result.evThen_ok, hev] at h
    rcases events_storeCells_in g o t rest (i + 1) (cur.setIfInBounds (o + i) v) (w.setRow g (cur.setIfInBounds (o + i) v)) _ (setRow_heap w g cur _ t _ hg) (by simp at hl ⊢; omega) (fun x hx => h1 x (by simp [hx])) ev h with h | ⟨j, hj, h⟩
    · rcases Array.mem_push.1 h with h | rfl
      · exact .inl h
      · exact .inr ⟨i, by simp, rfl⟩
    · exact .inr ⟨j, by simp at hj ⊢; omega, h⟩
theorem setRow_setB {w : World} {g : Nat} {cur c : Array Value} {t : TypeId} (hg : w.heap[g]? = some (.cells cur t (0, 0))) : w.setRow g c = setB w g (.cells c t (0, 0)) := by
  have e : w.heap.modify g (fun | .cells _ elem frozen => .cells c elem frozen | o => o) = w.heap.setIfInBounds g (.cells c t (0, 0)) := by
    apply Array.ext_getElem?
    intro k
    rw [Array.getElem?_modify, Array.getElem?_setIfInBounds]
    by_cases h : g = k
    · subst h
      rw [if_pos rfl, if_pos rfl, hg, if_pos (Array.getElem?_eq_some_iff.1 hg).1]; rfl
    · rw [if_neg h, if_neg h]
  exact congrArg (fun h => ({ w with heap := h } : World)) e
section
variable {P : Program} {b : Frame} {a : Act} {k : List Item} {cs : List Frame} {ops : Array Oper} {i : Nat} {rest : List Nat} {o : Oper}
theorem putAt_of {sp : Gp} {n t : Nat} {x y : Operand} {vs : Array Value} (ho : ops[i]? = some o) (hw : Region.wanted o (yielded ops a.tmps) = true) (hk : b.kind ≠ .early) (hop : o.op = .store t x y) (hx : a.eval x = .pointer (some ⟨sp.out, n * sp.ks, none⟩)) (hy : (a.eval y).cells = vs)
    (hsz : ∀ w, (sizeOf t).run P w = .ok vs.size w) (hvs : vs.size = sp.ks) (h1 : ∀ v ∈ vs.toList, v.oneCell' = true) (hn : n < sp.N) : PutAt P sp n vs.toList (b.at a (.inRegion ops (i :: rest) :: k)) cs (b.at (a.put o.dst undef) (.inRegion ops rest :: k)) cs := by
  intro main W cc hW hcc
  have hle : n * sp.ks + sp.ks ≤ cc.size := by
    rw [hcc]
    have : (n + 1) * sp.ks ≤ sp.N * sp.ks := Nat.mul_le_mul_right _ hn
    rw [Nat.add_mul] at this
    omega
  have hlen : vs.toList.length = sp.ks := by simpa using hvs
  have hrun := run_storeCells_at (P := P) sp.out (n * sp.ks) sp.oe vs.toList 0 cc W hW (by omega) h1
  have hev := events_storeCells_in (P := P) sp.out (n * sp.ks) sp.oe vs.toList 0 cc W #[] hW (by omega) h1
  generalize hcc' : (cc.toList.take (n * sp.ks + 0) ++ vs.toList ++ cc.toList.drop (n * sp.ks + 0 + vs.toList.length)).toArray = cc' at hrun
  rw [setRow_setB hW] at hrun
  have hr : (execOp a.eval o).run P W = .ok .skip (setB W sp.out (.cells cc' sp.oe (0, 0))) := by
    simp only [execOp, hop]; apply run_u
    simp [Instr.storeAt, hx, Instr.sureAddr, storeVar, hy, hsz, hrun]
  have he : (execOp a.eval o).events P W #[] = (storeCells ⟨sp.out, n * sp.ks, none⟩ vs.toList 0).events P W #[] := by
    simp only [execOp, hop]
    simp [Instr.storeAt, hx, Instr.sureAddr, storeVar, hy, hsz, Sem.events_bind, hrun]
  have hfin : (b.at a (.inRegion ops (i :: rest) :: k)).finish undef = b.at (a.put o.dst undef) (.inRegion ops rest :: k) := by rw [Frame.finish_at, ho]; rfl
  have hk' : (b.kind == CallKind.early) = false := by simpa using hk
  refine ⟨cc', seen P b.fn ((storeCells ⟨sp.out, n * sp.ks, none⟩ vs.toList 0).events P W #[]), ?_, ?_, fun q hq => ?_, fun q hq => ?_, fun e hee => ?_⟩
  · rw [stepG_oper ho hw, ← hfin]
    simp [stepG.apply, hr, he, Conc.G, Frame.at, hk', GStep.after]
  · rw [← hcc']; simp; omega
  · rw [← hcc']
    have h3 : (List.take (n * sp.ks + 0) cc.toList).length = n * sp.ks := by simp; omega
    rw [List.getElem?_toArray, List.append_assoc, List.getElem?_append_right (by omega), h3, List.getElem?_append_left (by omega)]
    congr 1; omega
  · rw [← hcc']
    have h3 : (List.take (n * sp.ks + 0) cc.toList).length = n * sp.ks := by simp; omega
    rw [List.getElem?_toArray, List.append_assoc]
    rcases hq with hq | hq
    · rw [List.getElem?_append_left (by omega), List.getElem?_take, if_pos (by omega)]; simp
    · rw [List.getElem?_append_right (by omega), h3, List.getElem?_append_right (by omega), List.getElem?_drop]
      rw [← Array.getElem?_toList]
      congr 1; omega
  · rcases hev e (mem_seen hee) with h | ⟨q, hq, h⟩
    · simp at h
    · exact ⟨q, by omega, h⟩
end
end Go.Xq
namespace Go.Xq
noncomputable def stopOk (opsS : Array Oper) : Bool :=
  edgesOk opsS.toList 0 && (opsS.pop.toList.all fun o => o.guard.isNone) && Nat.blt 0 opsS.size &&
    match opsS[opsS.size - 1]? with
    | some z => (List.range (opsS.size - 1)).all fun i => z.after.toList.any fun e => bindsA e && Nat.beq e.on i
    | none => false
theorem stopOk_of {opsS : Array Oper} (h : stopOk opsS = true) : (∀ (i : Nat) (o : Oper), opsS.pop[i]? = some o → opsS[i]? = some o) ∧ (∀ (i : Nat) (o : Oper), opsS.pop[i]? = some o → ∀ ts, Region.wanted o (yielded opsS ts) = Region.wanted o (yielded opsS.pop ts)) ∧ opsS.size = opsS.pop.size + 1 ∧ edgesOk opsS.toList 0 = true ∧
    (∀ z : Oper, opsS[opsS.pop.size]? = some z → ∀ i, i < opsS.pop.size → ∃ e ∈ z.after.toList, bindsA e = true ∧ e.on = i) := by
  simp only [stopOk, Bool.and_eq_true] at h
  obtain ⟨⟨⟨h1, h2⟩, h3⟩, h4⟩ := h
  have h3 : 0 < opsS.size := by simpa [Nat.blt_eq] using h3
  have hps : opsS.pop.size = opsS.size - 1 := Array.size_pop
  refine ⟨fun i o ho => ?_, fun i o ho ts => ?_, by omega, h1, fun z hz i hi => ?_⟩
  · rw [Array.getElem?_pop] at ho
    split at ho
    · exact ho
    · cases ho
  · rw [List.all_eq_true] at h2
    have := h2 o (by rw [Array.mem_toList_iff]; exact Array.mem_of_getElem? ho)
    have hg : o.guard = none := by simpa using this
    simp [Region.wanted, hg]
  · rw [hps] at hz hi
    rw [hz] at h4
    simp only [List.all_eq_true] at h4
    have h5 := h4 i (List.mem_range.2 hi)
    simp only [List.any_eq_true, Bool.and_eq_true] at h5
    obtain ⟨e, e1, e2, e3⟩ := h5
    exact ⟨e, e1, e2, Nat.eq_of_beq_eq_true e3⟩
section
variable [Dealing] {P : Program} {E : Env} {b : Frame} {cx : Cx}
theorem draw_last (hE : TyOk P E) (hX : ExtOk P E) (hm : P.follows .mixedOrders = true) {id : Nat} {opsS : Array Oper} (hst : stopOk opsS = true) {k : RK} (h : drawK E cx.n opsS.pop.toList = some k) {R : Rec} (hR : RecOk P R) {m : Ren} {H H2 : AH} {w : World} {T T2 : Tr AV} {D D2 : List ADf} {a : Act} {K : List Item} {cs : List Frame} (hr : Rel m H w) (hf : FrR cx m T D a) (hk : k.f R T D H = .nor T2 D2 H2)
    {Φ : Frame → List Frame → World → Prop} (hΦ : ∀ m2 a2 w2, St m H w m2 H2 w2 → FrR cx m2 T2 D2 a2 → Gx P Φ (b.atR a2 (.inRegion opsS [opsS.size - 1] :: K)) cs w2) : Gx P Φ (b.atR a (.code (.region id opsS true) :: K)) cs w := by
  obtain ⟨h1, h2, h3, h4, h5⟩ := stopOk_of hst
  refine draw_stop hE hX.run hX.quiet hm h h1 h2 h3 h4 h5 hR hr hf hk fun m2 a2 w2 g1 g2 => ?_
  rw [show opsS.pop.size = opsS.size - 1 from Array.size_pop]
  exact hΦ m2 a2 w2 g1 g2
end
end Go.Xq
namespace Go.Xq
open Go.Conc
structure Lies (w w' : World) : Prop where
  os : w'.os = w.os
  output : w'.output = w.output
  size : w.heap.size ≤ w'.heap.size
  all : ∀ k, k < w.heap.size → w'.heap[k]? = w.heap[k]?
section
variable {w w' w2 : World}
theorem Lies.trans (h : Lies w w') (h' : Lies w' w2) : Lies w w2 :=
  ⟨h'.os.trans h.os, h'.output.trans h.output, Nat.le_trans h.size h'.size, fun k hk => by rw [h'.all k (Nat.lt_of_lt_of_le hk h.size), h.all k hk]⟩
theorem Lies.of_idle (h : Idle w w') : Lies w w' := ⟨h.os, h.output, h.size, fun _ hk => h.block hk⟩
theorem Lies.some (h : Lies w w') {k : Nat} {o : Obj} (hk : w.heap[k]? = some o) : w'.heap[k]? = some o := by
  rw [h.all k (Array.getElem?_eq_some_iff.1 hk).1, hk]
theorem Lies.push (w : World) (o : Obj) : Lies w { w with heap := w.heap.push o } :=
  ⟨rfl, rfl, by simp, fun k hk => by show (w.heap.push o)[k]? = _; rw [Array.getElem?_push, if_neg (by omega)]⟩
end
section
variable {m m2 : Ren} {H : AH} {w w2 : World}
theorem lies_of (hro : ∀ b o, H.get b = some o → ∃ x f, o = .ro x f) (hr : Rel m H w) (g : St m H w m2 H w2) : Lies w w2 := by
  refine ⟨g.os, g.out, g.size, fun k hk => ?_⟩
  by_cases h : ∃ b i, m b = some i ∧ H.get b ≠ none ∧ i.blk = k
  · obtain ⟨b, i, h1, h2, rfl⟩ := h
    cases ho : H.get b with
    | none => exact absurd ho h2
    | some o =>
      obtain ⟨x, f, rfl⟩ := hro b o ho
      obtain ⟨y, e1, e2⟩ := hr.live b _ ho i h1
      cases e2
      obtain ⟨z, e3, e4⟩ := g.rel.live b _ ho i (St.le hr g b i h1)
      cases e4
      rw [e1, e3]
  · exact g.keep k hk fun b i hb hn e => h ⟨b, i, hb, hn, e⟩
theorem ren_same (hr : Rel m H w) (g : St m H w m2 H w2) : m2 = m := by
  funext b
  by_cases h : b < H.next
  · exact g.ext b h
  · have e1 : m b = none := by
      cases hb : m b with
      | none => rfl
      | some i => exact absurd (hr.bnd b i hb).1 h
    have e2 : m2 b = none := by
      cases hb : m2 b with
      | none => rfl
      | some i => exact absurd (g.rel.bnd b i hb).1 h
    rw [e1, e2]
end
section
variable {P : Program} {E : Env} {o : Oper} {ρ : Operand → Value}
theorem run_alloc_x {t : TypeId} {zv : Value} (w : World) (hz : (zeroValue t).run P w = .ok zv w) (ho : o.op = .alloc t) : (execOp ρ o).run P w = .ok (.value (.pointer (some ⟨w.heap.size, 0, none⟩))) { w with heap := w.heap.push (.cells zv.cells t (0, 0)) } := by
  simp only [execOp, ho]; apply run_v
  simp [Instr.alloc, hz, Result.andThen, newVar, run_newRow]
theorem run_box_x {t : TypeId} {x : Operand} (w : World) (ho : o.op = .box t x) : (execOp ρ o).run P w = .ok (.value (.pointer (some ⟨w.heap.size, 0, none⟩))) { w with heap := w.heap.push (.cells (ρ x).cells t (0, 0)) } := by
  simp only [execOp, ho]; apply run_v
  simp [Instr.box, Result.andThen, newVar, run_newRow]
theorem run_make_x {t e : TypeId} {l c : Operand} {i : TypeInfo} {zv : Value} {n bytes : Nat} (w : World) (h1 : (underlying t).run P w = .ok (.slice e) w) (h2 : (typeInfo e).run P w = .ok i w) (hb : i.bytes = bytes) (hz : (zeroValue e).run P w = .ok zv w) (hs : (sizeOf e).run P w = .ok zv.cells.size w)
    (hl : ρ l = .int .i64 (n : Int)) (hc : ρ c = .int .i64 (n : Int)) (hn : bytes * n ≤ 281474976710656) (hn' : n < 9223372036854775808) (ho : o.op = .makeSlice t l c) :
    (execOp ρ o).run P w = .ok (.value (.slice (some ⟨w.heap.size, 0, none⟩) n n)) { w with heap := w.heap.push (.cells (List.replicate n zv.cells.toList).flatten.toArray e (0, 0)) } := by
  simp only [execOp, ho]; apply run_v
  have w1 : IntKind.i64.wrap (n : Int) = n := wrap_i64 hn'
  have harr : ((Array.range (n * zv.cells.size)).map fun i => (if n * zv.cells.size = 0 then #[] else zv.cells)[i % (if n * zv.cells.size = 0 then #[] else zv.cells).size]!) = (List.replicate n zv.cells.toList).flatten.toArray := by
    by_cases h0 : n * zv.cells.size = 0
    · simp only [h0, if_true]
      have : (List.replicate n zv.cells.toList).flatten = [] := by
        apply List.eq_nil_of_length_eq_zero
        simp [h0]
      rw [this]; simp
    · simp only [h0, if_false]
      exact zeros_arr _ _
  simp only [Instr.makeSlice, Sem.run_bind, h1, Result.andThen, hl, hc, run_asInt, h2, hb, w1]
  rw [if_neg (by simp; omega)]
  simp only [Sem.run_bind, Result.andThen, run_askRoom, hs, Int.toNat_natCast]
  by_cases h0 : n * zv.cells.size = 0
  · simp only [if_pos h0] at harr ⊢
    simp only [Sem.run_bind, Sem.run_pure, Result.andThen, harr, run_newRow]
  · simp only [if_neg h0] at harr ⊢
    simp only [Sem.run_bind, Sem.run_pure, Result.andThen, hz, harr, run_newRow]
theorem run_store_x {t : TypeId} {x y : Operand} {k : Nat} {old v : Value} {e : TypeId} (w : World) (hx : ρ x = .pointer (some ⟨k, 0, none⟩)) (hy : (ρ y).cells = #[v]) (h1 : v.oneCell' = true) (hs : (sizeOf t).run P w = .ok 1 w) (hk : w.heap[k]? = some (.cells #[old] e (0, 0))) (ho : o.op = .store t x y) :
    (execOp ρ o).run P w = .ok .skip (setB w k (.cells #[v] e (0, 0))) := by
  have hrun := run_storeCells_at (P := P) k 0 e [v] 0 #[old] w hk (by simp) (by simpa using h1)
  rw [setRow_setB hk] at hrun
  have e1 : (List.take (0 + 0) (#[old] : Array Value).toList ++ [v] ++ List.drop (0 + 0 + [v].length) (#[old] : Array Value).toList).toArray = #[v] := by simp
  rw [e1] at hrun
  simp only [execOp, ho]; apply run_u
  simp [Instr.storeAt, hx, Instr.sureAddr, storeVar, hy, hs, hrun]
end
def reg (ops : Array Oper) (i : Nat) : Item := .inRegion ops (List.range' i (ops.size - i))
section
variable [Dealing] {P : Program} {E : Env} {b : Frame} {n : Cx} {T T2 : Tr AV} {D : List ADf} {H : AH} {m : Ren} {w : World} {a : Act} {K : List Item} {cs : List Frame} {Φ : Frame → List Frame → World → Prop} {id i : Nat} {ops : Array Oper} {o : Oper}
theorem gx_region (h : Gx P Φ (b.atR a (reg ops 0 :: K)) cs w) : Gx P Φ (b.atR a (.code (.region id ops false) :: K)) cs w := by
  refine Steps.one stepR_region Φ ?_
  rw [List.range_eq_range']
  exact h
theorem gx_regEnd (hi : i = ops.size) (h : Gx P Φ (b.atR a K) cs w) : Gx P Φ (b.atR a (reg ops i :: K)) cs w := by
  subst hi
  unfold reg
  rw [Nat.sub_self]
  exact Steps.one stepR_region_end Φ h
omit [Dealing] in
theorem reg_cons (hi : i < ops.size) : reg ops i = .inRegion ops (i :: List.range' (i + 1) (ops.size - (i + 1))) := by
  unfold reg
  rw [show ops.size - i = (ops.size - (i + 1)) + 1 from by omega, List.range'_succ]
theorem gx_looks (hE : TyOk P E) (hX : ExtOk P E) (j : Nat) {ls : List Lk} (hk : lksOf E n.n ops.toList ((ops.toList.drop i).take j) = some ls) (hij : Nat.ble (i + j) ops.size = true) (ho : runLk ls T H = some T2) (hro : ∀ b o, H.get b = some o → ∃ x f, o = .ro x f) (hcs : CsOk b.kind cs) (hr : Rel m H w) (hf : FrR n m T D a)
    (h : ∀ a2 w2, Lies w w2 → FrR n m T2 D a2 → Gx P Φ (b.atR a2 (reg ops (i + j) :: K)) cs w2) : Gx P Φ (b.atR a (reg ops i :: K)) cs w := by
  have hij := Nat.le_of_ble_eq_true hij
  obtain ⟨k, h1, h2⟩ := lksOf_run (rd := b.roundOf.isSome) (all := ops.toList) hk
  have h3 := opsK_to hE hX.run hX.quiet (b := b) (n := n) (rd := b.roundOf.isSome) rfl (ops := ops) (pre := (ops.toList.drop i).take j) (post := (ops.toList.drop i).drop j) (i := i) (List.take_append_drop _ _).symm h1
  have e1 : ((ops.toList.drop i).take j ++ (ops.toList.drop i).drop j).length = ops.size - i := by rw [List.take_append_drop]; simp
  have e2 : ((ops.toList.drop i).take j).length = j := by rw [List.length_take, List.length_drop, Array.length_toList]; omega
  have e3 : ((ops.toList.drop i).drop j).length = ops.size - (i + j) := by rw [List.length_drop, List.length_drop, Array.length_toList]; omega
  rw [e1, e2, e3] at h3
  have h4 := h3 _ recNone_ok m H w T D a K cs hcs hr hf
  rw [h2 _ T D H T2 ho] at h4
  refine Gx.bind h4 ?_
  rintro fr cs' w' ⟨rfl, m2, a2, g1, g2, rfl⟩
  have e := ren_same hr g1
  subst e
  exact h a2 w' (lies_of hro hr g1) g2
theorem gx_val {v : World → Value} {f : World → World} (hi : Nat.blt i ops.size = true) (hops : ops[i]? = some o) (hg : o.guard = none) (hnd : ∀ c, o.op ≠ .defer c) (hq : ∀ w1, QG P (execOp a.eval o) w1) (hrun : ∀ w1, Idle w w1 → (execOp a.eval o).run P w1 = .ok (.value (v w1)) (f w1))
    (h : ∀ w1, Idle w w1 → Gx P Φ (b.atR (a.put o.dst (v w1)) (reg ops (i + 1) :: K)) cs (f w1)) : Gx P Φ (b.atR a (reg ops i :: K)) cs w := by
  rw [reg_cons (by simpa [Nat.blt_eq] using hi)]
  refine step_op (o := o) (Q := fun v' w' => ∃ w1, Idle w w1 ∧ v' = v w1 ∧ w' = f w1) hops (by simp [Region.wanted, hg]) (Oper.semAt_eq _ _ _ hnd) (fun w1 hi => ⟨hq w1, .value _ _ (hrun w1 hi) ⟨w1, hi, rfl, rfl⟩⟩) ?_
  rintro v' w' ⟨w1, hi, rfl, rfl⟩
  exact h w1 hi
theorem gx_skip {f : World → World} (hi : Nat.blt i ops.size = true) (hops : ops[i]? = some o) (hg : o.guard = none) (hnd : ∀ c, o.op ≠ .defer c) (hq : ∀ w1, QG P (execOp a.eval o) w1) (hrun : ∀ w1, Idle w w1 → (execOp a.eval o).run P w1 = .ok .skip (f w1))
    (h : ∀ w1, Idle w w1 → Gx P Φ (b.atR (a.put o.dst undef) (reg ops (i + 1) :: K)) cs (f w1)) : Gx P Φ (b.atR a (reg ops i :: K)) cs w := by
  rw [reg_cons (by simpa [Nat.blt_eq] using hi)]
  refine step_op (o := o) (Q := fun v' w' => ∃ w1, Idle w w1 ∧ v' = undef ∧ w' = f w1) hops (by simp [Region.wanted, hg]) (Oper.semAt_eq _ _ _ hnd) (fun w1 hi => ⟨hq w1, .skip _ (hrun w1 hi) ⟨w1, hi, rfl, rfl⟩⟩) ?_
  rintro v' w' ⟨w1, hi, rfl, rfl⟩
  exact h w1 hi
theorem gx_store {t : TypeId} {x y : Operand} {k : Nat} {old v : Value} {e : TypeId} (hi : Nat.blt i ops.size = true) (hops : ops[i]? = some o) (hg : o.guard = none) (ho : o.op = .store t x y) (hx : a.eval x = .pointer (some ⟨k, 0, none⟩)) (hy : (a.eval y).cells = #[v]) (h1 : v.oneCell' = true) (hs : ∀ w, (sizeOf t).run P w = .ok 1 w) (hk : w.heap[k]? = some (.cells #[old] e (0, 0)))
    (h : ∀ w1, Idle w w1 → Gx P Φ (b.atR (a.put o.dst undef) (reg ops (i + 1) :: K)) cs (setB w1 k (.cells #[v] e (0, 0)))) : Gx P Φ (b.atR a (reg ops i :: K)) cs w :=
  gx_skip hi hops hg (fun c e => by rw [ho] at e; cases e) (fun w1 => by simp only [execOp, ho]; exact QG.u plain_storeAt.qg) (fun w1 hi => run_store_x w1 hx hy h1 (hs w1) (hi.some hk) ho) h
theorem gx_alloc {t : TypeId} {zv : Value} (hi : Nat.blt i ops.size = true) (hops : ops[i]? = some o) (hg : o.guard = none) (ho : o.op = .alloc t) (hz : ∀ w, (zeroValue t).run P w = .ok zv w)
    (h : ∀ w1, Idle w w1 → Gx P Φ (b.atR (a.put o.dst (.pointer (some ⟨w1.heap.size, 0, none⟩))) (reg ops (i + 1) :: K)) cs { w1 with heap := w1.heap.push (.cells zv.cells t (0, 0)) }) : Gx P Φ (b.atR a (reg ops i :: K)) cs w :=
  gx_val (v := fun w1 => .pointer (some ⟨w1.heap.size, 0, none⟩)) (f := fun w1 => { w1 with heap := w1.heap.push (.cells zv.cells t (0, 0)) }) hi hops hg (fun c e => by rw [ho] at e; cases e) (fun w1 => by simp only [execOp, ho]; exact QG.v plain_alloc.qg) (fun w1 _ => run_alloc_x w1 (hz w1) ho) h
theorem gx_box {t : TypeId} {x : Operand} (hi : Nat.blt i ops.size = true) (hops : ops[i]? = some o) (hg : o.guard = none) (ho : o.op = .box t x)
    (h : ∀ w1, Idle w w1 → Gx P Φ (b.atR (a.put o.dst (.pointer (some ⟨w1.heap.size, 0, none⟩))) (reg ops (i + 1) :: K)) cs { w1 with heap := w1.heap.push (.cells (a.eval x).cells t (0, 0)) }) : Gx P Φ (b.atR a (reg ops i :: K)) cs w :=
  gx_val (v := fun w1 => .pointer (some ⟨w1.heap.size, 0, none⟩)) (f := fun w1 => { w1 with heap := w1.heap.push (.cells (a.eval x).cells t (0, 0)) }) hi hops hg (fun c e => by rw [ho] at e; cases e) (fun w1 => by simp only [execOp, ho]; exact QG.v plain_box.qg) (fun w1 _ => run_box_x w1 ho) h
theorem gx_make {t e : TypeId} {l c : Operand} {ti : TypeInfo} {zv : Value} {n bytes : Nat} (hi : Nat.blt i ops.size = true) (hops : ops[i]? = some o) (hg : o.guard = none) (ho : o.op = .makeSlice t l c) (h1 : ∀ w, (underlying t).run P w = .ok (.slice e) w) (h2 : ∀ w, (typeInfo e).run P w = .ok ti w) (hb : ti.bytes = bytes) (hz : ∀ w, (zeroValue e).run P w = .ok zv w) (hs : ∀ w, (sizeOf e).run P w = .ok zv.cells.size w)
    (hl : a.eval l = .int .i64 (n : Int)) (hc : a.eval c = .int .i64 (n : Int)) (hn : bytes * n ≤ 281474976710656) (hn' : n < 9223372036854775808)
    (h : ∀ w1, Idle w w1 → Gx P Φ (b.atR (a.put o.dst (.slice (some ⟨w1.heap.size, 0, none⟩) n n)) (reg ops (i + 1) :: K)) cs { w1 with heap := w1.heap.push (.cells (List.replicate n zv.cells.toList).flatten.toArray e (0, 0)) }) : Gx P Φ (b.atR a (reg ops i :: K)) cs w :=
  gx_val (v := fun w1 => .slice (some ⟨w1.heap.size, 0, none⟩) n n) (f := fun w1 => { w1 with heap := w1.heap.push (.cells (List.replicate n zv.cells.toList).flatten.toArray e (0, 0)) }) hi hops hg (fun c e => by rw [ho] at e; cases e) (fun w1 => by simp only [execOp, ho]; exact QG.v plain_makeSlice.qg) (fun w1 _ => run_make_x w1 (h1 w1) (h2 w1) hb (hz w1) (hs w1) hl hc hn hn' ho) h
end
section
variable {n : Nat} {m : Ren} {a : Act}
theorem frR_of {l : List (Nat × AV)} (hs : a.tmps.size = n) (hd : a.defers = []) (h : ∀ p ∈ l, VR m p.2 (a.eval (.tmp p.1))) : FrR ⟨n, none, none⟩ m (tl l) [] a := by
  refine ⟨⟨hs, fun t v hv => ?_⟩, by rw [hd]; exact .nil, .inl ⟨rfl, rfl⟩⟩
  rw [get_tl] at hv
  have key : ∀ l : List (Nat × AV), tget t l = some v → (t, v) ∈ l := by
    intro l
    induction l with
    | nil => intro h; cases h
    | cons p l ih =>
      intro h
      unfold tget at h
      cases hb : Nat.beq t p.1 with
      | true =>
        rw [hb] at h
        have e := Nat.eq_of_beq_eq_true hb
        simp only [bt_true, Option.some.injEq] at h
        subst e; subst h
        exact List.mem_cons_self
      | false => rw [hb] at h; exact List.mem_cons_of_mem _ (ih h)
  exact h _ (key l hv)
theorem put_same {d : Nat} {v : Value} (h : d < a.tmps.size) : (a.put (some d) v).eval (.tmp d) = v := by
  show (a.tmps.setIfInBounds d v).getD d undef = v
  simp [Array.getD_eq_getD_getElem?, h]
theorem put_ne {d k : Nat} {v : Value} (h : k ≠ d) : (a.put (some d) v).eval (.tmp k) = a.eval (.tmp k) := by
  show (a.tmps.setIfInBounds d v).getD k undef = a.tmps.getD k undef
  simp only [Array.getD_eq_getD_getElem?]
  rw [Array.getElem?_setIfInBounds_ne (Ne.symm h)]
theorem put_size {d : Option Nat} {v : Value} : (a.put d v).tmps.size = a.tmps.size := by
  cases d with
  | none => rfl
  | some d => show (a.tmps.setIfInBounds d v).size = _; simp
theorem put_defers {d : Option Nat} {v : Value} : (a.put d v).defers = a.defers := by cases d <;> rfl
end
end Go.Xq
