/- A part of the proof of this seat's statement. Conditions: in each theorem. -/
import Derived.Test.YtnodjhgmghkikaaGreatW29
import Derived.Conc.LeavingOf
import Derived.Test.YtnodjhgmghkikaaGreatProg
import Derived.KernelRfl
import Derived.Conc.WgGenDone
namespace Go.Xq
open Go.Conc
open Classical in
noncomputable def ownW (W : World) : World := { W with heap := W.heap.map fun o => if NVo o then o else deadO }
theorem ownW_size (W : World) : (ownW W).heap.size = W.heap.size := by show (W.heap.map _).size = _; simp
open Classical in
theorem ownW_get {W : World} {k : Nat} {o : Obj} (h : (ownW W).heap[k]? = some o) : (W.heap[k]? = some o ∧ NVo o) ∨ o = deadO := by
  have h : (W.heap.map fun o => if NVo o then o else deadO)[k]? = some o := h
  rw [Array.getElem?_map] at h
  cases e : W.heap[k]? with
  | none => rw [e] at h; cases h
  | some y =>
    rw [e] at h
    simp only [Option.map_some, Option.some.injEq] at h
    by_cases hn : NVo y
    · rw [if_pos hn] at h; subst h; exact .inl ⟨rfl, hn⟩
    · rw [if_neg hn] at h; exact .inr h.symm
theorem restr_ownW (W : World) : Restr (ownW W) W := by
  refine ⟨rfl, rfl, rfl, rfl, ownW_size W, fun k o hk hd _ => ?_, fun k c e fr hk hs => ?_, fun k o hk => ?_⟩
  · rcases ownW_get hk with ⟨h, _⟩ | rfl
    · exact h
    · exact absurd dead_deadO hd
  · rcases ownW_get hk with ⟨h, _⟩ | h
    · exact ⟨fr, h⟩
    · exact absurd hs (by rw [h]; exact dead_deadO.not_shr)
  · rcases ownW_get hk with ⟨_, h⟩ | rfl
    · exact h
    · exact nvo_dead
theorem outer_start (P : Program) (fr : Frame) (W : World) : Outer P (fun _ => False) #[Conc.G fr []] W #[] fr [] (ownW W) := by
  refine ⟨rfl, ⟨_, leavers_one P _⟩, ⟨fun said => ?_, fun i a ha => by simp [touchAt, Trace.act?] at ha, fun i g hg => by simp [Trace.g?] at hg, rfl, by simp⟩, restr_ownW W, fun k hk => hk.elim, by simp, by simp⟩
  rintro ⟨i, j, _, ⟨a, b, ha, _⟩, _⟩; simp [Trace.act?] at ha
theorem dur_same {v0 W0 W : World} (hr : Restr v0 W0) (h : Dur v0 W0 v0 W) : W = W0 := by
  have hh : W.heap = W0.heap := by
    apply Array.ext_getElem?
    intro k
    cases hv : v0.heap[k]? with
    | none =>
      have h1 : v0.heap.size ≤ k := by rw [Array.getElem?_eq_none_iff] at hv; exact hv
      rw [Array.getElem?_eq_none (by rw [← h.size]; exact h1), Array.getElem?_eq_none (by rw [← hr.size]; exact h1)]
    | some o =>
      by_cases hd : Dead o ∨ Shr o
      · exact (h.dead k o hv hd).2
      · have hd1 : ¬ Dead o := fun e => hd (.inl e)
        have hd2 : ¬ Shr o := fun e => hd (.inr e)
        have h1 := h.own k fun o' ho' => by rw [hv] at ho'; cases ho'; exact ⟨hd1, hd2⟩
        rw [← h1, hv, hr.own k o hv hd1 hd2]
  obtain ⟨a1, a2, a3, a4, a5⟩ := W
  obtain ⟨b1, b2, b3, b4, b5⟩ := W0
  have e1 : a1 = b1 := hh
  have e2 : a2 = b2 := h.tape.symm.trans hr.tape
  have e3 : a3 = b3 := h.drawn.symm.trans hr.drawn
  have e4 : a4 = b4 := h.osW
  have e5 : a5 = b5 := h.outW
  subst e1; subst e2; subst e3; subst e4; subst e5
  rfl
section
variable {P : Program}
theorem end_gx {f : FuncId} {args : Array Value} {W : World} {Q : Value → World → Prop} {Post : Value → World → Prop} (hi : P.inits.idxOf? f = none) (h : @XC (outerD P) P .normal f args (ownW W) Q)
    (hp : ∀ v v' W', Q v v' → Restr v' W' → Beside (ownW W) W W' → Post v W') :
    ∃ M last o w' t', runNT P (M + 1) (solo (G (Frame.enter P f args .normal) []) W) #[] = (.ended o w', t') ∧ runN P M (solo (G (Frame.enter P f args .normal) []) W) = .next last ∧ step P last = .ended o w' ∧ Conc.Good P Post last o w' t' := by
  obtain ⟨N, gs, W1, sl, t, fr, cs, v1, SB, hΦ, hrun, hO, _, hB⟩ := outer_go (h [] (.inl rfl)) (outer_start P _ W) (sl := none)
  obtain ⟨q, hL⟩ := hO.lv
  have hend : Goes P true AtRel (fun _ _ _ => False) (AtEnd P (ShunB SB) W1.heap.size Post) 0 (G fr cs) W1 := by
    rintro _ ⟨d, rfl⟩
    obtain ⟨rfl, hk, hfn, hx⟩ := hΦ _ (Idle.refl _)
    obtain ⟨v, hq, hlv⟩ := hx _ (Idle.at_ v1 d)
    obtain ⟨fn, hf, hr⟩ := hlv.fn
    have hR := hO.restr.at_ d
    obtain ⟨W2, g1, g2, g3⟩ := lift_runD fr.fn plain_results.qg hr hR
    have e := dur_same hR g2
    subst e
    refine ⟨rfl, v, seen P fr.fn ((results fn fr.tmps).events P (W1.at d) #[]), ?_, fun e he => ?_, hp v _ _ hq hR ⟨hB.tape, hB.os, hB.output, hB.size, hB.block⟩⟩
    · rw [hfn] at hf
      simp [Conc.G, stepG, unwind, doReturn, hlv.mode, hlv.defers, hk, hfn, hf, hi, GStep.after]
      rw [← hfn, g1]
      simp
    · exact evL_of (v := v1.at d) hO.shun (g3 e he)
  obtain ⟨M, last, o, w', t', k1, k2, k3, k4⟩ := beside_ends (fun _ _ _ h => h.elim) hO.main hL hO.past hend
  refine ⟨N + M, last, o, w', t', ?_, ?_, k3, k4⟩
  · rw [Nat.add_assoc, runNT_add, solo_eq_crowd, hrun]; exact k1
  · rw [runN_add, ← runNT_fst P _ _ #[], solo_eq_crowd, hrun]; exact k2
end
end Go.Xq
namespace Go.Proofs.YtnodjhgmghkikaaGreat
open Go.Xq
variable [Dealing]
noncomputable def sumFn : CallFn := fun _ _ _ => none
noncomputable def extFn : Nat → AV → AH → Option AV := fun _ _ _ => none
noncomputable def mulFn : Nat → Bool := fun _ => false
noncomputable def E : Env := Env.of Tryz.prog 10 10 sumFn extFn mulFn
theorem sumOk : SumOk Tryz.prog E := by
  intro f args H v H2 h
  replace h : sumFn f args H = some (v, H2) := h
  cases h
omit [Dealing] in
theorem extOk : ExtOk Tryz.prog E := by
  constructor
  · intro g args H v h m w vs hr hl
    replace h : extFn g args H = some v := h
    cases h
  · intro g args H v h
    replace h : extFn g args H = some v := h
    cases h
end Go.Proofs.YtnodjhgmghkikaaGreat
namespace Go.Proofs.YtnodjhgmghkikaaGreat
open Go.Xq
abbrev link : Go.Conc.Lib.WgLink := { add := 68, done := 70, wait := 72, relMerge := 89, disable := 90, enable := 91, inBubble := 92, associate := 93, fatal := 94, uOr := 95, uAdd := 96, raceRead := 97, uLoad := 98, uStore := 99, disassociate := 100, semrelease := 101, acquire := 105, isAssociated := 106, uCas := 107, raceWrite := 108, semacquire := 109, orU64 := 132, addU64 := 133, loadU64 := 134, storeU64 := 135, casU64 := 145, tWgP := 184, tUP := 186, tAssoc := 187, tWg := 161, tAU := 158, tU64 := 156, tUint := 191, tU32 := 159, tPU32 := 192, tPAU := 222, tPU64 := 224, tNoCopy := 153, tANoCopy := 154, tAlign64 := 155 }
set_option maxRecDepth 100000
theorem wgLib : Go.Conc.Lib.WgLib Tryz.prog link :=
  ⟨Tryz.func68, Tryz.func70, Tryz.func72, Tryz.func89, Tryz.func90, Tryz.func91, Tryz.func92, Tryz.func93, Tryz.func94, Tryz.func95, Tryz.func96, Tryz.func97, Tryz.func98, Tryz.func99, Tryz.func100, Tryz.func101, Tryz.func105, Tryz.func106, Tryz.func107, Tryz.func108, Tryz.func109, Tryz.func132, Tryz.func133, Tryz.func134, Tryz.func135, Tryz.func145, Tryz.underlying184, Tryz.runUnderlying184, Tryz.sizeOf184, Tryz.isAgg184, Tryz.zeroValue184, Tryz.underlying186, Tryz.runUnderlying186, Tryz.sizeOf186, Tryz.isAgg186, Tryz.zeroValue186, Tryz.underlying187, Tryz.runUnderlying187, Tryz.sizeOf187, Tryz.isAgg187, Tryz.zeroValue187, Tryz.underlying161, Tryz.runUnderlying161, Tryz.sizeOf161, Tryz.isAgg161, Tryz.zeroValue161, Tryz.underlying158, Tryz.runUnderlying158, Tryz.sizeOf158, Tryz.isAgg158, Tryz.zeroValue158, Tryz.underlying156, Tryz.runUnderlying156, Tryz.sizeOf156, Tryz.isAgg156, Tryz.zeroValue156, Tryz.underlying191, Tryz.runUnderlying191, Tryz.sizeOf191, Tryz.isAgg191, Tryz.zeroValue191, Tryz.underlying159, Tryz.runUnderlying159, Tryz.sizeOf159, Tryz.isAgg159, Tryz.zeroValue159, Tryz.underlying192, Tryz.runUnderlying192, Tryz.sizeOf192, Tryz.isAgg192, Tryz.zeroValue192, Tryz.underlying222, Tryz.runUnderlying222, Tryz.sizeOf222, Tryz.isAgg222, Tryz.zeroValue222, Tryz.underlying224, Tryz.runUnderlying224, Tryz.sizeOf224, Tryz.isAgg224, Tryz.zeroValue224, Tryz.underlying0, Tryz.runUnderlying0, Tryz.sizeOf0, Tryz.isAgg0, Tryz.zeroValue0, Tryz.underlying3, Tryz.runUnderlying3, Tryz.sizeOf3, Tryz.isAgg3, Tryz.zeroValue3, Tryz.underlying4, Tryz.runUnderlying4, Tryz.sizeOf4, Tryz.isAgg4, Tryz.zeroValue4, Tryz.underlying9, Tryz.runUnderlying9, Tryz.sizeOf9, Tryz.isAgg9, Tryz.zeroValue9, Tryz.underlying20, Tryz.runUnderlying20, Tryz.sizeOf20, Tryz.isAgg20, Tryz.zeroValue20, Tryz.underlying21, Tryz.runUnderlying21, Tryz.sizeOf21, Tryz.isAgg21, Tryz.zeroValue21, (by kernel_rfl), (by kernel_rfl)⟩
end Go.Proofs.YtnodjhgmghkikaaGreat
namespace Go.Proofs.YtnodjhgmghkikaaGreat
open Go.Xq Go.Conc Go.Conc.Lib
theorem tyOk : TyOk Tryz.prog E := tyOk_of _ _ _ _ _
theorem follows : Tryz.prog.follows .mixedOrders = true := by kernel_rfl
def q1 : Code → Code
  | .seq a _ => a
  | c => c
def q2 : Code → Code
  | .seq _ a => a
  | c => c
def qb : Code → Code
  | .block _ a => a
  | c => c
def ql : Code → Code
  | .loop a => a
  | c => c
def qops : Code → Array Oper
  | .region _ ops _ => ops
  | _ => #[]
noncomputable def opAt (ops : Array Oper) (i : Nat) : Oper := (ops[i]?).getD default
noncomputable def c47 : Code := Tryz.f47.body.getD .skip
noncomputable def sL : Code := q1 (q2 (q2 (q2 c47)))
noncomputable def sB : Code := ql (qb (q2 sL))
noncomputable def sBB : Code := qb (q1 (q2 (q2 sB)))
noncomputable def sT : Code := q2 (q2 (q2 (q2 c47)))
noncomputable def ops0 : Array Oper := qops (q1 c47)
noncomputable def ops1 : Array Oper := qops (q1 (q2 c47))
noncomputable def ops2 : Array Oper := qops (q1 (q2 (q2 c47)))
noncomputable def ops3 : Array Oper := qops (q1 sL)
noncomputable def ops4 : Array Oper := qops (q1 sB)
noncomputable def ops5 : Array Oper := qops (q1 sBB)
noncomputable def ops6 : Array Oper := qops (q1 (q2 sBB))
noncomputable def ops7 : Array Oper := qops (q2 (q2 sBB))
noncomputable def ops8 : Array Oper := qops (q2 (q2 (q2 sB)))
noncomputable def ops9 : Array Oper := qops (q1 sT)
noncomputable def ops10 : Array Oper := qops (q1 (q2 sT))
set_option maxRecDepth 100000
noncomputable def bodyL : Code := .seq (.region 4 ops4 false) (.seq (.cond (.tmp 17) .skip (.exit 0)) (.seq (.block 1 (.seq (.region 5 ops5 false) (.seq (.region 6 ops6 false) (.region 7 ops7 false)))) (.region 8 ops8 false)))
theorem c47_eq : c47 = .seq (.region 0 ops0 false) (.seq (.region 1 ops1 false) (.seq (.region 2 ops2 false) (.seq (.seq (.region 3 ops3 false) (.block 0 (.loop bodyL))) (.seq (.region 9 ops9 false) (.seq (.region 10 ops10 false) .ret))))) := by kernel_rfl
theorem at00 : ops0[0]? = some (opAt ops0 0) := by kernel_rfl
theorem op00 : (opAt ops0 0).op = .box 24 (.tmp 0) := by kernel_rfl
theorem dst00 : (opAt ops0 0).dst = some 2 := by kernel_rfl
theorem gd00 : (opAt ops0 0).guard = none := by kernel_rfl
theorem at01 : ops0[1]? = some (opAt ops0 1) := by kernel_rfl
theorem op01 : (opAt ops0 1).op = .box 3 (.tmp 1) := by kernel_rfl
theorem dst01 : (opAt ops0 1).dst = some 3 := by kernel_rfl
theorem gd01 : (opAt ops0 1).guard = none := by kernel_rfl
theorem at14 : ops1[4]? = some (opAt ops1 4) := by kernel_rfl
theorem op14 : (opAt ops1 4).op = .makeSlice 84 (.tmp 11) (.tmp 11) := by kernel_rfl
theorem dst14 : (opAt ops1 4).dst = some 12 := by kernel_rfl
theorem gd14 : (opAt ops1 4).guard = none := by kernel_rfl
theorem at15 : ops1[5]? = some (opAt ops1 5) := by kernel_rfl
theorem op15 : (opAt ops1 5).op = .alloc 84 := by kernel_rfl
theorem dst15 : (opAt ops1 5).dst = some 5 := by kernel_rfl
theorem gd15 : (opAt ops1 5).guard = none := by kernel_rfl
theorem at16 : ops1[6]? = some (opAt ops1 6) := by kernel_rfl
theorem op16 : (opAt ops1 6).op = .store 84 (.tmp 5) (.tmp 12) := by kernel_rfl
theorem dst16 : (opAt ops1 6).dst = none := by kernel_rfl
theorem gd16 : (opAt ops1 6).guard = none := by kernel_rfl
theorem at20 : ops2[0]? = some (opAt ops2 0) := by kernel_rfl
theorem op20 : (opAt ops2 0).op = .alloc 161 := by kernel_rfl
theorem dst20 : (opAt ops2 0).dst = some 6 := by kernel_rfl
theorem gd20 : (opAt ops2 0).guard = none := by kernel_rfl
theorem at51 : ops5[1]? = some (opAt ops5 1) := by kernel_rfl
theorem op51 : (opAt ops5 1).op = .alloc 3 := by kernel_rfl
theorem dst51 : (opAt ops5 1).dst = some 7 := by kernel_rfl
theorem gd51 : (opAt ops5 1).guard = none := by kernel_rfl
theorem at52 : ops5[2]? = some (opAt ops5 2) := by kernel_rfl
theorem op52 : (opAt ops5 2).op = .store 3 (.tmp 7) (.tmp 18) := by kernel_rfl
theorem dst52 : (opAt ops5 2).dst = none := by kernel_rfl
theorem gd52 : (opAt ops5 2).guard = none := by kernel_rfl
theorem sz0 : ops0.size = 3 := by kernel_rfl
theorem sz1 : ops1.size = 7 := by kernel_rfl
theorem sz2 : ops2.size = 1 := by kernel_rfl
theorem sz3 : ops3.size = 4 := by kernel_rfl
theorem sz4 : ops4.size = 1 := by kernel_rfl
theorem sz5 : ops5.size = 3 := by kernel_rfl
theorem sz6 : ops6.size = 1 := by kernel_rfl
theorem sz7 : ops7.size = 2 := by kernel_rfl
theorem sz8 : ops8.size = 2 := by kernel_rfl
theorem sz9 : ops9.size = 1 := by kernel_rfl
theorem sz10 : ops10.size = 2 := by kernel_rfl
def atsOf : Op → Array TypeId
  | .call c => c.argTypes
  | .go c => c.argTypes
  | _ => #[]
noncomputable def zadd : Oper := (ops6[0]?).getD default
noncomputable def zgo : Oper := (ops7[1]?).getD default
noncomputable def zwait : Oper := (ops9[0]?).getD default
theorem zadd_at : ops6[0]? = some zadd := by kernel_rfl
theorem zgo_at : ops7[1]? = some zgo := by kernel_rfl
theorem zwait_at : ops9[0]? = some zwait := by kernel_rfl
theorem zadd_op : zadd.op = .call { callee := .value (.func 68), args := #[.tmp 6, .const (.int .i64 1)], argTypes := atsOf zadd.op } := by kernel_rfl
theorem zgo_op : zgo.op = .go { callee := .value (.tmp 20), args := #[], argTypes := atsOf zgo.op } := by kernel_rfl
theorem zwait_op : zwait.op = .call { callee := .value (.func 72), args := #[.tmp 6], argTypes := atsOf zwait.op } := by kernel_rfl
theorem zadd_dst : zadd.dst = some 19 := by kernel_rfl
theorem zgo_dst : zgo.dst = none := by kernel_rfl
theorem zwait_dst : zwait.dst = some 22 := by kernel_rfl
theorem zadd_guard : zadd.guard = none := by kernel_rfl
theorem zgo_guard : zgo.guard = none := by kernel_rfl
theorem zwait_guard : zwait.guard = none := by kernel_rfl
def blkOf : Option Value → Nat
  | some (Value.pointer (some a)) => a.block
  | _ => 0
def capT : Target → Nat
  | Target.fn _ cap => blkOf cap[1]?
  | _ => 0
def capOf (fr : Frame) : Nat :=
  match fr.defers with
  | [d] => capT d.target
  | _ => 0
def spG (Wg out N : Nat) (h0 : Array Obj) (X Y : Nat → Prop) (S : Nat → World → List Value → Prop) : Gp := { L := link, Wg, out, oe := 112, ks := 7, N, J := min 8 N, step := 8, h0, X, Y, S, cOf := capOf }
section
variable {b : Frame} {a : Act} {K : List Item} {cs : List Frame} {w : World} {Wg out N : Nat} {h0 : Array Obj} {X Y : Nat → Prop} {S : Nat → World → List Value → Prop}
theorem gpOk_G (h : Wg ≠ out) (hN : 0 < N) : GpOk Tryz.prog (spG Wg out N h0 X Y S) :=
  ⟨wgLib, h, by show min 8 N < 2147483648; omega, by show 0 < 8; omega, by show min 8 N ≤ 8; omega, fun n hn => by have hn : n < N := hn; show n % 8 < min 8 N; omega⟩
theorem add_call (hk : b.kind ≠ .early) {j : Nat} (h6 : a.eval (.tmp 6) = .pointer (some ⟨Wg, 0, none⟩)) (hm : w.heap[Wg]? = some (mkD 1 j)) : CallOk Tryz.prog (spG Wg out N h0 X Y S) 1 j (addEntry link Wg) (b.at a (.inRegion ops6 [0] :: K)) cs w (b.at (a.put (some 19) (.tuple #[])) (.inRegion ops6 [] :: K)) := by
  have := callOk_add (sp := spG Wg out N h0 X Y S) (P := Tryz.prog) (b := b) (a := a) (k := K) (cs := cs) (w := w) (rest := []) (j := j) wgLib zadd_at (by simp [Region.wanted, zadd_guard]) hk zadd_op (by simp [h6, spG]; rfl) hm
  rw [zadd_at] at this
  simp only [Option.bind_some, zadd_dst] at this
  exact this
theorem wait_call (hk : b.kind ≠ .early) {j : Nat} (h6 : a.eval (.tmp 6) = .pointer (some ⟨Wg, 0, none⟩)) (hm : w.heap[Wg]? = some (mkD 1 j)) : CallOk Tryz.prog (spG Wg out N h0 X Y S) 1 j (waitEntry link Wg) (b.at a (.inRegion ops9 [0] :: K)) cs w (b.at (a.put (some 22) (.tuple #[])) (.inRegion ops9 [] :: K)) := by
  have := callOk_wait (sp := spG Wg out N h0 X Y S) (P := Tryz.prog) (b := b) (a := a) (k := K) (cs := cs) (w := w) (rest := []) (j := j) wgLib zwait_at (by simp [Region.wanted, zwait_guard]) hk zwait_op (by simp [h6, spG]) hm
  rw [zwait_at] at this
  simp only [Option.bind_some, zwait_dst] at this
  exact this
theorem go_stmt (hk : b.kind ≠ .early) {cap : Array Value} (h20 : a.eval (.tmp 20) = .func (.func 69) #[] cap) (W : World) : stepG Tryz.prog true (Conc.G (b.at a (.inRegion ops7 [1] :: K)) cs) W = .spawn (Conc.G (b.at a (.inRegion ops7 [] :: K)) cs) (Conc.G (born Tryz.prog { target := .fn (.func 69) cap, args := #[] }).frame []) W #[] := by
  have := stepG_goV (P := Tryz.prog) (main := true) (b := b) (a := a) (k := K) (cs := cs) (w := W) (rest := []) zgo_at (by simp [Region.wanted, zgo_guard]) hk zgo_op h20
  rw [zgo_dst, show (#[] : Array Value) ++ (#[] : Array Operand).map a.eval = #[] by simp] at this
  exact this
end
end Go.Proofs.YtnodjhgmghkikaaGreat
namespace Go.Proofs.YtnodjhgmghkikaaGreat
open Go.Xq Go.Conc Go.Conc.Lib
theorem via [Dealing] {Φ : Frame → List Frame → World → Prop} {fr fr' : Frame} {cs cs' : List Frame} {w : World} (h : Ctl Tryz.prog (Xq.lone fr cs w) (Xq.lone fr' cs' w)) (g : Gx Tryz.prog Φ fr' cs' w) : Gx Tryz.prog Φ fr cs w := Xq.Steps.one h Φ g
def capV (sp : Gp) (c bo bi bp : Nat) : Array Value := #[.pointer (some ⟨sp.Wg, 0, none⟩), .pointer (some ⟨c, 0, none⟩), .pointer (some ⟨bo, 0, none⟩), .pointer (some ⟨bi, 0, none⟩), .pointer (some ⟨bp, 0, none⟩)]
def xcO (j : Nat) : Obj := .cells #[.int .i64 (j : Int)] 3 (0, 0)
theorem callOk_uniq {P : Program} {sp : Gp} {tag j j' : Nat} {en fr f1 f2 : Frame} {cs cs' : List Frame} {w w' : World} (h : CallOk P sp tag j en fr cs w f1) (h' : CallOk P sp tag j' en fr cs' w' f2) : f1 = f2 := by
  obtain ⟨_, b1, a1, o1, i1, r1, k1, e1, e2, _⟩ := h
  obtain ⟨_, b2, a2, o2, i2, r2, k2, g1, g2, _⟩ := h'
  rw [e1] at g1
  simp only [Frame.at, Frame.mk.injEq, List.cons.injEq, Item.inRegion.injEq] at g1
  obtain ⟨q1, q2, ⟨⟨q3, q4, q5⟩, q6⟩, q7, q8, q9, q10⟩ := g1
  obtain ⟨t1, d1⟩ := a1
  obtain ⟨t2, d2⟩ := a2
  simp only at q2 q7
  subst q2; subst q3; subst q4; subst q5; subst q6; subst q7
  rw [e2, g2]
  cases (o1[i1]?).bind (·.dst) <;> simp [Frame.at, Act.put, q1, q8, q9, q10]
theorem deal_add {Wg out N : Nat} {h0 : Array Obj} {X Y : Nat → Prop} {S : Nat → World → List Value → Prop} {b : Frame} (hr0 : b.roundOf = none) (hk : b.kind ≠ .early) {a : Act} {K : List Item} {cs : List Frame} {w : World} {j : Nat} (hj : j < min 8 N) {Φ : Frame → List Frame → World → Prop} (h6 : a.eval (.tmp 6) = .pointer (some ⟨Wg, 0, none⟩)) (hm : w.heap[Wg]? = some (mkD 1 j))
    (h : ∀ w1, Idle w w1 → @Gx Tryz.prog (mainD Tryz.prog (spG Wg out N h0 X Y S)) Φ (b.atR (a.put (some 19) (.tuple #[])) K) cs (setB w1 Wg (mkD 2 j))) : @Gx Tryz.prog (mainD Tryz.prog (spG Wg out N h0 X Y S)) Φ (b.atR a (.code (.region 6 ops6 false) :: K)) cs w := by
  letI : Dealing := mainD Tryz.prog (spG Wg out N h0 X Y S)
  have hat : ∀ (a : Act) (its : List Item), b.atR a its = b.at a its := fun a its => Frame.atR_of_none hr0 a its
  refine via Xq.stepR_region ?_
  rw [sz6, show List.range 1 = [0] from rfl, hat]
  have hcall : ∀ w1, Idle w w1 → CallOk Tryz.prog (spG Wg out N h0 X Y S) 1 j (addEntry link Wg) (b.at a (.inRegion ops6 [0] :: K)) cs w1 (b.at (a.put (some 19) (.tuple #[])) (.inRegion ops6 [] :: K)) := fun w1 hi => add_call hk h6 (hi.some hm)
  refine Gx.deal (addDeal Tryz.prog (spG Wg out N h0 X Y S)) (.inl rfl) (fun w1 hi => ⟨j, _, hj, hcall w1 hi⟩) (fun w1 fr' cs' w' hi hp => ?_)
  obtain ⟨j', _, hc', rfl, rfl⟩ := hp
  have ej := (mark_eq hc'.1 (hi.some hm)).2
  have ef := callOk_uniq hc' (hcall w1 hi)
  subst ef
  rw [ej, ← hat]
  exact via Xq.stepR_region_end (h w1 hi)
theorem deal_wait {Wg out N : Nat} {h0 : Array Obj} {X Y : Nat → Prop} {S : Nat → World → List Value → Prop} {b : Frame} (hr0 : b.roundOf = none) (hk : b.kind ≠ .early) {a : Act} {K : List Item} {cs : List Frame} {w : World} {Φ : Frame → List Frame → World → Prop} (h6 : a.eval (.tmp 6) = .pointer (some ⟨Wg, 0, none⟩)) (hm : w.heap[Wg]? = some (mkD 1 (min 8 N)))
    (h : ∀ w1 w', Idle w w1 → Joined (spG Wg out N h0 X Y S) w1 w' → @Gx Tryz.prog (mainD Tryz.prog (spG Wg out N h0 X Y S)) Φ (b.atR (a.put (some 22) (.tuple #[])) K) cs w') : @Gx Tryz.prog (mainD Tryz.prog (spG Wg out N h0 X Y S)) Φ (b.atR a (.code (.region 9 ops9 false) :: K)) cs w := by
  letI : Dealing := mainD Tryz.prog (spG Wg out N h0 X Y S)
  have hat : ∀ (a : Act) (its : List Item), b.atR a its = b.at a its := fun a its => Frame.atR_of_none hr0 a its
  refine via Xq.stepR_region ?_
  rw [sz9, show List.range 1 = [0] from rfl, hat]
  have hcall : ∀ w1, Idle w w1 → CallOk Tryz.prog (spG Wg out N h0 X Y S) 1 (min 8 N) (waitEntry link Wg) (b.at a (.inRegion ops9 [0] :: K)) cs w1 (b.at (a.put (some 22) (.tuple #[])) (.inRegion ops9 [] :: K)) := fun w1 hi => wait_call hk h6 (hi.some hm)
  refine Gx.deal (waitDeal Tryz.prog (spG Wg out N h0 X Y S)) (.inr (.inr rfl)) (fun w1 hi => ⟨_, hcall w1 hi⟩) (fun w1 fr' cs' w' hi hp => ?_)
  obtain ⟨hc', rfl, hJ⟩ := hp
  have ef := callOk_uniq hc' (hcall w1 hi)
  subst ef
  rw [← hat]
  exact via Xq.stepR_region_end (h w1 w' hi hJ)
theorem deal_go {Wg out N : Nat} {h0 : Array Obj} {X Y : Nat → Prop} {S : Nat → World → List Value → Prop} {b : Frame} (hk : b.kind ≠ .early) {a : Act} {K : List Item} {cs : List Frame} {w : World} {j c bo bi bp : Nat} (hj : j < min 8 N) {Φ : Frame → List Frame → World → Prop} (h20 : a.eval (.tmp 20) = .func (.func 69) #[] (capV (spG Wg out N h0 X Y S) c bo bi bp)) (hm : w.heap[Wg]? = some (mkD 2 j)) (hc : w.heap[c]? = some (xcO j))
    (hch : ∀ w1, Idle w w1 → @Gx Tryz.prog (workerD Tryz.prog (spG Wg out N h0 X Y S)) (WEnd Tryz.prog (spG Wg out N h0 X Y S)) (born Tryz.prog { target := .fn (.func 69) (capV (spG Wg out N h0 X Y S) c bo bi bp), args := #[] }).frame [] (childW (spG Wg out N h0 X Y S) j c w1))
    (h : ∀ w1, Idle w w1 → @Gx Tryz.prog (mainD Tryz.prog (spG Wg out N h0 X Y S)) Φ (b.at a (.inRegion ops7 [] :: K)) cs (setB (setB w1 c deadO) Wg (mkD 1 (j + 1)))) : @Gx Tryz.prog (mainD Tryz.prog (spG Wg out N h0 X Y S)) Φ (b.at a (.inRegion ops7 [1] :: K)) cs w := by
  letI : Dealing := mainD Tryz.prog (spG Wg out N h0 X Y S)
  refine Gx.deal (spawnDeal Tryz.prog (spG Wg out N h0 X Y S)) (.inr (.inl rfl)) (fun w1 hi => ⟨j, c, _, _, _, hj, hi.some hm, ⟨_, _, hi.some hc⟩, go_stmt hk h20, hch w1 hi, rfl⟩) (fun w1 fr' cs' w' hi hp => ?_)
  obtain ⟨j', c', frc, ⟨_, p2, _, p4, _, p6⟩, rfl⟩ := hp
  have ej := (mark_eq p2 (hi.some hm)).2
  have es := (p4 w1).symm.trans (go_stmt hk h20 w1)
  injection es with e1 e2
  simp only [Conc.G, Goroutine.mk.injEq] at e1 e2
  obtain ⟨rfl, rfl, _⟩ := e1
  have e3 : frc = (born Tryz.prog { target := .fn (.func 69) (capV (spG Wg out N h0 X Y S) c bo bi bp), args := #[] }).frame := e2.1
  have ec : c' = c := by rw [p6, e3]; rfl
  rw [ej, ec]
  exact h w1 hi
end Go.Proofs.YtnodjhgmghkikaaGreat
namespace Go.Proofs.YtnodjhgmghkikaaGreat
open Go.Xq Go.Conc Go.Conc.Lib
def xoO (out N : Nat) : Obj := .cells #[.slice (some ⟨out, 0, none⟩) N N] 84 (0, 3)
def xiO (img off len cap : Nat) : Obj := .cells #[.slice (some ⟨img, off, none⟩) len cap] 24 (0, 3)
def xpO (p : Nat) : Obj := .cells #[.int .i64 (p : Int)] 3 (0, 3)
structure MS (sp : Gp) (v0 : World) (e j : Nat) (w : World) : Prop where
  os : w.os = v0.os
  output : w.output = v0.output
  size : v0.heap.size ≤ w.heap.size
  wg : w.heap[sp.Wg]? = some (mkD e j)
  keep : ∀ k, k < v0.heap.size → k ≠ sp.Wg → w.heap[k]? = v0.heap[k]?
section
variable {sp : Gp} {v0 w w2 : World} {e j e' j' : Nat}
theorem MS.lies (h : MS sp v0 e j w) (hl : Lies w w2) : MS sp v0 e j w2 :=
  ⟨hl.os.trans h.os, hl.output.trans h.output, Nat.le_trans h.size hl.size, hl.some h.wg, fun k hk hn => by rw [hl.all k (Nat.lt_of_lt_of_le hk h.size), h.keep k hk hn]⟩
theorem MS.setc (h : MS sp v0 e j w) {k : Nat} (hk : v0.heap.size ≤ k) (hw : sp.Wg < v0.heap.size) (o : Obj) : MS sp v0 e j (setB w k o) :=
  ⟨h.os, h.output, by rw [setB_size]; exact h.size, by rw [setB_ne (by omega)]; exact h.wg, fun i hi hn => by rw [setB_ne (by omega)]; exact h.keep i hi hn⟩
theorem MS.setWg (h : MS sp v0 e j w) : MS sp v0 e' j' (setB w sp.Wg (mkD e' j')) :=
  ⟨h.os, h.output, by rw [setB_size]; exact h.size, setB_same h.wg, fun i hi hn => by rw [setB_ne hn]; exact h.keep i hi hn⟩
end
def b47 : Frame := { (default : Frame) with fn := 47, kind := .normal, roundOf := none }
abbrev la0 (j J : Nat) : List (Nat × AV) := [(16, .int .i64 (j : Int)), (15, .int .i64 (J : Int)), (2, .ptr 1 0), (3, .ptr 2 0), (5, .ptr 4 0), (6, .ptr 5 0)]
section
variable {Wg out N bo bi bp : Nat} {h0 : Array Obj} {X Y : Nat → Prop} {S : Nat → World → List Value → Prop} {m : Ren} {v0 w : World}
set_option maxHeartbeats 1000000 in
theorem round {j : Nat} {a : Act} {K : List Item} {cs : List Frame} {Φ : Frame → List Frame → World → Prop} (hm1 : m 1 = some ⟨bi, 0, 1, 1⟩) (hm2 : m 2 = some ⟨bp, 0, 1, 1⟩) (hm4 : m 4 = some ⟨bo, 0, 1, 1⟩) (hm5 : m 5 = some ⟨Wg, 0, 2, 2⟩) (hmo : MOk m 6 v0) (hj : j < min 8 N) (hs : MS (spG Wg out N h0 X Y S) v0 1 j w) (hf : FrR ⟨24, none, none⟩ m (tl (la0 j (min 8 N))) [] a)
    (hch : ∀ w1 c, MS (spG Wg out N h0 X Y S) v0 2 j w1 → v0.heap.size ≤ c → w1.heap[c]? = some (xcO j) → @Gx Tryz.prog (workerD Tryz.prog (spG Wg out N h0 X Y S)) (WEnd Tryz.prog (spG Wg out N h0 X Y S)) (born Tryz.prog { target := .fn (.func 69) (capV (spG Wg out N h0 X Y S) c bo bi bp), args := #[] }).frame [] (childW (spG Wg out N h0 X Y S) j c w1))
    (h : ∀ a2 w2, MS (spG Wg out N h0 X Y S) v0 1 (j + 1) w2 → FrR ⟨24, none, none⟩ m (tl (la0 (j + 1) (min 8 N))) [] a2 → @Gx Tryz.prog (mainD Tryz.prog (spG Wg out N h0 X Y S)) Φ (b47.atR a2 (.inLoop bodyL :: K)) cs w2) :
    @Gx Tryz.prog (mainD Tryz.prog (spG Wg out N h0 X Y S)) Φ (b47.atR a (.code bodyL :: .inLoop bodyL :: K)) cs w := by
  letI : Dealing := mainD Tryz.prog (spG Wg out N h0 X Y S)
  have hcs : CsOk b47.kind cs := .inl rfl
  have hat : ∀ (a : Act) (its : List Item), b47.atR a its = b47.at a its := fun a its => Frame.atR_of_none rfl a its
  refine via Xq.stepR_seq (gx_region (gx_looks tyOk extOk 1 (ls := [⟨⟨binInt akLss (.tmp 16) (.tmp 15)⟩, some 17, none⟩]) (by kernel_rfl) (by kernel_rfl) (H := layH 6 []) (by simp (disch := omega) []; exact rfl) (layH_ro []) hcs (rel_lay (hmo.size hs.size) trivial) hf fun a1 w1 l1 f1 => gx_regEnd sz4.symm ?_))
  have s1 := hs.lies l1
  have ht : a1.eval (.tmp 17) = .bool true := frR_val f1 (by simp [hj]; exact rfl) rfl
  refine via Xq.stepR_seq (via (Xq.stepR_cond ht) (via Xq.stepR_skip (via Xq.stepR_seq (via Xq.stepR_block (via Xq.stepR_seq (gx_region ?_))))))
  refine gx_looks tyOk extOk 1 (ls := [⟨lkMove (.tmp 16), some 18, none⟩]) (by kernel_rfl) (by kernel_rfl) (H := layH 6 []) (by simp (disch := omega) []; exact rfl) (layH_ro []) hcs (rel_lay (hmo.size s1.size) trivial) f1 fun a2 w2 l2 f2 => ?_
  have s2 := s1.lies l2
  have hWg : Wg < v0.heap.size := (hmo.bnd 5 _ hm5).2
  refine gx_alloc (t := 3) (zv := .int .i64 0) (by kernel_rfl) at51 gd51 op51 (fun w => Tryz.zeroValue3 w) fun w3 i3 => ?_
  rw [dst51]
  have s3 := (s2.lies (Lies.of_idle i3)).lies (Lies.push w3 (.cells (Value.int .i64 0).cells 3 (0, 0)))
  have hmo3 := hmo.size (s2.lies (Lies.of_idle i3)).size
  have hc0 : v0.heap.size ≤ w3.heap.size := (s2.lies (Lies.of_idle i3)).size
  have hlc : ({ w3 with heap := w3.heap.push (.cells (Value.int .i64 0).cells 3 (0, 0)) } : World).heap[w3.heap.size]? = some (.cells #[.int .i64 0] 3 (0, 0)) := Array.getElem?_push_size
  have hmo4 := hmo3.ext (Nat.le_refl _) (.cells (Value.int .i64 0).cells 3 (0, 0)) 1 1
  generalize hcE : w3.heap.size = c at *
  have f3 := (f2.mono (hmo3.le_ext ⟨c, 0, 1, 1⟩)).putL (d := 7) rfl (VR.ptr 6 0 ⟨c, 0, 1, 1⟩ (Ren.ext_same m 6 _))
  generalize ({ w3 with heap := w3.heap.push (.cells (Value.int .i64 0).cells 3 (0, 0)) } : World) = w4 at *
  have e7 : (a2.put (some 7) (.pointer (some ⟨c, 0, none⟩))).eval (.tmp 7) = .pointer (some ⟨c, 0, none⟩) := put_same (by rw [f2.t.size]; show 7 < 24; omega)
  refine gx_store (t := 3) (k := c) (v := .int .i64 (j : Int)) (by kernel_rfl) at52 gd52 op52 e7 ?_ rfl (fun w => Tryz.sizeOf3 w) hlc fun w5 i5 => gx_regEnd sz5.symm ?_
  · rw [frR_val f3 (t := 18) (by simp; exact rfl) rfl]; rfl
  rw [dst52]
  have hput : ∀ (a : Act) (v : Value), a.put none v = a := fun _ _ => rfl
  rw [hput]
  have s5 := (s3.lies (Lies.of_idle i5)).setc hc0 hWg (.cells #[.int .i64 (j : Int)] 3 (0, 0))
  have hcc : (setB w5 c (.cells #[.int .i64 (j : Int)] 3 (0, 0))).heap[c]? = some (xcO j) := setB_same (i5.some hlc)
  have hm5' : (m.ext 6 ⟨c, 0, 1, 1⟩) 5 = some ⟨Wg, 0, 2, 2⟩ := by rw [Ren.ext_ne _ _ (by omega)]; exact hm5
  have hm4' : (m.ext 6 ⟨c, 0, 1, 1⟩) 4 = some ⟨bo, 0, 1, 1⟩ := by rw [Ren.ext_ne _ _ (by omega)]; exact hm4
  have hm2' : (m.ext 6 ⟨c, 0, 1, 1⟩) 2 = some ⟨bp, 0, 1, 1⟩ := by rw [Ren.ext_ne _ _ (by omega)]; exact hm2
  have hm1' : (m.ext 6 ⟨c, 0, 1, 1⟩) 1 = some ⟨bi, 0, 1, 1⟩ := by rw [Ren.ext_ne _ _ (by omega)]; exact hm1
  have hm6' : (m.ext 6 ⟨c, 0, 1, 1⟩) 6 = some ⟨c, 0, 1, 1⟩ := Ren.ext_same m 6 _
  have e6 := frR_val f3 (t := 6) (v := .ptr 5 0) (x := .pointer (some ⟨Wg, 0, none⟩)) (by simp) (by simp [vOf, hm5'])
  refine via Xq.stepR_seq (deal_add (b := b47) rfl (by simp [b47]) hj e6 s5.wg fun w6 i6 => ?_)
  have s6 := (s5.lies (Lies.of_idle i6)).setWg (e' := 2) (j' := j)
  have hc6 : (setB w6 Wg (mkD 2 j)).heap[c]? = some (xcO j) := by rw [setB_ne (by omega)]; exact i6.some hcc
  have f4 := f3.putL (d := 19) rfl (VR.tup .nil [] .nil)
  have hmo6 : MOk (m.ext 6 ⟨c, 0, 1, 1⟩) 7 (setB w6 Wg (mkD 2 j)) := hmo4.size (by rw [setB_size]; refine Nat.le_trans i5.size (Nat.le_trans ?_ i6.size); rw [setB_size]; exact Nat.le_refl _)
  refine gx_region (gx_looks tyOk extOk 1 (ls := [⟨⟨makeFn (.func 69) (opnds []) (opnds [(.tmp 6), (.tmp 7), (.tmp 5), (.tmp 2), (.tmp 3)])⟩, some 20, none⟩]) (by kernel_rfl) (by kernel_rfl) (H := layH 7 []) (by simp (disch := omega) []; exact rfl) (layH_ro []) hcs (rel_lay hmo6 trivial) f4 fun a7 w7 l7 f7 => ?_)
  have s7 := s6.lies l7
  have e20 : a7.eval (.tmp 20) = .func (.func 69) #[] (capV (spG Wg out N h0 X Y S) c bo bi bp) := by
    obtain ⟨g, va, vc, q1, q2, q3, e⟩ := (f7.t.at_ 20 _ (by rw [get_tl]; simp; exact ⟨rfl, rfl, rfl⟩)).fn_inv
    cases q1
    cases q2
    cases q3 with | cons _ x1 _ l1 v1 q3 =>
    cases q3 with | cons _ x2 _ l2 v2 q3 =>
    cases q3 with | cons _ x3 _ l3 v3 q3 =>
    cases q3 with | cons _ x4 _ l4 v4 q3 =>
    cases q3 with | cons _ x5 _ l5 v5 q3 =>
    cases q3
    have z1 := vr_val v1 (x := .pointer (some ⟨Wg, 0, none⟩)) (by simp [vOf, hm5'])
    have z2 := vr_val v2 (x := .pointer (some ⟨c, 0, none⟩)) (by simp [vOf, hm6'])
    have z3 := vr_val v3 (x := .pointer (some ⟨bo, 0, none⟩)) (by simp [vOf, hm4'])
    have z4 := vr_val v4 (x := .pointer (some ⟨bi, 0, none⟩)) (by simp [vOf, hm1'])
    have z5 := vr_val v5 (x := .pointer (some ⟨bp, 0, none⟩)) (by simp [vOf, hm2'])
    subst z1; subst z2; subst z3; subst z4; subst z5
    exact e
  rw [show reg ops7 (0 + 1) = .inRegion ops7 [1] from by unfold reg; rw [sz7]; rfl, hat]
  refine deal_go (b := b47) (by simp [b47]) hj e20 s7.wg (l7.some hc6) (fun w8 i8 => hch w8 c (s7.lies (Lies.of_idle i8)) hc0 (i8.some (l7.some hc6))) fun w8 i8 => ?_
  rw [← hat]
  have s8 := ((s7.lies (Lies.of_idle i8)).setc hc0 hWg deadO).setWg (e' := 1) (j' := j + 1)
  refine via Xq.stepR_region_end (via Xq.stepR_inBlock (gx_region (gx_looks tyOk extOk 2 (ls := [⟨⟨binInt akAdd (.tmp 16) (.const (.int .i64 1))⟩, some 21, none⟩, ⟨lkMove (.tmp 21), some 16, none⟩]) (by kernel_rfl) (by kernel_rfl) (H := layH 7 []) (by simp (disch := omega) []; exact rfl) (layH_ro []) hcs (rel_lay (hmo6.size (Nat.le_trans l7.size (Nat.le_trans i8.size (by rw [setB_size, setB_size]; exact Nat.le_refl _)))) trivial) f7 fun a9 w9 l9 f9 => gx_regEnd sz8.symm ?_)))
  refine h a9 w9 (s8.lies l9) (frR_re f9 fun p hp => ?_)
  simp only [List.mem_cons, List.not_mem_nil, or_false] at hp
  rcases hp with rfl | rfl | rfl | rfl | rfl | rfl
  · exact ⟨_, _, by simp; exact rfl, rfl, by simp [vOf]⟩
  · exact ⟨_, _, by simp; exact rfl, rfl, rfl⟩
  · exact ⟨.ptr 1 0, .pointer (some ⟨bi, 0, none⟩), by simp, by simp [vOf, hm1'], by simp [vOf, hm1]⟩
  · exact ⟨.ptr 2 0, .pointer (some ⟨bp, 0, none⟩), by simp, by simp [vOf, hm2'], by simp [vOf, hm2]⟩
  · exact ⟨.ptr 4 0, .pointer (some ⟨bo, 0, none⟩), by simp, by simp [vOf, hm4'], by simp [vOf, hm4]⟩
  · exact ⟨.ptr 5 0, .pointer (some ⟨Wg, 0, none⟩), by simp, by simp [vOf, hm5'], by simp [vOf, hm5]⟩
end
end Go.Proofs.YtnodjhgmghkikaaGreat
namespace Go.Proofs.YtnodjhgmghkikaaGreat
open Go.Xq Go.Conc Go.Conc.Lib
noncomputable def rest9 : Code := .seq (.region 9 ops9 false) (.seq (.region 10 ops10 false) .ret)
noncomputable def rest10 : Code := .seq (.region 10 ops10 false) .ret
def Fin (sp : Gp) (v0 : World) (bo : Nat) (cs0 : List Frame) : Frame → List Frame → World → Prop := fun fr cs v =>
  cs = cs0 ∧ (∃ a, fr = b47.atR a [.code rest10] ∧ a.tmps.size = 24 ∧ a.defers = [] ∧ a.eval (.tmp 5) = .pointer (some ⟨bo, 0, none⟩)) ∧ ∃ w1 w2, MS sp v0 1 sp.J w1 ∧ Joined sp w1 w2 ∧ Idle w2 v
section
variable {Wg out N bo bi bp : Nat} {h0 : Array Obj} {X Y : Nat → Prop} {S : Nat → World → List Value → Prop} {m : Ren} {v0 : World}
theorem loop_end {w : World} {a : Act} {cs : List Frame} (hm4 : m 4 = some ⟨bo, 0, 1, 1⟩) (hm5 : m 5 = some ⟨Wg, 0, 2, 2⟩) (hmo : MOk m 6 v0) (hs : MS (spG Wg out N h0 X Y S) v0 1 (min 8 N) w) (hf : FrR ⟨24, none, none⟩ m (tl (la0 (min 8 N) (min 8 N))) [] a) :
    @Gx Tryz.prog (mainD Tryz.prog (spG Wg out N h0 X Y S)) (Fin (spG Wg out N h0 X Y S) v0 bo cs) (b47.atR a [.code bodyL, .inLoop bodyL, .inBlock 0, .code rest9]) cs w := by
  letI : Dealing := mainD Tryz.prog (spG Wg out N h0 X Y S)
  have hcs : CsOk b47.kind cs := .inl rfl
  refine via Xq.stepR_seq (gx_region (gx_looks tyOk extOk 1 (ls := [⟨⟨binInt akLss (.tmp 16) (.tmp 15)⟩, some 17, none⟩]) (by kernel_rfl) (by kernel_rfl) (H := layH 6 []) (by simp (disch := omega) []; exact rfl) (layH_ro []) hcs (rel_lay (hmo.size hs.size) trivial) hf fun a1 w1 l1 f1 => gx_regEnd sz4.symm ?_))
  have s1 := hs.lies l1
  have ht : a1.eval (.tmp 17) = .bool false := frR_val f1 (by simp; exact rfl) rfl
  refine via Xq.stepR_seq (via (Xq.stepR_cond ht) (via (Xq.stepR_exit (k' := [.code rest9]) rfl) (via Xq.stepR_seq ?_)))
  have e6 := frR_val f1 (t := 6) (v := .ptr 5 0) (x := .pointer (some ⟨Wg, 0, none⟩)) (by simp) (by simp [vOf, hm5])
  have e5 := frR_val f1 (t := 5) (v := .ptr 4 0) (x := .pointer (some ⟨bo, 0, none⟩)) (by simp) (by simp [vOf, hm4])
  refine deal_wait (b := b47) rfl (by simp [b47]) e6 s1.wg fun w2 w3 i2 hJ => ?_
  refine Gx.stop fun w4 i4 => ⟨rfl, ⟨_, rfl, by rw [put_size]; exact f1.t.size, by rw [put_defers]; exact frR_dfr f1, by rw [put_ne (by omega)]; exact e5⟩, w2, w3, s1.lies (Lies.of_idle i2), hJ, i4⟩
theorem loop_gx {cs : List Frame} (hm1 : m 1 = some ⟨bi, 0, 1, 1⟩) (hm2 : m 2 = some ⟨bp, 0, 1, 1⟩) (hm4 : m 4 = some ⟨bo, 0, 1, 1⟩) (hm5 : m 5 = some ⟨Wg, 0, 2, 2⟩) (hmo : MOk m 6 v0)
    (hch : ∀ j, j < min 8 N → ∀ w1 c, MS (spG Wg out N h0 X Y S) v0 2 j w1 → v0.heap.size ≤ c → w1.heap[c]? = some (xcO j) → @Gx Tryz.prog (workerD Tryz.prog (spG Wg out N h0 X Y S)) (WEnd Tryz.prog (spG Wg out N h0 X Y S)) (born Tryz.prog { target := .fn (.func 69) (capV (spG Wg out N h0 X Y S) c bo bi bp), args := #[] }).frame [] (childW (spG Wg out N h0 X Y S) j c w1)) :
    ∀ (k j : Nat) (w : World) (a : Act), j + k = min 8 N → MS (spG Wg out N h0 X Y S) v0 1 j w → FrR ⟨24, none, none⟩ m (tl (la0 j (min 8 N))) [] a →
      @Gx Tryz.prog (mainD Tryz.prog (spG Wg out N h0 X Y S)) (Fin (spG Wg out N h0 X Y S) v0 bo cs) (b47.atR a [.code bodyL, .inLoop bodyL, .inBlock 0, .code rest9]) cs w
  | 0, j, w, a, hk, hs, hf => by
    have e : j = min 8 N := by omega
    subst e
    exact loop_end hm4 hm5 hmo hs hf
  | k + 1, j, w, a, hk, hs, hf => by
    letI : Dealing := mainD Tryz.prog (spG Wg out N h0 X Y S)
    exact round hm1 hm2 hm4 hm5 hmo (by omega) hs hf (hch j (by omega)) fun a2 w2 s2 f2 => via Xq.stepR_inLoop (loop_gx hm1 hm2 hm4 hm5 hmo hch k (j + 1) w2 a2 (by omega) s2 f2)
end
end Go.Proofs.YtnodjhgmghkikaaGreat
