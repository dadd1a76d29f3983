/- A part of the proof that the evaluator is right. Conditions: in each theorem. -/
import Derived.Test.YtfgipbjaapkdlaaGreatDoorY3
namespace Go.Xq
structure Leaves (P : Program) (fr : Frame) (w : World) (v : Value) : Prop where
  mode : fr.mode = .returning
  defers : fr.defers = []
  fn : ∃ fn, P.funcs[fr.fn]? = some fn ∧ (results fn fr.tmps).run P w = .ok v w
def CsOk (kind : CallKind) (cs : List Frame) : Prop := kind = .normal ∨ (kind = .deferred ∧ ∃ c r, cs = c :: r ∧ c.mode = .returning)
def XC (P : Program) (kind : CallKind) (f : FuncId) (args : Array Value) (w : World) (Q : Value → World → Prop) : Prop :=
  ∀ cs, CsOk kind cs → ∃ v w' fr, Q v w' ∧ Steps P (lone (Frame.enter P f args kind) cs w) (lone fr cs w') ∧ fr.kind = kind ∧ fr.fn = f ∧ Leaves P fr w' v
def XR (P : Program) (l : Nat) (f : FuncId) (tmps : Array Value) (a b : Code) (w : World) (Q : Value → World → Prop) : Prop :=
  ∀ c cs, ∃ v w', Q v w' ∧ Steps P (lone (Frame.round l f tmps a b .normal) (c :: cs) w) (lone (c.finish v) cs w')
theorem XC.mono {P : Program} {kind f args w} {Q Q' : Value → World → Prop} (h : XC P kind f args w Q) (hq : ∀ v w', Q v w' → Q' v w') : XC P kind f args w Q' :=
  fun cs hc => let ⟨v, w', fr, q, r⟩ := h cs hc; ⟨v, w', fr, hq v w' q, r⟩
theorem XR.mono {P : Program} {l f tmps a b w} {Q Q' : Value → World → Prop} (h : XR P l f tmps a b w Q) (hq : ∀ v w', Q v w' → Q' v w') : XR P l f tmps a b w Q' :=
  fun c cs => let ⟨v, w', q, r⟩ := h c cs; ⟨v, w', hq v w' q, r⟩
inductive Outc (P : Program) (s : Sem Next) (w : World) (Q : Value → World → Prop) : Prop
  | value (v : Value) (w' : World) (h : s.run P w = .ok (.value v) w') (hq : Q v w')
  | skip (w' : World) (h : s.run P w = .ok .skip w') (hq : Q undef w')
  | enter (f : FuncId) (args : Array Value) (w1 : World) (h : s.run P w = .ok (.enter f args) w1) (hx : XC P .normal f args w1 Q)
  | round (l : Nat) (f : FuncId) (tmps : Array Value) (a b : Code) (w1 : World) (h : s.run P w = .ok (.round l f tmps a b) w1) (hx : XR P l f tmps a b w1 Q)
def Post (m : Ren) (H : AH) (w : World) (v : AV) (H2 : AH) : Value → World → Prop := fun v' w' => ∃ m2, St m H w m2 H2 w' ∧ VR m2 v v'
def Enters (P : Program) (f : FuncId) : Prop := ∃ fn, P.funcs[f]? = some fn ∧ (fn.name == "runtime.NumGoroutine") = false ∧ fn.body.isNone = false
structure RecOk (P : Program) (R : Rec) : Prop where
  call : ∀ f args H v H2, R.call f args H = some (v, H2) → Enters P f ∧ ∀ m w vs, Rel m H w → VL m args vs → XC P .normal f vs.toArray w (Post m H w v H2)
  dcall : ∀ f args H v H2, R.dcall f args H = some (v, H2) → Enters P f ∧ ∀ m w vs, Rel m H w → VL m args vs → XC P .deferred f vs.toArray w (Post m H w v H2)
  round : ∀ l args H v H2, R.round l args H = some (v, H2) → ∀ m w vs i, Rel m H w → VL m args vs → m l = some i →
    ∃ f tmps a b, (Instr.yield i.blk vs.toArray).run P w = .ok (.round i.blk f tmps a b) w ∧ XR P i.blk f tmps a b w (Post m H w v H2)
def HvOk (P : Program) (k : HvK) (o : Oper) : Prop :=
  ∀ (R : Rec), RecOk P R → ∀ (m : Ren) (H : AH) (w : World) (T : Tr AV) (ρ : Operand → Value) (v : AV) (H2 : AH), Rel m H w → ER m T ρ → k.f R T H = some (v, H2) →
    Outc P (execOp ρ o) w (Post m H w v H2)
theorem undef_ok (m : Ren) : VR m undefA undef := .tup .nil [] .nil
section
variable {P : Program} {E : Env} (hE : TyOk P E) {o : Oper}
theorem Rel.wrs {m : Ren} {H : AH} {w : World} (hr : Rel m H w) {b : Nat} {x x2 : AObj} {i : BI} {k : Nat} {l : AV} {vs : List Value} (hb : H.get b = some x) (hi : m b = some i) (hv : VL m l vs) (h : wrCells l x k = some x2) :
    ∃ w', (storeCells ⟨i.blk, i.base + k, none⟩ vs).run P w = .ok () w' ∧ St m H w m (H.set b x2) w' := by
  obtain ⟨y, hy, hor⟩ := hr.live _ _ hb _ hi
  by_cases hc : ∃ c e fr, y = .cells c e fr
  · obtain ⟨c, e, fr, rfl⟩ := hc
    obtain ⟨g1, g2, g3, g4⟩ := hor.wrs hv h
    by_cases hn : vs = []
    · subst hn
      refine ⟨w, by simp [storeCells], St.upd hr hb hi g4 ?_ rfl rfl⟩
      apply Array.ext_getElem?
      intro j
      rw [Array.getElem?_setIfInBounds]
      split
      · rename_i e; subst e; split
        · exact hy
        · rename_i h2; rw [Array.getElem?_eq_none (by omega)]
      · rfl
    · have := run_storeCells (P := P) vs 0 c w (o := i.base + k) hy g1 (g2 hn) (by have := g3 hn; omega)
      exact ⟨_, this, St.upd hr hb hi g4 rfl rfl rfl⟩
  · cases hv with
    | nil =>
      simp [wrCells] at h; subst h
      refine ⟨w, by simp [storeCells], St.upd hr hb hi hor ?_ rfl rfl⟩
      apply Array.ext_getElem?
      intro j
      rw [Array.getElem?_setIfInBounds]
      split
      · rename_i e; subst e; split
        · exact hy
        · rename_i h2; rw [Array.getElem?_eq_none (by omega)]
      · rfl
    | cons a v l vs h1 h2 =>
      simp only [wrCells, ob_some] at h
      obtain ⟨o1, h3, _⟩ := h
      obtain ⟨c, e, fr, h4, _⟩ := hor.wr h3 h1
      exact absurd ⟨c, e, fr, h4⟩ hc
include hE
theorem stK_ok {t : Nat} {k : WK} (h : stK E t = some k) {m : Ren} {H H2 : AH} {w : World} {p v : AV} {u x : Value} (hr : Rel m H w) (hp : VR m p u) (hv : VR m v x) (hk : k.f H v p = some H2) :
    ∃ a w', u = .pointer (some a) ∧ (storeVar t a x).run P w = .ok () w' ∧ St m H w m H2 w' := by
  simp only [stK, ob_some] at h
  obtain ⟨ti, ht, h⟩ := h
  have key : ∀ n, n = ti.size → stN n H v p = some H2 → ∃ a w', u = .pointer (some a) ∧ (storeVar t a x).run P w = .ok () w' ∧ St m H w m H2 w' := by
    intro n hn hk
    simp only [stN, onPtr_some, ob_some, bt_some, Option.some.injEq] at hk
    obtain ⟨b, off, rfl, y, hb, hl, y2, hw, rfl⟩ := hk
    obtain ⟨i, hi, rfl⟩ := hp.ptr_inv
    obtain ⟨w', h1, h2⟩ := hr.wrs (P := P) hb hi hv.cellsT hw
    have hsz : x.cells.size = ti.size := by
      have := hv.cellsT.len; rw [Nat.eq_of_beq_eq_true hl] at this; rw [← hn, this]; simp
    refine ⟨_, w', rfl, ?_, h2⟩
    simp only [storeVar, Sem.run_bind, run_sizeOf hE ht, Result.andThen]
    rw [if_neg (by simp [hsz])]
    exact h1
  split at h
  · rename_i hn
    cases h
    have hn : ti.size = 1 := Nat.eq_of_beq_eq_true hn
    simp only [st1'] at hk
    cases hag : aggB v with
    | true => rw [hag] at hk; exact key 1 hn.symm hk
    | false =>
      rw [hag] at hk
      have hc : cellsA v = .cons v .nil := by cases v <;> first | rfl | (simp [aggB] at hag; done)
      apply key 1 hn.symm
      simp only [bt_false, st1, onPtr_some, ob_some, Option.some.injEq] at hk
      obtain ⟨b, off, rfl, y, hb, y2, hw, rfl⟩ := hk
      simp [stN, onPtr, hb, hc, AV.len, wrCells, hw]
  · cases h
    exact key _ rfl hk
theorem hv_store {t : Nat} {a x : Operand} {k : WK} (h : stK E t = some k) (ho : o.op = .store t a x) : HvOk P ⟨hvStore k a x⟩ o := by
  intro R hR m H w T ρ v H2 hr he hk
  simp only [hvStore, ob_some, Option.some.injEq, Prod.mk.injEq] at hk
  obtain ⟨p, g1, y, g2, H', g3, rfl, rfl⟩ := hk
  obtain ⟨ad, w', e1, h1, h2⟩ := stK_ok hE h hr (he a p g1) (he x y g2) g3
  refine .skip w' ?_ ⟨m, h2, undef_ok m⟩
  simp only [execOp, ho]; apply run_u
  simp [Instr.storeAt, e1, Instr.sureAddr, h1]
end
end Go.Xq
namespace Go.Xq
section
variable {P : Program} {E : Env} (hE : TyOk P E) {o : Oper}
def byteV (n k : Nat) : Value := .int .u8 (.ofNat (byteAt n k))
theorem lengthA_ok {m : Ren} {a : AV} {v : Value} {L : Nat} (hv : VR m a v) (h : lengthA a = some L) (w : World) : (Builtin.lenOf v).run P w = .ok L w := by
  cases a <;> simp [lengthA] at h
  · subst h; rw [hv.snil_inv]; rfl
  · subst h
    obtain ⟨s, rfl, e, _⟩ := hv.str_inv
    subst e
    have : s.size = s.data.toList.length := by simp
    simp only [Builtin.lenOf, Sem.run_pure, this]
  · subst h
    obtain ⟨a, c', rfl, _⟩ := hv.sl_inv
    rfl
theorem map_bytes (s : ByteArray) (n : Nat) (hn : n ≤ s.data.toList.length) : ((s.extract 0 n).data.map fun b => Value.int .u8 b.toNat) = ((List.range n).map (byteV (leNat s.data.toList))).toArray := by
  apply Array.ext_getElem?
  intro k
  by_cases hk : k < n
  · have h1 := bytes_vals s k (by omega)
    have hsz : n ≤ s.data.size := by simpa using hn
    simp only [Array.getElem?_map] at h1 ⊢
    rw [ByteArray.data_extract, Array.getElem?_extract]
    simp [hk, byteV]
    have hk' : k < s.data.size := by omega
    have hss : s.size = s.data.size := rfl
    rw [Array.getElem?_eq_getElem hk'] at h1 ⊢
    exact ⟨_, ⟨by omega, rfl⟩, by simpa using h1⟩
  · have hsz : n ≤ s.data.size := by simpa using hn
    rw [Array.getElem?_eq_none (by simp; omega), Array.getElem?_eq_none (by simp; omega)]
theorem run_loadBytes {w : World} {b o n num : Nat} (h : ∀ k, k < n → w.cell? ⟨b, o + k, none⟩ = some (byteV num k)) :
    (loadCells ⟨b, o, none⟩ n).run P w = .ok ((List.range n).map (byteV num)).toArray w := by
  have := run_loadCells (P := P) (w := w) (b := b) (o := o) (vs := (List.range n).map (byteV num)) (by
    intro k v hk
    have hk2 : k < n := by
      rcases Nat.lt_or_ge k n with h | h
      · exact h
      · rw [List.getElem?_eq_none (by simp; omega)] at hk; cases hk
    rw [List.getElem?_map, List.getElem?_range hk2] at hk
    simp at hk
    rw [h k hk2, hk])
  simpa using this
theorem first_bytes {m : Ren} {H : AH} {w : World} (hr : Rel m H w) {a : AV} {v : Value} {L num n : Nat} (hv : VR m a v) (h : bytesA H a = some (L, num)) (hn : n ≤ L) :
    (Builtin.firstCells 1 n v).run P w = .ok ((List.range n).map (byteV num)).toArray w := by
  cases a <;> simp only [bytesA, Option.some.injEq, Prod.mk.injEq, reduceCtorEq] at h
  · obtain ⟨rfl, rfl⟩ := h
    have : n = 0 := by omega
    subst this
    rw [hv.snil_inv]; rfl
  · obtain ⟨rfl, rfl⟩ := h
    obtain ⟨s, rfl, rfl, rfl⟩ := hv.str_inv
    simp only [Builtin.firstCells, Sem.run_pure, map_bytes s n hn]
  · rename_i b off len c
    obtain ⟨ad, c', rfl, _, hcase⟩ := hv.sl_inv
    by_cases hl : len = 0
    · subst hl
      simp [bytesSl] at h
      have : n = 0 := by omega
      subst this
      simp [Builtin.firstCells, loadCells, loadCellsFrom]
    · rcases hcase with ⟨i, hi, rfl, _⟩ | ⟨e, _⟩
      · obtain ⟨e1, _, e3⟩ := bytesSl_ok hr (fun _ => hi) h
        subst e1
        simp only [Builtin.firstCells, Nat.mul_one]
        exact run_loadBytes fun k hk => e3 k (by omega)
      · exact absurd e hl
theorem first_cells {m : Ren} {H : AH} {w : World} (hr : Rel m H w) {a l : AV} {v : Value} {es n L : Nat} (hv : VR m a v) (hL : lengthA a = some L) (hn : n ≤ L) (h : firstA H es n a = some l) :
    ∃ vs, (∀ w2 : World, w2.heap = w.heap → (Builtin.firstCells es n v).run P w2 = .ok vs.toArray w2) ∧ VL m l vs := by
  cases a <;> simp only [firstA, reduceCtorEq] at h
  · cases h
    rw [hv.snil_inv]
    exact ⟨[], fun _ _ => rfl, .nil⟩
  · rename_i len num
    obtain ⟨s, rfl, rfl, rfl⟩ := hv.str_inv
    simp [lengthA] at hL
    simp only [bt_some] at h
    obtain ⟨_, h⟩ := h
    have hb : ∀ (k j : Nat) (l : AV), rdCells (.bys 0 s.data.toList.length false (leNat s.data.toList)) k j = some l → VL m l ((List.range k).map fun t => byteV (leNat s.data.toList) (j + t)) := by
      intro k
      induction k with
      | zero => intro j l h; cases h; exact .nil
      | succ k ih =>
        intro j l h
        simp only [rdCells, ob_some, rdCell, onObj3, rdBy, bt_some] at h
        obtain ⟨x, ⟨_, h1⟩, l', h2, h3⟩ := h
        cases h1; cases h3
        rw [List.range_succ_eq_map, List.map_cons, List.map_map]
        refine .cons _ _ _ _ (.int _ _) ?_
        have := ih (j + 1) l' h2
        have e : (fun t => byteV (leNat s.data.toList) (j + 1 + t)) = (fun t => byteV (leNat s.data.toList) (j + t)) ∘ Nat.succ := by
          funext t; simp only [Function.comp]; congr 1; omega
        rw [← e]; exact this
    refine ⟨_, fun w2 _ => ?_, hb _ _ _ h⟩
    simp only [Nat.zero_add]
    simp only [Builtin.firstCells, Sem.run_pure]
    rw [map_bytes s n (by simp; omega)]
  · rename_i b off len c
    obtain ⟨ad, c', rfl, _, hcase⟩ := hv.sl_inv
    simp [lengthA] at hL
    subst hL
    cases n with
    | zero =>
      simp at h; subst h
      exact ⟨[], fun w2 _ => by simp [Builtin.firstCells, loadCells, loadCellsFrom], .nil⟩
    | succ n =>
      simp only [nc_succ, ob_some] at h
      obtain ⟨x, hb, h⟩ := h
      rcases hcase with ⟨i, hi, rfl, _⟩ | ⟨e, _⟩
      · obtain ⟨vs, h1, h2, h3⟩ := hr.rds hb hi _ _ _ h
        refine ⟨vs, fun w2 hw2 => ?_, h2⟩
        simp only [Builtin.firstCells]
        have := run_loadCells (P := P) (w := w2) (fun j u hu => by
          have := h3 j u hu
          simp only [World.cell?] at this ⊢
          rw [hw2]; exact this)
        rw [h1] at this
        exact this
      · omega
theorem OR.over {m : Ren} {c : Array Value} {e0 : TypeId} {fr : Nat × Nat} {e sz x off n num : Nat} {op : Bool} {i : BI} {o2 : AObj} (h : OR m (.cells c e0 fr) (.bys e sz op x) i) (hw : overBlk off n num e sz op x = some o2) :
    FZ fr c.size ∧ i.base + off + n ≤ c.size ∧ OR m (.cells (spl c (i.base + off) ((List.range n).map (byteV num))) e0 fr) o2 i := by
  cases h with | bys c fr e size opn nn i hc he hs hf h =>
  simp only [overBlk, bt_some, Option.some.injEq] at hw
  obtain ⟨h1, rfl⟩ := hw
  have h1 : off + n ≤ sz := Nat.le_of_ble_eq_true h1
  refine ⟨hc ▸ hf, by omega, .bys _ _ _ _ _ _ _ (by rw [spl_size]; exact hc) he hs hf ?_⟩
  intro k hk
  have hv : num.mod ((1 : Nat).shiftLeft (Nat.mul 8 n)) < 256 ^ n := by
    show num % (1 <<< (8 * n)) < _
    rw [Nat.shiftLeft_eq, Nat.one_mul, Nat.pow_mul]
    exact Nat.mod_lt _ (Nat.pow_pos (by decide))
  have hv2 : num.mod ((1 : Nat).shiftLeft (Nat.mul 8 n)) = num % 256 ^ n := by
    show num % (1 <<< (8 * n)) = _
    rw [Nat.shiftLeft_eq, Nat.one_mul, Nat.pow_mul]
  rw [spl_get _ _ _ _ (by simp; omega), byteAt_over _ _ _ _ _ hv, hv2]
  simp only [List.length_map, List.length_range]
  by_cases h3 : off ≤ k ∧ k < off + n
  · rw [if_pos (by omega), if_neg (by omega), if_pos (by omega)]
    rw [show i.base + k - (i.base + off) = k - off from by omega, List.getElem?_map, List.getElem?_range (by omega), byteAt_mod _ _ _ (by omega)]
    rfl
  · rw [if_neg (by omega), h k hk]
    by_cases h4 : k < off
    · rw [if_pos h4]
    · rw [if_neg h4, if_neg (by omega)]
theorem layA_ok {m : Ren} {H H2 : AH} {w : World} (hr : Rel m H w) {a : AV} {v : Value} {es b off n L : Nat} {i : BI} (hv : VR m a v) (hL : lengthA a = some L) (hn : n ≤ L) (hi : m b = some i) (h : layA H es b off n a = some H2) :
    ∃ vs w', (Builtin.firstCells es n v).run P w = .ok vs.toArray w ∧ (storeCells ⟨i.blk, i.base + off, none⟩ vs).run P w = .ok () w' ∧ St m H w m H2 w' := by
  simp only [layA, ob_some, onObj_some] at h
  obtain ⟨x, hb, h⟩ := h
  rcases h with ⟨e, s, p, y, rfl, h⟩ | ⟨e, a', s, p, z, t, rfl, h⟩
  · simp only [bt_some, ob_some, Option.some.injEq] at h
    obtain ⟨hes, ⟨L', num⟩, h1, o2, h2, rfl⟩ := h
    have hes := Nat.eq_of_beq_eq_true hes
    subst hes
    have hLL : L' = L := by
      cases a <;> simp [bytesA, lengthA] at h1 hL
      · omega
      · omega
      · rename_i b' off' len' c'
        subst hL
        cases len' with
        | zero => simp [bytesSl] at h1; omega
        | succ j =>
          obtain ⟨ad, c', e1, _, hcase⟩ := hv.sl_inv
          rcases hcase with ⟨i', hi', _⟩ | ⟨e, _⟩
          · exact (bytesSl_ok hr (fun _ => hi') h1).1
          · omega
    subst hLL
    obtain ⟨y, hy, hor⟩ := hr.live _ _ hb _ hi
    have hcells : ∃ c e fr, y = .cells c e fr := by cases hor; exact ⟨_, _, _, rfl⟩
    obtain ⟨c, e0, fr, rfl⟩ := hcells
    obtain ⟨g1, g2, g3⟩ := hor.over h2
    refine ⟨_, _, first_bytes hr hv h1 hn, run_storeCells (P := P) _ 0 c w (o := i.base + off) hy ?_ g1 (by simp; omega), St.upd hr hb hi g3 rfl rfl rfl⟩
    intro u hu
    simp only [List.mem_map] at hu
    obtain ⟨_, _, rfl⟩ := hu
    rfl
  · simp only [Option.some.injEq] at h
    obtain ⟨l, h1, o2, h2, rfl⟩ := h
    obtain ⟨vs, h3, h4⟩ := first_cells (P := P) hr hv hL hn h1
    obtain ⟨w', h5, h6⟩ := hr.wrs (P := P) hb hi h4 h2
    exact ⟨vs, w', h3 w rfl, h5, h6⟩
end
end Go.Xq
namespace Go.Xq
section
variable {P : Program} {E : Env} (hE : TyOk P E) {o : Oper}
theorem run_setObj {w : World} {r : Nat} {x : Obj} (y : Obj) (h : w.heap[r]? = some x) (hx : ∀ c e f, x ≠ .cells c e f) : (setObj r y).run P w = .ok () { w with heap := w.heap.setIfInBounds r y } := by
  unfold setObj Sem.run
  rw [h]
  cases x <;> first | rfl | exact absurd rfl (hx _ _ _)
theorem run_builtin_v {c : Call} {b : Builtin} {s : Sem Value} (ho : o.op = .call c) (hc : c.callee = .builtin b) {ρ : Operand → Value}
    (hs : ∀ cs, builtin b c.argTypes o.type cs (c.args.map ρ) = (do pure (.value (← s)))) {w w' : World} {v : Value} (h : s.run P w = .ok v w') :
    (execOp ρ o).run P w = .ok (.value v) w' := by
  rw [run_builtin ho hc, hs]
  exact run_v h
theorem EntsR.append {m : Ren} {e : MEnt} {f : MapEntry} (he : EntR m e f) : ∀ {l : List MEnt} {k : List MapEntry}, EntsR m l k → EntsR m (l ++ [e]) (k ++ [f])
  | _, _, .nil => .cons _ _ _ _ he .nil
  | _, _, .cons e' f' l k h hl => .cons _ _ _ _ h (hl.append he)
theorem EntsR.erase {m : Ren} : ∀ {i : Nat} {l : List MEnt} {k : List MapEntry}, EntsR m l k → EntsR m (eraseN i l) (k.eraseIdx i)
  | 0, _, _, .nil => .nil
  | _ + 1, _, _, .nil => .nil
  | 0, _, _, .cons _ _ _ _ _ hl => hl
  | i + 1, _, _, .cons e f l k h hl => .cons _ _ _ _ h (hl.erase (i := i))
theorem EntsR.setN {m : Ren} {a b : AV} {u v : Value} (ha : VR m a u) (hb : VR m b v) : ∀ {i : Nat} {l : List MEnt} {k : List MapEntry}, EntsR m l k → EntsR m (Go.Xq.setN i a b l) (k.modify i fun e => { e with key := u, val := v })
  | 0, _, _, .nil => .nil
  | _ + 1, _, _, .nil => .nil
  | 0, _, _, .cons e f l k h hl => by
    cases h with | mk h1 h2 h3 =>
    exact .cons _ _ _ _ (.mk _ _ ha hb h3) hl
  | i + 1, _, _, .cons e f l k h hl => .cons _ _ _ _ h (hl.setN ha hb (i := i))
theorem findA_at {q : KyK} {H : AH} {k : AV} : ∀ {l : List MEnt} {i j : Nat} {a : AV}, findA q H k l i = some (some (j, a)) → ∃ d e, j = i + d ∧ l[d]? = some e ∧ q.f H k e.key = some true
  | [], i, j, a, h => by cases h
  | e :: l, i, j, a, h => by
    simp only [findA, ob_some] at h
    obtain ⟨s, hs, h⟩ := h
    cases s
    · obtain ⟨d, e', h1, h2, h3⟩ := findA_at (i := i + 1) h
      exact ⟨d + 1, e', by omega, by simpa using h2, h3⟩
    · simp only [bt_true, Option.some.injEq, Prod.mk.injEq] at h
      exact ⟨0, e, by omega, rfl, hs⟩
theorem key_same {t : Nat} {q : KyK} (hq : keyK E t = some q) {m : Ren} {H : AH} {k k2 : AV} {u u2 : Value} (h1 : VR m k u) (h2 : VR m k2 u2) (h : q.f H k k2 = some true) : u = u2 ∧ ∀ n, Instr.sameBits n u u = true := by
  simp only [keyK, ob_some] at hq
  obtain ⟨ti, _, hq⟩ := hq
  split at hq
  · cases hq
    simp only [kyInt] at h
    split at h
    · simp only [bt_some, Option.some.injEq] at h
      rw [h1.int_inv, h2.int_inv, kEq_iff.1 h.1, eqI_iff.1 h.2]
      exact ⟨rfl, fun n => by cases n <;> simp [Instr.sameBits]⟩
    · cases h
  · cases hq
    simp only [kyStr] at h
    split at h
    · obtain ⟨s1, e1, rfl, rfl⟩ := h1.str_inv
      obtain ⟨s2, e2, rfl, rfl⟩ := h2.str_inv
      simp only [Option.some.injEq, sEq_ok] at h
      subst e1; subst e2
      have : s1 = s2 := by
        have := eq_of_beq h
        exact ByteArray.ext (Array.toList_inj.1 this)
      subst this
      exact ⟨rfl, fun n => by cases n <;> simp [Instr.sameBits, beq_toListBytes]⟩
    · cases h
  · cases hq
    simp only [kyBool] at h
    split at h
    · simp only [Option.some.injEq, bEq_iff] at h
      rw [h1.bool_inv, h2.bool_inv, h]
      exact ⟨rfl, fun n => by cases n <;> simp [Instr.sameBits]⟩
    · cases h
  · simp only [ob_some] at hq
    obtain ⟨te, _, hq⟩ := hq
    split at hq
    · cases hq
    · cases hq
      simp only [kyPtr] at h
      split at h
      · rename_i b o' b' o2
        simp only [samePtrA] at h
        by_cases e : Nat.beq b b' = true
        · rw [e] at h
          simp only [bt_true, Option.some.injEq] at h
          have e1 := Nat.eq_of_beq_eq_true e
          have e2 := Nat.eq_of_beq_eq_true h
          subst e1; subst e2
          obtain ⟨i, hi, rfl⟩ := h1.ptr_inv
          obtain ⟨j, hj, rfl⟩ := h2.ptr_inv
          rw [hi] at hj; cases hj
          exact ⟨rfl, fun n => by cases n <;> simp [Instr.sameBits]⟩
        · have e : Nat.beq b b' = false := eq_false_of_ne_true e
          rw [e] at h
          simp only [bt_false, ob_some, bt_some] at h
          obtain ⟨_, _, _, _, _, _, h⟩ := h
          cases h
      · cases h
  · cases hq
include hE
theorem hv_mapSet {t kt et : Nat} {x k v : Operand} {ti : TI} {q : KyK} (h1 : tyOf E t = some ti) (h2 : ti.d = .map kt et) (hq : keyK E kt = some q) (ho : o.op = .mapUpdate t x k v ∨ o.op = .insert t x k v) : HvOk P ⟨mapSetA q x k v⟩ o := by
  intro R hR m H w T ρ res H2 hr he hk
  simp only [mapSetA, ob_some] at hk
  obtain ⟨a, g1, b, g2, c, g3, hk⟩ := hk
  have e1 := he x a g1
  have e2 := he k b g2
  have e3 := he v c g3
  have hop : (execOp ρ o) = (do Instr.mapUpdate t (ρ x) (ρ k) (ρ v); pure .skip) := by
    rcases ho with ho | ho <;> simp only [execOp, ho]
  simp only [onMap_some, reduceCtorEq, and_false, false_or, ob_some, onMp_some] at hk
  obtain ⟨r, rfl, y, hg, es, clock, rfl, s, hf, hk⟩ := hk
  obtain ⟨i, hi, ex⟩ := e1.mp_inv
  obtain ⟨y, hy, hor⟩ := hr.live _ _ hg _ hi
  cases hor with | mp en _ _ _ hen =>
  obtain ⟨r', q1, q2⟩ := findKey_ok hE hq hr e2 hen hf
  rw [hop, ex]
  cases q2 with
  | none =>
    simp only [oc_none, Option.some.injEq, Prod.mk.injEq] at hk
    obtain ⟨rfl, rfl⟩ := hk
    refine .skip _ (run_u (w2 := { w with heap := w.heap.setIfInBounds i.blk (.map (en.push { key := ρ k, val := ρ v, born := clock }) (clock + 1)) }) ?_) ⟨m, St.upd hr hg hi (.mp _ _ _ _ ?_) rfl rfl rfl, undef_ok m⟩
    · simp only [Instr.mapUpdate, Sem.run_bind, run_underlying hE h1, Result.andThen, h2, run_getObj hy (by simp), keyK_check hE hq, q1, run_setObj _ hy (by simp)]
    · rw [Array.toList_push]
      exact hen.append (.mk _ _ e2 e3 rfl)
  | some j av vv hv =>
    simp only [oc_some, Option.some.injEq, Prod.mk.injEq] at hk
    obtain ⟨rfl, rfl⟩ := hk
    obtain ⟨d, e, hd, he2, hsame⟩ := findA_at hf
    have hjd : d = j := by omega
    subst hjd
    obtain ⟨f, hf1, hf2⟩ := hen.get he2
    cases hf2 with | mk hf3 _ _ =>
    obtain ⟨hs1, hs2⟩ := key_same hq e2 hf3 hsame
    have hkey : (en[d]?.map (·.key)).getD (ρ k) = ρ k := by
      have : en[d]? = some f := by rw [← Array.getElem?_toList]; exact hf1
      rw [this]; simp [hs1]
    refine .skip _ (run_u (w2 := { w with heap := w.heap.setIfInBounds i.blk (.map (en.modify d fun e => { e with key := ρ k, val := ρ v }) clock) }) ?_) ⟨m, St.upd hr hg hi (.mp _ _ _ _ ?_) rfl rfl rfl, undef_ok m⟩
    · simp only [Instr.mapUpdate, Sem.run_bind, run_underlying hE h1, Result.andThen, h2, run_getObj hy (by simp), keyK_check hE hq, q1, hkey, Instr.keyThatStays, hs2, if_true, Sem.run_pure, run_setObj _ hy (by simp)]
    · rw [Array.toList_modify]
      exact hen.setN e2 e3
theorem hv_delete {c : Call} {x k : Operand} {t kt et : Nat} {ts : List Nat} {ti : TI} {q : KyK} (h1 : tyOf E t = some ti) (h2 : ti.d = .map kt et) (hq : keyK E kt = some q) (ho : o.op = .call c) (hc : c.callee = .builtin .delete)
    (ha : c.args.toList = [x, k]) (hty : c.argTypes.toList = t :: ts) : HvOk P ⟨deleteA q x k⟩ o := by
  have ea : c.args = #[x, k] := by rw [← ha]
  have et : c.argTypes[0]? = some t := by rw [← Array.getElem?_toList, hty]; rfl
  intro R hR m H w T ρ res H2 hr he hk
  simp only [deleteA, ob_some] at hk
  obtain ⟨a, g1, b, g2, hk⟩ := hk
  have e1 := he x a g1
  have e2 := he k b g2
  simp only [onMap_some, ob_some, onMp_some, Option.some.injEq, Prod.mk.injEq] at hk
  rcases hk with ⟨rfl, rfl, rfl⟩ | ⟨r, rfl, y, hg, es, clock, rfl, s, hf, hk⟩
  · refine .value undef w (run_builtin_v ho hc (fun _ => rfl) ?_) ⟨m, St.refl hr, undef_ok m⟩
    simp only [Builtin.delete_, et, ea, List.map_toArray, List.map_cons, List.map_nil, List.getElem?_toArray, List.getElem?_cons_zero, List.getElem?_cons_succ, Sem.run_bind, run_underlying hE h1, Result.andThen, h2, e1.mnil_inv, keyK_check hE hq, Sem.run_pure]
    rfl
  · obtain ⟨i, hi, ex⟩ := e1.mp_inv
    obtain ⟨y, hy, hor⟩ := hr.live _ _ hg _ hi
    cases hor with | mp en _ _ _ hen =>
    obtain ⟨r', q1, q2⟩ := findKey_ok hE hq hr e2 hen hf
    cases q2 with
    | none =>
      simp only [oc_none, Option.some.injEq, Prod.mk.injEq] at hk
      obtain ⟨rfl, rfl⟩ := hk
      refine .value undef { w with heap := w.heap.setIfInBounds i.blk (.map en clock) } (run_builtin_v ho hc (fun _ => rfl) ?_) ⟨m, St.world hr ?_ rfl rfl, undef_ok m⟩
      · simp only [Builtin.delete_, et, ea, ex, List.map_toArray, List.map_cons, List.map_nil, List.getElem?_toArray, List.getElem?_cons_zero, List.getElem?_cons_succ, Sem.run_bind, run_underlying hE h1, Result.andThen, h2,
          keyK_check hE hq, run_getObj hy (by simp), q1, run_setObj _ hy (by simp), Sem.run_pure]
        rfl
      · apply Array.ext_getElem?
        intro j
        rw [Array.getElem?_setIfInBounds]
        split
        · rename_i e; subst e; split
          · exact hy.symm
          · rename_i h2; rw [Array.getElem?_eq_none (by omega)]
        · rfl
    | some j av vv hv =>
      simp only [oc_some, Option.some.injEq, Prod.mk.injEq] at hk
      obtain ⟨rfl, rfl⟩ := hk
      refine .value undef { w with heap := w.heap.setIfInBounds i.blk (.map (en.eraseIdxIfInBounds j) clock) } (run_builtin_v ho hc (fun _ => rfl) ?_) ⟨m, St.upd hr hg hi (.mp _ _ _ _ ?_) rfl rfl rfl, undef_ok m⟩
      · simp only [Builtin.delete_, et, ea, ex, List.map_toArray, List.map_cons, List.map_nil, List.getElem?_toArray, List.getElem?_cons_zero, List.getElem?_cons_succ, Sem.run_bind, run_underlying hE h1, Result.andThen, h2,
          keyK_check hE hq, run_getObj hy (by simp), q1, run_setObj _ hy (by simp), Sem.run_pure]
        rfl
      · have : (en.eraseIdxIfInBounds j).toList = en.toList.eraseIdx j := by
          simp only [Array.eraseIdxIfInBounds]
          split
          · simp
          · rename_i hlt; rw [List.eraseIdx_of_length_le (by simpa using hlt)]
        rw [this]
        exact hen.erase
theorem hv_clear {c : Call} {x : Operand} {t : Nat} {ts : List Nat} {k : HvK} (h : clearK E t x = some k) (ho : o.op = .call c) (hc : c.callee = .builtin .clear)
    (ha : c.args.toList = [x]) (hty : c.argTypes.toList = t :: ts) : HvOk P k o := by
  have ea : c.args = #[x] := by rw [← ha]
  have et : c.argTypes[0]? = some t := by rw [← Array.getElem?_toList, hty]; rfl
  simp only [clearK, ob_some] at h
  obtain ⟨ti, h1, h⟩ := h
  intro R hR m H w T ρ res H2 hr he hk
  split at h
  · rename_i e hd
    simp only [ob_some, zeroA, Option.some.injEq] at h
    obtain ⟨z, ⟨te, h3, hz⟩, rfl⟩ := h
    simp only [clSlice, ob_some, onSl_some, Option.some.injEq, Prod.mk.injEq] at hk
    obtain ⟨a, g1, hk⟩ := hk
    have e1 := he x a g1
    obtain ⟨zv, q1, q2, _⟩ := run_zeroValue (w := w) hE h3 hz
    rcases hk with ⟨rfl, rfl, rfl⟩ | ⟨b, off, n, cp, rfl, hk⟩
    · refine .value undef w (run_builtin_v ho hc (fun _ => rfl) ?_) ⟨m, St.refl hr, undef_ok m⟩
      simp only [Builtin.clear_, et, ea, List.map_toArray, List.map_cons, List.map_nil, List.getElem?_toArray, List.getElem?_cons_zero, Sem.run_bind, run_underlying hE h1, Result.andThen, hd, e1.snil_inv, Sem.run_pure]
      rfl
    · obtain ⟨ad, c', ex, _, hcase⟩ := e1.sl_inv
      cases n with
      | zero =>
        simp only [nc_zero, Option.some.injEq, Prod.mk.injEq] at hk
        obtain ⟨rfl, rfl⟩ := hk
        refine .value undef w (run_builtin_v ho hc (fun _ => rfl) ?_) ⟨m, St.refl hr, undef_ok m⟩
        simp only [Builtin.clear_, et, ea, ex, List.map_toArray, List.map_cons, List.map_nil, List.getElem?_toArray, List.getElem?_cons_zero, Sem.run_bind, run_underlying hE h1, Result.andThen, hd, Sem.run_pure]
        rfl
      | succ n =>
        simp only [nc_succ, ob_some, storeAll, Option.some.injEq, Prod.mk.injEq] at hk
        obtain ⟨H', ⟨y, hb, y2, hw, rfl⟩, rfl, rfl⟩ := hk
        rcases hcase with ⟨i, hi, rfl, _⟩ | ⟨e, _⟩
        · obtain ⟨w', g2, g3⟩ := hr.wrs (P := P) hb hi (zerosA_ok (q2 m).cellsT (n + 1)) hw
          refine .value undef w' (run_builtin_v ho hc (fun _ => rfl) ?_) ⟨m, g3, undef_ok m⟩
          have hz : (Builtin.zeroCells zv.cells (n + 1)).toList = (List.replicate (n + 1) zv.cells.toList).flatten := by
            rw [Builtin.zeroCells, zeros_arr]
          simp only [Builtin.clear_, et, ea, ex, List.map_toArray, List.map_cons, List.map_nil, List.getElem?_toArray, List.getElem?_cons_zero, Sem.run_bind, run_underlying hE h1, Result.andThen, hd, q1, hz, g2, Sem.run_pure]
          rfl
        · omega
  · rename_i hd
    simp only [Option.some.injEq] at h
    subst h
    simp only [clMap, ob_some, onMap_some, onMp_some, Option.some.injEq, Prod.mk.injEq] at hk
    obtain ⟨a, g1, hk⟩ := hk
    have e1 := he x a g1
    rcases hk with ⟨rfl, rfl, rfl⟩ | ⟨r, rfl, y, hg, es, clock, rfl, rfl, rfl⟩
    · refine .value undef w (run_builtin_v ho hc (fun _ => rfl) ?_) ⟨m, St.refl hr, undef_ok m⟩
      simp only [Builtin.clear_, et, ea, List.map_toArray, List.map_cons, List.map_nil, List.getElem?_toArray, List.getElem?_cons_zero, Sem.run_bind, run_underlying hE h1, Result.andThen, hd, e1.mnil_inv, Sem.run_pure]
      rfl
    · obtain ⟨i, hi, ex⟩ := e1.mp_inv
      obtain ⟨y, hy, hor⟩ := hr.live _ _ hg _ hi
      cases hor with | mp en _ _ _ hen =>
      refine .value undef { w with heap := w.heap.setIfInBounds i.blk (.map #[] clock) } (run_builtin_v ho hc (fun _ => rfl) ?_) ⟨m, St.upd hr hg hi (.mp _ _ _ _ .nil) rfl rfl rfl, undef_ok m⟩
      simp only [Builtin.clear_, et, ea, ex, List.map_toArray, List.map_cons, List.map_nil, List.getElem?_toArray, List.getElem?_cons_zero, Sem.run_bind, run_underlying hE h1, Result.andThen, hd, run_getObj hy (by simp), run_setObj _ hy (by simp), Sem.run_pure]
      rfl
  · cases h
theorem hv_copy {c : Call} {d s : Operand} {t e : Nat} {ts : List Nat} {ti te : TI} (h1 : tyOf E t = some ti) (h2 : ti.d = .slice e) (h3 : tyOf E e = some te) (ho : o.op = .call c) (hc : c.callee = .builtin .copy)
    (ha : c.args.toList = [d, s]) (hty : c.argTypes.toList = t :: ts) : HvOk P ⟨hvCopy te.size d s⟩ o := by
  have ea : c.args = #[d, s] := by rw [← ha]
  have et : c.argTypes[0]? = some t := by rw [← Array.getElem?_toList, hty]; rfl
  intro R hR m H w T ρ res H2 hr he hk
  simp only [hvCopy, copyA, ob_some] at hk
  obtain ⟨a, g1, b, g2, L, hL, hk⟩ := hk
  have e1 := he d a g1
  have e2 := he s b g2
  have hlen := lengthA_ok (P := P) e2 hL w
  have zero : ∀ (w : World), (Builtin.firstCells te.size 0 (ρ s)).run P w = .ok #[] w := by
    intro w
    cases b <;> simp [lengthA] at hL
    · rw [e2.snil_inv]; rfl
    · obtain ⟨st, e, _⟩ := e2.str_inv
      rw [e]
      simp [Builtin.firstCells]
    · obtain ⟨ad, c', e, _⟩ := e2.sl_inv
      rw [e]
      simp [Builtin.firstCells, loadCells, loadCellsFrom]
  simp only [onSl_some, Option.some.injEq, Prod.mk.injEq] at hk
  rcases hk with ⟨rfl, rfl, rfl⟩ | ⟨bb, off, n, cp, rfl, hk⟩
  · refine .value (.int .i64 0) w (run_builtin_v ho hc (fun _ => rfl) ?_) ⟨m, St.refl hr, .int _ _⟩
    simp only [Builtin.copy_, et, ea, List.map_toArray, List.map_cons, List.map_nil, List.getElem?_toArray, List.getElem?_cons_zero, List.getElem?_cons_succ, Sem.run_bind, run_underlying hE h1, Result.andThen, h2, e1.snil_inv, Sem.run_pure, hlen,
      run_sizeOf hE h3, Nat.min_eq_min, Nat.min_zero, zero, goInt]
    rfl
  · obtain ⟨ad, c', ex, _, hcase⟩ := e1.sl_inv
    by_cases hmn : Nat.min L n = 0
    · rw [hmn] at hk
      simp only [nc_zero, Option.some.injEq, Prod.mk.injEq] at hk
      obtain ⟨rfl, rfl⟩ := hk
      refine .value (.int .i64 0) w (run_builtin_v ho hc (fun _ => rfl) ?_) ⟨m, St.refl hr, .int _ _⟩
      simp only [Builtin.copy_, et, ea, ex, List.map_toArray, List.map_cons, List.map_nil, List.getElem?_toArray, List.getElem?_cons_zero, List.getElem?_cons_succ, Sem.run_bind, run_underlying hE h1, Result.andThen, h2, Sem.run_pure, hlen,
        run_sizeOf hE h3, hmn, zero, goInt, storeCells]
      rfl
    · obtain ⟨j, hj⟩ : ∃ j, Nat.min L n = j + 1 := ⟨Nat.min L n - 1, by omega⟩
      rw [hj] at hk
      simp only [nc_succ, ob_some, Option.some.injEq, Prod.mk.injEq] at hk
      obtain ⟨H', hlay, rfl, rfl⟩ := hk
      have hle : j + 1 ≤ L ∧ j + 1 ≤ n := by rw [← hj]; exact ⟨Nat.min_le_left _ _, Nat.min_le_right _ _⟩
      rcases hcase with ⟨i, hi, rfl, _⟩ | ⟨e, _⟩
      · obtain ⟨vs, w', q1, q2, q3⟩ := layA_ok (P := P) hr e2 hL hle.1 hi hlay
        refine .value (goInt (j + 1 : Nat)) w' (run_builtin_v ho hc (fun _ => rfl) ?_) ⟨m, q3, .int _ _⟩
        simp only [Builtin.copy_, et, ea, ex, List.map_toArray, List.map_cons, List.map_nil, List.getElem?_toArray, List.getElem?_cons_zero, List.getElem?_cons_succ, Sem.run_bind, run_underlying hE h1, Result.andThen, h2, Sem.run_pure, hlen,
          run_sizeOf hE h3, hj, q1, q2]
      · omega
end
end Go.Xq
namespace Go.Xq
section
variable {P : Program} {E : Env} (hE : TyOk P E) {o : Oper}
theorem rdCells_len {x : AObj} : ∀ {n i : Nat} {l : AV}, rdCells x n i = some l → AV.len l = n
  | 0, _, _, h => by cases h; rfl
  | n + 1, i, l, h => by
    simp only [rdCells, ob_some] at h
    obtain ⟨v, _, l', h2, h3⟩ := h
    cases h3
    show (AV.len l').succ = _
    rw [rdCells_len h2]
theorem firstA_len {H : AH} {es n L : Nat} {a l : AV} (hL : lengthA a = some L) (hn : n ≤ L) (h : firstA H es n a = some l) : AV.len l = n * es := by
  cases a <;> simp only [firstA, reduceCtorEq] at h
  · cases h; simp [lengthA] at hL; subst hL; have : n = 0 := by omega
    subst this; simp [AV.len]
  · simp only [bt_some, Nat.beq_eq] at h
    obtain ⟨h1, h2⟩ := h
    subst h1
    rw [rdCells_len h2, Nat.mul_one]
  · cases n with
    | zero => simp at h; subst h; simp [AV.len]
    | succ n =>
      simp only [nc_succ, ob_some] at h
      obtain ⟨x, _, h⟩ := h
      exact rdCells_len h
theorem bytesA_len {m : Ren} {H : AH} {w : World} (hr : Rel m H w) {a : AV} {v : Value} {L L' num : Nat} (hv : VR m a v) (hL : lengthA a = some L) (h : bytesA H a = some (L', num)) : L' = L ∧ num < 256 ^ L := by
  cases a <;> simp [bytesA, lengthA] at h hL
  · obtain ⟨rfl, rfl⟩ := h; subst hL; exact ⟨rfl, by simp⟩
  · obtain ⟨rfl, rfl⟩ := h; subst hL
    obtain ⟨s, _, rfl, rfl⟩ := hv.str_inv
    exact ⟨rfl, leNat_lt _⟩
  · rename_i b' off' len' c'
    subst hL
    cases len' with
    | zero => simp [bytesSl] at h; obtain ⟨rfl, rfl⟩ := h; exact ⟨rfl, by simp⟩
    | succ j =>
      obtain ⟨ad, c', e1, _, hcase⟩ := hv.sl_inv
      rcases hcase with ⟨i', hi', _⟩ | ⟨e, _⟩
      · have := bytesSl_ok hr (fun _ => hi') h
        exact ⟨this.1, this.2.1⟩
      · omega
theorem VL.nth_ex {m : Ren} : ∀ {k : Nat} {l : AV} {vs : List Value}, VL m l vs → k < vs.length → ∃ a, AV.nth k l = some a
  | _, _, _, .nil, h => by simp at h
  | 0, _, _, .cons a v l vs _ _, _ => ⟨a, rfl⟩
  | k + 1, _, _, .cons a v l vs _ hl, h => by simpa [AV.nth, onCons] using hl.nth_ex (k := k) (by simpa using h)
theorem mkCs_gen {m : Ren} {e es : Nat} {opn : Bool} {z l : AV} {x : AObj} {vs : List Value} {c : Array Value} {i : BI} (hl : VL m l vs) (h : mkCs e es z opn l = some x)
    (hc : c.size = i.sz) (hes : i.es = es) (hle : i.base + vs.length ≤ i.sz) (hall : ∀ k, k < vs.length → c[i.base + k]? = vs[k]?) : OR m (.cells c e (0, 0)) x i := by
  cases h
  rw [hl.len]
  refine .cs _ _ _ _ _ _ _ _ _ hc hes hle rfl ?_
  intro k v hk
  simp only [rdCs, bt_some] at hk
  obtain ⟨h1, h2⟩ := hk
  have hk : k < vs.length := by simpa [Nat.blt_eq] using h1
  rw [toTr_get hl, if_pos (by omega)] at h2
  simp only [Nat.sub_zero] at h2
  obtain ⟨a, ha⟩ := hl.nth_ex hk
  rw [ha] at h2
  simp only [oc_some, Option.some.injEq] at h2
  subst h2
  obtain ⟨u, hu, hv⟩ := hl.nth ha
  exact ⟨u, by rw [hall k hk]; exact hu, hv⟩
def GrowR (m : Ren) (e0 : TypeId) (es cnt : Nat) (vs : List Value) (o : AObj) : Prop :=
  ∀ m2, Le m m2 → ∀ (c : Array Value) (fr : Nat × Nat) (i : BI), c.size = i.sz → i.es = es → i.base + cnt * es ≤ i.sz → (∀ k, k < cnt * es → c[i.base + k]? = vs[k]?) → FZ fr i.sz →
    (isCs o = true → fr = (0, 0)) → OR m2 (.cells c e0 fr) o i
def eB : AObj → Nat
  | .bys e _ _ _ => e
  | .cs e _ _ _ _ _ => e
  | _ => 0
theorem allCell_ok {m : Ren} : ∀ {l : AV} {vs : List Value}, VL m l vs → allCell l = true → ∀ v ∈ vs, v.oneCell' = true
  | _, _, .nil, _ => by simp
  | _, _, .cons a v l vs h hl, hc => by
    simp only [allCell] at hc
    cases ha : isCell a with
    | false => rw [ha] at hc; cases hc
    | true =>
      rw [ha] at hc
      intro u hu
      rcases List.mem_cons.1 hu with rfl | hu
      · exact isCell_one h ha
      · exact allCell_ok hl hc u hu
theorem grown_ok {e : Nat} {te : TI} {g : GK} (h1 : tyOf E e = some te) (hg : grownK E e = some g) {m : Ren} {H : AH} {w : World} (hr : Rel m H w) {s x : AV} {sv xv : Value} {len n : Nat} {b : AObj}
    (hs : VR m s sv) (hx : VR m x xv) (hsl : lengthA s = some len) (hxl : lengthA x = some n) (h : g.f H s len n x = some b) :
    ∃ olds news : List Value, (∀ w2 : World, w2.heap = w.heap → (Builtin.firstCells te.size len sv).run P w2 = .ok olds.toArray w2) ∧ (∀ w2 : World, w2.heap = w.heap → (Builtin.firstCells te.size n xv).run P w2 = .ok news.toArray w2) ∧
      olds.length = len * te.size ∧ news.length = n * te.size ∧ (∀ v ∈ news, v.oneCell' = true) ∧ eB b = e ∧ GrowR m e te.size (len + n) (olds ++ news) b := by
  simp only [grownK, ob_some] at hg
  obtain ⟨te', h1', hg⟩ := hg
  rw [h1] at h1'; cases h1'
  split at hg
  · rename_i hb
    cases hg
    obtain ⟨_, hes⟩ := isByteT_eq hb
    simp only [grownBy, ob_some, Option.some.injEq] at h
    obtain ⟨⟨L1, n1⟩, h2, ⟨L2, n2⟩, h3, rfl⟩ := h
    obtain ⟨rfl, hn1⟩ := bytesA_len hr hs hsl h2
    obtain ⟨rfl, hn2⟩ := bytesA_len hr hx hxl h3
    refine ⟨(List.range L1).map (byteV n1), (List.range L2).map (byteV n2), fun w2 hw => ?_, fun w2 hw => ?_, by simp [hes], by simp [hes], ?_, rfl, ?_⟩
    · rw [hes]; exact first_bytes (hr.world hw) hs h2 (Nat.le_refl _)
    · rw [hes]; exact first_bytes (hr.world hw) hx h3 (Nat.le_refl _)
    · intro v hv
      simp only [List.mem_map] at hv
      obtain ⟨_, _, rfl⟩ := hv
      rfl
    · intro m2 _ c fr i hc hi hle hall hf _
      rw [hes] at hi hle hall
      refine .bys _ _ _ _ _ _ _ hc hi (by show i.base + (L1 + L2) ≤ _; omega) hf ?_
      intro k hk
      have hk : k < L1 + L2 := hk
      rw [hall k (by omega)]
      show _ = some (byteV (n1 + n2 <<< (8 * L1)) k)
      have e1 : n1 + n2 <<< (8 * L1) = n1 + 256 ^ L1 * n2 := by rw [Nat.shiftLeft_eq, Nat.pow_mul, Nat.mul_comm]
      rw [e1]
      by_cases h5 : k < L1
      · rw [List.getElem?_append_left (by simpa using h5), List.getElem?_map, List.getElem?_range h5]
        simp only [Option.map_some, byteV, byteAt_lo _ _ _ _ h5]
      · obtain ⟨j, rfl⟩ : ∃ j, k = L1 + j := ⟨k - L1, by omega⟩
        rw [List.getElem?_append_right (by simp)]
        simp only [List.length_map, List.length_range, Nat.add_sub_cancel_left]
        rw [List.getElem?_map, List.getElem?_range (by omega)]
        simp only [Option.map_some, byteV, byteAt_hi _ _ _ _ hn1]
  · rename_i hb
    simp only [ob_some, Option.some.injEq] at hg
    obtain ⟨k, hk, rfl⟩ := hg
    simp only [grownCs, ob_some, bt_some] at h
    obtain ⟨a, h2, c, h3, hac, h4⟩ := h
    obtain ⟨olds, o1, o2⟩ := first_cells (P := P) hr hs hsl (Nat.le_refl _) h2
    obtain ⟨news, o3, o4⟩ := first_cells (P := P) hr hx hxl (Nat.le_refl _) h3
    have l1 : olds.length = len * te.size := by rw [← o2.len]; exact firstA_len hsl (Nat.le_refl _) h2
    have l2 : news.length = n * te.size := by rw [← o4.len]; exact firstA_len hxl (Nat.le_refl _) h3
    refine ⟨olds, news, o1, o3, l1, l2, allCell_ok o4 hac, ?_⟩
    simp only [blkK, ob_some] at hk
    obtain ⟨te2, h5, hk⟩ := hk
    rw [h1] at h5; cases h5
    split at hk
    · rename_i hb2; rw [hb] at hb2; cases hb2
    · simp only [ob_some, Option.some.injEq] at hk
      obtain ⟨z, _, rfl⟩ := hk
      refine ⟨by simp only [mkCs, Option.some.injEq] at h4; subst h4; rfl, ?_⟩
      intro m2 hle cc fr i hc hi hlen hall hf hfr
      have hall2 := (o2.app o4).mono hle
      have hl : (olds ++ news).length = (len + n) * te.size := by rw [List.length_append, l1, l2, Nat.add_mul]
      have hcs : isCs b = true := by
        simp only [mkCs, Option.some.injEq] at h4
        subst h4; rfl
      rw [hfr hcs]
      exact mkCs_gen hall2 h4 hc hi (by rw [hl]; exact hlen) (fun k hk => hall k (by rw [← hl]; exact hk))
theorem growBy_le (n : Nat) : ∀ (r c : Nat), c ≤ 2 * n + 1000 → Builtin.growBy n r c ≤ 2 * n + 1000
  | 0, c, h => h
  | r + 1, c, h => by
    simp only [Builtin.growBy]
    split
    · exact h
    · exact growBy_le n r _ (by omega)
theorem nextcap_le {n c : Nat} (h : c < n) : Builtin.nextslicecap n c ≤ 2 * n + 1000 := by
  simp only [Builtin.nextslicecap]
  split
  · omega
  · split
    · omega
    · exact growBy_le _ _ _ (by omega)
include hE
theorem run_grow {c : Call} {t xt e : Nat} {ti tx te : TI} {s x : Operand} {ts : List Nat} {ρ : Operand → Value} {w : World} {base : Option Addr} {len n sCap : Nat} {z : AV} {olds news : List Value}
    (h1 : tyOf E t = some ti) (h2 : ti.d = .slice e) (h3 : tyOf E e = some te) (h4 : tyOf E xt = some tx) (h5 : isIntD tx.d = false) (hz : te.zero = some z) (hok : appOk te z = true)
    (ho : o.op = .call c) (hc : c.callee = .builtin .append) (ha : c.args.toList = [s, x]) (hty : c.argTypes.toList = t :: xt :: ts) (hs : ρ s = .slice base len sCap) (hn : (Builtin.lenOf (ρ x)).run P w = .ok n w)
    (hcap : sCap < len + n) (hmax : len + n ≤ 17179869184)
    (ho1 : ∀ w2 : World, w2.heap = w.heap → (Builtin.firstCells te.size len (ρ s)).run P w2 = .ok olds.toArray w2) (ho2 : ∀ w2 : World, w2.heap = w.heap → (Builtin.firstCells te.size n (ρ x)).run P w2 = .ok news.toArray w2) :
    ∃ cap more, len + n ≤ cap ∧ more.length = (cap - (len + n)) * te.size ∧
      (execOp ρ o).run P w = .ok (.value (.slice (some ⟨w.heap.size, 0, none⟩) (len + n) cap)) { w with heap := w.heap.push (.cells ((olds ++ news) ++ more).toArray e), drawn := w.drawn + 1 } := by
  have ea : c.args = #[s, x] := by rw [← ha]
  have et : c.argTypes[0]? = some t := by rw [← Array.getElem?_toList, hty]; rfl
  have et1 : c.argTypes[1]? = some xt := by rw [← Array.getElem?_toList, hty]; rfl
  obtain ⟨cap, q1, q2⟩ := run_cap (P := P) (len + n) sCap e w
  obtain ⟨i, g0, _, g3, _⟩ := info_of hE h3
  have g1 : ∀ w : World, (typeInfo e).run P w = .ok i w := fun w => by simp [typeInfo, g0]
  rw [hs] at ho1
  obtain ⟨zv, q3, q4, _⟩ := run_zeroValue (w := { w with drawn := w.drawn + 1 }) hE h3 hz
  simp only [appOk, Bool.and_eq_true] at hok
  obtain ⟨⟨b1, b2⟩, b3, b4⟩ := hok
  have b1 := Nat.le_of_ble_eq_true b1
  have hzs : zv.cells.size = te.size := by have := (q4 fun _ => none).cellsT.len; rw [Nat.eq_of_beq_eq_true b3] at this; simpa using this.symm
  have hnx := nextcap_le hcap
  have hbig : ¬ (Builtin.nextslicecap (len + n) sCap * i.bytes > 2 ^ 48) := by
    rw [g3]
    have : Builtin.nextslicecap (len + n) sCap * te.bytes ≤ 34359739368 * 4096 := Nat.mul_le_mul (by omega) b1
    omega
  refine ⟨cap, (Builtin.zeroCells zv.cells (cap - (len + n))).toList, q2, by simp [Builtin.zeroCells, hzs], run_builtin_v ho hc (fun _ => rfl) ?_⟩
  have hneed : ¬ (len + n ≤ sCap) := by omega
  simp only [Builtin.append_, et, et1, ea, List.map_toArray, List.map_cons, List.map_nil, List.getElem?_toArray, List.getElem?_cons_zero, List.getElem?_cons_succ, Sem.run_bind, run_underlying hE h1, Result.andThen, h2, hs, run_sizeOf hE h3,
    run_underlying hE h4, Sem.run_pure]
  rw [if_neg]
  rotate_left
  · intro hM
    revert hM
    cases hd : tx.d <;> simp_all [isIntD]
  simp only [hn, if_neg hneed, Sem.run_bind, Result.andThen, g1]
  rw [if_neg]
  rotate_left
  · rintro ⟨h, _⟩
    have : IntKind.i64.max = 9223372036854775807 := rfl
    omega
  simp only [Sem.run_bind, Result.andThen, g1]
  rw [if_neg hbig]
  simp only [Sem.run_bind, Result.andThen, q1, run_askRoom, g1]
  rw [ho1 { w with drawn := w.drawn + 1 } rfl]
  simp only []
  rw [if_pos]
  rotate_left
  · cases hd : tx.d <;> simp_all [isIntD]
  rw [ho2 { w with drawn := w.drawn + 1 } rfl]
  simp only [q3, run_newRow, Sem.run_pure]
  have harr : olds.toArray ++ news.toArray ++ Builtin.zeroCells zv.cells (cap - (len + n)) = ((olds ++ news) ++ (Builtin.zeroCells zv.cells (cap - (len + n))).toList).toArray := by
    apply Array.toList_inj.1; simp
  rw [harr]
omit hE in
theorem first_zero {m : Ren} {a : AV} {v : Value} {L es : Nat} (hv : VR m a v) (hL : lengthA a = some L) (w : World) : (Builtin.firstCells es 0 v).run P w = .ok #[] w := by
  cases a <;> simp [lengthA] at hL
  · rw [hv.snil_inv]; rfl
  · obtain ⟨st, e, _⟩ := hv.str_inv
    rw [e]
    simp [Builtin.firstCells]
  · obtain ⟨ad, c', e, _⟩ := hv.sl_inv
    rw [e]
    simp [Builtin.firstCells, loadCells, loadCellsFrom]
theorem run_place {c : Call} {t xt e : Nat} {ti tx te : TI} {s x : Operand} {ts : List Nat} {ρ : Operand → Value} {w w' : World} {base : Option Addr} {len n sCap : Nat} {news : List Value}
    (h1 : tyOf E t = some ti) (h2 : ti.d = .slice e) (h3 : tyOf E e = some te) (h4 : tyOf E xt = some tx) (h5 : isIntD tx.d = false)
    (ho : o.op = .call c) (hc : c.callee = .builtin .append) (ha : c.args.toList = [s, x]) (hty : c.argTypes.toList = t :: xt :: ts) (hs : ρ s = .slice base len sCap) (hn : (Builtin.lenOf (ρ x)).run P w = .ok n w)
    (hcap : len + n ≤ sCap) (ho2 : (Builtin.firstCells te.size n (ρ x)).run P w = .ok news.toArray w)
    (hst : (∃ a, base = some a ∧ (storeCells (a.add (len * te.size)) news).run P w = .ok () w') ∨ (base = none ∧ w' = w)) :
    (execOp ρ o).run P w = .ok (.value (.slice base (len + n) sCap)) w' := by
  have ea : c.args = #[s, x] := by rw [← ha]
  have et : c.argTypes[0]? = some t := by rw [← Array.getElem?_toList, hty]; rfl
  have et1 : c.argTypes[1]? = some xt := by rw [← Array.getElem?_toList, hty]; rfl
  refine run_builtin_v ho hc (fun _ => rfl) ?_
  simp only [Builtin.append_, et, et1, ea, List.map_toArray, List.map_cons, List.map_nil, List.getElem?_toArray, List.getElem?_cons_zero, List.getElem?_cons_succ, Sem.run_bind, run_underlying hE h1, Result.andThen, h2, hs, run_sizeOf hE h3,
    run_underlying hE h4, Sem.run_pure]
  rw [if_neg]
  rotate_left
  · intro hM
    revert hM
    cases hd : tx.d <;> simp_all [isIntD]
  simp only [hn, if_pos hcap, Sem.run_bind, Result.andThen]
  rw [if_pos]
  rotate_left
  · cases hd : tx.d <;> simp_all [isIntD]
  rw [ho2]
  rcases hst with ⟨a, rfl, hst⟩ | ⟨rfl, rfl⟩
  · simp only [Sem.run_bind, hst, Result.andThen, Sem.run_pure]
  · simp only [Sem.run_pure]
theorem hv_append {c : Call} {t xt : Nat} {s x : Operand} {ts : List Nat} {k : HvK} (h : hvAppendK E t xt s x = some k)
    (ho : o.op = .call c) (hc : c.callee = .builtin .append) (ha : c.args.toList = [s, x]) (hty : c.argTypes.toList = t :: xt :: ts) : HvOk P k o := by
  simp only [hvAppendK, ob_some] at h
  obtain ⟨ti, h1, tx, h4, h⟩ := h
  split at h
  · rename_i e h2 h5
    simp only [ob_some, bt_some, Option.some.injEq] at h
    obtain ⟨te, h3, g, hg, z, hz, hok, rfl⟩ := h
    intro R hR m H w T ρ res H2 hr he hk
    simp only [hvAppend, appendA, ob_some, bt_some] at hk
    obtain ⟨a, g1, b, g2, n, hn, _, hk⟩ := hk
    have e1 := he s a g1
    have e2 := he x b g2
    have hlen := lengthA_ok (P := P) e2 hn w
    have hpos : 0 < te.size := by
      simp only [appOk, Bool.and_eq_true] at hok
      simpa [Nat.blt_eq] using hok.2.2
    -- a new block
    have fresh : ∀ {base : Option Addr} {len sCap : Nat} {ab : AObj} {H' : AH}, ρ s = .slice base len sCap → lengthA a = some len → sCap < len + n → len + n ≤ 17179869184 → g.f H a len n b = some ab →
        St m H w m H' w → H'.next = H.next → Outc P (execOp ρ o) w (Post m H w (.sl H.next 0 (len + n) none) (H'.new ab)) := by
      intro base len sCap ab H' hs hal hcap hmax hgf hst hnx
      obtain ⟨olds, news, q1, q2, l1, l2, _, _, hG⟩ := grown_ok (P := P) h3 hg hr e1 e2 hal hn hgf
      obtain ⟨cap, more, c1, c2, c3⟩ := run_grow hE h1 h2 h3 h4 h5 hz hok ho hc ha hty hs hlen hcap hmax q1 q2
      let i : BI := ⟨w.heap.size, 0, cap * te.size, te.size⟩
      have hsz : ((olds ++ news) ++ more).toArray.size = cap * te.size := by
        simp only [List.size_toArray, List.length_append, l1, l2, c2]
        rw [← Nat.add_mul, ← Nat.add_mul]
        congr 1; omega
      have hst2 : St m H' w (m.ext H'.next i) (H'.new ab) { w with heap := w.heap.push (.cells ((olds ++ news) ++ more).toArray e), drawn := w.drawn + 1 } := by
        refine St.newBlk hst.rel rfl rfl ?_ rfl rfl
        refine hG _ (hst.rel.le (Ext.ext _ _ _)) _ _ _ hsz rfl ?_ ?_ (.inl rfl) (fun _ => rfl)
        · show 0 + (len + n) * te.size ≤ cap * te.size
          rw [Nat.zero_add]; exact Nat.mul_le_mul_right _ c1
        · intro k hk
          show ((olds ++ news) ++ more).toArray[0 + k]? = _
          rw [Nat.zero_add, List.getElem?_toArray, List.getElem?_append_left (by simp [l1, l2]; rw [← Nat.add_mul]; exact hk)]
      refine .value _ _ c3 ⟨_, hst.trans hst2, ?_⟩
      rw [← hnx]
      have := VR.slo (m := m.ext H'.next i) H'.next 0 (len + n) cap i (Ren.ext_same _ _ _) hpos (by show 0 + 0 + cap * te.size = cap * te.size; omega) c1
      simpa using this
    rw [onSl_some] at hk
    rcases hk with ⟨rfl, hk⟩ | ⟨bb, off, len, cap, rfl, hk⟩
    · have hs := e1.snil_inv
      cases n with
      | zero =>
        simp only [nc_zero, Option.some.injEq, Prod.mk.injEq] at hk
        obtain ⟨rfl, rfl⟩ := hk
        exact .value _ w (run_place hE h1 h2 h3 h4 h5 ho hc ha hty hs hlen (Nat.le_refl _) (news := []) (first_zero e2 hn w) (.inr ⟨rfl, rfl⟩)) ⟨m, St.refl hr, .snil⟩
      | succ n =>
        simp only [nc_succ, growA, ob_some, Option.some.injEq, Prod.mk.injEq] at hk
        obtain ⟨ab, hgf, rfl, rfl⟩ := hk
        rename_i hle
        exact fresh hs rfl (by omega) (by have := Nat.le_of_ble_eq_true hle; omega) hgf (St.refl hr) rfl
    · obtain ⟨ad, c', ex, hcap, hcase⟩ := e1.sl_inv
      simp only [appSl, bt_some] at hk
      obtain ⟨hmax, hk⟩ := hk
      have hmax : len + n ≤ 17179869184 := Nat.le_of_ble_eq_true hmax
      cases n with
      | zero =>
        simp only [nc_zero, bt_some, Option.some.injEq, Prod.mk.injEq] at hk
        obtain ⟨hle, rfl, rfl⟩ := hk
        have hle2 : len + 0 ≤ c' := by
          cases cap with
          | some k => rw [hcap k rfl]; exact Nat.le_of_ble_eq_true hle
          | none =>
            rcases hcase with ⟨i, _, _, h⟩ | ⟨h, _⟩
            · exact (h rfl).2.2
            · omega
        exact .value _ w (run_place hE h1 h2 h3 h4 h5 ho hc ha hty ex hlen hle2 (news := []) (first_zero e2 hn w) (.inl ⟨ad, rfl, rfl⟩)) ⟨m, St.refl hr, ex ▸ e1⟩
      | succ n =>
        simp only [nc_succ, ob_some] at hk
        obtain ⟨room, hroom, hk⟩ := hk
        have hrm : room ≤ c' ∧ (∀ i, m bb = some i → cap = none → i.es = te.size) ∧ (len = 0 → c' = 0 → room = 0 ∨ ∃ i, m bb = some i ∧ ad = ⟨i.blk, i.base + off, none⟩) := by
          cases cap with
          | some k =>
            simp only [oc_some, Option.some.injEq] at hroom
            have := hcap k rfl
            exact ⟨by omega, fun _ _ h => (by cases h), fun _ _ => .inl (by omega)⟩
          | none =>
            simp only [oc_none] at hroom
            rcases hcase with ⟨i, hi, had, h⟩ | ⟨rfl, rfl, h⟩
            · have := room_ok hr hi (h rfl).2.1 (h rfl).2.2 hroom
              exact ⟨this.2, fun j hj _ => by rw [hi] at hj; cases hj; exact this.1, fun _ _ => .inr ⟨i, hi, had⟩⟩
            · obtain ⟨i, hi, _, hend⟩ := h rfl
              have h0 := room_end hr hi hend hroom
              refine ⟨by omega, fun j hj _ => ?_, fun _ _ => .inl h0⟩
              simp only [roomOf, ob_some, onObj_some, bt_some, Nat.beq_eq] at hroom
              obtain ⟨o1, hg1, hroom⟩ := hroom
              obtain ⟨x1, hx1, hor1⟩ := hr.live bb o1 hg1 j hj
              rcases hroom with ⟨_, _, _, _, rfl, h1, _⟩ | ⟨_, _, _, _, _, _, rfl, h1, _⟩
              · cases hor1 with | bys c fr e size opn n i hcs hes hs hf h => omega
              · cases hor1 with | cs c fr e es' size opn z t i hcs hes hs hf h => omega
        cases hle : Nat.ble (len + (n + 1)) room with
        | true =>
          have hle := Nat.le_of_ble_eq_true hle
          rw [show Nat.add len (n + 1) = len + (n + 1) from rfl, show Nat.ble (len + (n + 1)) room = true from by simpa using hle] at hk
          simp only [bt_true, ob_some, Option.some.injEq, Prod.mk.injEq] at hk
          obtain ⟨H', hlay, rfl, rfl⟩ := hk
          rcases hcase with ⟨i, hi, rfl, hx⟩ | ⟨h, h', _⟩
          · obtain ⟨vs, w', p1, p2, p3⟩ := layA_ok (P := P) hr e2 hn (Nat.le_refl _) hi hlay
            have p2' : (storeCells ((⟨i.blk, i.base + off, none⟩ : Addr).add (len * te.size)) vs).run P w = .ok () w' := by
              rw [add_mk, Nat.add_assoc]; exact p2
            refine .value _ w' (run_place hE h1 h2 h3 h4 h5 ho hc ha hty ex hlen (by omega) p1 (.inl ⟨_, rfl, p2'⟩)) ⟨m, p3, ?_⟩
            cases cap with
            | some k => rw [hcap k rfl]; exact .sl bb off _ k i hi
            | none => exact .slo bb off _ c' i hi (hx rfl).1 (hx rfl).2.1 (by omega)
          · omega
        | false =>
          have hle : room < len + (n + 1) := by
            rcases Nat.lt_or_ge room (len + (n + 1)) with h | h
            · exact h
            · rw [Nat.ble_eq_true_of_le h] at hle; cases hle
          rw [show Nat.ble (Nat.add len (n + 1)) room = false from by
            cases hb : Nat.ble (Nat.add len (n + 1)) room with
            | false => rfl
            | true => have := Nat.le_of_ble_eq_true hb; have h' : len + (n + 1) ≤ room := this; omega] at hk
          simp only [bt_false, appGrow] at hk
          cases cap with
          | some k =>
            simp only [oc_some, growA, ob_some, Option.some.injEq, Prod.mk.injEq] at hk
            obtain ⟨ab, hgf, rfl, rfl⟩ := hk
            simp only [oc_some, Option.some.injEq] at hroom
            have := hcap k rfl
            exact fresh ex rfl (by omega) hmax hgf (St.refl hr) rfl
          | none =>
            simp only [oc_none, appMove, ob_some, bt_some, Option.some.injEq, Prod.mk.injEq] at hk
            obtain ⟨o0, hb0, ab, hgf, hal, rfl, rfl⟩ := hk
            by_cases hin : len + (n + 1) ≤ c'
            · rcases hcase with ⟨i, hi, rfl, hx⟩ | ⟨_, h', _⟩
              · obtain ⟨hes0, hsz, hll⟩ := hx rfl
                have hes := hrm.2.1 i hi rfl
                obtain ⟨olds, news, q1, q2, l1, l2, hone, heB, hG⟩ := grown_ok (P := P) h3 hg hr e1 e2 rfl hn hgf
                obtain ⟨y, hy, hor⟩ := hr.live _ _ hb0 _ hi
                have hcells : ∃ c0 fr, y = .cells c0 e fr ∧ c0.size = i.sz ∧ FZ fr i.sz ∧ (isCs ab = true → fr = (0, 0)) := by
                  cases hor with
                  | bys c0 fr e0 size opn nn i hc0 he0 hs0 hf0 h0 =>
                    cases ab <;> simp [alikeB] at hal
                    simp only [eB] at heB
                    subst heB; subst hal
                    exact ⟨c0, fr, rfl, hc0, hf0, fun h => by simp [isCs] at h⟩
                  | cs c0 fr e0 es size opn z t i hc0 he0 hs0 hf0 h0 =>
                    cases ab <;> simp [alikeB] at hal
                    simp only [eB] at heB
                    subst heB; subst hal
                    exact ⟨c0, fr, rfl, hc0, .inl (by rw [hf0]), fun _ => hf0⟩
                  | _ => simp [alikeB] at hal
                obtain ⟨c0, fr, rfl, hc0, hf0, hfr0⟩ := hcells
                rw [hes] at hsz
                have hmul : (len + (n + 1)) * te.size ≤ c' * te.size := Nat.mul_le_mul_right _ hin
                rw [Nat.add_mul] at hmul
                have hold : olds = (c0.toList.drop (i.base + off)).take (len * te.size) := by
                  have hl0 : ((c0.toList.drop (i.base + off)).take (len * te.size)).length = len * te.size := by
                    simp only [List.length_take, List.length_drop, Array.length_toList]; omega
                  have h7 := run_loadCells (P := P) (w := w) (b := i.blk) (o := i.base + off) (vs := (c0.toList.drop (i.base + off)).take (len * te.size)) (by
                    intro k v hk
                    have hk2 : k < len * te.size := by
                      rcases Nat.lt_or_ge k (len * te.size) with h | h
                      · exact h
                      · rw [List.getElem?_eq_none (by omega)] at hk; cases hk
                    rw [List.getElem?_take_of_lt hk2, List.getElem?_drop] at hk
                    rw [cell_of hy, ← Array.getElem?_toList]
                    exact hk)
                  rw [hl0] at h7
                  have h8 := q1 w rfl
                  rw [ex] at h8
                  simp only [Builtin.firstCells] at h8
                  rw [h7] at h8
                  injection h8 with h8
                  exact (List.toArray_inj h8).symm
                let i2 : BI := ⟨i.blk, i.base + off, i.sz, i.es⟩
                have hst := run_storeCells (P := P) (b := i.blk) (o := i.base + off + len * te.size) news 0 c0 w hy hone (by rw [hc0]; exact hf0) (by rw [hc0, l2]; omega)
                have hmv := St.moved (w2 := { w with heap := w.heap.setIfInBounds i.blk (.cells (spl c0 (i.base + off + len * te.size + 0) news) e fr) }) (i2 := i2) (o2 := ab) hr hb0 hi rfl rfl
                  (hG _ (hr.le (Ext.ext _ _ _)) (spl c0 (i.base + off + len * te.size + 0) news) fr i2 (by rw [spl_size]; exact hc0) hes (by show i.base + off + (len + (n + 1)) * te.size ≤ i.sz; rw [Nat.add_mul]; omega) (by
                    intro k hk
                    show (spl c0 (i.base + off + len * te.size + 0) news)[i.base + off + k]? = _
                    rw [Nat.add_mul] at hk
                    rw [spl_get _ _ _ _ (by rw [hc0, l2]; omega), l2]
                    by_cases h9 : k < len * te.size
                    · rw [if_neg (by omega), List.getElem?_append_left (by omega), hold, List.getElem?_take_of_lt h9, List.getElem?_drop, Array.getElem?_toList]
                    · rw [if_pos (by omega), List.getElem?_append_right (by omega), l1]
                      congr 1; omega) hf0 hfr0) rfl rfl
                refine .value _ _ (run_place hE h1 h2 h3 h4 h5 ho hc ha hty ex hlen hin (q2 w rfl) (.inl ⟨_, rfl, by rw [add_mk]; exact hst⟩)) ⟨_, hmv, ?_⟩
                have := VR.slo (m := m.ext H.next i2) H.next 0 (len + (n + 1)) c' i2 (Ren.ext_same _ _ _) (by show 0 < i.es; omega) (by show i.base + off + 0 + c' * i.es = i.sz; rw [hes]; omega) hin
                simpa [i2] using this
              · omega
            · exact fresh ex rfl (by omega) hmax hgf (St.kill hr bb) (AH.next_kill _ _)
  · cases h
end
end Go.Xq
