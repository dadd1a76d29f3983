/- A part of the proof of this seat's statement. Conditions: in each theorem. -/
import Derived.Test.YtnodjhgmghkikaaGreatW4
import Derived.Stop.Asserts
namespace Go.Xq
theorem meetsL_eq {want : Array (String × TypeId)} {got : Array Method} : meetsL want.toList got.toList = (Instr.missingMethod want got).isNone := by
  have hl : lacking want got = [] ↔ meetsL want.toList got.toList = true := by
    unfold lacking meetsL
    simp only [List.map_eq_nil_iff, List.filter_eq_nil_iff, List.all_eq_true, Bool.not_eq_true', Bool.not_eq_false, ← Array.any_toList]
    have e : ∀ a b : Nat, Nat.beq a b = (a == b) := fun a b => by rw [Bool.eq_iff_iff, Nat.beq_eq, beq_iff_eq]
    simp only [e]
  by_cases h : lacking want got = []
  · rw [missingMethod_none h, hl.1 h]; rfl
  · obtain ⟨m, hm⟩ := missingMethod_some h
    rw [hm]
    cases hb : meetsL want.toList got.toList with
    | false => rfl
    | true => exact absurd (hl.2 hb) h
section
variable {P : Program} {E : Env} (hE : TyOk P E) {o : Oper}
theorem asHolds_ok {m : Ren} {a : AV} {v : Value} (hv : VR m a v) (ok : Bool) : VR m (asHolds ok a) (if ok then .tuple #[v, .bool true] else v) := by
  cases ok
  · exact hv
  · exact .tup _ [v, .bool true] (.cons _ _ _ _ hv (.cons _ _ _ _ (.bool true) .nil))
include hE
theorem asFails_ok {t : Nat} {ok : Bool} {a : AV} (h : asFails E t ok = some a) (w : World) : ok = true ∧
    ∃ z, (zeroValue t).run P w = .ok z w ∧ ∀ m, VR m a (.tuple #[z, .bool false]) := by
  cases ok
  · cases h
  · simp only [asFails, zeroA, ob_some, Option.some.injEq] at h
    obtain ⟨z, ⟨ti, h1, h2⟩, rfl⟩ := h
    obtain ⟨zv, h3, h4, _⟩ := run_zeroValue (w := w) hE h1 h2
    exact ⟨rfl, zv, h3, fun m => .tup _ [zv, .bool false] (.cons _ _ _ _ (h4 m) (.cons _ _ _ _ (.bool false) .nil))⟩
theorem look_asIface {x : Operand} {s t : Nat} {ok : Bool} {ta : TI} {want : Array (String × TypeId)} (h1 : tyOf E t = some ta) (h2 : ta.d = .interface want) (ho : o.op = .typeAssert x s t ok) :
    LookOk P ⟨asIface E want t ok x⟩ o := by
  intro m H w T ρ v hr he hk
  simp only [asIface, ob_some] at hk
  obtain ⟨a, g1, hk⟩ := hk
  have hv1 := he x a g1
  split at hk
  · obtain ⟨rfl, z, q1, q2⟩ := asFails_ok hE hk w
    refine ⟨_, ?_, q2 m⟩
    simp only [execOp, ho, hv1.inil_inv]; apply run_v
    simp [Instr.typeAssert, run_underlying hE h1, Result.andThen, h2, q1]
  · rename_i u b
    simp only [ob_some, meetsK, meetsL_eq, Option.some.injEq] at hk
    obtain ⟨q, ⟨tu, g2, rfl⟩, hk⟩ := hk
    obtain ⟨bv, hb, e1⟩ := hv1.ifc_inv
    obtain ⟨i, g3, _, _, _, g4⟩ := run_typeInfo (w := w) hE g2
    cases hm : Instr.missingMethod want tu.methods with
    | none =>
      rw [hm] at hk
      cases hk
      refine ⟨_, ?_, asHolds_ok hv1 ok⟩
      simp only [execOp, ho, e1]; apply run_v
      simp [Instr.typeAssert, run_underlying hE h1, Result.andThen, h2, g3, g4, hm]
    | some mm =>
      rw [hm] at hk
      obtain ⟨rfl, z, q1, q2⟩ := asFails_ok hE hk w
      refine ⟨_, ?_, q2 m⟩
      simp only [execOp, ho, e1]; apply run_v
      simp [Instr.typeAssert, run_underlying hE h1, Result.andThen, h2, g3, g4, hm, q1]
  · cases hk
theorem look_asType {x : Operand} {s t : Nat} {ok : Bool} {ta : TI} (h1 : tyOf E t = some ta) (h2 : ∀ want, ta.d ≠ .interface want) (ho : o.op = .typeAssert x s t ok) :
    LookOk P ⟨asType E t ok x⟩ o := by
  intro m H w T ρ v hr he hk
  simp only [asType, ob_some] at hk
  obtain ⟨a, g1, hk⟩ := hk
  have hv1 := he x a g1
  split at hk
  · obtain ⟨rfl, z, q1, q2⟩ := asFails_ok hE hk w
    refine ⟨_, ?_, q2 m⟩
    simp only [execOp, ho, hv1.inil_inv]; apply run_v
    simp only [Instr.typeAssert, Sem.run_bind, run_underlying hE h1, Result.andThen]
    cases hd : ta.d <;> first | exact absurd hd (h2 _) | (simp [q1, Result.andThen]; done)
  · rename_i u b
    obtain ⟨bv, hb, e1⟩ := hv1.ifc_inv
    split at hk
    · rename_i hb2
      cases hk
      have hut : u = t := Nat.eq_of_beq_eq_true hb2
      refine ⟨_, ?_, asHolds_ok hb ok⟩
      simp only [execOp, ho, e1]; apply run_v
      simp only [Instr.typeAssert, Sem.run_bind, run_underlying hE h1, Result.andThen]
      cases hd : ta.d <;> first | exact absurd hd (h2 _) | (simp [hut]; done)
    · rename_i hb2
      have hut : ¬ u = t := fun e => by subst e; simp at hb2
      obtain ⟨rfl, z, q1, q2⟩ := asFails_ok hE hk w
      refine ⟨_, ?_, q2 m⟩
      simp only [execOp, ho, e1]; apply run_v
      simp only [Instr.typeAssert, Sem.run_bind, run_underlying hE h1, Result.andThen]
      cases hd : ta.d <;> first | exact absurd hd (h2 _) | (simp [hut, q1, Result.andThen]; done)
  · cases hk
theorem look_assertK {x : Operand} {s t : Nat} {ok : Bool} {k : LK} (h : assertK E x t ok = some k) (ho : o.op = .typeAssert x s t ok) : LookOk P k o := by
  simp only [assertK, ob_some] at h
  obtain ⟨ta, h1, h⟩ := h
  split at h
  · rename_i want hd; cases h; exact look_asIface hE h1 hd ho
  · rename_i hd; cases h; exact look_asType hE h1 hd ho
omit hE in
theorem run_builtin {c : Call} {b : Builtin} (ho : o.op = .call c) (hc : c.callee = .builtin b) (ρ : Operand → Value) (w : World) :
    (execOp ρ o).run P w = (builtin b c.argTypes o.type (c.args.map fun | .const _ => true | _ => false) (c.args.map ρ)).run P w := by
  simp only [execOp, ho, resolve, hc]
  rfl
theorem look_len {c : Call} {x : Operand} {t : Nat} {ts : List Nat} {k : LK} (ho : o.op = .call c) (hc : c.callee = .builtin .len) (ha : c.args.toList = [x]) (hty : c.argTypes.toList = t :: ts) (h : lenK E t x = some k) : LookOk P k o := by
  simp only [lenK, ob_some] at h
  obtain ⟨ti, h1, h⟩ := h
  have ea : c.args = #[x] := by rw [← ha]
  have et : c.argTypes[0]? = some t := by rw [← Array.getElem?_toList, hty]; rfl
  intro m H w T ρ v hr he hk
  rw [run_builtin ho hc]
  simp only [builtin]
  split at h
  · rename_i hd
    cases h
    simp only [lenStr, ob_some, onStr_some, Option.some.injEq] at hk
    obtain ⟨a, g1, n, y, rfl, rfl⟩ := hk
    obtain ⟨s, e1, rfl, e3⟩ := (he x _ g1).str_inv
    refine ⟨_, ?_, .int .i64 _⟩
    apply run_v
    simp [Builtin.len_, et, ea, run_underlying hE h1, Result.andThen, hd, e1, goInt]
  · rename_i hd
    cases h
    simp only [lenSl, ob_some, onSl_some, Option.some.injEq] at hk
    obtain ⟨a, g1, hk⟩ := hk
    rcases hk with ⟨rfl, rfl⟩ | ⟨b, off, l, cp, rfl, rfl⟩
    · have e1 := (he x _ g1).snil_inv
      refine ⟨_, ?_, .int .i64 _⟩
      apply run_v
      simp [Builtin.len_, et, ea, run_underlying hE h1, Result.andThen, hd, e1, goInt]
    · obtain ⟨aa, c', e1, _⟩ := (he x _ g1).sl_inv
      refine ⟨_, ?_, .int .i64 _⟩
      apply run_v
      simp [Builtin.len_, et, ea, run_underlying hE h1, Result.andThen, hd, e1, goInt]
  · rename_i hd
    cases h
    simp only [lenMap, ob_some, Option.some.injEq] at hk
    obtain ⟨a, g1, es, g2, rfl⟩ := hk
    rcases hr.ents (he x _ g1) g2 with ⟨e1, rfl⟩ | ⟨rr, en, clock, e1, hh, hents⟩
    · refine ⟨_, ?_, .int .i64 _⟩
      apply run_v
      simp [Builtin.len_, et, ea, run_underlying hE h1, Result.andThen, hd, e1, goInt]
    · have hlen : ∀ {l : List MEnt} {k : List MapEntry}, EntsR m l k → l.length = k.length := by
        intro l k h
        induction h with
        | nil => rfl
        | cons _ _ _ _ _ _ ih => simp [ih]
      refine ⟨_, ?_, .int .i64 _⟩
      apply run_v
      simp [Builtin.len_, et, ea, run_underlying hE h1, Result.andThen, hd, e1, goInt, run_getObj hh, hlen hents]
  · cases h
theorem look_cap {c : Call} {x : Operand} {t : Nat} {ts : List Nat} {k : LK} (ho : o.op = .call c) (hc : c.callee = .builtin .cap) (ha : c.args.toList = [x]) (hty : c.argTypes.toList = t :: ts) (h : capK E t x = some k) : LookOk P k o := by
  simp only [capK, ob_some] at h
  obtain ⟨ti, h1, h⟩ := h
  have ea : c.args = #[x] := by rw [← ha]
  have et : c.argTypes[0]? = some t := by rw [← Array.getElem?_toList, hty]; rfl
  intro m H w T ρ v hr he hk
  rw [run_builtin ho hc]
  simp only [builtin]
  split at h
  · rename_i hd
    cases h
    simp only [capSl, ob_some, onSl_some, Option.some.injEq] at hk
    obtain ⟨a, g1, hk⟩ := hk
    rcases hk with ⟨rfl, rfl⟩ | ⟨b, off, l, cp, rfl, c1, rfl, rfl⟩
    · have e1 := (he x _ g1).snil_inv
      refine ⟨_, ?_, .int .i64 _⟩
      apply run_v
      simp [Builtin.cap_, et, ea, run_underlying hE h1, Result.andThen, hd, e1, goInt]
    · obtain ⟨aa, c', e1, e2, _⟩ := (he x _ g1).sl_inv
      have := e2 _ rfl; subst this
      refine ⟨_, ?_, .int .i64 _⟩
      apply run_v
      simp [Builtin.cap_, et, ea, run_underlying hE h1, Result.andThen, hd, e1, goInt]
  · cases h
omit hE in
theorem mm_ok (gt : Bool) {m : Ren} {w : World} : ∀ {l : AV} {vs : List Value} {a v : AV} {x : Value}, VL m l vs → VR m a x → mmA gt l a = some v →
    ∃ v', (vs.foldlM (if gt then Builtin.max2 else Builtin.min2) x).run P w = .ok v' w ∧ VR m v v'
  | _, _, a, v, x, .nil, hx, h => by
    simp only [mmA, onInt_some, Option.some.injEq] at h
    obtain ⟨k, n, rfl, rfl⟩ := h
    exact ⟨x, by simp, hx⟩
  | _, _, a, v, x, .cons y u l vs hy hl, hx, h => by
    simp only [mmA, onInt_some] at h
    obtain ⟨k, n, rfl, k2, n2, rfl, h⟩ := h
    rw [hy.int_inv, hx.int_inv]
    cases gt
    · obtain ⟨v', h1, h2⟩ := mm_ok false hl (.int k2 _) h
      refine ⟨v', ?_, h2⟩
      simp only [List.foldlM_cons, Bool.false_eq_true, if_false, Builtin.min2, Sem.run_bind, Sem.run_pure, Result.andThen]
      simp only [Bool.false_eq_true, if_false] at h1
      rw [← h1]
      congr 3
      rw [bt_false, bt_eq]
      simp only [ltI_iff]
    · obtain ⟨v', h1, h2⟩ := mm_ok true hl (.int k2 _) h
      refine ⟨v', ?_, h2⟩
      simp only [List.foldlM_cons, if_true, Builtin.max2, Sem.run_bind, Sem.run_pure, Result.andThen]
      simp only [if_true] at h1
      rw [← h1]
      congr 3
      rw [bt_true, bt_eq]
      simp only [ltI_iff, gt_iff_lt]
omit hE in
theorem look_mm {c : Call} {x : Operand} {r : List Operand} (gt : Bool) (ho : o.op = .call c) (hc : c.callee = .builtin (if gt then .max else .min)) (ha : c.args.toList = x :: r) : LookOk P ⟨mmK gt x r⟩ o := by
  intro m H w T ρ v hr he hk
  simp only [mmK, ob_some] at hk
  obtain ⟨a, g1, l, g2, hk⟩ := hk
  rw [run_builtin ho hc]
  have ea : (c.args.map ρ).toList = ρ x :: r.map ρ := by simp [ha]
  obtain ⟨v', h1, h2⟩ := mm_ok (P := P) (w := w) gt (opnds_ok he g2) (he x _ g1) hk
  refine ⟨v', ?_, h2⟩
  cases gt
  · simp only [Bool.false_eq_true, if_false, builtin]
    apply run_v
    simp only [Builtin.min_, ea]
    simpa using h1
  · simp only [if_true, builtin]
    apply run_v
    simp only [Builtin.max_, ea]
    simpa using h1
theorem look_builtin {c : Call} {b : Builtin} {k : LK} (h : lookBuiltin E b c.args.toList c.argTypes.toList = some k) (ho : o.op = .call c) (hc : c.callee = .builtin b) : LookOk P k o := by
  unfold lookBuiltin at h
  split at h
  · split at h
    · rename_i ha ht; exact look_len hE ho hc ha ht h
    · cases h
  · split at h
    · rename_i ha ht; exact look_cap hE ho hc ha ht h
    · cases h
  · split at h
    · rename_i ha; cases h; exact look_mm false ho hc ha
    · cases h
  · split at h
    · rename_i ha; cases h; exact look_mm true ho hc ha
    · cases h
  · cases h
omit hE in
theorem VR.cellsT {m : Ren} {a : AV} {v : Value} (h : VR m a v) : VL m (cellsA a) v.cells.toList := by
  by_cases hn : ∀ l, a ≠ .tup l
  · exact h.cells hn
  · have : ∃ l, a = .tup l := Classical.byContradiction fun hc => hn fun l e => hc ⟨l, e⟩
    obtain ⟨l, rfl⟩ := this
    obtain ⟨vs, h1, rfl⟩ := h.tup_inv
    exact .cons _ _ _ _ (.tup _ _ h1) .nil
omit hE in
theorem foldl_spl : ∀ (vs : List Value) (off j : Nat) (cells : Array Value), (vs.zipIdx j).foldl (fun cs (p : Value × Nat) => cs.setIfInBounds (off + p.2) p.1) cells = spl cells (off + j) vs
  | [], _, _, _ => rfl
  | v :: vs, off, j, cells => by
    simp only [List.zipIdx_cons, List.foldl_cons, spl]
    rw [foldl_spl vs off (j + 1)]
    rfl
omit hE in
theorem lover0_get : ∀ (vs l : List Value) (k : Nat), vs.length ≤ l.length → (lover0 vs l)[k]? = if k < vs.length then vs[k]? else l[k]?
  | [], l, k, _ => by simp [lover0]
  | v :: vs, [], k, h => by simp at h
  | v :: vs, u :: l, 0, _ => by simp [lover0]
  | v :: vs, u :: l, k + 1, h => by
    simp only [lover0, List.getElem?_cons_succ, List.length_cons, Nat.add_lt_add_iff_right]
    exact lover0_get vs l k (by simpa using h)
omit hE in
theorem lover_get : ∀ (off : Nat) (vs l : List Value) (k : Nat), off + vs.length ≤ l.length → (lover off l vs)[k]? = if off ≤ k ∧ k < off + vs.length then vs[k - off]? else l[k]?
  | 0, vs, l, k, h => by
    simp only [lover, lover0_get vs l k (by omega), Nat.zero_le, true_and, Nat.zero_add, Nat.sub_zero]
  | off + 1, vs, [], k, h => by simp at h
  | off + 1, vs, u :: l, 0, h => by simp [lover]
  | off + 1, vs, u :: l, k + 1, h => by
    simp only [lover, List.getElem?_cons_succ]
    rw [lover_get off vs l k (by simp at h; omega)]
    simp only [show k + 1 - (off + 1) = k - off from by omega, show (off + 1 ≤ k + 1 ∧ k + 1 < off + 1 + vs.length) ↔ (off ≤ k ∧ k < off + vs.length) from by omega]
omit hE in
theorem spl_lover (vs : List Value) (c : Array Value) (off : Nat) (h : off + vs.length ≤ c.size) : spl c off vs = (lover off c.toList vs).toArray := by
  apply Array.ext_getElem?
  intro k
  rw [spl_get _ _ _ _ h]
  simp only [List.getElem?_toArray]
  rw [lover_get _ _ _ _ (by simpa using h)]
  simp
omit hE in
theorem over_fold (vs cells : Array Value) (off : Nat) (h : off + vs.size ≤ cells.size) :
    vs.zipIdx.foldl (fun cs (p : Value × Nat) => cs.setIfInBounds (off + p.2) p.1) cells = (lover off cells.toList vs.toList).toArray := by
  rw [← spl_lover _ _ _ (by simpa using h), ← Array.foldl_toList, Array.toList_zipIdx]
  exact foldl_spl vs.toList off 0 cells
omit hE in
theorem fillK_ok {d : TypeDesc} {pl : Nat → Option (Nat × Nat)} (hpl : ∀ i p, placeOf E d i = some p → pl i = some p) {m : Ren} {T : Tr AV} {ρ : Operand → Value} (he : ER m T ρ) :
    ∀ {parts : List (Nat × Operand)} {k : FlK} {cells r : AV} {cs : Array Value}, fillK E d parts = some k → VL m cells cs.toList → k.f T cells = some r →
      ∃ cs', Instr.fill pl cs (parts.map fun p => (p.1, ρ p.2)) = some cs' ∧ VL m r cs'.toList
  | [], k, cells, r, cs, h, hc, hk => by
    cases h; cases hk
    exact ⟨cs, rfl, hc⟩
  | (i, x) :: parts, k, cells, r, cs, h, hc, hk => by
    simp only [fillK, ob_some] at h
    obtain ⟨⟨off, sz⟩, h1, nx, h2, h3⟩ := h
    cases h3
    simp only [fill1, ob_some, bt_some] at hk
    obtain ⟨v, g1, g2, g3, g4⟩ := hk
    have hv := (he x v g1).cellsT
    have e1 : (ρ x).cells.size = sz := by
      have := hv.len; rw [Nat.eq_of_beq_eq_true g2] at this; simpa using this.symm
    have e2 : off + sz ≤ cs.size := by
      have := hc.len; rw [Array.length_toList] at this; rw [← this]; exact Nat.le_of_ble_eq_true g3
    obtain ⟨cs', h5, h6⟩ := fillK_ok hpl he (cs := (lover off cs.toList (ρ x).cells.toList).toArray) h2 (by simpa using VL.over hc hv) g4
    refine ⟨cs', ?_, h6⟩
    simp only [List.map_cons, Instr.fill, hpl i _ h1]
    rw [if_neg (by simp; omega), over_fold _ _ _ (by omega)]
    exact h5
theorem run_places (w : World) : ∀ (fs : List Field), (∀ f ∈ fs, (tyOf E f.type).isSome = true) →
    (fs.mapM fun f => (do pure (f.offset, ← sizeOf f.type) : Sem (Nat × Nat))).run P w = .ok (fs.map fun f => (f.offset, ((tyOf E f.type).map (·.size)).getD 0)) w
  | [], _ => by simp
  | f :: fs, h => by
    have h0 := h f (by simp)
    cases h1 : tyOf E f.type with
    | none => rw [h1] at h0; cases h0
    | some tf =>
      have ih := run_places w fs fun g hg => h g (by simp [hg])
      simp only [List.mapM_cons, Sem.run_bind, run_sizeOf hE h1, Result.andThen, Sem.run_pure, ih, List.map_cons, h1, Option.map_some, Option.getD_some]
theorem build_cells {t : Nat} {ti : TI} {z : AV} {k : FlK} {parts : Array (Nat × Operand)} (h1 : tyOf E t = some ti) (hz : ti.zero = some z) (hf : fieldsOk E ti.d = true) (hd : isAggD ti.d = true) (hk : fillK E ti.d parts.toList = some k)
    {m : Ren} {T : Tr AV} {ρ : Operand → Value} (he : ER m T ρ) {l : AV} (hl : k.f T (cellsA z) = some l) (w : World) : ∃ v, (Instr.build t (parts.map fun p => (p.1, ρ p.2))).run P w = .ok v w ∧ VR m (.agg l) v := by
  obtain ⟨zv, q1, q2, _⟩ := run_zeroValue (w := w) hE h1 hz
  have hc := (q2 m).cellsT
  cases hdd : ti.d <;> rw [hdd] at hd hf hk <;> simp only [isAggD] at hd <;> try (cases hd; done)
  case struct fs =>
    have hall : ∀ f ∈ fs.toList, (tyOf E f.type).isSome = true := List.all_eq_true.1 hf
    have hp := run_places (P := P) hE w fs.toList hall
    have hp2 : (fs.mapM fun f => (do pure (f.offset, ← sizeOf f.type) : Sem (Nat × Nat))).run P w = .ok (fs.toList.map fun f => (f.offset, ((tyOf E f.type).map (·.size)).getD 0)).toArray w := by
      rw [Array.mapM_eq_mapM_toList, Sem.run_map, hp]; rfl
    obtain ⟨cs', h5, h6⟩ := fillK_ok (pl := fun i => ((fs.toList.map fun f => (f.offset, ((tyOf E f.type).map (·.size)).getD 0)).toArray[i]?)) (d := .struct fs) (by
      intro i p hp
      simp only [placeOf, ob_some, Option.some.injEq] at hp
      obtain ⟨f, h1, tf, h2, rfl⟩ := hp
      simp only [List.getElem?_toArray, List.getElem?_map, h1, h2, Option.map_some, Option.getD_some]) he hk hc hl
    refine ⟨.agg cs', ?_, by simpa using VR.agg _ _ h6⟩
    simp only [Instr.build, Sem.run_bind, q1, Result.andThen, run_underlying hE h1, hdd, hp2, Array.toList_map, h5]
    rfl
  case array n e =>
    simp only [fieldsOk, Option.isSome_iff_exists] at hf
    obtain ⟨te, ht⟩ := hf
    obtain ⟨cs', h5, h6⟩ := fillK_ok (pl := fun i => some (i * te.size, te.size)) (d := .array n e) (by
      intro i p hp
      simp only [placeOf, ob_some, Option.some.injEq] at hp
      obtain ⟨tf, h2, rfl⟩ := hp
      rw [ht] at h2; cases h2; rfl) he hk hc hl
    refine ⟨.agg cs', ?_, by simpa using VR.agg _ _ h6⟩
    simp only [Instr.build, Sem.run_bind, q1, Result.andThen, run_underlying hE h1, hdd, run_sizeOf hE ht, Array.toList_map, h5]
    rfl
theorem look_build {t : Nat} {parts : Array (Nat × Operand)} {k : LK} (h : buildK E t parts.toList = some k) (ho : o.op = .build t parts) : LookOk P k o := by
  simp only [buildK, ob_some] at h
  obtain ⟨ti, h1, z, hz, h⟩ := h
  split at h
  · rename_i hd
    simp only [bt_some, ob_some, Option.some.injEq] at h
    obtain ⟨hf, g, hg, rfl⟩ := h
    intro m H w T ρ v hr he hk
    simp only [buildA, ob_some, Option.some.injEq] at hk
    obtain ⟨l, hl, rfl⟩ := hk
    obtain ⟨v', q1, q2⟩ := build_cells hE h1 hz hf hd hg he hl w
    refine ⟨v', ?_, q2⟩
    simp only [execOp, ho]
    exact run_v q1
  · cases h
omit hE in
theorem find_born {m : Ren} {b : Nat} : ∀ {es : List MEnt} {en : List MapEntry} {e : MEnt}, EntsR m es en → findB b es = some e → ∃ f, en.find? (·.born == b) = some f ∧ EntR m e f
  | _, _, _, .nil, h => by cases h
  | _, _, e0, .cons e f l k he hl, h => by
    simp only [findB] at h
    cases he with | mk hk hv hb =>
    split at h
    · rename_i hq
      cases h
      have : f.born = b := by rw [← hb]; exact Nat.eq_of_beq_eq_true hq
      exact ⟨f, by simp [this], .mk _ _ hk hv hb⟩
    · rename_i hq
      have : f.born ≠ b := fun e2 => by rw [← hb] at e2; subst e2; simp at hq
      obtain ⟨g, h1, h2⟩ := find_born hl h
      exact ⟨g, by simp [this, h1], h2⟩
omit hE in
theorem look_entry {x : Operand} (ho : o.op = .entry x) : LookOk P ⟨entryA x⟩ o := by
  intro m H w T ρ v hr he hk
  simp only [entryA, ob_some] at hk
  obtain ⟨a, g1, hk⟩ := hk
  have hv1 := he x a g1
  split at hk <;> try (cases hk; done)
  rename_i r
  split at hk <;> try (cases hk; done)
  rename_i mm since b rest st g2
  split at hk <;> try (cases hk; done)
  rename_i es clock g3
  split at hk <;> try (cases hk; done)
  rename_i g4
  simp only [ob_some, Option.some.injEq] at hk
  obtain ⟨e, g5, rfl⟩ := hk
  obtain ⟨i, hi, e1⟩ := hv1.ptr_inv
  obtain ⟨x1, hx1, ho1⟩ := hr.live _ _ g2 _ hi
  cases ho1 with | mitS _ _ _ _ _ j hj hb0 =>
  obtain ⟨x2, hx2, ho2⟩ := hr.live _ _ g3 _ hj
  cases ho2 with | mp en _ _ _ hen =>
  have hc : clock = st := Nat.eq_of_beq_eq_true g4
  subst hc
  obtain ⟨f, h5, h6⟩ := find_born hen g5
  cases h6 with | mk hk hv hb =>
  refine ⟨_, ?_, .tup _ [f.key, f.val] (.cons _ _ _ _ hk (.cons _ _ _ _ hv .nil))⟩
  simp only [execOp, ho, e1, hb0]; apply run_v
  have e6 : (rest.reverse ++ [b]).toArray.back? = some b := by simp
  simp only [Instr.entry, Sem.run_bind, run_getObj hx1 (by simp), Result.andThen, run_getObj hx2 (by simp), List.reverse_cons, e6]
  have h7 : en.find? (·.born == b) = some f := by rw [← Array.find?_toList]; exact h5
  simp [h7]
omit hE in
theorem findM_ok {name : String} : ∀ {l : List Method} {m : Method}, findM name l = some m → l.find? (·.name == name) = some m
  | [], _, h => by cases h
  | x :: l, m, h => by
    simp only [findM] at h
    split at h
    · rename_i hq; cases h; simp [hq]
    · rename_i hq; simp [hq, findM_ok h]
theorem ahead_ok {t : Nat} {name : String} (h : aheadA E t name = true) (n : Nat) (v : Value) (w : World) : (nilAhead (n + 1) t v name).run P w = .ok (some false) w := by
  unfold aheadA at h
  split at h
  · rename_i ti h1
    split at h
    · rename_i m h2
      split at h
      · rename_i f h3 h4
        obtain ⟨i, q1, _, _, _, q2⟩ := run_typeInfo (w := w) hE h1
        have h5 : i.methods.find? (·.name == name) = some m := by rw [q2, ← Array.find?_toList]; exact findM_ok h2
        simp only [nilAhead, Sem.run_bind, q1, Result.andThen, h5, h3, followBlind, Sem.run_pure, h4]
      · cases h
    · cases h
  · cases h
theorem look_nilChk {x : Operand} (ho : o.op = .nilCheck x) : LookOk P ⟨nilChk E x⟩ o := by
  intro m H w T ρ v hr he hk
  simp only [nilChk, ob_some] at hk
  obtain ⟨a, g1, hk⟩ := hk
  have hv1 := he x a g1
  simp only [nilPtr] at hk
  split at hk
  · cases hk
    obtain ⟨i, hi, e1⟩ := hv1.ptr_inv
    exact ⟨_, by simp [execOp, ho, e1], e1 ▸ hv1⟩
  · cases hk
    obtain ⟨u, hi, e1⟩ := hv1.ifc_inv
    exact ⟨_, by simp [execOp, ho, e1], e1 ▸ hv1⟩
  · rename_i f fa fc
    obtain ⟨g, va, vc, hf, ha, hc, e1⟩ := hv1.fn_inv
    split at hk
    · cases hk
      cases hf
      exact ⟨_, by simp [execOp, ho, e1], e1 ▸ hv1⟩
    · cases hk
      cases hf with
      | same f h => exact absurd rfl (h _)
      | yield l i h => exact ⟨_, by simp [execOp, ho, e1], e1 ▸ hv1⟩
    · rename_i name
      split at hk
      · rename_i t b fa'
        simp only [bt_some, Option.some.injEq] at hk
        obtain ⟨g2, rfl⟩ := hk
        cases hf
        cases ha with | cons _ u _ us hu hus =>
        obtain ⟨bv, hb, e2⟩ := hu.ifc_inv
        subst e2
        refine ⟨_, ?_, e1 ▸ hv1⟩
        simp [execOp, ho, e1, ahead_ok hE g2, Made.depth, Result.andThen]
      · cases hk
    · cases hk
  · cases hk
end
end Go.Xq
namespace Go.Xq
section
variable {P : Program} {E : Env} (hE : TyOk P E) {o : Oper}
include hE
theorem eqK_ok {t : Nat} {x y : Operand} {k : EK} (h : eqK E t (isC x || isC y) = some k) : EqOk P k t x y := by
  simp only [eqK, ob_some] at h
  obtain ⟨ti, h1, h⟩ := h
  split at h
  · rename_i hd; cases h; exact eq_bool hE h1 hd
  · rename_i hd; simp only [ob_some, Option.some.injEq] at h; obtain ⟨te, h3, rfl⟩ := h; exact eq_ptr hE h1 hd h3
  · rename_i hd; cases h; exact eq_iface hE h1 hd
  · rename_i hd; cases h; exact eq_sl hE h1 hd
  · rename_i hd; cases h; exact eq_map hE h1 hd
  · rename_i hd; cases h; exact eq_fn hE h1 hd
  · rename_i hd
    simp only [bt_some, ob_some, Option.some.injEq] at h
    obtain ⟨hp, l, hl, rfl⟩ := h
    exact eq_agg hE h1 hd hp hl
  · cases h
theorem look_binK {op : BinOp} {t : Nat} {x y : Operand} {u : Nat} {k : LK} (h : binK E op t x y = some k) (ho : o.op = .binOp op t x y u) : LookOk P k o := by
  simp only [binK, ob_some] at h
  obtain ⟨ti, h1, h⟩ := h
  split at h
  · split at h
    · cases h; exact look_binShl ho
    · cases h; exact look_binShr ho
    · simp only [ob_some, Option.some.injEq] at h
      obtain ⟨g, h2, rfl⟩ := h
      exact look_binInt h2 ho
  · simp only [ob_some, Option.some.injEq] at h
    obtain ⟨g, h2, rfl⟩ := h
    exact look_binStr h2 ho
  · split at h
    · simp only [ob_some, Option.some.injEq] at h
      obtain ⟨g, h2, rfl⟩ := h
      exact look_binEq (neg := false) rfl (eqK_ok hE h2) ho
    · simp only [ob_some, Option.some.injEq] at h
      obtain ⟨g, h2, rfl⟩ := h
      exact look_binEq (neg := true) rfl (eqK_ok hE h2) ho
    · cases h
theorem look_convK {s d : Nat} {x : Operand} {k : LK} (h : convK E s d x = some k) (ho : o.op = .convert s d x) : LookOk P k o := by
  simp only [convK, ob_some] at h
  obtain ⟨ts, h1, td, h2, h⟩ := h
  split at h
  · rename_i e1 e2; cases h; exact look_cvInt hE h1 h2 e1 e2 ho
  · rename_i e1 e2
    simp only [ob_some] at h
    obtain ⟨te, h3, h⟩ := h
    split at h
    · rename_i hb; cases h; exact look_cvStr hE h1 h2 e1 e2 h3 hb ho
    · cases h
  · rename_i e1 e2; cases h; exact look_cvSS hE h1 h2 e1 e2 ho
  · cases h
theorem look_sliceK {t : Nat} {x : Operand} {lo hi mx : Option Operand} {k : LK} (h : sliceK E t x lo hi mx = some k) (ho : o.op = .slice t x lo hi mx) : LookOk P k o := by
  simp only [sliceK, ob_some] at h
  obtain ⟨ti, h1, h⟩ := h
  split at h
  · rename_i hd
    split at h
    · cases h; exact look_slStr hE h1 hd ho
    · cases h
  · rename_i hd
    simp only [ob_some, bt_some, Option.some.injEq] at h
    obtain ⟨te, h3, hx, rfl⟩ := h
    exact look_slSl hE h1 hd h3 hx ho
  · rename_i hd
    simp only [ob_some, bt_some, Option.some.injEq] at h
    obtain ⟨te, h3, hx, rfl⟩ := h
    exact look_slArr hE h1 hd h3 hx ho
  · cases h
theorem look_lookupK {t : Nat} {x i : Operand} {ok : Bool} {k : LK} (h : lookupK E t x i ok = some k) (ho : o.op = .lookup t x i ok) : LookOk P k o := by
  simp only [lookupK, ob_some] at h
  obtain ⟨ti, h1, h⟩ := h
  split at h
  · rename_i hd
    simp only [ob_some, zeroA, Option.some.injEq] at h
    obtain ⟨q, hq, z, ⟨te, h3, hz⟩, rfl⟩ := h
    exact look_lk hE h1 hd hq h3 hz ho
  · cases h
theorem lookK_ok {k : LK} (h : lookK E o.op = some k) : LookOk P k o := by
  unfold lookK at h
  split at h
  · rename_i ho; cases h; exact look_move (.inl ho)
  · rename_i ho; cases h; exact look_move (.inr ho)
  · rename_i ho; cases h; exact look_pick ho
  · rename_i ho; exact look_build hE h ho
  · rename_i ho; simp only [ob_some, Option.some.injEq] at h; obtain ⟨g, h2, rfl⟩ := h; exact look_load hE h2 ho
  · rename_i ho; cases h; exact look_nilChk hE ho
  · rename_i ho; exact look_binK hE h ho
  · rename_i ho; simp only [ob_some, Option.some.injEq] at h; obtain ⟨g, h2, rfl⟩ := h; exact look_unOp h2 ho
  · rename_i ho; exact look_convK hE h ho
  · rename_i ho
    simp only [ob_some] at h; obtain ⟨ti, h1, h⟩ := h
    split at h
    · cases h
    · rename_i hd; cases h; exact look_makeIface hE h1 (by simpa using hd) ho
  · rename_i ho
    split at h
    · cases h
    · rename_i f hf; cases h; exact look_makeFn (fun l e => hf l e) ho
  · rename_i ho; exact look_sliceK hE h ho
  · rename_i ho
    simp only [fieldAddrK, ob_some] at h; obtain ⟨ti, h1, fd, h2, tf, h3, h⟩ := h
    split at h
    · rename_i n hn; cases h; exact look_fAddr hE h1 h2 h3 hn ho
    · cases h
  · rename_i ho
    simp only [fieldK, ob_some, Option.some.injEq] at h; obtain ⟨ti, h1, fd, h2, g, h3, rfl⟩ := h
    exact look_fVal hE h1 h2 h3 ho
  · rename_i ho
    simp only [indexAddrK, ob_some] at h; obtain ⟨ti, h1, h⟩ := h
    split at h
    · rename_i hd; simp only [ob_some, Option.some.injEq] at h; obtain ⟨te, h3, rfl⟩ := h; exact look_ixArr hE h1 hd h3 ho
    · rename_i hd; simp only [ob_some, Option.some.injEq] at h; obtain ⟨te, h3, rfl⟩ := h; exact look_ixSl hE h1 hd h3 ho
    · cases h
  · rename_i ho
    simp only [indexK, ob_some] at h; obtain ⟨ti, h1, h⟩ := h
    split at h
    · rename_i hd; simp only [ob_some, Option.some.injEq] at h; obtain ⟨te, h3, g, h4, rfl⟩ := h; exact look_ixAgg hE h1 hd h3 h4 ho
    · rename_i hd; cases h; exact look_ixStr hE h1 hd ho
    · cases h
  · rename_i ho; exact look_lookupK hE h ho
  · rename_i ho; exact look_assertK hE h ho
  · rename_i ho; cases h; exact look_ex ho
  · rename_i ho; cases h; exact look_entry ho
  · rename_i c ho
    split at h
    · rename_i b hc; exact look_builtin hE h ho hc
    · cases h
  · cases h
end
end Go.Xq
