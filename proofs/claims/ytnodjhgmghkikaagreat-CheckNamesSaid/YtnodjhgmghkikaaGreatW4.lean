/- A part of the proof of this seat's statement. Conditions: in each theorem. -/
import Derived.Test.YtnodjhgmghkikaaGreatW3
import Derived.Laws.BytesString
import Derived.Laws.StructEq
import Derived.LaidEql
import Derived.LaidEqlPtr
import Derived.WideLaws
namespace Go.Xq
section
variable {P : Program} {E : Env} (hE : TyOk P E) {o : Oper}
theorem leA_ok {m : Ren} : ∀ {l : AV} {vs : List Value} {n : Nat}, VL m l vs → leA l = some n → n < 256 ^ vs.length ∧ ∀ k, k < vs.length → vs[k]? = some (.int .u8 (.ofNat (byteAt n k)))
  | _, _, n, .nil, h => by cases h; exact ⟨by simp, fun k hk => by simp at hk⟩
  | _, _, n, .cons a v l vs hv hl, h => by
    simp only [leA, onInt_some, bt_some, Nat.beq_eq] at h
    obtain ⟨kk, x, rfl, hk, h⟩ := h
    have hk : kk = .u8 := kIx_inj (l := .u8) hk
    subst hk
    cases x with
    | negSucc y => simp at h
    | ofNat y =>
      simp only [ic_ofNat, bt_some, Nat.blt_eq, ob_some, Option.some.injEq] at h
      obtain ⟨hy, q, hq, rfl⟩ := h
      obtain ⟨g1, g2⟩ := leA_ok hl hq
      have hv' := hv.int_inv
      subst hv'
      refine ⟨?_, ?_⟩
      · rw [List.length_cons, Nat.pow_succ]; show y + 256 * q < _; omega
      · intro k hk
        cases k with
        | zero =>
          have : byteAt (y + 256 * q) 0 = y := by rw [byteAt_eq]; simp; omega
          show _ = some (Value.int .u8 (.ofNat (byteAt (y + 256 * q) 0)))
          rw [this]; rfl
        | succ k =>
          have hk' : k < vs.length := by simpa using hk
          have e : byteAt (y + 256 * q) (k + 1) = byteAt q k := by
            have := byteAt_hi y q 1 k (by simpa using hy)
            rw [Nat.pow_one] at this
            rw [Nat.add_comm k 1]; exact this
          show _ = some (Value.int .u8 (.ofNat (byteAt (y + 256 * q) (k + 1))))
          rw [e]; exact g2 k hk'
theorem bytesSl_ok {m : Ren} {H : AH} {w : World} (hr : Rel m H w) {b off len l n : Nat} {i : BI} (hi : len ≠ 0 → m b = some i) (h : bytesSl H b off len = some (l, n)) :
    l = len ∧ n < 256 ^ len ∧ ∀ k, k < len → w.cell? ⟨i.blk, i.base + off + k, none⟩ = some (.int .u8 (.ofNat (byteAt n k))) := by
  cases len with
  | zero => simp [bytesSl] at h; obtain ⟨rfl, rfl⟩ := h; exact ⟨rfl, by simp, fun k hk => by omega⟩
  | succ j =>
    have hi' := hi (by omega)
    simp only [bytesSl, nc_succ, ob_some, onObj3_some] at h
    obtain ⟨o, hg, h⟩ := h
    rcases h with ⟨e, s, p, q, rfl, h⟩ | ⟨e, a, s, p, z, t, rfl, h⟩ | ⟨xx, q, rfl, h⟩
    · simp only [bytesBy, bt_some, Nat.ble_eq, Option.some.injEq, Prod.mk.injEq] at h
      obtain ⟨h1, rfl, rfl⟩ := h
      refine ⟨rfl, cutN_lt _ _ _, fun k hk => ?_⟩
      obtain ⟨x, hx, hor⟩ := hr.live b _ hg i hi'
      cases hor with | bys c fr e size opn n i hcs hes hs hf hall =>
      rw [cell_of hx, byteAt_cut _ _ _ _ hk, Nat.add_assoc]
      exact hall (off + k) (by have : off + (j + 1) ≤ s := h1; omega)
    · simp only [Option.some.injEq, Prod.mk.injEq] at h
      obtain ⟨lv, h1, nn, h2, rfl, rfl⟩ := h
      obtain ⟨vs, hl, hvl, hall⟩ := hr.rds hg hi' _ _ _ h1
      obtain ⟨g1, g2⟩ := leA_ok hvl h2
      rw [hl] at g1 g2
      exact ⟨rfl, g1, fun k hk => hall k _ (g2 k hk)⟩
    · simp only [Option.some.injEq, Prod.mk.injEq] at h
      obtain ⟨lv, h1, nn, h2, rfl, rfl⟩ := h
      obtain ⟨vs, hl, hvl, hall⟩ := hr.rds hg hi' _ _ _ h1
      obtain ⟨g1, g2⟩ := leA_ok hvl h2
      rw [hl] at g1 g2
      exact ⟨rfl, g1, fun k hk => hall k _ (g2 k hk)⟩
theorem run_bytesToString {w : World} {b off len n : Nat} (hall : ∀ k, k < len → w.cell? ⟨b, off + k, none⟩ = some (.int .u8 (.ofNat (byteAt n k)))) (c : Nat) :
    (Conv.bytesToString (.slice (some ⟨b, off, none⟩) len c)).run P w = .ok (.string ⟨(bytesN len n).toArray⟩) w := by
  have h1 : (loadCells ⟨b, off, none⟩ len).run P w = .ok ((List.range len).map fun k => Value.int .u8 (.ofNat (byteAt n k))).toArray w := by
    have := run_loadCells (P := P) (w := w) (b := b) (o := off) (vs := (List.range len).map fun k => Value.int .u8 (.ofNat (byteAt n k))) (fun k v hk => by
      simp only [List.getElem?_map, Option.map_eq_some_iff] at hk
      obtain ⟨a, ha, rfl⟩ := hk
      have hlt : k < len := by
        rcases Nat.lt_or_ge k len with h | h
        · exact h
        · rw [List.getElem?_eq_none (by simpa using h)] at ha; cases ha
      rw [List.getElem?_range hlt] at ha; cases ha
      exact hall k hlt)
    simpa using this
  have e1 : ((List.range len).map fun k => Value.int .u8 (.ofNat (byteAt n k))) = ((List.range len).map fun k => Int.ofNat (byteAt n k)).map (Value.int .u8) := by
    rw [List.map_map]; rfl
  rw [e1] at h1
  rw [Go.run_bytesToString w _ _ _ _ h1]
  congr 2
  have fold : ∀ (l : List Int) (s : ByteArray), (l.foldl (fun r n => r.push (UInt8.ofNat n.toNat)) s).data.toList = s.data.toList ++ l.map fun n => UInt8.ofNat n.toNat := by
    intro l
    induction l with
    | nil => intro s; simp
    | cons a l ih => intro s; rw [List.foldl_cons, ih]; simp
  have h2 := fold ((List.range len).map fun k => Int.ofNat (byteAt n k)) ByteArray.empty
  have h3 : ((List.range len).map fun k => Int.ofNat (byteAt n k)).map (fun n => UInt8.ofNat n.toNat) = bytesN len n := by
    rw [List.map_map]
    apply bytesN_ext (by simp)
    intro k hk
    refine ⟨UInt8.ofNat (byteAt n k), ?_, ?_⟩
    · rw [List.getElem?_map, List.getElem?_range hk]; rfl
    · simp [Nat.mod_eq_of_lt (byteAt_lt _ _)]
  rw [h3] at h2
  have h4 : (List.foldl (fun r n => ByteArray.push r (UInt8.ofNat n.toNat)) ByteArray.empty (List.map (fun k => Int.ofNat (byteAt n k)) (List.range len))).data = (bytesN len n).toArray := by
    apply Array.toList_inj.1
    rw [h2]; rfl
  rw [← h4]
theorem str_bytesN (m : Ren) {len n : Nat} (h : n < 256 ^ len) : VR m (.str len n) (.string ⟨(bytesN len n).toArray⟩) := by
  have := VR.str (m := m) ⟨(bytesN len n).toArray⟩
  simp only [bytesN_length, leNat_bytesN _ _ h] at this
  exact this
include hE
theorem look_cvStr {s d e : Nat} {x : Operand} {ts td te : TI} (h1 : tyOf E s = some ts) (h2 : tyOf E d = some td) (hs : ts.d = .slice e) (hd : td.d = .string) (h3 : tyOf E e = some te) (hb : isByteD te.d = true)
    (ho : o.op = .convert s d x) : LookOk P ⟨cvStr x⟩ o := by
  intro m H w T ρ v hr he hk
  simp only [cvStr, ob_some, onSl_some, Option.some.injEq] at hk
  obtain ⟨a, g1, hk⟩ := hk
  have hbd : te.d = .int .u8 := by
    cases hq : te.d <;> rw [hq] at hb <;> simp [isByteD] at hb
    rename_i k; cases k <;> simp at hb; rfl
  have frame : ∀ (ad : Option Addr) (l c : Nat) (r : Value), ρ x = .slice ad l c → (Conv.bytesToString (.slice ad l c)).run P w = .ok r w → (execOp ρ o).run P w = .ok (.value r) w := by
    intro ad l c r e1 hrun
    simp only [execOp, ho, e1]; apply run_v
    rw [run_convert_bytes_string w s d e ad l c (by rw [under_of hE h1, hs]) (by rw [under_of hE h3, hbd]) (by rw [under_of hE h2, hd]), hrun]
  rcases hk with ⟨rfl, rfl⟩ | ⟨b, off, len, c, rfl, ⟨l, n⟩, g2, rfl⟩
  · refine ⟨.string .empty, frame none 0 0 _ (he x _ g1).snil_inv rfl, .str .empty⟩
  · obtain ⟨ad, c', e1, _, hc⟩ := (he x _ g1).sl_inv
    rcases hc with ⟨i, hi, rfl, _⟩ | ⟨rfl, rfl, _⟩
    · obtain ⟨rfl, hlt, hall⟩ := bytesSl_ok hr (fun _ => hi) g2
      exact ⟨_, frame _ _ _ _ e1 (run_bytesToString hall c'), str_bytesN m hlt⟩
    · simp [bytesSl] at g2
      obtain ⟨rfl, rfl⟩ := g2
      refine ⟨.string .empty, frame _ _ _ _ e1 ?_, .str .empty⟩
      simp [Conv.bytesToString, loadCells, loadCellsFrom]
omit hE in
theorem run_eqGuard_plain {w : World} {op : BinOp} {t : TypeId} {x y : Operand} {a b : Value} (h1 : a ≠ .nilIface) (h2 : ∀ cs, a ≠ .agg cs) : (eqGuard op t x y a b).run P w = .ok () w := by
  cases op <;> first | rfl | (cases a <;> first | exact absurd rfl h1 | exact absurd rfl (h2 _) | rfl)
omit hE in
theorem run_eqGuard_const {w : World} {op : BinOp} {t : TypeId} {x y : Operand} (h : (isC x || isC y) = true) : (eqGuard op t x y .nilIface .nilIface).run P w = .ok () w := by
  cases x <;> cases y <;> first
    | (simp [isC] at h; done)
    | (cases op <;> simp [eqGuard])
def EqOk (P : Program) (k : EK) (t : TypeId) (x y : Operand) : Prop :=
  ∀ (m : Ren) (H : AH) (w : World) (a b : AV) (u v : Value) (r : Bool), Rel m H w → VR m a u → VR m b v → k.f H a b = some r →
    (∀ op, (eqGuard op t x y u v).run P w = .ok () w) ∧ (binOp .eql t u v).run P w = .ok (.bool r) w ∧ (binOp .neq t u v).run P w = .ok (.bool (!r)) w
omit hE in
theorem eq_of {w : World} {t : TypeId} {x y : Operand} {u v : Value} {r : Bool} (hg : ∀ op, (eqGuard op t x y u v).run P w = .ok () w) (h : ∀ d, (Op.equalIn (d + 1) t u v).run P w = .ok r w)
    (h1 : binOp .eql t u v = (do pure (.bool (← Op.equal t u v)))) (h2 : binOp .neq t u v = (do pure (.bool (!(← Op.equal t u v))))) :
    (∀ op, (eqGuard op t x y u v).run P w = .ok () w) ∧ (binOp .eql t u v).run P w = .ok (.bool r) w ∧ (binOp .neq t u v).run P w = .ok (.bool (!r)) w := by
  have h' : (Op.equal t u v).run P w = .ok r w := h 9999
  refine ⟨hg, ?_, ?_⟩
  · rw [h1]; simp [h', Result.andThen]
  · rw [h2]; simp [h', Result.andThen]
omit hE in
theorem eq_of2 {w : World} {t : TypeId} {x y : Operand} {u v : Value} {r : Bool} (hg : ∀ op, (eqGuard op t x y u v).run P w = .ok () w) (h : ∀ d, (Op.equalIn (d + 2) t u v).run P w = .ok r w)
    (h1 : binOp .eql t u v = (do pure (.bool (← Op.equal t u v)))) (h2 : binOp .neq t u v = (do pure (.bool (!(← Op.equal t u v))))) :
    (∀ op, (eqGuard op t x y u v).run P w = .ok () w) ∧ (binOp .eql t u v).run P w = .ok (.bool r) w ∧ (binOp .neq t u v).run P w = .ok (.bool (!r)) w := by
  have h' : (Op.equal t u v).run P w = .ok r w := h 9998
  refine ⟨hg, ?_, ?_⟩
  · rw [h1]; simp [h', Result.andThen]
  · rw [h2]; simp [h', Result.andThen]
theorem eq_bool {t : Nat} {ti : TI} {x y : Operand} (h1 : tyOf E t = some ti) (h2 : ti.d = .bool) : EqOk P ⟨eqBool⟩ t x y := by
  intro m H w a b u v r hr hu hv hk
  cases a <;> cases b <;> simp only [eqBool, reduceCtorEq, Option.some.injEq] at hk
  subst hk
  rw [hu.bool_inv, hv.bool_inv, bEq_eq]
  exact eq_of (fun op => run_eqGuard_plain (by simp) (by simp)) (fun d => by simp [Op.equalIn, run_underlying hE h1, Result.andThen, h2]) rfl rfl
theorem eq_ptr {t e : Nat} {ti te : TI} {x y : Operand} (h1 : tyOf E t = some ti) (h2 : ti.d = .pointer e) (h3 : tyOf E e = some te) : EqOk P ⟨eqPtr te.size⟩ t x y := by
  intro m H w a b u v r hr hu hv hk
  cases a <;> cases b <;> simp only [eqPtr, reduceCtorEq, Option.some.injEq] at hk
  case pnil.pnil =>
    subst hk; rw [hu.pnil_inv, hv.pnil_inv]
    exact eq_of (fun op => run_eqGuard_plain (by simp) (by simp)) (fun d => by simp [Op.equalIn, run_underlying hE h1, Result.andThen, h2]) rfl rfl
  case pnil.ptr =>
    subst hk; obtain ⟨i, _, e2⟩ := hv.ptr_inv; rw [hu.pnil_inv, e2]
    exact eq_of (fun op => run_eqGuard_plain (by simp) (by simp)) (fun d => by simp [Op.equalIn, run_underlying hE h1, Result.andThen, h2]) rfl rfl
  case ptr.pnil =>
    subst hk; obtain ⟨i, _, e2⟩ := hu.ptr_inv; rw [hv.pnil_inv, e2]
    exact eq_of (fun op => run_eqGuard_plain (by simp) (by simp)) (fun d => by simp [Op.equalIn, run_underlying hE h1, Result.andThen, h2]) rfl rfl
  case ptr.ptr b1 o1 b2 o2 =>
    obtain ⟨i, hi, e1⟩ := hu.ptr_inv
    obtain ⟨j, hj, e2⟩ := hv.ptr_inv
    cases hs : te.size with
    | zero => rw [hs] at hk; simp at hk
    | succ n =>
      rw [hs] at hk
      simp only [samePtrA] at hk
      have main : (sameAddr ⟨i.blk, i.base + o1, none⟩ ⟨j.blk, j.base + o2, none⟩).run P w = .ok r w := by
        by_cases hb : b1 = b2
        · subst hb
          rw [hi] at hj; cases hj
          simp at hk; subst hk
          simp only [sameAddr, beq_self_eq_true, if_true, Sem.run_pure]
          congr 1
          rw [Bool.eq_iff_iff]; simp
        · have hne : Nat.beq b1 b2 = false := by
            rw [Bool.eq_false_iff]; intro e; exact hb (Nat.eq_of_beq_eq_true e)
          rw [hne] at hk
          simp only [bt_false, ob_some, bt_some, Option.some.injEq] at hk
          obtain ⟨x1, g1, x2, g2, q1, q2, rfl⟩ := hk
          have d : i.blk ≠ j.blk := fun e => hb (hr.inj _ _ _ _ _ _ g1 g2 hi hj e)
          obtain ⟨y1, p1, r1⟩ := hr.live _ _ g1 _ hi
          obtain ⟨y2, p2, r2⟩ := hr.live _ _ g2 _ hj
          cases x1 <;> simp [isCs] at q1
          cases x2 <;> simp [isCs] at q2
          cases r1 with | cs c fr e' es size opn z t' i hcs hes hs' hf hh =>
          cases r2 with | cs c2 fr2 e2' es2 size2 opn2 z2 t2 j hcs2 hes2 hs2 hf2 hh2 =>
          subst hf; subst hf2
          exact run_sameAddr_other w (by intro e; exact d (by injection e)) p1 p2
      rw [e1, e2]
      refine eq_of (fun op => run_eqGuard_plain (by simp) (by simp)) (fun d => ?_) rfl rfl
      simp only [Op.equalIn, Sem.run_bind, run_underlying hE h1, Result.andThen, h2, run_sizeOf hE h3, hs]
      simpa using main
theorem eq_iface {t : Nat} {ti : TI} {ms} {x y : Operand} (h1 : tyOf E t = some ti) (h2 : ti.d = .interface ms) : EqOk P ⟨eqIface (isC x || isC y)⟩ t x y := by
  intro m H w a b u v r hr hu hv hk
  cases a <;> cases b <;> simp only [eqIface, reduceCtorEq, Option.some.injEq] at hk
  case inil.inil =>
    split at hk
    · rename_i hc; cases hk; rw [hu.inil_inv, hv.inil_inv]
      exact eq_of (fun op => run_eqGuard_const hc) (fun d => by simp [Op.equalIn, run_underlying hE h1, Result.andThen, h2]) rfl rfl
    · cases hk
  case inil.ifc =>
    subst hk; obtain ⟨i, _, e2⟩ := hv.ifc_inv; rw [hu.inil_inv, e2]
    refine eq_of (fun op => ?_) (fun d => by simp [Op.equalIn, run_underlying hE h1, Result.andThen, h2]) rfl rfl
    cases op <;> rfl
  case ifc.inil =>
    subst hk; obtain ⟨i, _, e2⟩ := hu.ifc_inv; rw [hv.inil_inv, e2]
    exact eq_of (fun op => run_eqGuard_plain (by simp) (by simp)) (fun d => by simp [Op.equalIn, run_underlying hE h1, Result.andThen, h2]) rfl rfl
  case ifc.ifc t1 a1 t2 a2 =>
    cases hb : Nat.beq t1 t2 with
    | true => rw [hb] at hk; cases hk
    | false =>
      rw [hb] at hk
      simp only [bt_false, Option.some.injEq] at hk
      subst hk
      obtain ⟨i, _, e1⟩ := hu.ifc_inv
      obtain ⟨j, _, e2⟩ := hv.ifc_inv
      have hne : t1 ≠ t2 := fun e => by rw [e, Nat.beq_refl] at hb; cases hb
      rw [e1, e2]
      exact eq_of (fun op => run_eqGuard_plain (by simp) (by simp)) (fun d => by simp [Op.equalIn, run_underlying hE h1, Result.andThen, h2, hne]) rfl rfl
theorem eq_sl {t e : Nat} {ti : TI} {x y : Operand} (h1 : tyOf E t = some ti) (h2 : ti.d = .slice e) : EqOk P ⟨eqSl⟩ t x y := by
  intro m H w a b u v r hr hu hv hk
  cases a <;> cases b <;> simp only [eqSl, reduceCtorEq, Option.some.injEq] at hk
  case snil.snil =>
    subst hk; rw [hu.snil_inv, hv.snil_inv]
    exact eq_of (fun op => run_eqGuard_plain (by simp) (by simp)) (fun d => by simp [Op.equalIn, run_underlying hE h1, Result.andThen, h2]) rfl rfl
  case snil.sl =>
    subst hk; obtain ⟨i, c', e2, _⟩ := hv.sl_inv; rw [hu.snil_inv, e2]
    exact eq_of (fun op => run_eqGuard_plain (by simp) (by simp)) (fun d => by simp [Op.equalIn, run_underlying hE h1, Result.andThen, h2]) rfl rfl
  case sl.snil =>
    subst hk; obtain ⟨i, c', e2, _⟩ := hu.sl_inv; rw [hv.snil_inv, e2]
    exact eq_of (fun op => run_eqGuard_plain (by simp) (by simp)) (fun d => by simp [Op.equalIn, run_underlying hE h1, Result.andThen, h2]) rfl rfl
theorem eq_map {t k e : Nat} {ti : TI} {x y : Operand} (h1 : tyOf E t = some ti) (h2 : ti.d = .map k e) : EqOk P ⟨eqMap⟩ t x y := by
  intro m H w a b u v r hr hu hv hk
  cases a <;> cases b <;> simp only [eqMap, reduceCtorEq, Option.some.injEq] at hk
  case mnil.mnil =>
    subst hk; rw [hu.mnil_inv, hv.mnil_inv]
    exact eq_of (fun op => run_eqGuard_plain (by simp) (by simp)) (fun d => by simp [Op.equalIn, run_underlying hE h1, Result.andThen, h2]) rfl rfl
  case mnil.mp =>
    subst hk; obtain ⟨i, _, e2⟩ := hv.mp_inv; rw [hu.mnil_inv, e2]
    exact eq_of (fun op => run_eqGuard_plain (by simp) (by simp)) (fun d => by simp [Op.equalIn, run_underlying hE h1, Result.andThen, h2]) rfl rfl
  case mp.mnil =>
    subst hk; obtain ⟨i, _, e2⟩ := hu.mp_inv; rw [hv.mnil_inv, e2]
    exact eq_of (fun op => run_eqGuard_plain (by simp) (by simp)) (fun d => by simp [Op.equalIn, run_underlying hE h1, Result.andThen, h2]) rfl rfl
theorem eq_fn {t : Nat} {ti : TI} {ps rs v} {x y : Operand} (h1 : tyOf E t = some ti) (h2 : ti.d = .func ps rs v) : EqOk P ⟨eqFn⟩ t x y := by
  intro m H w a b u v r hr hu hv hk
  cases a <;> cases b <;> simp only [eqFn, reduceCtorEq, Option.some.injEq] at hk
  case fnil.fnil =>
    subst hk; rw [hu.fnil_inv, hv.fnil_inv]
    exact eq_of (fun op => run_eqGuard_plain (by simp) (by simp)) (fun d => by simp [Op.equalIn, run_underlying hE h1, Result.andThen, h2]) rfl rfl
  case fnil.fn =>
    subst hk; obtain ⟨g, va, vc, _, _, _, e2⟩ := hv.fn_inv; rw [hu.fnil_inv, e2]
    exact eq_of (fun op => run_eqGuard_plain (by simp) (by simp)) (fun d => by simp [Op.equalIn, run_underlying hE h1, Result.andThen, h2]) rfl rfl
  case fn.fnil =>
    subst hk; obtain ⟨g, va, vc, _, _, _, e2⟩ := hu.fn_inv; rw [hv.fnil_inv, e2]
    exact eq_of (fun op => run_eqGuard_plain (by simp) (by simp)) (fun d => by simp [Op.equalIn, run_underlying hE h1, Result.andThen, h2]) rfl rfl
theorem atom_eq {t n : Nat} {ti : TI} (h1 : tyOf E t = some ti) (h2 : tagD ti.d = some n) {m : Ren} {a b : AV} {u v : Value} (hu : VR m a u) (hv : VR m b v) {w : World} {d : Nat} {r : Bool}
    (hk : atomEq n a b = some r) : (Op.equalIn (d + 1) t u v).run P w = .ok r w := by
  cases hd : ti.d <;> rw [hd] at h2 <;> simp only [tagD, reduceCtorEq, Option.some.injEq] at h2 <;> subst h2
  · simp only [atomEq, onBool_some, Option.some.injEq] at hk
    obtain ⟨x, rfl, y, rfl, rfl⟩ := hk
    rw [hu.bool_inv, hv.bool_inv, bEq_eq]
    simp [Op.equalIn, run_underlying hE h1, Result.andThen, hd]
  · simp only [atomEq, onInt_some, bt_some, Option.some.injEq] at hk
    obtain ⟨k, x, rfl, l, y, rfl, hkl, rfl⟩ := hk
    have := kEq_iff.1 hkl; subst this
    rw [hu.int_inv, hv.int_inv]
    have e : (x == y) = eqI x y := by rw [Bool.eq_iff_iff, eqI_iff, beq_iff_eq]
    simp [Op.equalIn, run_underlying hE h1, Result.andThen, hd, e]
  · simp only [atomEq, onStr_some, Option.some.injEq] at hk
    obtain ⟨k, x, rfl, l, y, rfl, rfl⟩ := hk
    obtain ⟨s, e1, rfl, rfl⟩ := hu.str_inv
    obtain ⟨z, e2, rfl, rfl⟩ := hv.str_inv
    rw [e1, e2, sEq_ok]
    simp [Op.equalIn, run_underlying hE h1, Result.andThen, hd, beq_toListBytes, ByteArray.toList_eq]
theorem part_atom {t n : Nat} {ti : TI} (h1 : tyOf E t = some ti) (h2 : tagD ti.d = some n) {vs : Array Value} {i : Nat} {v : Value} (hv : vs[i]? = some v) {w : World} : (part t vs i).run P w = .ok v w := by
  have hd : isAggD ti.d = false := by cases hq : ti.d <;> rw [hq] at h2 <;> simp [tagD] at h2 <;> rfl
  simp [part, run_isAgg hE h1, Result.andThen, hd, hv]
theorem eq_cells {m : Ren} {w : World} {d : Nat} : ∀ {fs : List Field} {i : Nat} {tags : List Nat} {a b : AV} {us vs : List Value} {r : Bool} {pu pv : List Value}, tagsOf E i fs = some tags → VL m a us → VL m b vs → eqCells tags a b = some r →
    pu.length = i → pv.length = i → (Op.eqFields (d + 1) (pu ++ us).toArray (pv ++ vs).toArray fs).run P w = .ok r w
  | [], i, tags, a, b, us, vs, r, pu, pv, ht, _, _, hk, _, _ => by
    cases ht; cases hk; simp [Op.eqFields]
  | f :: fs, i, tags, a, b, us, vs, r, pu, pv, ht, ha, hb, hk, hpu, hpv => by
    simp only [tagsOf] at ht
    split at ht
    · rename_i hc
      simp only [Bool.and_eq_true, bne_iff_ne, ne_eq, Nat.beq_eq] at hc
      simp only [ob_some, Option.some.injEq] at ht
      obtain ⟨ti, h1, n, h2, l, h3, rfl⟩ := ht
      simp only [eqCells, onCons_some, reduceCtorEq, and_false, false_or, ob_some] at hk
      obtain ⟨x, l1, rfl, y, l2, rfl, q, hq, hk⟩ := hk
      cases ha with | cons _ u _ us hu hus =>
      cases hb with | cons _ v _ vs hv hvs =>
      have pu1 : (part f.type (pu ++ u :: us).toArray f.offset).run P w = .ok u w := part_atom hE h1 h2 (by simp [hc.2, ← hpu])
      have pv1 : (part f.type (pv ++ v :: vs).toArray f.offset).run P w = .ok v w := part_atom hE h1 h2 (by simp [hc.2, ← hpv])
      have he := atom_eq hE h1 h2 hu hv (w := w) (d := d) hq
      simp only [Op.eqFields, Sem.run_ite, Sem.run_bind, pu1, pv1, Result.andThen, he]
      rw [if_pos hc.1]
      cases q
      · simp at hk; subst hk; simp
      · simp only [bt_true] at hk
        have ih := eq_cells (d := d) (w := w) (pu := pu ++ [u]) (pv := pv ++ [v]) h3 hus hvs hk (by simp [hpu]) (by simp [hpv])
        simpa using ih
    · cases ht
theorem eq_agg {t : Nat} {ti : TI} {fs : Array Field} {tags : List Nat} {x y : Operand} (h1 : tyOf E t = some ti) (h2 : ti.d = .struct fs) (h3 : ti.plainEq = true) (h4 : tagsOf E 0 fs.toList = some tags) : EqOk P ⟨eqAgg tags⟩ t x y := by
  intro m H w a b u v r hr hu hv hk
  simp only [eqAgg, onAgg_some] at hk
  obtain ⟨l, rfl, k, rfl, hk⟩ := hk
  obtain ⟨us, hus, rfl⟩ := hu.agg_inv
  obtain ⟨vs, hvs, rfl⟩ := hv.agg_inv
  obtain ⟨p1, p2⟩ := plain_of hE h1 h3
  have hf : P.fieldsOf t = fs := by simp [Program.fieldsOf, under_of hE h1, h2]
  refine eq_of2 (fun op => run_eqGuard_agg w op t x y _ _ p2) (fun d => ?_) rfl rfl
  rw [run_equalIn_struct w (d + 1) t _ _ (by rw [hf, under_of hE h1, h2]) p1, hf]
  exact eq_cells hE (pu := []) (pv := []) h4 hus hvs hk rfl rfl
omit hE in
theorem look_binEq {t : Nat} {x y : Operand} {u : Nat} {k : EK} {neg : Bool} {op : BinOp} (hop : op = if neg then .neq else .eql) (hk : EqOk P k t x y) (ho : o.op = .binOp op t x y u) : LookOk P ⟨binEq k neg x y⟩ o := by
  intro m H w T ρ v hr he h
  simp only [binEq, ob_some, Option.some.injEq] at h
  obtain ⟨a, g1, b, g2, r, g3, rfl⟩ := h
  obtain ⟨q1, q2, q3⟩ := hk m H w a b (ρ x) (ρ y) r hr (he x a g1) (he y b g2) g3
  cases neg
  · simp only [Bool.false_eq_true, if_false] at hop
    subst hop
    refine ⟨.bool r, ?_, .bool r⟩
    simp only [execOp, ho]; apply run_v
    simp [q1, Result.andThen, q2]
  · simp only [if_true] at hop
    subst hop
    refine ⟨.bool (!r), ?_, ?_⟩
    · simp only [execOp, ho]; apply run_v
      simp [q1, Result.andThen, q3]
    · cases r <;> exact .bool _
end
end Go.Xq
namespace Go.Xq
section
variable {P : Program} {E : Env} (hE : TyOk P E) {o : Oper}
theorem run_getObj {w : World} {r : Nat} {x : Obj} (h : w.heap[r]? = some x) (hx : ∀ c e f, x ≠ .cells c e f) : (getObj r).run P w = .ok x w := by
  unfold getObj Sem.run
  rw [h]
  cases x <;> first | rfl | exact absurd rfl (hx _ _ _)
theorem Rel.ents {m : Ren} {H : AH} {w : World} (hr : Rel m H w) {a : AV} {v : Value} {es : List MEnt} (hv : VR m a v) (h : entsOf H a = some es) :
    (v = .map none ∧ es = []) ∨ ∃ r en clock, v = .map (some r) ∧ w.heap[r]? = some (.map en clock) ∧ EntsR m es en.toList := by
  simp only [entsOf, onMap_some, Option.some.injEq, ob_some, onMp_some] at h
  rcases h with ⟨rfl, rfl⟩ | ⟨r, rfl, o, hg, es', c, rfl, rfl⟩
  · exact .inl ⟨hv.mnil_inv, rfl⟩
  · obtain ⟨i, hi, rfl⟩ := hv.mp_inv
    obtain ⟨x, hx, hor⟩ := hr.live _ _ hg _ hi
    cases hor with | mp en clock es i h => exact .inr ⟨i.blk, en, _, rfl, hx, h⟩
theorem run_checkKey (hE : TyOk P E) {t : Nat} {ti : TI} (h1 : tyOf E t = some ti) (h2 : (∃ k, ti.d = .int k) ∨ ti.d = .string ∨ ti.d = .bool ∨ ∃ e, ti.d = .pointer e) (b : Bool) (v : Value) (w : World) (n : Nat) :
    (Instr.checkKey b (n + 1) t v).run P w = .ok () w := by
  simp only [Instr.checkKey, Sem.run_bind, run_underlying hE h1, Result.andThen]
  rcases h2 with ⟨k, h2⟩ | h2 | h2 | ⟨e, h2⟩ <;> rw [h2] <;> cases v <;> rfl
theorem EntsR.get : ∀ {m : Ren} {l : List MEnt} {k : List MapEntry} {i : Nat} {e : MEnt}, EntsR m l k → l[i]? = some e → ∃ f, k[i]? = some f ∧ EntR m e f
  | _, _, _, _, _, .nil, h => by simp at h
  | _, _, _, 0, _, .cons e f l k h hl, hh => by simp at hh; subst hh; exact ⟨f, rfl, h⟩
  | _, _, _, i + 1, _, .cons e f l k h hl, hh => by
    simp at hh; obtain ⟨g, h1, h2⟩ := hl.get hh; exact ⟨g, by simpa using h1, h2⟩
inductive FoundR (m : Ren) : Option (Nat × AV) → Option (Nat × Value) → Prop
  | none : FoundR m none none
  | some (i : Nat) (a : AV) (v : Value) (h : VR m a v) : FoundR m (some (i, a)) (some (i, v))
theorem find_now {t : Nat} {ti : TI} {q : KyK} (h1 : tyOf E t = some ti) (h2 : (∃ k, ti.d = .int k) ∨ ti.d = .string ∨ ti.d = .bool) (hq : keyK E t = some q) {m : Ren} {H : AH} {k : AV} {kv : Value} (hk : VR m k kv) :
    ∀ {l : List MEnt} {en : List MapEntry} {i : Nat} {r : Option (Nat × AV)}, EntsR m l en → findA q H k l i = some r → ∃ r', Instr.findNow ti.d kv en i = some r' ∧ FoundR m r r'
  | [], _, i, r, .nil, h => by cases h; exact ⟨_, rfl, .none⟩
  | e :: l, _, i, r, .cons _ f _ en he hl, h => by
    simp only [findA, ob_some] at h
    obtain ⟨s, hs, h⟩ := h
    cases he with | mk hke hve hbe =>
    have hsame : Instr.sameNow ti.d kv f.key = some s := by
      simp only [keyK, h1, ob_some'] at hq
      rcases h2 with ⟨kk, h2⟩ | h2 | h2 <;> rw [h2] at hq <;> simp only [Option.some.injEq] at hq <;> subst hq
      · simp only [kyInt] at hs
        split at hs
        · rename_i a x b y hx hy
          simp only [bt_some, Option.some.injEq] at hs
          obtain ⟨hkl, rfl⟩ := hs
          have := kEq_iff.1 hkl; subst this
          rw [hy] at hke
          rw [hk.int_inv, hke.int_inv, h2]
          simp [Instr.sameNow]
          rw [Bool.eq_iff_iff, eqI_iff, beq_iff_eq]
        · cases hs
      · simp only [kyStr] at hs
        split at hs
        · rename_i a x b y hx hy
          cases hs
          rw [hy] at hke
          obtain ⟨s1, e1, rfl, rfl⟩ := hk.str_inv
          obtain ⟨s2, e2, g1, g2⟩ := hke.str_inv
          rw [e1, e2, h2, g1, g2, sEq_ok]
          simp only [Instr.sameNow, beq_toListBytes, ByteArray.toList_eq]
        · cases hs
      · simp only [kyBool] at hs
        split at hs
        · rename_i a b hx hy
          cases hs
          rw [hy] at hke
          rw [hk.bool_inv, hke.bool_inv, h2, bEq_eq]
          rfl
        · cases hs
    simp only [Instr.findNow, hsame]
    cases s
    · simp only [bt_false] at h
      exact find_now h1 h2 hq hk hl h
    · simp only [bt_true, Option.some.injEq] at h
      subst h
      exact ⟨_, rfl, .some _ _ _ hve⟩
include hE
theorem find_ask {t e : Nat} {ti te : TI} (h1 : tyOf E t = some ti) (h2 : ti.d = .pointer e) (h3 : tyOf E e = some te) {n : Nat} (hn : te.size = n + 1) {m : Ren} {H : AH} {w : World} (hr : Rel m H w) {k : AV} {kv : Value} (hk : VR m k kv) :
    ∀ {l : List MEnt} {en : List MapEntry} {i : Nat} {r : Option (Nat × AV)}, EntsR m l en → findA ⟨kyPtr⟩ H k l i = some r → ∃ r', (Instr.findAsking t kv en i).run P w = .ok r' w ∧ FoundR m r r'
  | [], _, i, r, .nil, h => by cases h; exact ⟨_, rfl, .none⟩
  | e' :: l, _, i, r, .cons _ f _ en he hl, h => by
    simp only [findA, ob_some] at h
    obtain ⟨s, hs, h⟩ := h
    cases he with | mk hke hve hbe =>
    have heq : (Op.equal t kv f.key).run P w = .ok s w := by
      simp only [kyPtr] at hs
      split at hs
      · rename_i kk b1 o1 b2 o2 hy
        have hx' := hk
        have hy' := hke
        rw [hy] at hy'
        have := eq_ptr (x := .tmp 0) (y := .tmp 0) hE h1 h2 h3 m H w _ _ kv f.key s hr hx' hy' (by rw [hn]; exact hs)
        obtain ⟨_, q2, _⟩ := this
        obtain ⟨i1, _, e1⟩ := hx'.ptr_inv
        obtain ⟨i2, _, e2⟩ := hy'.ptr_inv
        rw [e1, e2] at q2 ⊢
        have e3 : binOp .eql t (.pointer (some ⟨i1.blk, i1.base + o1, none⟩)) (.pointer (some ⟨i2.blk, i2.base + o2, none⟩)) = (do pure (.bool (← Op.equal t (.pointer (some ⟨i1.blk, i1.base + o1, none⟩)) (.pointer (some ⟨i2.blk, i2.base + o2, none⟩))))) := rfl
        rw [e3] at q2
        simp only [Sem.run_bind] at q2
        generalize (Op.equal t (.pointer (some ⟨i1.blk, i1.base + o1, none⟩)) (.pointer (some ⟨i2.blk, i2.base + o2, none⟩))).run P w = rr at q2 ⊢
        cases rr with
        | ok b w' => simp [Result.andThen] at q2; obtain ⟨rfl, rfl⟩ := q2; rfl
        | halt x w' => simp [Result.andThen] at q2
      · cases hs
    simp only [Instr.findAsking, Sem.run_bind, heq, Result.andThen]
    cases s
    · simp only [bt_false] at h
      simpa using find_ask h1 h2 h3 hn hr hk hl h
    · simp only [bt_true, Option.some.injEq] at h
      subst h
      exact ⟨some (i, f.val), by simp, .some _ _ _ hve⟩
theorem findKey_ok {t : Nat} {q : KyK} (hq : keyK E t = some q) {m : Ren} {H : AH} {w : World} (hr : Rel m H w) {k : AV} {kv : Value} (hk : VR m k kv)
    {l : List MEnt} {en : List MapEntry} {r : Option (Nat × AV)} (hl : EntsR m l en) (h : findA q H k l 0 = some r) :
    ∃ r', (Instr.findKey t kv en).run P w = .ok r' w ∧ FoundR m r r' := by
  have hq0 := hq
  simp only [keyK, ob_some] at hq
  obtain ⟨ti, h1, hq⟩ := hq
  have atoms : ((∃ k, ti.d = .int k) ∨ ti.d = .string ∨ ti.d = .bool) → ∃ r', (Instr.findKey t kv en).run P w = .ok r' w ∧ FoundR m r r' := by
    intro hd
    obtain ⟨r', h2, h3⟩ := find_now h1 hd hq0 hk hl h
    exact ⟨r', by simp [Instr.findKey, run_underlying hE h1, Result.andThen, h2], h3⟩
  cases hd : ti.d <;> rw [hd] at hq <;> simp only [reduceCtorEq] at hq
  case int k => exact atoms (.inl ⟨k, hd⟩)
  case string => exact atoms (.inr (.inl hd))
  case bool => exact atoms (.inr (.inr hd))
  case pointer e =>
    simp only [ob_some] at hq
    obtain ⟨te, h3, hq⟩ := hq
    cases hn : te.size with
    | zero => rw [hn] at hq; simp at hq
    | succ n =>
      rw [hn] at hq; simp only [Option.some.injEq] at hq
      subst hq
      obtain ⟨r', h5, h6⟩ := find_ask hE h1 hd h3 hn hr hk hl h
      cases hl with
      | nil =>
        cases h
        exact ⟨none, by simp [Instr.findKey, run_underlying hE h1, Result.andThen, Instr.findNow], .none⟩
      | cons e' f l en he hl' =>
        have hnow : Instr.findNow (.pointer e) kv (f :: en) 0 = none := by
          simp [Instr.findNow, Instr.sameNow]
        refine ⟨r', ?_, h6⟩
        simp only [Instr.findKey, Sem.run_bind, run_underlying hE h1, Result.andThen, hd, hnow]
        exact h5
theorem keyK_check {t : Nat} {q : KyK} (hq : keyK E t = some q) (b : Bool) (v : Value) (w : World) : (Instr.checkKey b 10000 t v).run P w = .ok () w := by
  simp only [keyK, ob_some] at hq
  obtain ⟨ti, h1, hq⟩ := hq
  refine run_checkKey hE h1 ?_ b v w 9999
  cases hd : ti.d <;> rw [hd] at hq <;> simp_all
theorem look_lk {t kt et : Nat} {x k : Operand} {ok : Bool} {ti te : TI} {q : KyK} {z : AV} (h1 : tyOf E t = some ti) (h2 : ti.d = .map kt et) (hq : keyK E kt = some q) (h3 : tyOf E et = some te) (hz : te.zero = some z)
    (ho : o.op = .lookup t x k ok) : LookOk P ⟨lkA q z ok x k⟩ o := by
  intro m H w T ρ v hr he hk
  simp only [lkA, ob_some, Option.some.injEq] at hk
  obtain ⟨a, g1, b, g2, es, g3, r, g4, rfl⟩ := hk
  have hv1 := he x a g1
  have hv2 := he k b g2
  obtain ⟨zv, hz1, hz2, _⟩ := run_zeroValue (w := w) hE h3 hz
  rcases hr.ents hv1 g3 with ⟨e1, rfl⟩ | ⟨rr, en, clock, e1, hh, hents⟩
  · cases g4
    have : (Instr.findKey kt (ρ k) (#[] : Array MapEntry).toList).run P w = .ok none w := by
      obtain ⟨r', q1, q2⟩ := findKey_ok hE hq hr hv2 EntsR.nil (r := none) rfl
      cases q2; exact q1
    cases ok
    · refine ⟨zv, ?_, hz2 m⟩
      simp only [execOp, ho, e1]; apply run_v
      simp only [Instr.lookup, Sem.run_bind, run_underlying hE h1, Result.andThen, h2, Sem.run_pure, keyK_check hE hq, this, hz1]
      rfl
    · refine ⟨_, ?_, .tup _ [zv, .bool false] (.cons _ _ _ _ (hz2 m) (.cons _ _ _ _ (.bool false) .nil))⟩
      simp only [execOp, ho, e1]; apply run_v
      simp only [Instr.lookup, Sem.run_bind, run_underlying hE h1, Result.andThen, h2, Sem.run_pure, keyK_check hE hq, this, hz1]
      rfl
  · obtain ⟨r', q1, q2⟩ := findKey_ok hE hq hr hv2 hents g4
    cases q2 with
    | none =>
      cases ok
      · refine ⟨zv, ?_, hz2 m⟩
        simp only [execOp, ho, e1]; apply run_v
        simp only [Instr.lookup, Sem.run_bind, run_underlying hE h1, Result.andThen, h2, Sem.run_pure, run_getObj hh (by simp), keyK_check hE hq, q1, hz1]
        rfl
      · refine ⟨_, ?_, .tup _ [zv, .bool false] (.cons _ _ _ _ (hz2 m) (.cons _ _ _ _ (.bool false) .nil))⟩
        simp only [execOp, ho, e1]; apply run_v
        simp only [Instr.lookup, Sem.run_bind, run_underlying hE h1, Result.andThen, h2, Sem.run_pure, run_getObj hh (by simp), keyK_check hE hq, q1, hz1]
        rfl
    | some i a v hv =>
      cases ok
      · refine ⟨v, ?_, hv⟩
        simp only [execOp, ho, e1]; apply run_v
        simp only [Instr.lookup, Sem.run_bind, run_underlying hE h1, Result.andThen, h2, Sem.run_pure, run_getObj hh (by simp), keyK_check hE hq, q1]
        rfl
      · refine ⟨_, ?_, .tup _ [v, .bool true] (.cons _ _ _ _ hv (.cons _ _ _ _ (.bool true) .nil))⟩
        simp only [execOp, ho, e1]; apply run_v
        simp only [Instr.lookup, Sem.run_bind, run_underlying hE h1, Result.andThen, h2, Sem.run_pure, run_getObj hh (by simp), keyK_check hE hq, q1]
        rfl
end
end Go.Xq
