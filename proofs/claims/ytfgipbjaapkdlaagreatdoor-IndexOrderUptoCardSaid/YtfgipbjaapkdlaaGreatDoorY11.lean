/- A part of the proof that the evaluator is right. Conditions: in each theorem. -/
import Derived.Test.YtfgipbjaapkdlaaGreatDoorY10
import Derived.Lib.Bytealg
import Derived.Laws.Externs
import Derived.Laws.Bits64
import Derived.Laws.Bits64b
import Derived.ChangeSame
import Derived.Below
namespace Go.Xq
noncomputable def cmpB : Nat → Nat → Nat → Nat → Nat → Int
  | 0, _, _, _, _ => 0
  | f + 1, a, x, b, y => match a, b with
    | 0, 0 => 0
    | 0, _ + 1 => -1
    | _ + 1, 0 => 1
    | a + 1, b + 1 => match Nat.blt (Nat.mod x 256) (Nat.mod y 256) with
      | true => -1
      | false => match Nat.blt (Nat.mod y 256) (Nat.mod x 256) with
        | true => 1
        | false => cmpB f a (Nat.div x 256) b (Nat.div y 256)
noncomputable def cmpA (args : AV) (H : AH) : Option AV :=
  match args with
  | .cons a (.cons b .nil) => ob (bytesA H a) fun p => ob (bytesA H b) fun q => some (.int .i64 (cmpB (Nat.succ p.1) p.1 p.2 q.1 q.2))
  | _ => none
theorem u8_lt (p q : Nat) (hp : p < 256) (hq : q < 256) : UInt8.ofNat p < UInt8.ofNat q ↔ p < q := by
  rw [UInt8.lt_iff_toNat_lt]
  simp [Nat.mod_eq_of_lt hp, Nat.mod_eq_of_lt hq]
theorem cmpB_eq : ∀ (f a x b y : Nat), a < f → cmpB f a x b y = Lib.compareBytes (bytesN a x) (bytesN b y)
  | 0, a, _, _, _, h => by omega
  | f + 1, 0, x, 0, y, _ => rfl
  | f + 1, 0, x, b + 1, y, _ => rfl
  | f + 1, a + 1, x, 0, y, _ => rfl
  | f + 1, a + 1, x, b + 1, y, h => by
    have hx : x % 256 < 256 := Nat.mod_lt _ (by decide)
    have hy : y % 256 < 256 := Nat.mod_lt _ (by decide)
    simp only [cmpB, bytesN, Lib.compareBytes, u8_lt _ _ hx hy, u8_lt _ _ hy hx]
    have e1 : Nat.mod x 256 = x % 256 := rfl
    have e2 : Nat.mod y 256 = y % 256 := rfl
    rw [e1, e2]
    cases h1 : Nat.blt (x % 256) (y % 256) with
    | true => rw [Nat.blt_eq] at h1; rw [if_pos h1]
    | false =>
      have h1' : ¬ x % 256 < y % 256 := fun g => by rw [← Nat.blt_eq] at g; rw [g] at h1; cases h1
      rw [if_neg h1']
      cases h2 : Nat.blt (y % 256) (x % 256) with
      | true => rw [Nat.blt_eq] at h2; rw [if_pos h2]
      | false =>
        have h2' : ¬ y % 256 < x % 256 := fun g => by rw [← Nat.blt_eq] at g; rw [g] at h2; cases h2
        rw [if_neg h2']
        exact cmpB_eq f a (x / 256) b (y / 256) (by omega)
section
variable {P : Program}
theorem loadBytes_ok {w : World} {blk : Nat} : ∀ (len n off : Nat) (acc : ByteArray), (∀ k, k < len → w.cell? ⟨blk, off + k, none⟩ = some (.int .u8 (.ofNat (byteAt n k)))) →
    (Extern.Bytes.loadBytes ⟨blk, off, none⟩ len acc).run P w = .ok ⟨acc.data ++ (bytesN len n).toArray⟩ w
  | 0, n, off, acc, _ => by simp [Extern.Bytes.loadBytes, bytesN]
  | len + 1, n, off, acc, h => by
    have h0 := h 0 (by omega)
    have e0 : byteAt n 0 = n % 256 := by rw [byteAt_eq]; simp
    rw [Nat.add_zero, e0] at h0
    have ih := loadBytes_ok len (n / 256) (off + 1) (acc.push (UInt8.ofNat (n % 256))) (fun k hk => by
      have := h (k + 1) (by omega)
      have e : byteAt n (k + 1) = byteAt (n / 256) k := by
        have := byteAt_div n 1 k
        rw [Nat.pow_one] at this
        rw [this, Nat.add_comm]
      rw [e] at this
      rw [← this]; congr 2; omega)
    have ea : (⟨blk, off, none⟩ : Addr).add 1 = ⟨blk, off + 1, none⟩ := by simp [Addr.add]
    simp only [Extern.Bytes.loadBytes, Sem.run_bind, run_load, h0, Result.andThen, ea]
    have eb : (Int.ofNat (n % 256)).toNat.toUInt8 = UInt8.ofNat (n % 256) := rfl
    rw [eb, ih]
    congr 1
    apply ByteArray.ext
    simp [ByteArray.push, bytesN]
theorem bytesOf_ok {m : Ren} {H : AH} {w : World} (hr : Rel m H w) {a : AV} {v : Value} {l n : Nat} (hv : VR m a v) (h : bytesA H a = some (l, n)) : (Extern.Bytes.bytesOf v).run P w = .ok ⟨(bytesN l n).toArray⟩ w := by
  cases a <;> simp only [bytesA, reduceCtorEq, Option.some.injEq, Prod.mk.injEq] at h
  · obtain ⟨rfl, rfl⟩ := h
    rw [hv.snil_inv]; rfl
  · obtain ⟨s, rfl, e1, e2⟩ := hv.str_inv
    obtain ⟨rfl, rfl⟩ := h
    rw [e1, e2, bytesN_leNat]
    rfl
  · obtain ⟨ad, c', e1, _, hc⟩ := hv.sl_inv
    rcases hc with ⟨i, hi, rfl, _⟩ | ⟨rfl, rfl, _⟩
    · obtain ⟨rfl, _, hall⟩ := bytesSl_ok hr (fun _ => hi) h
      rw [e1]
      have := loadBytes_ok (P := P) (w := w) l n (i.base + _) .empty hall
      simpa [Extern.Bytes.bytesOf] using this
    · simp [bytesSl] at h
      obtain ⟨rfl, rfl⟩ := h
      rw [e1]; rfl
theorem cmpA_ok {f : FuncId} {fn : Func} (hf : P.funcs[f]? = some fn) (hname : (fn.name == "runtime.NumGoroutine") = false) (hb : fn.body.isNone = true) (hn : Extern.findNext fn = none) (he : Extern.find fn = some Extern.BytealgCompare.compare)
    {args : AV} {H : AH} {v : AV} (h : cmpA args H = some v) {m : Ren} {w : World} {vs : List Value} (hr : Rel m H w) (hl : VL m args vs) : ∃ v', (callFunc f vs.toArray).run P w = .ok (.value v') w ∧ VR m v v' := by
  unfold cmpA at h
  split at h
  rotate_left
  · cases h
  rename_i a b
  simp only [ob_some, Option.some.injEq] at h
  obtain ⟨⟨l, n⟩, h1, ⟨k, q⟩, h2, rfl⟩ := h
  cases hl with | cons _ va _ vl ha hl =>
  cases hl with | cons _ vb _ vl hb' hl =>
  cases hl
  refine ⟨.int .i64 (cmpB (Nat.succ l) l n k q), ?_, .int _ _⟩
  rw [run_callFunc_extern hf hname hb hn he]
  have e1 := bytesOf_ok (P := P) hr ha h1
  have e2 := bytesOf_ok (P := P) hr hb' h2
  have : (Extern.BytealgCompare.compare #[va, vb]).run P w = .ok (.int .i64 (cmpB (Nat.succ l) l n k q)) w := by
    change Sem.run P (do pure (goInt (Extern.BytealgCompare.cmp (← Extern.Bytes.bytesOf va) (← Extern.Bytes.bytesOf vb)))) w = _
    simp only [Sem.run_bind, e1, e2, Result.andThen, Sem.run_pure]
    rw [Lib.cmp_eq, cmpB_eq _ _ _ _ _ (Nat.lt_succ_self l)]
    rfl
  rw [this]; rfl
end
end Go.Xq
namespace Go.Xq
def crcBig : Nat := 12749536319551302420830055290731983042906869231766370170184255228463894984119587222357463453493748006886229547019502462691509165827871124329361635492757504
noncomputable def tblN (i : Nat) : Nat := Nat.mod (Nat.shiftRight crcBig (Nat.mul 32 i)) 4294967296
noncomputable def halfN (r : Nat) : Nat := Nat.xor (tblN (Nat.mod r 16)) (Nat.shiftRight r 4)
noncomputable def crcN : Nat → Nat → Nat → Nat
  | 0, _, r => r
  | f + 1, n, r => crcN f (Nat.div n 256) (halfN (halfN (Nat.xor r (Nat.mod n 256))))
noncomputable def sumN (len n : Nat) : Nat := Nat.xor (crcN len n 4294967295) 4294967295
theorem tblN_lt (i : Nat) : tblN i < 4294967296 := Nat.mod_lt _ (by decide)
theorem xor_lt32 {a b : Nat} (ha : a < 4294967296) (hb : b < 4294967296) : a ^^^ b < 4294967296 := Nat.xor_lt_two_pow (n := 32) ha hb
theorem halfN_eq (r : Nat) : halfN r = tblN (r % 16) ^^^ (r / 16) := by
  show tblN (r % 16) ^^^ (r >>> 4) = _
  rw [Nat.shiftRight_eq_div_pow]
theorem halfN_lt {r : Nat} (h : r < 4294967296) : halfN r < 4294967296 := by
  rw [halfN_eq]; exact xor_lt32 (tblN_lt _) (by omega)
theorem wrap_u32 (n : Int) : IntKind.u32.wrap n = n % 4294967296 := by simp [IntKind.wrap, IntKind.bits, IntKind.signed]
theorem bits_xor_u32_nat (a b : Nat) (ha : a < 4294967296) (hb : b < 4294967296) :
    Go.bits .xor .u32 (a : Int) (b : Int) = ((a ^^^ b : Nat) : Int) := by
  have hx : a ^^^ b < 2 ^ 32 := Nat.xor_lt_two_pow (by omega) (by omega)
  have h1 : (BitVec.ofInt 32 (a : Int)).toNat = a := by
    rw [BitVec.ofInt_natCast, BitVec.toNat_ofNat]; exact Nat.mod_eq_of_lt (by omega)
  have h2 : (BitVec.ofInt 32 (b : Int)).toNat = b := by
    rw [BitVec.ofInt_natCast, BitVec.toNat_ofNat]; exact Nat.mod_eq_of_lt (by omega)
  show IntKind.u32.wrap ((BitVec.ofInt 32 (a : Int) ^^^ BitVec.ofInt 32 (b : Int)).toNat : Int) = _
  rw [BitVec.toNat_xor, h1, h2, wrap_u32]
  omega
theorem bits_and15_u32 (a : Nat) (ha : a < 4294967296) : Go.bits .and .u32 (a : Int) 15 = ((a % 16 : Nat) : Int) := by
  have hx : a &&& 15 < 2 ^ 32 := Nat.and_lt_two_pow _ (by omega)
  have h1 : (BitVec.ofInt 32 (a : Int)).toNat = a := by
    rw [BitVec.ofInt_natCast, BitVec.toNat_ofNat]; exact Nat.mod_eq_of_lt (by omega)
  have h2 : (BitVec.ofInt 32 15).toNat = 15 := by decide
  have h3 : a &&& 15 = a % 16 := Nat.and_two_pow_sub_one_eq_mod (n := 4) a
  show IntKind.u32.wrap ((BitVec.ofInt 32 (a : Int) &&& BitVec.ofInt 32 15).toNat : Int) = _
  rw [BitVec.toNat_and, h1, h2, wrap_u32, h3]
  omega
end Go.Xq
namespace Go.Xq
theorem XC.of_calls {P : Program} {f : FuncId} {args : Array Value} {w : World} {Q : Value → World → Prop} (h : Calls P f args w fun e w' => ∃ v, e = .returned v ∧ Q v w') : XC P .normal f args w Q := by
  intro cs _
  obtain ⟨e, w', fr, ⟨v, rfl, hq⟩, hc, hfn, hl⟩ := h cs
  obtain ⟨h1, h2, h3, h4⟩ := hl
  exact ⟨v, w', fr, hq, hc, h3, hfn, ⟨h1, h2, h4⟩⟩
theorem St.below {m : Ren} {H : AH} {w w' : World} (hr : Rel m H w) (h : RowKit.Below w.heap.size w w') : St m H w m H w' := by
  refine ⟨⟨fun b o hb i hi => ?_, hr.inj, fun b i hi => ⟨(hr.bnd b i hi).1, Nat.lt_of_lt_of_le (hr.bnd b i hi).2 h.size⟩, hr.glob⟩, Ext.refl _ _, Nat.le_refl _, h.os, h.output, h.size, fun k hk _ => h.block k hk, fun b i hi hl => .inr ⟨b, i, hi, hl, rfl⟩⟩
  obtain ⟨x, h1, h2⟩ := hr.live b o hb i hi
  exact ⟨x, by rw [h.block _ (hr.bnd b i hi).2]; exact h1, h2⟩
structure KeptAll (w w' : World) : Prop where
  os : w'.os = w.os
  output : w'.output = w.output
  size : w.heap.size ≤ w'.heap.size
  block : ∀ k, k < w.heap.size → w'.heap[k]? = w.heap[k]?
theorem KeptAll.but {w w' : World} (h : KeptAll w w') (may : MemPlace → Prop) : w.keptBut w' may := by
  refine ⟨h.os, h.output, fun i hi => ?_⟩
  rw [h.block i hi]
  cases w.heap[i]? with
  | none => rfl
  | some o => cases o <;> simp
noncomputable def isT : Option (AV × AH) → Bool
  | some (.bool b, _) => b
  | _ => false
end Go.Xq
namespace Go.Xq
theorem u8_beq (p q : Nat) (hp : p < 256) (hq : q < 256) : (UInt8.ofNat p == UInt8.ofNat q) = Nat.beq p q := by
  rw [Bool.eq_iff_iff, beq_iff_eq, ← UInt8.toNat_inj, Nat.beq_eq]
  simp [Nat.mod_eq_of_lt hp, Nat.mod_eq_of_lt hq]
noncomputable def cntN : Nat → Nat → Nat → Nat
  | 0, _, _ => 0
  | l + 1, n, c => match Nat.beq (Nat.mod n 256) c with
    | true => Nat.succ (cntN l (Nat.div n 256) c)
    | false => cntN l (Nat.div n 256) c
noncomputable def idxN : Nat → Nat → Nat → Nat → Int
  | 0, _, _, _ => -1
  | l + 1, n, c, i => match Nat.beq (Nat.mod n 256) c with
    | true => .ofNat i
    | false => idxN l (Nat.div n 256) c (Nat.succ i)
theorem cntN_eq (c : Nat) (hc : c < 256) : ∀ l n, cntN l n c = Lib.countByte (bytesN l n) (UInt8.ofNat c)
  | 0, _ => rfl
  | l + 1, n => by
    have ih := cntN_eq c hc l (n / 256)
    unfold Lib.countByte at *
    have hb := u8_beq (n % 256) c (Nat.mod_lt _ (by decide)) hc
    simp only [bytesN, List.count_cons, hb]
    show (match Nat.beq (n % 256) c with | true => Nat.succ (cntN l (n / 256) c) | false => cntN l (n / 256) c) = _
    rw [ih]
    cases Nat.beq (n % 256) c <;> rfl
theorem idxN_eq (c : Nat) (hc : c < 256) : ∀ l n i, idxN l n c i = if Lib.indexByte (bytesN l n) (UInt8.ofNat c) = -1 then -1 else Lib.indexByte (bytesN l n) (UInt8.ofNat c) + i
  | 0, _, _ => rfl
  | l + 1, n, i => by
    have ih := idxN_eq c hc l (n / 256) (i + 1)
    have hb := u8_beq (n % 256) c (Nat.mod_lt _ (by decide)) hc
    have hge := Lib.indexByte_ge (bytesN l (n / 256)) (UInt8.ofNat c)
    simp only [bytesN, Lib.indexByte, hb]
    show (match Nat.beq (n % 256) c with | true => Int.ofNat i | false => idxN l (n / 256) c (i + 1)) = _
    cases Nat.beq (n % 256) c with
    | true => simp
    | false =>
      simp only [Bool.false_eq_true, if_false]
      rw [ih]
      by_cases h : Lib.indexByte (bytesN l (n / 256)) (UInt8.ofNat c) = -1
      · simp [h]
      · have h2 : (Lib.indexByte (bytesN l (n / 256)) (UInt8.ofNat c) == -1) = false := by simpa using h
        rw [if_neg h]
        simp only [h2, Bool.false_eq_true, if_false]
        rw [if_neg (by omega)]
        omega
noncomputable def cntA (args : AV) (H : AH) : Option AV :=
  match args with
  | .cons a (.cons (.int .u8 (.ofNat c)) .nil) => ob (bytesA H a) fun p => bt (Nat.blt c 256) (some (.int .i64 (.ofNat (cntN p.1 p.2 c)))) none
  | _ => none
noncomputable def idxA (args : AV) (H : AH) : Option AV :=
  match args with
  | .cons a (.cons (.int .u8 (.ofNat c)) .nil) => ob (bytesA H a) fun p => bt (Nat.blt c 256) (some (.int .i64 (idxN p.1 p.2 c 0))) none
  | _ => none
section
variable {P : Program}
theorem cntA_ok {f : FuncId} {fn : Func} (hf : P.funcs[f]? = some fn) (hname : (fn.name == "runtime.NumGoroutine") = false) (hb : fn.body.isNone = true) (hn : Extern.findNext fn = none) (he : Extern.find fn = some Extern.BytealgCount.count)
    {args : AV} {H : AH} {v : AV} (h : cntA args H = some v) {m : Ren} {w : World} {vs : List Value} (hr : Rel m H w) (hl : VL m args vs) : ∃ v', (callFunc f vs.toArray).run P w = .ok (.value v') w ∧ VR m v v' := by
  unfold cntA at h
  split at h
  rotate_left
  · cases h
  rename_i a c
  simp only [ob_some, bt_some, Option.some.injEq] at h
  obtain ⟨⟨l, n⟩, h1, h2, rfl⟩ := h
  have h2 : c < 256 := by simpa [Nat.blt_eq] using h2
  cases hl with | cons _ va _ vl ha hl =>
  cases hl with | cons _ vb _ vl hb' hl =>
  cases hl
  have eb := hb'.int_inv
  subst eb
  refine ⟨.int .i64 (cntN l n c : Nat), ?_, .int _ _⟩
  rw [run_callFunc_extern hf hname hb hn he]
  have e1 := bytesOf_ok (P := P) hr ha h1
  have e2 := Lib.run_countString (P := P) ⟨(bytesN l n).toArray⟩ (Int.ofNat c) w
  have : (Extern.BytealgCount.count #[va, .int .u8 (.ofNat c)]).run P w = .ok (.int .i64 (cntN l n c : Nat)) w := by
    rw [cntN_eq c h2]
    change Sem.run P (do
      let b ← Extern.Bytes.bytesOf va
      let c' ← Extern.Bytes.asByte (.int .u8 (.ofNat c))
      pure (goInt (b.foldl (fun n x => if x == c' then n + 1 else n) (0 : Nat)))) w = _
    change Sem.run P (do
      let b ← Extern.Bytes.bytesOf (.string ⟨(bytesN l n).toArray⟩)
      let c' ← Extern.Bytes.asByte (.int .u8 (.ofNat c))
      pure (goInt (b.foldl (fun n x => if x == c' then n + 1 else n) (0 : Nat)))) w = _ at e2
    simp only [Extern.Bytes.bytesOf, Sem.run_bind, Sem.run_pure, Result.andThen] at e2
    simp only [Sem.run_bind, e1, Result.andThen]
    exact e2
  rw [this]; rfl
theorem idxA_ok {f : FuncId} {fn : Func} (hf : P.funcs[f]? = some fn) (hname : (fn.name == "runtime.NumGoroutine") = false) (hb : fn.body.isNone = true) (hn : Extern.findNext fn = none) (he : Extern.find fn = some Extern.BytealgIndexByte.indexByte)
    {args : AV} {H : AH} {v : AV} (h : idxA args H = some v) {m : Ren} {w : World} {vs : List Value} (hr : Rel m H w) (hl : VL m args vs) : ∃ v', (callFunc f vs.toArray).run P w = .ok (.value v') w ∧ VR m v v' := by
  unfold idxA at h
  split at h
  rotate_left
  · cases h
  rename_i a c
  simp only [ob_some, bt_some, Option.some.injEq] at h
  obtain ⟨⟨l, n⟩, h1, h2, rfl⟩ := h
  have h2 : c < 256 := by simpa [Nat.blt_eq] using h2
  cases hl with | cons _ va _ vl ha hl =>
  cases hl with | cons _ vb _ vl hb' hl =>
  cases hl
  have eb := hb'.int_inv
  subst eb
  refine ⟨.int .i64 (idxN l n c 0), ?_, .int _ _⟩
  rw [run_callFunc_extern hf hname hb hn he]
  have e1 := bytesOf_ok (P := P) hr ha h1
  have e2 := Lib.run_indexByteString (P := P) ⟨(bytesN l n).toArray⟩ (Int.ofNat c) w
  have : (Extern.BytealgIndexByte.indexByte #[va, .int .u8 (.ofNat c)]).run P w = .ok (.int .i64 (idxN l n c 0)) w := by
    have e3 : idxN l n c 0 = Lib.indexByte (bytesN l n) (UInt8.ofNat c) := by
      rw [idxN_eq c h2]; split
      · rename_i h; rw [h]
      · simp
    rw [e3]
    change Sem.run P (do
      let b ← Extern.Bytes.bytesOf va
      let c ← Extern.Bytes.asByte (.int .u8 (.ofNat c))
      match (List.range b.size).find? fun i => b[i]! == c with
      | some i => pure (goInt i)
      | none => pure (goInt (-1))) w = _
    change Sem.run P (do
      let b ← Extern.Bytes.bytesOf (.string ⟨(bytesN l n).toArray⟩)
      let c ← Extern.Bytes.asByte (.int .u8 (.ofNat c))
      match (List.range b.size).find? fun i => b[i]! == c with
      | some i => pure (goInt i)
      | none => pure (goInt (-1))) w = _ at e2
    simp only [Extern.Bytes.bytesOf, Sem.run_bind, Sem.run_pure, Result.andThen] at e2
    simp only [Sem.run_bind, e1, Result.andThen]
    exact e2
  rw [this]; rfl
end
end Go.Xq
