/- A part of the proof that what the evaluator answers is what the machine does. Its conditions stand in each theorem. -/
import Derived.Test.YtgcgpblccnajjacGreatDoorY35
import Derived.Lib.Bytealg
import Derived.Laws.Externs
namespace Go.Xq
/-! ### internal/bytealg.Compare -/
noncomputable def cmpB : Nat → Nat → Nat → Nat → Nat → Int
  | 0, _, _, _, _ => 0
  | f + 1, a, x, b, y => match a, b with
    | 0, 0 => 0
    | 0, _ + 1 => -1
    | _ + 1, 0 => 1
    | a + 1, b + 1 => match Nat.blt (Nat.mod x 256) (Nat.mod y 256) with
      | true => -1
      | false => match Nat.blt (Nat.mod y 256) (Nat.mod x 256) with
        | true => 1
        | false => cmpB f a (Nat.div x 256) b (Nat.div y 256)
noncomputable def cmpA (args : AV) (H : AH) : Option AV :=
  match args with
  | .cons a (.cons b .nil) => ob (bytesA H a) fun p => ob (bytesA H b) fun q => some (.int .i64 (cmpB (Nat.succ p.1) p.1 p.2 q.1 q.2))
  | _ => none
theorem u8_lt (p q : Nat) (hp : p < 256) (hq : q < 256) : UInt8.ofNat p < UInt8.ofNat q ↔ p < q := by
  rw [UInt8.lt_iff_toNat_lt]
  simp [Nat.mod_eq_of_lt hp, Nat.mod_eq_of_lt hq]
theorem cmpB_eq : ∀ (f a x b y : Nat), a < f → cmpB f a x b y = Lib.compareBytes (bytesN a x) (bytesN b y)
  | 0, a, _, _, _, h => by omega
  | f + 1, 0, x, 0, y, _ => rfl
  | f + 1, 0, x, b + 1, y, _ => rfl
  | f + 1, a + 1, x, 0, y, _ => rfl
  | f + 1, a + 1, x, b + 1, y, h => by
    have hx : x % 256 < 256 := Nat.mod_lt _ (by decide)
    have hy : y % 256 < 256 := Nat.mod_lt _ (by decide)
    simp only [cmpB, bytesN, Lib.compareBytes, u8_lt _ _ hx hy, u8_lt _ _ hy hx]
    have e1 : Nat.mod x 256 = x % 256 := rfl
    have e2 : Nat.mod y 256 = y % 256 := rfl
    rw [e1, e2]
    cases h1 : Nat.blt (x % 256) (y % 256) with
    | true => rw [Nat.blt_eq] at h1; rw [if_pos h1]
    | false =>
      have h1' : ¬ x % 256 < y % 256 := fun g => by rw [← Nat.blt_eq] at g; rw [g] at h1; cases h1
      rw [if_neg h1']
      cases h2 : Nat.blt (y % 256) (x % 256) with
      | true => rw [Nat.blt_eq] at h2; rw [if_pos h2]
      | false =>
        have h2' : ¬ y % 256 < x % 256 := fun g => by rw [← Nat.blt_eq] at g; rw [g] at h2; cases h2
        rw [if_neg h2']
        exact cmpB_eq f a (x / 256) b (y / 256) (by omega)
section
variable {P : Program}
theorem loadBytes_ok {w : World} {blk : Nat} : ∀ (len n off : Nat) (acc : ByteArray), (∀ k, k < len → w.cell? ⟨blk, off + k, none⟩ = some (.int .u8 (.ofNat (byteAt n k)))) →
    (Extern.Bytes.loadBytes ⟨blk, off, none⟩ len acc).run P w = .ok ⟨acc.data ++ (bytesN len n).toArray⟩ w
  | 0, n, off, acc, _ => by simp [Extern.Bytes.loadBytes, bytesN]
  | len + 1, n, off, acc, h => by
    have h0 := h 0 (by omega)
    have e0 : byteAt n 0 = n % 256 := by rw [byteAt_eq]; simp
    rw [Nat.add_zero, e0] at h0
    have ih := loadBytes_ok len (n / 256) (off + 1) (acc.push (UInt8.ofNat (n % 256))) (fun k hk => by
      have := h (k + 1) (by omega)
      have e : byteAt n (k + 1) = byteAt (n / 256) k := by
        have := byteAt_div n 1 k
        rw [Nat.pow_one] at this
        rw [this, Nat.add_comm]
      rw [e] at this
      rw [← this]; congr 2; omega)
    have ea : (⟨blk, off, none⟩ : Addr).add 1 = ⟨blk, off + 1, none⟩ := by simp [Addr.add]
    simp only [Extern.Bytes.loadBytes, Sem.run_bind, run_load, h0, Result.andThen, ea]
    have eb : (Int.ofNat (n % 256)).toNat.toUInt8 = UInt8.ofNat (n % 256) := rfl
    rw [eb, ih]
    congr 1
    apply ByteArray.ext
    simp [ByteArray.push, bytesN]
theorem bytesOf_ok {m : Ren} {H : AH} {w : World} (hr : Rel m H w) {a : AV} {v : Value} {l n : Nat} (hv : VR m a v) (h : bytesA H a = some (l, n)) : (Extern.Bytes.bytesOf v).run P w = .ok ⟨(bytesN l n).toArray⟩ w := by
  cases a <;> simp only [bytesA, reduceCtorEq, Option.some.injEq, Prod.mk.injEq] at h
  · obtain ⟨rfl, rfl⟩ := h
    rw [hv.snil_inv]; rfl
  · obtain ⟨s, rfl, e1, e2⟩ := hv.str_inv
    obtain ⟨rfl, rfl⟩ := h
    rw [e1, e2, bytesN_leNat]
    rfl
  · obtain ⟨ad, c', e1, _, hc⟩ := hv.sl_inv
    rcases hc with ⟨i, hi, rfl, _⟩ | ⟨rfl, rfl, _⟩
    · obtain ⟨rfl, _, hall⟩ := bytesSl_ok hr (fun _ => hi) h
      rw [e1]
      have := loadBytes_ok (P := P) (w := w) l n (i.base + _) .empty hall
      simpa [Extern.Bytes.bytesOf] using this
    · simp [bytesSl] at h
      obtain ⟨rfl, rfl⟩ := h
      rw [e1]; rfl
theorem cmpA_ok {f : FuncId} {fn : Func} (hf : P.funcs[f]? = some fn) (hname : (fn.name == "runtime.NumGoroutine") = false) (hb : fn.body.isNone = true) (hn : Extern.findNext fn = none) (he : Extern.find fn = some Extern.BytealgCompare.compare)
    {args : AV} {H : AH} {v : AV} (h : cmpA args H = some v) {m : Ren} {w : World} {vs : List Value} (hr : Rel m H w) (hl : VL m args vs) : ∃ v', (callFunc f vs.toArray).run P w = .ok (.value v') w ∧ VR m v v' := by
  unfold cmpA at h
  split at h
  rotate_left
  · cases h
  rename_i a b
  simp only [ob_some, Option.some.injEq] at h
  obtain ⟨⟨l, n⟩, h1, ⟨k, q⟩, h2, rfl⟩ := h
  cases hl with | cons _ va _ vl ha hl =>
  cases hl with | cons _ vb _ vl hb' hl =>
  cases hl
  refine ⟨.int .i64 (cmpB (Nat.succ l) l n k q), ?_, .int _ _⟩
  rw [run_callFunc_extern hf hname hb hn he]
  have e1 := bytesOf_ok (P := P) hr ha h1
  have e2 := bytesOf_ok (P := P) hr hb' h2
  have : (Extern.BytealgCompare.compare #[va, vb]).run P w = .ok (.int .i64 (cmpB (Nat.succ l) l n k q)) w := by
    change Sem.run P (do pure (goInt (Extern.BytealgCompare.cmp (← Extern.Bytes.bytesOf va) (← Extern.Bytes.bytesOf vb)))) w = _
    simp only [Sem.run_bind, e1, e2, Result.andThen, Sem.run_pure]
    rw [Lib.cmp_eq, cmpB_eq _ _ _ _ _ (Nat.lt_succ_self l)]
    rfl
  rw [this]; rfl
end
end Go.Xq
