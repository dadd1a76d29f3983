/- A part of the proof that what the evaluator answers is what the machine does. Its conditions stand in each theorem. -/
import Derived.Test.YtgcgpblccnajjacGreatDoorY38
namespace Go.Xq
/-! ### internal/bytealg.Count, IndexByte -/
theorem u8_beq (p q : Nat) (hp : p < 256) (hq : q < 256) : (UInt8.ofNat p == UInt8.ofNat q) = Nat.beq p q := by
  rw [Bool.eq_iff_iff, beq_iff_eq, ← UInt8.toNat_inj, Nat.beq_eq]
  simp [Nat.mod_eq_of_lt hp, Nat.mod_eq_of_lt hq]
noncomputable def cntN : Nat → Nat → Nat → Nat
  | 0, _, _ => 0
  | l + 1, n, c => match Nat.beq (Nat.mod n 256) c with
    | true => Nat.succ (cntN l (Nat.div n 256) c)
    | false => cntN l (Nat.div n 256) c
noncomputable def idxN : Nat → Nat → Nat → Nat → Int
  | 0, _, _, _ => -1
  | l + 1, n, c, i => match Nat.beq (Nat.mod n 256) c with
    | true => .ofNat i
    | false => idxN l (Nat.div n 256) c (Nat.succ i)
theorem cntN_eq (c : Nat) (hc : c < 256) : ∀ l n, cntN l n c = Lib.countByte (bytesN l n) (UInt8.ofNat c)
  | 0, _ => rfl
  | l + 1, n => by
    have ih := cntN_eq c hc l (n / 256)
    unfold Lib.countByte at *
    have hb := u8_beq (n % 256) c (Nat.mod_lt _ (by decide)) hc
    simp only [bytesN, List.count_cons, hb]
    show (match Nat.beq (n % 256) c with | true => Nat.succ (cntN l (n / 256) c) | false => cntN l (n / 256) c) = _
    rw [ih]
    cases Nat.beq (n % 256) c <;> rfl
theorem idxN_eq (c : Nat) (hc : c < 256) : ∀ l n i, idxN l n c i = if Lib.indexByte (bytesN l n) (UInt8.ofNat c) = -1 then -1 else Lib.indexByte (bytesN l n) (UInt8.ofNat c) + i
  | 0, _, _ => rfl
  | l + 1, n, i => by
    have ih := idxN_eq c hc l (n / 256) (i + 1)
    have hb := u8_beq (n % 256) c (Nat.mod_lt _ (by decide)) hc
    have hge := Lib.indexByte_ge (bytesN l (n / 256)) (UInt8.ofNat c)
    simp only [bytesN, Lib.indexByte, hb]
    show (match Nat.beq (n % 256) c with | true => Int.ofNat i | false => idxN l (n / 256) c (i + 1)) = _
    cases Nat.beq (n % 256) c with
    | true => simp
    | false =>
      simp only [Bool.false_eq_true, if_false]
      rw [ih]
      by_cases h : Lib.indexByte (bytesN l (n / 256)) (UInt8.ofNat c) = -1
      · simp [h]
      · have h2 : (Lib.indexByte (bytesN l (n / 256)) (UInt8.ofNat c) == -1) = false := by simpa using h
        rw [if_neg h]
        simp only [h2, Bool.false_eq_true, if_false]
        rw [if_neg (by omega)]
        omega
noncomputable def cntA (args : AV) (H : AH) : Option AV :=
  match args with
  | .cons a (.cons (.int .u8 (.ofNat c)) .nil) => ob (bytesA H a) fun p => bt (Nat.blt c 256) (some (.int .i64 (.ofNat (cntN p.1 p.2 c)))) none
  | _ => none
noncomputable def idxA (args : AV) (H : AH) : Option AV :=
  match args with
  | .cons a (.cons (.int .u8 (.ofNat c)) .nil) => ob (bytesA H a) fun p => bt (Nat.blt c 256) (some (.int .i64 (idxN p.1 p.2 c 0))) none
  | _ => none
section
variable {P : Program}
theorem cntA_ok {f : FuncId} {fn : Func} (hf : P.funcs[f]? = some fn) (hname : (fn.name == "runtime.NumGoroutine") = false) (hb : fn.body.isNone = true) (hn : Extern.findNext fn = none) (he : Extern.find fn = some Extern.BytealgCount.count)
    {args : AV} {H : AH} {v : AV} (h : cntA args H = some v) {m : Ren} {w : World} {vs : List Value} (hr : Rel m H w) (hl : VL m args vs) : ∃ v', (callFunc f vs.toArray).run P w = .ok (.value v') w ∧ VR m v v' := by
  unfold cntA at h
  split at h
  rotate_left
  · cases h
  rename_i a c
  simp only [ob_some, bt_some, Option.some.injEq] at h
  obtain ⟨⟨l, n⟩, h1, h2, rfl⟩ := h
  have h2 : c < 256 := by simpa [Nat.blt_eq] using h2
  cases hl with | cons _ va _ vl ha hl =>
  cases hl with | cons _ vb _ vl hb' hl =>
  cases hl
  have eb := hb'.int_inv
  subst eb
  refine ⟨.int .i64 (cntN l n c : Nat), ?_, .int _ _⟩
  rw [run_callFunc_extern hf hname hb hn he]
  have e1 := bytesOf_ok (P := P) hr ha h1
  have e2 := Lib.run_countString (P := P) ⟨(bytesN l n).toArray⟩ (Int.ofNat c) w
  have : (Extern.BytealgCount.count #[va, .int .u8 (.ofNat c)]).run P w = .ok (.int .i64 (cntN l n c : Nat)) w := by
    rw [cntN_eq c h2]
    change Sem.run P (do
      let b ← Extern.Bytes.bytesOf va
      let c' ← Extern.Bytes.asByte (.int .u8 (.ofNat c))
      pure (goInt (b.foldl (fun n x => if x == c' then n + 1 else n) (0 : Nat)))) w = _
    change Sem.run P (do
      let b ← Extern.Bytes.bytesOf (.string ⟨(bytesN l n).toArray⟩)
      let c' ← Extern.Bytes.asByte (.int .u8 (.ofNat c))
      pure (goInt (b.foldl (fun n x => if x == c' then n + 1 else n) (0 : Nat)))) w = _ at e2
    simp only [Extern.Bytes.bytesOf, Sem.run_bind, Sem.run_pure, Result.andThen] at e2
    simp only [Sem.run_bind, e1, Result.andThen]
    exact e2
  rw [this]; rfl
theorem idxA_ok {f : FuncId} {fn : Func} (hf : P.funcs[f]? = some fn) (hname : (fn.name == "runtime.NumGoroutine") = false) (hb : fn.body.isNone = true) (hn : Extern.findNext fn = none) (he : Extern.find fn = some Extern.BytealgIndexByte.indexByte)
    {args : AV} {H : AH} {v : AV} (h : idxA args H = some v) {m : Ren} {w : World} {vs : List Value} (hr : Rel m H w) (hl : VL m args vs) : ∃ v', (callFunc f vs.toArray).run P w = .ok (.value v') w ∧ VR m v v' := by
  unfold idxA at h
  split at h
  rotate_left
  · cases h
  rename_i a c
  simp only [ob_some, bt_some, Option.some.injEq] at h
  obtain ⟨⟨l, n⟩, h1, h2, rfl⟩ := h
  have h2 : c < 256 := by simpa [Nat.blt_eq] using h2
  cases hl with | cons _ va _ vl ha hl =>
  cases hl with | cons _ vb _ vl hb' hl =>
  cases hl
  have eb := hb'.int_inv
  subst eb
  refine ⟨.int .i64 (idxN l n c 0), ?_, .int _ _⟩
  rw [run_callFunc_extern hf hname hb hn he]
  have e1 := bytesOf_ok (P := P) hr ha h1
  have e2 := Lib.run_indexByteString (P := P) ⟨(bytesN l n).toArray⟩ (Int.ofNat c) w
  have : (Extern.BytealgIndexByte.indexByte #[va, .int .u8 (.ofNat c)]).run P w = .ok (.int .i64 (idxN l n c 0)) w := by
    have e3 : idxN l n c 0 = Lib.indexByte (bytesN l n) (UInt8.ofNat c) := by
      rw [idxN_eq c h2]; split
      · rename_i h; rw [h]
      · simp
    rw [e3]
    change Sem.run P (do
      let b ← Extern.Bytes.bytesOf va
      let c ← Extern.Bytes.asByte (.int .u8 (.ofNat c))
      match (List.range b.size).find? fun i => b[i]! == c with
      | some i => pure (goInt i)
      | none => pure (goInt (-1))) w = _
    change Sem.run P (do
      let b ← Extern.Bytes.bytesOf (.string ⟨(bytesN l n).toArray⟩)
      let c ← Extern.Bytes.asByte (.int .u8 (.ofNat c))
      match (List.range b.size).find? fun i => b[i]! == c with
      | some i => pure (goInt i)
      | none => pure (goInt (-1))) w = _ at e2
    simp only [Extern.Bytes.bytesOf, Sem.run_bind, Sem.run_pure, Result.andThen] at e2
    simp only [Sem.run_bind, e1, Result.andThen]
    exact e2
  rw [this]; rfl
end
end Go.Xq
