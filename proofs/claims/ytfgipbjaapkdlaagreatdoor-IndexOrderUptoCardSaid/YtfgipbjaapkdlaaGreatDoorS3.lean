/- A part of the proof of this seat's statement. Conditions: in each theorem. -/
import Derived.Test.YtfgipbjaapkdlaaGreatDoorS2
namespace Go.Proofs.YtfgipbjaapkdlaaGreatDoor
open Go.RowKit Go.Xq
noncomputable def isStr : AV → Bool
  | .str _ _ => true
  | _ => false
noncomputable def sum1 (args : AV) (H : AH) : Option (AV × AH) :=
  match args with
  | .cons (.sl b off 1 _) .nil => ob (H.get b) fun o => ob (rdCell o off) fun s => ob (bytesA H s) fun p =>
    bt (!(isStr s) && Nat.blt p.1 17179869184) (some (.int .u32 (.ofNat (sumN p.1 p.2)), H)) none
  | _ => none
noncomputable def sumFn : CallFn := fun f args H =>
  match Nat.beq f 208 with
  | true => sum1 args H
  | false => none
noncomputable def extFn : Nat → AV → AH → Option AV := fun f args H =>
  match Nat.beq f 173 with
  | true => cmpA args H
  | false => match Nat.beq f 198 with
  | true => cntA args H
  | false => match Nat.beq f 200 with
  | true => idxA args H
  | false => match Nat.beq f 170 with
  | true => cmpA args H
  | false => none
noncomputable def mulFn : Nat → Bool := fun _ => false
noncomputable def E : Env := Env.of Tryz.prog 10 10 sumFn extFn mulFn
theorem sum1_ok {args v : AV} {H H2 : AH} (h : sum1 args H = some (v, H2)) : Enters Tryz.prog 208 ∧ ∀ m w vs, Rel m H w → VL m args vs → XC Tryz.prog .normal 208 vs.toArray w (Post m H w v H2) := by
  unfold sum1 at h
  split at h
  rotate_left
  · cases h
  rename_i b off cap
  simp only [ob_some, bt_some, Option.some.injEq, Prod.mk.injEq] at h
  obtain ⟨o, ho, s, hs, ⟨len, n⟩, hb, hlt, rfl, rfl⟩ := h
  rw [Bool.and_eq_true] at hlt
  obtain ⟨hns, hlt⟩ := hlt
  have hlt : len < 17179869184 := by simpa [Nat.blt_eq] using hlt
  refine ⟨⟨Tryz.f208, Tryz.func208, by kernel_rfl, by kernel_rfl⟩, fun m w vs hr hl => ?_⟩
  cases hl with | cons _ va _ vl ha hl =>
  cases hl
  obtain ⟨ad, c', e1, _, hc⟩ := ha.sl_inv
  rcases hc with ⟨i, hi, rfl, _⟩ | ⟨h0, _⟩
  rotate_left
  · exact absurd h0 (by decide)
  subst e1
  obtain ⟨u, hu, hvu⟩ := hr.rd ho hi hs
  have fin : ∀ (nn : Nat), Calls Tryz.prog 208 #[.slice (some ⟨i.blk, i.base + off, none⟩) 1 c'] w (SumPost len nn w) → nn = n → XC Tryz.prog .normal 208 #[.slice (some ⟨i.blk, i.base + off, none⟩) 1 c'] w (Post m H w (.int .u32 (.ofNat (sumN len n))) H) := by
    rintro nn h rfl
    refine XC.of_calls (h.mono fun e w' he => ?_)
    obtain ⟨rfl, hbel⟩ := he
    exact ⟨_, rfl, m, St.below hr hbel, .int _ _⟩
  cases s <;> simp only [bytesA, reduceCtorEq, Option.some.injEq, Prod.mk.injEq] at hb
  · obtain ⟨rfl, rfl⟩ := hb
    rw [hvu.snil_inv] at hu
    exact fin 0 (sum_zero _ _ _ 0 0 _ w hu) rfl
  · simp [isStr] at hns
  · obtain ⟨pa, pc, rfl, _, hp⟩ := hvu.sl_inv
    rcases hp with ⟨j, hj, rfl, _⟩ | ⟨rfl, rfl, _⟩
    · obtain ⟨rfl, _, hall⟩ := bytesSl_ok hr (fun _ => hj) hb
      exact fin n (sum_any _ _ _ _ _ n _ _ w (hr.bnd _ j hj).2 hlt hu hall) rfl
    · simp [bytesSl] at hb
      obtain ⟨rfl, rfl⟩ := hb
      exact fin 0 (sum_zero _ _ _ 0 0 _ w hu) rfl
theorem sumOk : SumOk Tryz.prog E := by
  intro f args H v H2 h
  replace h : sumFn f args H = some (v, H2) := h
  unfold sumFn at h
  split at h
  · rename_i hf
    have hf := Nat.eq_of_beq_eq_true hf
    subst hf
    exact sum1_ok h
  · cases h
theorem extOk : ExtOk Tryz.prog E := by
  intro g args H v h m w vs hr hl
  replace h : extFn g args H = some v := h
  unfold extFn at h
  split at h
  · rename_i hf
    have hf := Nat.eq_of_beq_eq_true hf
    subst hf
    exact cmpA_ok Tryz.func173 (by kernel_rfl) (by kernel_rfl) (by kernel_rfl) (by kernel_rfl) h hr hl
  split at h
  · rename_i hf
    have hf := Nat.eq_of_beq_eq_true hf
    subst hf
    exact cntA_ok Tryz.func198 (by kernel_rfl) (by kernel_rfl) (by kernel_rfl) (by kernel_rfl) h hr hl
  split at h
  · rename_i hf
    have hf := Nat.eq_of_beq_eq_true hf
    subst hf
    exact idxA_ok Tryz.func200 (by kernel_rfl) (by kernel_rfl) (by kernel_rfl) (by kernel_rfl) h hr hl
  split at h
  · rename_i hf
    have hf := Nat.eq_of_beq_eq_true hf
    subst hf
    exact cmpA_ok Tryz.func170 (by kernel_rfl) (by kernel_rfl) (by kernel_rfl) (by kernel_rfl) h hr hl
  · cases h
end Go.Proofs.YtfgipbjaapkdlaaGreatDoor
