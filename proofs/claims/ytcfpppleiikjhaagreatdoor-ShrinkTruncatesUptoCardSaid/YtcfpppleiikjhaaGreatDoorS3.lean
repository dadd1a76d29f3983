/- A part of the proof of this seat's statement: what is particular to its program. Its conditions stand in each theorem. -/
import Derived.Test.YtcfpppleiikjhaaGreatDoorS2
import Derived.Test.YtcfpppleiikjhaaGreatDoorY11
import Derived.Test.YtcfpppleiikjhaaGreatDoorY12
import Derived.Test.YtcfpppleiikjhaaGreatDoorA1
import Derived.Test.YtcfpppleiikjhaaGreatDoorA3
import Derived.Test.YtcfpppleiikjhaaGreatDoorA4
namespace Go.Proofs.YtcfpppleiikjhaaGreatDoor
open Go.RowKit Go.Xq
noncomputable def isStr : AV → Bool
  | .str _ _ => true
  | _ => false
noncomputable def sum1 (args : AV) (H : AH) : Option (AV × AH) :=
  match args with
  | .cons (.sl b off 1 _) .nil => ob (H.get b) fun o => ob (rdCell o off) fun s => ob (bytesA H s) fun p =>
    bt (!(isStr s) && Nat.blt p.1 17179869184) (some (.int .u32 (.ofNat (sumN p.1 p.2)), H)) none
  | _ => none
theorem below4 (w : World) (a b c d : Obj) : RowKit.Below w.heap.size w ((((w.alloc a).alloc b).alloc c).alloc d) :=
  have h1 := (RowKit.Below.refl w.heap.size w).alloc (Nat.le_refl _) a
  have h2 := h1.alloc h1.size b
  have h3 := h2.alloc h2.size c
  h3.alloc h3.size d
noncomputable def kAs : AsN := ⟨159, 161, 2, 4, 111, 277⟩
noncomputable def sumFn : CallFn := fun f args H =>
  match Nat.beq f 125 with
  | true => sum1 args H
  | false => match Nat.beq f 90 with
  | true => asA kAs args H
  | false => match Nat.beq f 186 with
  | true => idxzA 130 args H
  | false => match Nat.beq f 26 with
  | true => pagesA args H
  | false => match Nat.beq f 44 with
  | true => placeA args H
  | false => match Nat.beq f 85 with
  | true => readA args H
  | false => none
noncomputable def extFn : Nat → AV → AH → Option AV := fun f args H =>
  match Nat.beq f 230 with
  | true => cmpA args H
  | false => match Nat.beq f 112 with
  | true => typA [455] 277 4 args
  | false => match Nat.beq f 415 with
  | true => cmpbA [455] 4 args
  | false => none
noncomputable def mulFn : Nat → Bool := fun f => Nat.beq f 167
noncomputable def E : Env := Env.of Tryz.prog 10 10 sumFn extFn mulFn
theorem sum1_ok {args v : AV} {H H2 : AH} (h : sum1 args H = some (v, H2)) : Enters Tryz.prog 125 ∧ ∀ m w vs, Rel m H w → VL m args vs → XC Tryz.prog .normal 125 vs.toArray w (Post m H w v H2) := by
  unfold sum1 at h
  split at h
  rotate_left
  · cases h
  rename_i b off cap
  simp only [ob_some, bt_some, Option.some.injEq, Prod.mk.injEq] at h
  obtain ⟨o, ho, s, hs, ⟨len, n⟩, hb, hlt, rfl, rfl⟩ := h
  rw [Bool.and_eq_true] at hlt
  obtain ⟨hns, hlt⟩ := hlt
  have hlt : len < 17179869184 := by simpa [Nat.blt_eq] using hlt
  refine ⟨⟨Tryz.f125, Tryz.func125, by kernel_rfl, by kernel_rfl⟩, fun m w vs hr hl => ?_⟩
  cases hl with | cons _ va _ vl ha hl =>
  cases hl
  obtain ⟨ad, c', e1, _, hc⟩ := ha.sl_inv
  rcases hc with ⟨i, hi, rfl, _⟩ | ⟨h0, _⟩
  rotate_left
  · exact absurd h0 (by decide)
  subst e1
  obtain ⟨u, hu, hvu⟩ := hr.rd ho hi hs
  have fin : ∀ (nn : Nat), Calls Tryz.prog 125 #[.slice (some ⟨i.blk, i.base + off, none⟩) 1 c'] w (SumPost len nn w) → nn = n → XC Tryz.prog .normal 125 #[.slice (some ⟨i.blk, i.base + off, none⟩) 1 c'] w (Post m H w (.int .u32 (.ofNat (sumN len n))) H) := by
    rintro nn h rfl
    refine XC.of_calls (h.mono fun e w' he => ?_)
    obtain ⟨rfl, hbel⟩ := he
    exact ⟨_, rfl, m, St.below hr hbel, .int _ _⟩
  cases s <;> simp only [bytesA, reduceCtorEq, Option.some.injEq, Prod.mk.injEq] at hb
  · obtain ⟨rfl, rfl⟩ := hb
    rw [hvu.snil_inv] at hu
    exact fin 0 (sum_zero _ _ _ 0 0 _ w hu) rfl
  · simp [isStr] at hns
  · obtain ⟨pa, pc, rfl, _, hp⟩ := hvu.sl_inv
    rcases hp with ⟨j, hj, rfl, _⟩ | ⟨rfl, rfl, _⟩
    · obtain ⟨rfl, _, hall⟩ := bytesSl_ok hr (fun _ => hj) hb
      exact fin n (sum_any _ _ _ _ _ n _ _ w (hr.bnd _ j hj).2 hlt hu hall) rfl
    · simp [bytesSl] at hb
      obtain ⟨rfl, rfl⟩ := hb
      exact fin 0 (sum_zero _ _ _ 0 0 _ w hu) rfl
theorem sumOk : SumOk Tryz.prog E := by
  intro f args H v H2 h
  replace h : sumFn f args H = some (v, H2) := h
  unfold sumFn at h
  split at h
  · rename_i hf
    have hf := Nat.eq_of_beq_eq_true hf
    subst hf
    exact sum1_ok h
  split at h
  · rename_i hf
    have hf := Nat.eq_of_beq_eq_true hf
    subst hf
    exact asA_ok (k := kAs) ⟨Tryz.f90, Tryz.func90, by kernel_rfl, by kernel_rfl⟩ (show 2 < ngl by decide) (show 4 < ngl by decide) (fun e t old w hg ht hf _ => (as_hit e t old w hg ht hf).mono fun ev w' he => ⟨he.1, _, below4 _ _ _ _ _, he.2⟩) h
  split at h
  · rename_i hf
    have hf := Nat.eq_of_beq_eq_true hf
    subst hf
    exact idxzA_ok ⟨Tryz.f186, Tryz.func186, by kernel_rfl, by kernel_rfl⟩ (fun pa n c w hn hall => idx_zero pa n c w hn hall) h
  split at h
  · rename_i hf
    have hf := Nat.eq_of_beq_eq_true hf
    subst hf
    exact pagesA_ok ⟨Tryz.f26, Tryz.func26, by kernel_rfl, by kernel_rfl⟩ pages_any h
  split at h
  · rename_i hf
    have hf := Nat.eq_of_beq_eq_true hf
    subst hf
    exact placeA_ok ⟨Tryz.f44, Tryz.func44, by kernel_rfl, by kernel_rfl⟩ place_any h
  split at h
  · rename_i hf
    have hf := Nat.eq_of_beq_eq_true hf
    subst hf
    exact readA_ok ⟨Tryz.f85, Tryz.func85, by kernel_rfl, by kernel_rfl⟩ read_any h
  · cases h
theorem typFacts : ∀ t ∈ [455], ∀ v w, (Extern.ReflectliteType.typeOf #[.iface t v]).run Tryz.prog w = .ok (.iface 277 (.agg #[.pointer (some ⟨4, t, none⟩)])) w := by
  intro t ht v w
  rw [List.mem_singleton] at ht
  subst ht
  kernel_rfl
theorem cmpbFacts : ∀ t ∈ [455], ∀ w, (Extern.ReflectliteType.method (fun t => do Extern.Rtype.noPackHeld "Comparable" t; pure (.bool (← typeInfo t).comparable)) #[.agg #[.pointer (some ⟨4, t, none⟩)]]).run Tryz.prog w = .ok (.bool true) w := by
  intro t ht w
  rw [List.mem_singleton] at ht
  subst ht
  kernel_rfl
theorem extOk : ExtOk Tryz.prog E := by
  intro g args H v h m w vs hr hl
  replace h : extFn g args H = some v := h
  unfold extFn at h
  split at h
  · rename_i hf
    have hf := Nat.eq_of_beq_eq_true hf
    subst hf
    exact cmpA_ok Tryz.func230 (by kernel_rfl) (by kernel_rfl) (by kernel_rfl) (by kernel_rfl) h hr hl
  split at h
  · rename_i hf
    have hf := Nat.eq_of_beq_eq_true hf
    subst hf
    exact typA_ok (by decide) Tryz.func112 (by kernel_rfl) (by kernel_rfl) (by kernel_rfl) (by kernel_rfl) typFacts h hr hl
  split at h
  · rename_i hf
    have hf := Nat.eq_of_beq_eq_true hf
    subst hf
    exact cmpbA_ok (by decide) Tryz.func415 (by kernel_rfl) (by kernel_rfl) (by kernel_rfl) (by kernel_rfl) cmpbFacts h hr hl
  · cases h
end Go.Proofs.YtcfpppleiikjhaaGreatDoor
