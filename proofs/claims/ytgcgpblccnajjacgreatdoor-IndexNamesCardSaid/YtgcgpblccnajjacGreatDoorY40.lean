/- A part of the proof that what the evaluator answers is what the machine does. Its conditions stand in each theorem. -/
import Derived.Test.YtgcgpblccnajjacGreatDoorY39
namespace Go.Xq
/-! ### A run in parts: calls that were run before -/
noncomputable def mentsSame : List MEnt → List MEnt → Bool
  | [], [] => true
  | a :: r, b :: s => mentBeq a b && mentsSame r s
  | _, _ => false
noncomputable def natsSame : List Nat → List Nat → Bool
  | [], [] => true
  | a :: r, b :: s => Nat.beq a b && natsSame r s
  | _, _ => false
noncomputable def objSame : AObj → AObj → Bool
  | .bys e s o n, .bys e' s' o' n' => (Nat.beq e e' && Nat.beq s s') && (bEq o o' && Nat.beq n n')
  | .cs e a s o z t, .cs e' a' s' o' z' t' => ((Nat.beq e e' && Nat.beq a a') && (Nat.beq s s' && bEq o o')) && (AV.beq z z' && Tr.beq AV.beq t t')
  | .mp es c, .mp es' c' => mentsSame es es' && Nat.beq c c'
  | .mit m s l st, .mit m' s' l' st' => (optBeq m m' && Nat.beq s s') && (natsSame l l' && Nat.beq st st')
  | .dfr t, .dfr t' => bEq t t'
  | _, _ => false
theorem mentsSame_eq : ∀ {l k : List MEnt}, mentsSame l k = true → l = k
  | [], [], _ => rfl
  | [], _ :: _, h => by simp [mentsSame] at h
  | _ :: _, [], h => by simp [mentsSame] at h
  | a :: r, b :: s, h => by
    simp only [mentsSame, mentBeq, Bool.and_eq_true, Nat.beq_eq] at h
    obtain ⟨⟨h1, h2, h3⟩, h4⟩ := h
    have e1 := AV.beq_eq h1
    have e2 := AV.beq_eq h2
    rw [mentsSame_eq h4]
    cases a; cases b
    simp only at e1 e2 h3
    subst e1 e2 h3; rfl
theorem natsSame_eq : ∀ {l k : List Nat}, natsSame l k = true → l = k
  | [], [], _ => rfl
  | [], _ :: _, h => by simp [natsSame] at h
  | _ :: _, [], h => by simp [natsSame] at h
  | a :: r, b :: s, h => by
    simp only [natsSame, Bool.and_eq_true, Nat.beq_eq] at h
    rw [h.1, natsSame_eq h.2]
theorem objSame_eq {a b : AObj} (h : objSame a b = true) : a = b := by
  unfold objSame at h
  split at h
  · simp only [Bool.and_eq_true, Nat.beq_eq, bEq_iff] at h
    obtain ⟨⟨rfl, rfl⟩, rfl, rfl⟩ := h; rfl
  · simp only [Bool.and_eq_true, Nat.beq_eq, bEq_iff] at h
    obtain ⟨⟨⟨rfl, rfl⟩, rfl, rfl⟩, h1, h2⟩ := h
    rw [AV.beq_eq h1, Tr.beq_eq (fun a b => AV.beq_eq) h2]
  · simp only [Bool.and_eq_true, Nat.beq_eq] at h
    rw [mentsSame_eq h.1, h.2]
  · simp only [Bool.and_eq_true, Nat.beq_eq, optBeq_iff] at h
    obtain ⟨⟨rfl, rfl⟩, h1, rfl⟩ := h
    rw [natsSame_eq h1]
  · rw [bEq_iff.1 h]
  · cases h
/-- a heap out of a list of blocks -/
noncomputable def treeOf : List (Nat × AObj) → Tr AObj
  | [] => .e
  | p :: r => (treeOf r).put (some p.2) (Xq.bits p.1)
noncomputable def heapOf (n : Nat) (l : List (Nat × AObj)) : AH := { next := n, t := treeOf l }
theorem heapOf_get {n : Nat} : ∀ {l : List (Nat × AObj)} {b : Nat} {o : AObj}, (heapOf n l).get b = some o → (b, o) ∈ l
  | [], b, o, h => by
    have h : Tr.get (Xq.bits b) (.e : Tr AObj) = some o := h
    rw [Tr.get_e] at h; cases h
  | p :: r, b, o, h => by
    have h : Tr.get (Xq.bits b) ((treeOf r).put (some p.2) (Xq.bits p.1)) = some o := h
    by_cases e : p.1 = b
    · rw [e, Tr.get_put_same] at h
      cases h
      obtain ⟨p1, p2⟩ := p
      simp only at e; subst e; simp
    · rw [Tr.get_put_ne _ _ _ _ (bits_ne e)] at h
      exact List.mem_cons_of_mem _ (heapOf_get (n := n) h)
noncomputable def holds1 (b : Nat) (o : AObj) (H : AH) : Bool := oc (H.get b) false fun o' => objSame o o'
noncomputable def fits (H : AH) : List (Nat × AObj) → Bool
  | [] => true
  | p :: r => holds1 p.1 p.2 H && fits H r
theorem fits_mem {H : AH} : ∀ {l : List (Nat × AObj)}, fits H l = true → ∀ p ∈ l, H.get p.1 = some p.2
  | [], _, p, hp => by cases hp
  | q :: r, h, p, hp => by
    simp only [fits, Bool.and_eq_true] at h
    rcases List.mem_cons.1 hp with rfl | hp
    · have h1 := h.1
      unfold holds1 at h1
      cases hg : H.get p.1 with
      | none => rw [hg] at h1; cases h1
      | some o => rw [hg] at h1; rw [objSame_eq h1]
    · exact fits_mem h.2 p hp
/-- a call that was run: the function, the arguments, what of the heap is wanted; what came out, what of the heap is wanted later -/
structure Memo where
  f : Nat
  args : AV
  n : Nat
  l : List (Nat × AObj)
  v : AV
  n2 : Nat
  l2 : List (Nat × AObj)
noncomputable def memoChk (m : Memo) (r : Option (AV × AH)) : Bool := oc r false fun p => AV.beq p.1 m.v && (Nat.beq p.2.next m.n2 && fits p.2 m.l2)
noncomputable def memoA : List Memo → CallFn
  | [], _, _, _ => none
  | m :: r, f, args, H => match Nat.beq m.f f && Nat.beq m.n H.next with
    | true => bt (AV.beq m.args args && fits H m.l) (some (m.v, heapOf m.n2 m.l2)) none
    | false => memoA r f args H
section
variable {P : Program}
theorem Rel.less {m : Ren} {H H' : AH} {w : World} (h : Rel m H w) (hn : H'.next = H.next) (hg : ∀ b o, H'.get b = some o → H.get b = some o) : Rel m H' w :=
  ⟨fun b o hb => h.live b o (hg b o hb), fun b b' o o' i i' hb hb' => h.inj b b' o o' i i' (hg b o hb) (hg b' o' hb'), fun b i hi => by rw [hn]; exact h.bnd b i hi, h.glob⟩
/-- the call has this contract -/
def MemoOk (P : Program) (m : Memo) : Prop := ∃ R, RecOk P R ∧ memoChk m (R.call m.f m.args (heapOf m.n m.l)) = true
theorem memo_ok {k : Memo} (hk : MemoOk P k) {args : AV} {H : AH} (hn : Nat.beq k.n H.next = true) (ha : AV.beq k.args args = true) (hf : fits H k.l = true) :
    Enters P k.f ∧ ∀ m w vs, Rel m H w → VL m args vs → XC P .normal k.f vs.toArray w (Post m H w k.v (heapOf k.n2 k.l2)) := by
  obtain ⟨R, hR, hc⟩ := hk
  unfold memoChk at hc
  cases hr : R.call k.f k.args (heapOf k.n k.l) with
  | none => rw [hr] at hc; cases hc
  | some p =>
    obtain ⟨v, H2⟩ := p
    rw [hr] at hc
    simp only [oc_some, Bool.and_eq_true, Nat.beq_eq] at hc
    obtain ⟨h1, h2, h3⟩ := hc
    have h1 := AV.beq_eq h1
    subst h1
    have hn := Nat.eq_of_beq_eq_true hn
    have ha := AV.beq_eq ha
    subst ha
    obtain ⟨he, hx⟩ := hR.call _ _ _ _ _ hr
    refine ⟨he, fun m w vs hrel hl => ?_⟩
    have hrel' : Rel m (heapOf k.n k.l) w := hrel.less hn fun b o hb => fits_mem hf _ (heapOf_get hb)
    refine (hx m w vs hrel' hl).mono fun v' w' ⟨m2, hst, hv⟩ => ⟨m2, ⟨?_, ?_, ?_, hst.os, hst.out, hst.size, hst.keep, hst.new⟩, hv⟩
    · exact hst.rel.less h2.symm fun b o hb => fits_mem h3 _ (heapOf_get hb)
    · have := hst.ext
      have e : (heapOf k.n k.l).next = H.next := hn
      rw [e] at this; exact this
    · have := hst.next
      have e : (heapOf k.n k.l).next = H.next := hn
      rw [e] at this
      show H.next ≤ k.n2
      rw [← h2]; exact this
theorem memoA_ok : ∀ {ms : List Memo}, (∀ k ∈ ms, MemoOk P k) → ∀ f args H v H2, memoA ms f args H = some (v, H2) → Enters P f ∧ ∀ m w vs, Rel m H w → VL m args vs → XC P .normal f vs.toArray w (Post m H w v H2)
  | [], _, _, _, _, _, _, h => by cases h
  | k :: r, hk, f, args, H, v, H2, h => by
    simp only [memoA] at h
    split at h
    · rename_i hkey
      simp only [Bool.and_eq_true] at hkey
      simp only [bt_some, Bool.and_eq_true, Option.some.injEq, Prod.mk.injEq] at h
      obtain ⟨⟨h1, h2⟩, rfl, rfl⟩ := h
      have hf := Nat.eq_of_beq_eq_true hkey.1
      subst hf
      exact memo_ok (hk k (by simp)) hkey.2 h1 h2
    · exact memoA_ok (fun q hq => hk q (by simp [hq])) f args H v H2 h
/-- the calls that were run, and then the others that are known -/
noncomputable def withMemo (ms : List Memo) (s : CallFn) : CallFn := fun f args H => oc (memoA ms f args H) (s f args H) some
theorem withMemo_ok {E : Env} {ms : List Memo} (hk : ∀ k ∈ ms, MemoOk P k) (hS : SumOk P E) : SumOk P { E with sums := withMemo ms E.sums } := by
  intro f args H v H2 h
  have h : oc (memoA ms f args H) (E.sums f args H) some = some (v, H2) := h
  cases hm : memoA ms f args H with
  | none => rw [hm] at h; exact hS f args H v H2 h
  | some p =>
    rw [hm, oc_some] at h
    cases h
    exact memoA_ok hk f args H v H2 hm
end
end Go.Xq
