/- A part of the proof that the evaluator is right. Conditions: in each theorem. -/
import Derived.Test.YtfgipbjaapkdlaaGreatDoorY11
import Derived.SizedLaws
import Derived.Handed
import Derived.LaidHandle
import Derived.LaidLaws
import Derived.FnData
import Derived.Laws.Externs
namespace Go.Xq
noncomputable def treeOf : List (Nat × AObj) → Tr AObj
  | [] => .e
  | p :: r => (treeOf r).put (some p.2) (Xq.bits p.1)
noncomputable def heapOf (n : Nat) (l : List (Nat × AObj)) : AH := { next := n, t := treeOf l }
theorem heapOf_get {n : Nat} : ∀ {l : List (Nat × AObj)} {b : Nat} {o : AObj}, (heapOf n l).get b = some o → (b, o) ∈ l
  | [], b, o, h => by
    have h : Tr.get (Xq.bits b) (.e : Tr AObj) = some o := h
    rw [Tr.get_e] at h; cases h
  | p :: r, b, o, h => by
    have h : Tr.get (Xq.bits b) ((treeOf r).put (some p.2) (Xq.bits p.1)) = some o := h
    by_cases e : p.1 = b
    · rw [e, Tr.get_put_same] at h
      cases h
      obtain ⟨p1, p2⟩ := p
      simp only at e; subst e; simp
    · rw [Tr.get_put_ne _ _ _ _ (bits_ne e)] at h
      exact List.mem_cons_of_mem _ (heapOf_get (n := n) h)
noncomputable def holds1 (b : Nat) (o : AObj) (H : AH) : Bool := oc (H.get b) false fun o' => objSame o o'
noncomputable def fits (H : AH) : List (Nat × AObj) → Bool
  | [] => true
  | p :: r => holds1 p.1 p.2 H && fits H r
theorem fits_mem {H : AH} : ∀ {l : List (Nat × AObj)}, fits H l = true → ∀ p ∈ l, H.get p.1 = some p.2
  | [], _, p, hp => by cases hp
  | q :: r, h, p, hp => by
    simp only [fits, Bool.and_eq_true] at h
    rcases List.mem_cons.1 hp with rfl | hp
    · have h1 := h.1
      unfold holds1 at h1
      cases hg : H.get p.1 with
      | none => rw [hg] at h1; cases h1
      | some o => rw [hg] at h1; rw [objSame_eq h1]
    · exact fits_mem h.2 p hp
structure Memo where
  f : Nat
  args : AV
  n : Nat
  l : List (Nat × AObj)
  v : AV
  n2 : Nat
  l2 : List (Nat × AObj)
noncomputable def memoChk (m : Memo) (r : Option (AV × AH)) : Bool := oc r false fun p => AV.beq p.1 m.v && (Nat.beq p.2.next m.n2 && fits p.2 m.l2)
noncomputable def memoA : List Memo → CallFn
  | [], _, _, _ => none
  | m :: r, f, args, H => match Nat.beq m.f f && Nat.beq m.n H.next with
    | true => bt (AV.beq m.args args && fits H m.l) (some (m.v, heapOf m.n2 m.l2)) none
    | false => memoA r f args H
section
variable {P : Program}
def MemoOk (P : Program) (m : Memo) : Prop := ∃ R, RecOk P R ∧ memoChk m (R.call m.f m.args (heapOf m.n m.l)) = true
theorem memo_ok {k : Memo} (hk : MemoOk P k) {args : AV} {H : AH} (hn : Nat.beq k.n H.next = true) (ha : AV.beq k.args args = true) (hf : fits H k.l = true) :
    Enters P k.f ∧ ∀ m w vs, Rel m H w → VL m args vs → XC P .normal k.f vs.toArray w (Post m H w k.v (heapOf k.n2 k.l2)) := by
  obtain ⟨R, hR, hc⟩ := hk
  unfold memoChk at hc
  cases hr : R.call k.f k.args (heapOf k.n k.l) with
  | none => rw [hr] at hc; cases hc
  | some p =>
    obtain ⟨v, H2⟩ := p
    rw [hr] at hc
    simp only [oc_some, Bool.and_eq_true, Nat.beq_eq] at hc
    obtain ⟨h1, h2, h3⟩ := hc
    have h1 := AV.beq_eq h1
    subst h1
    have hn := Nat.eq_of_beq_eq_true hn
    have ha := AV.beq_eq ha
    subst ha
    obtain ⟨he, hx⟩ := hR.call _ _ _ _ _ hr
    refine ⟨he, fun m w vs hrel hl => ?_⟩
    have live1 : ∀ b, (heapOf k.n k.l).get b ≠ none → H.get b ≠ none := fun b hl => by
      cases hg : (heapOf k.n k.l).get b with
      | none => exact absurd hg hl
      | some o => rw [fits_mem hf _ (heapOf_get hg)]; simp
    have hrel' : Rel m (heapOf k.n k.l) w := hrel.less hn fun b o hb => fits_mem hf _ (heapOf_get hb)
    refine (hx m w vs hrel' hl).mono fun v' w' ⟨m2, hst, hv⟩ => ⟨m2, ⟨?_, ?_, ?_, hst.os, hst.out, hst.size, fun q hq hn => hst.keep q hq fun b i hi hl => hn b i hi (live1 b hl), fun b i hi hl => ?_⟩, hv⟩
    · exact hst.rel.less h2.symm fun b o hb => fits_mem h3 _ (heapOf_get hb)
    · have := hst.ext
      have e : (heapOf k.n k.l).next = H.next := hn
      rw [e] at this; exact this
    · have := hst.next
      have e : (heapOf k.n k.l).next = H.next := hn
      rw [e] at this
      show H.next ≤ k.n2
      rw [← h2]; exact this
    · rcases hst.new b i hi (by
        cases hg : (heapOf k.n2 k.l2).get b with
        | none => exact absurd hg hl
        | some o => rw [fits_mem h3 _ (heapOf_get hg)]; simp) with h4 | ⟨b0, i0, h4, h5, h6⟩
      · exact .inl h4
      · exact .inr ⟨b0, i0, h4, live1 b0 h5, h6⟩
theorem memoA_ok : ∀ {ms : List Memo}, (∀ k ∈ ms, MemoOk P k) → ∀ f args H v H2, memoA ms f args H = some (v, H2) → Enters P f ∧ ∀ m w vs, Rel m H w → VL m args vs → XC P .normal f vs.toArray w (Post m H w v H2)
  | [], _, _, _, _, _, _, h => by cases h
  | k :: r, hk, f, args, H, v, H2, h => by
    simp only [memoA] at h
    split at h
    · rename_i hkey
      simp only [Bool.and_eq_true] at hkey
      simp only [bt_some, Bool.and_eq_true, Option.some.injEq, Prod.mk.injEq] at h
      obtain ⟨⟨h1, h2⟩, rfl, rfl⟩ := h
      have hf := Nat.eq_of_beq_eq_true hkey.1
      subst hf
      exact memo_ok (hk k (by simp)) hkey.2 h1 h2
    · exact memoA_ok (fun q hq => hk q (by simp [hq])) f args H v H2 h
noncomputable def withMemo (ms : List Memo) (s : CallFn) : CallFn := fun f args H => oc (memoA ms f args H) (s f args H) some
theorem withMemo_ok {E : Env} {ms : List Memo} (hk : ∀ k ∈ ms, MemoOk P k) (hS : SumOk P E) : SumOk P { E with sums := withMemo ms E.sums } := by
  intro f args H v H2 h
  have h : oc (memoA ms f args H) (E.sums f args H) some = some (v, H2) := h
  cases hm : memoA ms f args H with
  | none => rw [hm] at h; exact hS f args H v H2 h
  | some p =>
    rw [hm, oc_some] at h
    cases h
    exact memoA_ok hk f args H v H2 hm
end
end Go.Xq
namespace Go.Xq
theorem calls_of_run_at {P : Program} {R : Rec} (hR : RecOk P R) {f : Nat} {m0 : Ren} {H0 H2 : AH} {v : AV} (h : R.call f .nil H0 = some (v, H2)) {w : World} (hrel : Rel m0 H0 w) :
    Calls P f #[] w fun e w' => ∃ m2 v', e = .returned v' ∧ VR m2 v v' ∧ St m0 H0 w m2 H2 w' := by
  obtain ⟨_, hx⟩ := hR.call _ _ _ _ _ h
  intro cs
  obtain ⟨v, w', fr, ⟨m2, hst, hv⟩, hs, hk, hfn, hl⟩ := hx m0 w [] hrel .nil cs (.inl rfl)
  exact ⟨_, w', fr, ⟨m2, v, rfl, hv, hst⟩, hs, hfn, hl.mode, hl.defers, hk, hl.fn⟩
theorem kept_of {m0 m2 : Ren} {H0 H2 : AH} {w w' : World} (h : St m0 H0 w m2 H2 w') (hg : ∀ b i, m0 b = some i → H0.get b ≠ none → w'.heap[i.blk]? = w.heap[i.blk]?) : KeptAll w w' := by
  refine ⟨h.os, h.out, h.size, fun k hk => ?_⟩
  by_cases hl : ∃ b i, m0 b = some i ∧ H0.get b ≠ none ∧ i.blk = k
  · obtain ⟨b, i, h1, h2, rfl⟩ := hl
    exact hg b i h1 h2
  · exact h.keep k hk fun b i h1 h2 e => hl ⟨b, i, h1, h2, e⟩
theorem OR.one_cell {m m2 : Ren} {x x2 : Obj} {e : Nat} {z v : AV} {i : BI} (h : OR m x (.cs e 1 1 false z (.n (some v) .e .e .e .e)) i) (h2 : OR m2 x2 (.cs e 1 1 false z (.n (some v) .e .e .e .e)) i) (hb : i.base = 0) (hs : i.sz = 1)
    (hd : ∀ u u2, VR m v u → VR m2 v u2 → u = u2) : x = x2 := by
  have hr : rdCs 1 1 z (.n (some v) .e .e .e .e) 0 = some v := rfl
  cases h with | cs c fr _ _ _ _ _ _ _ hc he hsz hf hcell =>
  cases h2 with | cs c2 fr2 _ _ _ _ _ _ _ hc2 he2 hsz2 hf2 hcell2 =>
  obtain ⟨u, a1, a2⟩ := hcell 0 v hr
  obtain ⟨u2, b1, b2⟩ := hcell2 0 v hr
  have e1 := hd u u2 a2 b2
  subst e1
  rw [hb, Nat.zero_add] at a1 b1
  have ec : c = c2 := by
    apply Array.ext_getElem?
    intro k
    cases k with
    | zero => rw [a1, b1]
    | succ k => rw [Array.getElem?_eq_none (by omega), Array.getElem?_eq_none (by omega)]
  rw [ec, hf, hf2]
noncomputable def isG (l : List (Nat × AObj)) : Option (AV × AH) → Bool
  | some (.bool b, H) => b && fits H l
  | _ => false
theorem isG_some {l : List (Nat × AObj)} {o : Option (AV × AH)} (h : isG l o = true) : ∃ H2, o = some (.bool true, H2) ∧ ∀ p ∈ l, H2.get p.1 = some p.2 := by
  unfold isG at h
  split at h
  · simp only [Bool.and_eq_true] at h
    obtain ⟨rfl, h⟩ := h
    exact ⟨_, rfl, fits_mem h⟩
  · cases h
end Go.Xq
namespace Go.Xq
end Go.Xq
namespace Go.Xq
noncomputable def isPtrA : AV → Bool
  | .ptr _ _ => true
  | _ => false
structure AsN where
  te : Nat
  tt : Nat
  gv : Nat
  ng : Nat
  er : Nat
  rt : Nat
noncomputable def AsN.val (k : AsN) : AV := .ifc k.rt (.agg (.cons (.ptr k.ng k.er) .nil))
noncomputable def asA (k : AsN) (args : AV) (H : AH) : Option (AV × AH) :=
  match args with
  | .cons (.ifc t e) (.cons (.ifc u (.ptr c o)) .nil) =>
    bt (Nat.beq t k.te && (Nat.beq u k.tt && isPtrA e)) (ob (H.get k.gv) fun x => ob (rdCell x 0) fun v => bt (AV.beq v k.val)
      (ob (H.get c) fun y => bt (isCs y) (ob (wrCell y o e) fun y2 => some (.bool true, H.set c y2)) none) none) none
  | _ => none
section
variable {P : Program}
end
end Go.Xq
namespace Go.Xq
noncomputable def H0of (nx : Nat) : List (Nat × AObj) → AH
  | [] => { next := nx, t := .e }
  | p :: r => (H0of nx r).set p.1 p.2
theorem H0of_next (nx : Nat) : ∀ l, (H0of nx l).next = nx
  | [] => rfl
  | p :: r => by show ((H0of nx r).set p.1 p.2).next = nx; rw [AH.next_set]; exact H0of_next nx r
theorem H0of_get {nx : Nat} : ∀ {l : List (Nat × AObj)} {b : Nat} {o : AObj}, (H0of nx l).get b = some o → (b, o) ∈ l
  | [], b, o, h => by
    have : (H0of nx []).get b = none := Tr.get_e _
    rw [this] at h; cases h
  | p :: r, b, o, h => by
    have h : ((H0of nx r).set p.1 p.2).get b = some o := h
    rw [AH.get_set] at h
    split at h
    · rename_i e
      cases h; subst e
      exact List.mem_cons_self
    · exact List.mem_cons_of_mem _ (H0of_get h)
def m0of (ads : List (Nat × Nat)) : Ren := fun b => if b < ngl then some ⟨b, 0, 1, 1⟩ else (ads[b - ngl]?).map fun a => ⟨a.1, a.2, 1, 1⟩
theorem m0of_lt {ads : List (Nat × Nat)} {b : Nat} (h : b < ngl) : m0of ads b = some ⟨b, 0, 1, 1⟩ := by unfold m0of; rw [if_pos h]
noncomputable def one1 (t : Nat) (v : AV) : AObj := .cs t 1 1 false .nil (.n (some v) .e .e .e .e)
theorem one1_ok {m : Ren} {t : Nat} {v : AV} {u : Value} {i : BI} (h : VR m v u) (hb : i.base = 0) (hs : i.sz = 1) (he : i.es = 1) : OR m (.cells #[u] t (0, 0)) (one1 t v) i := by
  refine .cs _ _ _ _ _ _ _ _ _ (by simp [hs]) he (by omega) rfl ?_
  intro k v' hk
  simp only [rdCs, bt_some] at hk
  obtain ⟨h1, h2⟩ := hk
  have hk : k < 1 := by simpa [Nat.blt_eq] using h1
  obtain rfl : k = 0 := by omega
  have h2 : some v = some v' := h2
  cases h2
  rw [hb]
  exact ⟨u, rfl, h⟩
noncomputable def isDet : AV → Bool
  | .ifc _ (.ptr _ _) => true
  | .ifc _ (.agg (.cons (.ptr _ _) .nil)) => true
  | _ => false
theorem VR.det {m m2 : Ren} (hm : Le m m2) {v : AV} {u u2 : Value} (hd : isDet v = true) (h : VR m v u) (h2 : VR m2 v u2) : u = u2 := by
  unfold isDet at hd
  split at hd
  · obtain ⟨a, ha, rfl⟩ := h.ifc_inv
    obtain ⟨b, hb, rfl⟩ := h2.ifc_inv
    obtain ⟨i, hi, rfl⟩ := ha.ptr_inv
    obtain ⟨j, hj, rfl⟩ := hb.ptr_inv
    rw [hm _ _ hi] at hj; cases hj; rfl
  · obtain ⟨a, ha, rfl⟩ := h.ifc_inv
    obtain ⟨b, hb, rfl⟩ := h2.ifc_inv
    obtain ⟨la, hla, rfl⟩ := ha.agg_inv
    obtain ⟨lb, hlb, rfl⟩ := hb.agg_inv
    cases hla with | cons _ u0 _ ul hu0 hul =>
    cases hul
    cases hlb with | cons _ v0 _ vl hv0 hvl =>
    cases hvl
    obtain ⟨i, hi, rfl⟩ := hu0.ptr_inv
    obtain ⟨j, hj, rfl⟩ := hv0.ptr_inv
    rw [hm _ _ hi] at hj; cases hj; rfl
  · cases hd
def GlobsAt (m : Ren) (l : List (Nat × AObj)) (w : World) : Prop :=
  ∀ p ∈ l, p.1 < ngl ∧ ∃ t v u, p.2 = one1 t v ∧ isDet v = true ∧ w.heap[p.1]? = some (.cells #[u] t (0, 0)) ∧ VR m v u
theorem rel_glob {ads : List (Nat × Nat)} {l : List (Nat × AObj)} {nx : Nat} {w : World} (hn : nx = ngl + ads.length) (hsz : ngl ≤ w.heap.size) (hads : ∀ a ∈ ads, a.1 < w.heap.size)
    (hl : GlobsAt (m0of ads) l w) : Rel (m0of ads) (H0of nx l) w := by
  refine ⟨?_, ?_, ?_, ?_⟩
  · intro b o hb i hi
    obtain ⟨h1, t, v, u, h2, _, h3, h4⟩ := hl _ (H0of_get hb)
    have h1 : b < ngl := h1
    rw [m0of_lt h1] at hi
    cases hi
    have h2 : o = one1 t v := h2
    subst h2
    exact ⟨_, h3, one1_ok h4 rfl rfl rfl⟩
  · intro b b' o o' i i' hb hb' hi hi' e
    have h1 : b < ngl := (hl _ (H0of_get hb)).1
    have h2 : b' < ngl := (hl _ (H0of_get hb')).1
    rw [m0of_lt h1] at hi
    rw [m0of_lt h2] at hi'
    cases hi; cases hi'
    exact e
  · intro b i hi
    rw [H0of_next]
    unfold m0of at hi
    split at hi
    · rename_i h
      cases hi
      exact ⟨by omega, Nat.lt_of_lt_of_le h hsz⟩
    · rename_i h
      simp only [Option.map_eq_some_iff] at hi
      obtain ⟨a, ha, rfl⟩ := hi
      obtain ⟨hlt, hmem⟩ := List.getElem?_eq_some_iff.1 ha
      exact ⟨by omega, hads a (hmem ▸ List.getElem_mem hlt)⟩
  · intro g hg
    exact ⟨_, m0of_lt hg, rfl, rfl⟩
theorem calls_of_glob {P : Program} {R : Rec} (hR : RecOk P R) {f nx : Nat} {ads : List (Nat × Nat)} {l : List (Nat × AObj)} (h : isG l (R.call f .nil (H0of nx l)) = true) {w : World}
    (hrel : Rel (m0of ads) (H0of nx l) w) (hl : GlobsAt (m0of ads) l w) : Calls P f #[] w fun e w' => e = .returned (.bool true) ∧ KeptAll w w' := by
  obtain ⟨H2, h, hg⟩ := isG_some h
  refine (calls_of_run_at hR h hrel).mono fun e w' ⟨m2, v', he, hv, hst⟩ => ?_
  have hv := hv.bool_inv
  subst hv
  refine ⟨he, kept_of hst fun b i hi hb => ?_⟩
  cases hx : (H0of nx l).get b with
  | none => exact absurd hx hb
  | some o =>
    have hmem := H0of_get hx
    obtain ⟨h1, t, v, u, h2, hdet, h3, h4⟩ := hl _ hmem
    have h1 : b < ngl := h1
    have h2 : o = one1 t v := h2
    subst h2
    have hle : Le (m0of ads) m2 := hst.le hrel
    have hi2 := hle _ _ hi
    rw [m0of_lt h1] at hi
    cases hi
    obtain ⟨x2, a1, a2⟩ := hst.rel.live _ _ (hg _ hmem) _ hi2
    have := OR.one_cell (one1_ok h4 rfl rfl rfl) a2 rfl rfl fun u u2 => VR.det hle hdet
    show w'.heap[b]? = w.heap[b]?
    have h3 : w.heap[b]? = some (.cells #[u] t (0, 0)) := h3
    have a1 : w'.heap[b]? = some x2 := a1
    rw [a1, h3, this]
theorem size_of_shaped {P : Program} {w : World} (hs : w.ShapedOpen P) (h : P.globals.size < (begin P (fun _ _ => 0) default).world.heap.size) : P.globals.size + 1 ≤ w.heap.size := by
  obtain ⟨o, _, h1, _⟩ := hs.2 P.globals.size (Nat.le_refl _) h
  exact (Array.getElem?_eq_some_iff.1 h1).1
end Go.Xq
namespace Go.Xq
noncomputable def memN (t : Nat) : List Nat → Bool
  | [] => false
  | u :: r => Nat.beq t u || memN t r
noncomputable def typA (l : List Nat) (rt ng : Nat) (args : AV) : Option AV :=
  match args with
  | .cons (.ifc t _) .nil => bt (memN t l) (some (.ifc rt (.agg (.cons (.ptr ng t) .nil)))) none
  | _ => none
noncomputable def cmpbA (l : List Nat) (ng : Nat) (args : AV) : Option AV :=
  match args with
  | .cons (.agg (.cons (.ptr b t) .nil)) .nil => bt (Nat.beq b ng && memN t l) (some (.bool true)) none
  | _ => none
section
variable {P : Program}
end
noncomputable def isSlA : AV → Bool
  | .sl _ _ _ _ => true
  | .snil => true
  | _ => false
noncomputable def idxzA (g : Nat) (args : AV) (H : AH) : Option (AV × AH) :=
  match args with
  | .cons s (.cons (.fn (.func k) .nil .nil) .nil) => bt (Nat.beq k g && isSlA s) (ob (bytesA H s) fun p => bt (Nat.beq p.2 0 && Nat.blt p.1 4294967296) (some (.int .i64 (-1), H)) none) none
  | _ => none
section
variable {P : Program}
end
end Go.Xq
namespace Go.Xq
noncomputable def pagesA (args : AV) (H : AH) : Option (AV × AH) :=
  match args with
  | .cons (.ptr b off) .nil => ob (H.get b) fun o => ob (rdCell o (Nat.add off 1)) fun s => ob (rdCell o off) fun p =>
    match s, p with
    | .sl _ _ n _, .int .i64 (.ofNat pg) => bt (Nat.blt 0 pg && (Nat.blt pg 4294967296 && Nat.blt n 4294967296)) (some (.int .i64 (.ofNat (Nat.div n pg)), H)) none
    | _, _ => none
  | _ => none
noncomputable def placeA (args : AV) (H : AH) : Option (AV × AH) :=
  match args with
  | .cons (.ptr b off) (.cons (.int .i64 (.ofNat k)) .nil) => ob (H.get b) fun o => ob (rdCell o (Nat.add off 1)) fun s => ob (rdCell o off) fun p =>
    match s, p with
    | .sl sb so _ (some c), .int .i64 (.ofNat pg) =>
      bt ((Nat.blt 0 pg && Nat.blt pg 4294967296) && ((Nat.blt k 4294967296 && Nat.blt c 4294967296) && Nat.ble (Nat.mul (Nat.succ k) pg) c))
        (some (.sl sb (Nat.add so (Nat.mul k pg)) pg (some (Nat.sub c (Nat.mul k pg))), H)) none
    | _, _ => none
  | _ => none
section
variable {P : Program}
end
end Go.Xq
namespace Go.Xq
noncomputable def isNoEnt : AObj → Bool
  | .mp [] _ => true
  | _ => false
noncomputable def readA (args : AV) (H : AH) : Option (AV × AH) :=
  match args with
  | .cons (.ptr b off) (.cons (.int .i64 (.ofNat k)) .nil) => ob (H.get b) fun o => ob (rdCell o (Nat.add off 1)) fun s => ob (rdCell o off) fun p => ob (rdCell o (Nat.add off 4)) fun dn => ob (rdCell o (Nat.add off 3)) fun lm =>
    ob (rdCell o (Nat.add off 9)) fun ct =>
    match s, p, dn, lm, ct with
    | .sl sb so n (some c), .int .i64 (.ofNat pg), .bool false, .mp mb, .int .i64 (.ofNat cnt) =>
      ob (H.get mb) fun mo => ob (bytesA H (.sl sb (Nat.add so (Nat.mul k pg)) pg (some (Nat.sub c (Nat.mul k pg))))) fun q =>
      bt (((Nat.blt 0 pg && Nat.blt pg 4294967296) && ((Nat.blt k 4294967296 && Nat.blt c 4294967296) && Nat.ble (Nat.mul (Nat.succ k) pg) c)) && ((Nat.blt n 4294967296 && Nat.blt k (Nat.div n pg)) && ((Nat.blt cnt 4294967295 && isNoEnt mo) && isCs o)))
        (ob (wrCell o (Nat.add off 9) (.int .i64 (.ofNat (Nat.succ cnt)))) fun o2 =>
          some (.tup (.cons (.sl H.next 0 pg (some pg)) (.cons (.int .i64 (.ofNat 0)) .nil)), (H.set b o2).new (.bys 5 pg false q.2))) none
    | _, _, _, _, _ => none
  | _ => none
section
variable {P : Program}
end
end Go.Xq
