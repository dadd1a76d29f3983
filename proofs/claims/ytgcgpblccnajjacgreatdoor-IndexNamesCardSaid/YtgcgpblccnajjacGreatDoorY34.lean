/- A part of the proof that what the evaluator answers is what the machine does. Its conditions stand in each theorem. -/
import Derived.Test.YtgcgpblccnajjacGreatDoorY33
namespace Go.Xq
/-! ### All of a region that draws -/
def unl (f : Nat → Bool) : Nat → Nat
  | 0 => 0
  | n + 1 => unl f n + (if f n then 0 else 1)
theorem unl_zero {f : Nat → Bool} : ∀ {n : Nat}, unl f n = 0 → ∀ i, i < n → f i = true
  | 0, _, i, hi => by omega
  | n + 1, h, i, hi => by
    simp only [unl] at h
    by_cases e : i = n
    · subst e
      cases hf : f i with
      | true => rfl
      | false => rw [hf] at h; simp at h
    · exact unl_zero (n := n) (by omega) i (by omega)
theorem unl_le {f g : Nat → Bool} (h : ∀ i, f i = true → g i = true) : ∀ n, unl g n ≤ unl f n
  | 0 => Nat.le_refl _
  | n + 1 => by
    have ih := unl_le h n
    simp only [unl]
    cases hf : f n with
    | true => rw [h n hf]; simpa using ih
    | false => cases g n <;> simp <;> omega
theorem unl_lt {f g : Nat → Bool} (h : ∀ i, f i = true → g i = true) {i : Nat} (hf : f i = false) (hg : g i = true) : ∀ n, i < n → unl g n < unl f n
  | 0, hi => by omega
  | n + 1, hi => by
    simp only [unl]
    by_cases e : i = n
    · subst e
      have := unl_le h i
      rw [hf, hg]; simp; omega
    · have ih := unl_lt h hf hg n (by omega)
      cases hf' : f n with
      | true => rw [h n hf']; simpa using ih
      | false => cases g n <;> simp <;> omega
theorem unl_bound (f : Nat → Bool) : ∀ n, unl f n ≤ n
  | 0 => Nat.le_refl _
  | n + 1 => by have := unl_bound f n; simp only [unl]; split <;> omega
theorem all_listed {ops : Array Oper} {listed : Array Bool} (hsz : listed.size = ops.size) (he : edgesOk ops.toList 0 = true) (hr : Region.ready .any ops listed = []) : ∀ i, i < ops.size → listed.getD i false = true := by
  intro i
  induction i using Nat.strongRecOn with
  | _ i ih =>
    intro hi
    cases hL : listed.getD i false with
    | true => rfl
    | false =>
      have ho : ops[i]? = some ops[i] := Array.getElem?_eq_getElem hi
      have hmem : i ∈ Region.ready .any ops listed := by
        rw [mem_ready]
        refine ⟨?_, _, ho, fun e hem hb => ?_⟩
        · have hlt : i < listed.size := by omega
          simp [Array.getD_eq_getD_getElem?, hlt] at hL ⊢; exact hL
        · rw [binds_any] at hb
          have := edgesOk_mem he i _ (by rw [Array.getElem?_toList]; exact ho) e (by simpa using hem) hb
          exact ih e.on (by omega) (by omega)
      rw [hr] at hmem; cases hmem
section
variable {P : Program} {E : Env} (hE : TyOk P E) (hX : ExtOk P E) {b : Frame} {cx : Cx}
include hE hX in
theorem lin_ok {R : Rec} (hR : RecOk P R) {ops : Array Oper} {l : List RO} {pm : Tr Nat} {hv : List Nat} {T0 : Tr AV} {m0 : Ren} {H0 : AH} {w0 : World} {D : List ADf} {s : DS} {acc : Nat} (hs : Stat E R cx ops l pm hv T0 H0 s acc) {K : List Item} {cs : List Frame} :
    ∀ (fuel t : Nat) (listed : Array Bool) (m : Ren) (a : Act) (w : World), listed.size = ops.size → unl (fun i => listed.getD i false) ops.size ≤ fuel → Cur cx ops hv m0 H0 w0 T0 D s (fun i => listed.getD i false = true) m a w →
    ∃ L m' a' w', (∀ i, i < ops.size → L i) ∧ Cur cx ops hv m0 H0 w0 T0 D s L m' a' w' ∧ Steps P (lone (b.atR a (.inRegion ops (Region.linearise.go .any ops fuel t listed []) :: K)) cs w) (lone (b.atR a' K) cs w') := by
  intro fuel
  induction fuel with
  | zero =>
    intro t listed m a w hsz hu hc
    refine ⟨_, m, a, w, fun i hi => unl_zero (f := fun i => listed.getD i false) (n := ops.size) (by omega) i hi, hc, .one ?_⟩
    simpa [Region.linearise.go] using stepR_region_end
  | succ fuel ih =>
    intro t listed m a w hsz hu hc
    simp only [Region.linearise.go]
    change ∃ L m' a' w', _ ∧ _ ∧ Steps P (lone (b.atR a (.inRegion ops (match (Region.ready .any ops listed)[t % (Region.ready .any ops listed).length]? with
      | some i => Region.linearise.go .any ops fuel (t / (Region.ready .any ops listed).length) (listed.setIfInBounds i true) [i]
      | none => [].reverse) :: K)) cs w) _
    cases hi : (Region.ready .any ops listed)[t % (Region.ready .any ops listed).length]? with
    | none =>
      have hnil : Region.ready .any ops listed = [] := by
        cases hr : Region.ready .any ops listed with
        | nil => rfl
        | cons x xs =>
          rw [hr] at hi
          have hlt : t % (x :: xs).length < (x :: xs).length := Nat.mod_lt _ (by simp)
          rw [List.getElem?_eq_none_iff] at hi
          omega
      exact ⟨_, m, a, w, all_listed hsz hs.ed hnil, hc, .one stepR_region_end⟩
    | some i =>
      simp only []
      rw [linearise_go_acc, List.reverse_singleton, List.singleton_append]
      have hmem := List.mem_of_getElem? hi
      rw [mem_ready] at hmem
      obtain ⟨h0, o, ho, hall⟩ := hmem
      have hlt : i < listed.size := by rw [hsz]; exact (Array.getElem?_eq_some_iff.1 ho).1
      have hi0 : listed.getD i false = false := by simp [Array.getD_eq_getD_getElem?, hlt] at h0 ⊢; exact h0
      obtain ⟨m1, a1, w1, g1, g2⟩ := cur_step hE hX (b := b) (K := K) (cs := cs) (rest := Region.linearise.go .any ops fuel (t / (Region.ready .any ops listed).length) (listed.setIfInBounds i true) []) hR hs hc ho (by simp [hi0])
        (fun e he hb => hall e (by simpa using he) (by rw [binds_any]; exact hb))
      have eL : (fun k => listed.getD k false = true ∨ k = i) = fun k => (listed.setIfInBounds i true).getD k false = true := by
        funext k
        apply propext
        by_cases e : i = k
        · subst e; simp [Array.getD_eq_getD_getElem?, hlt]
        · rw [getD_set_ne false e]
          exact ⟨fun h => h.resolve_right (Ne.symm e), .inl⟩
      rw [eL] at g2
      have hu2 : unl (fun k => (listed.setIfInBounds i true).getD k false) ops.size < unl (fun k => listed.getD k false) ops.size := by
        refine unl_lt (f := fun k => listed.getD k false) (g := fun k => (listed.setIfInBounds i true).getD k false) (i := i) (fun k hk => getD_set_true hk) hi0 ?_ _ (by omega)
        simp [Array.getD_eq_getD_getElem?, hlt]
      obtain ⟨L, m2, a2, w2, k1, k2, k3⟩ := ih (t / (Region.ready .any ops listed).length) (listed.setIfInBounds i true) m1 a1 w1 (by simpa using hsz) (by omega) g2
      exact ⟨L, m2, a2, w2, k1, k2, g1.trans k3⟩
include hE hX in
theorem draw_ok (hm : P.follows .mixedOrders = true) {id : Nat} {ops : Array Oper} {k : RK} (h : drawK E cx.n ops.toList = some k) : RKOk P b cx [.code (.region id ops true)] k := by
  simp only [drawK, ob_some, Option.some.injEq] at h
  obtain ⟨ra, h, rfl⟩ := h
  simp only [analyse, ob_some] at h
  obtain ⟨l, hros, h⟩ := h
  split at h
  rotate_left
  · cases h
  rename_i hchk
  simp only [Option.some.injEq] at h
  subst h
  simp only [Bool.and_eq_true, List.all_eq_true] at hchk
  obtain ⟨hed, _, htm, hord⟩ := hchk
  intro R hR m H w T D a K cs hcs hr hf
  show OutOk P b cx K cs m H w _ (oc ((drawsK (orderOf l (heavies E ops.toList 0).length 0)).f R { T, H, hs := [], dn := [] }) .bad fun d => bt (checkA ((d.H :: d.hs).reverse) d.dn) (.nor d.T D d.H) .bad)
  cases hrun : (drawsK (orderOf l (heavies E ops.toList 0).length 0)).f R { T, H, hs := [], dn := [] } with
  | none => trivial
  | some s =>
    rw [oc_some]
    cases hck : checkA ((s.H :: s.hs).reverse) s.dn with
    | false => trivial
    | true =>
      rw [bt_true]
      have hl : ∀ x ∈ l, x.heavy = isHv x.sp.act ∧ x.sp.dst = x.o.dst := by
        intro x hx
        obtain ⟨q, _, _, hsp, hh, _⟩ := ros_spec hros x hx
        refine ⟨hh, ?_⟩
        simp only [spK, ob_some, bt_some, Option.some.injEq] at hsp
        obtain ⟨g, _, _, e⟩ := hsp
        rw [← e]
      obtain ⟨acc, hcan, hfull⟩ := draws_can hl (fun x hx => mem_orderOf hx) hord (Can.init R l (masks ops.toList 0 .e) (heavies E ops.toList 0) T H) hrun
      have hs : Stat E R cx ops l (masks ops.toList 0 .e) (heavies E ops.toList 0) T H s acc := ⟨rfl, rfl, hed, hros, htm, hcan, by simpa using hfull, checkA_spec hck⟩
      have hst0 : St m H w m H { w with drawn := w.drawn + 1 } := St.world hr rfl rfl rfl
      obtain ⟨G0, s1, s2⟩ := hcan.start
      have hc0 : Cur cx ops (heavies E ops.toList 0) m H w T D s (fun i => (Array.replicate ops.size false).getD i false = true) m a { w with drawn := w.drawn + 1 } := by
        have hno : ∀ i, (Array.replicate ops.size false).getD i false = false := by
          intro i
          by_cases hi : i < ops.size <;> simp [Array.getD_eq_getD_getElem?, hi]
        refine ⟨⟨0, G0, s1, hst0.grow s2, fun q i _ => by simp [hno]⟩, fun i o _ h => by simp [hno] at h, hf.t.size, fun t => .inr ⟨fun d _ h => by simp [hno] at h, hf.t.at_ t⟩, hf.d, hf.r, fun d hd b o hb _ => ?_⟩
        have := (hcan.vok d hd).low b o hb
        cases hmb : m b with
        | none => rfl
        | some i => have := (hr.bnd b i hmb).1; omega
      have hstep := stepR_region_draw (P := P) (b := b) (a := a) (k := K) (cs := cs) (w := w) (ops := ops) (id := id)
      simp only [Region.schedule, hm, Bool.true_or, if_true] at hstep
      obtain ⟨L, m2, a2, w2, g1, g2, g3⟩ := lin_ok hE hX (b := b) (K := K) (cs := cs) hR hs ops.size (w.tape w.drawn (.order b.fn id)) (Array.replicate ops.size false) m a _ (by simp) (unl_bound _ _) hc0
      obtain ⟨j, G, k1, k2, k3⟩ := g2.st
      have hvlen : (heavies E ops.toList 0).length = s.hs.length := by obtain ⟨pre, h1, h2⟩ := hcan.rest; rw [h1, ← h2]; simp
      have idx : ∀ y ∈ s.dn, y.x.i < ops.size := by
        intro y hy
        obtain ⟨p, a1, a2, _⟩ := ros_spec hros y.x (hcan.mem y hy)
        have := (List.getElem?_eq_some_iff.1 a2).1
        rw [Array.length_toList] at this
        omega
      have hj : j = s.hs.length := by
        have hle := hAt_le k1
        rcases Nat.lt_or_ge j s.hs.length with h | h
        · have hl : j < (heavies E ops.toList 0).length := by omega
          have hk : (heavies E ops.toList 0)[j]? = some (heavies E ops.toList 0)[j] := List.getElem?_eq_getElem hl
          obtain ⟨p, o', b1, b2, _⟩ := heavies_mem (List.mem_of_getElem? hk)
          have := (List.getElem?_eq_some_iff.1 b2).1
          rw [Array.length_toList] at this
          have := (k3 j _ hk).1 (g1 _ (by omega))
          omega
        · omega
      subst hj
      rw [hAt_len] at k1; cases k1
      refine ⟨m2, a2, w2, k2, ⟨⟨g2.size, fun t => ?_⟩, g2.dfr, g2.rd⟩, .head hstep g3⟩
      rcases hcan.tmp t with ⟨y, y1, y2, y3⟩ | ⟨y1, y2⟩
      · rcases g2.tmp t with ⟨e, e1, e2, e3, e4⟩ | ⟨e1, _⟩
        · have hye : y = e := by
            apply hcan.one y y1 e e1
            rcases (tmpsOk_spec (htm y.x (hcan.mem y y1)) e.x (hcan.mem e e1)).2 with h2 | h2
            · exact h2
            · exact absurd e3 (h2 t y2)
          subst hye
          rw [y3]; exact e4
        · exact absurd y2 (e1 y y1 (g1 _ (idx y y1)))
      · rcases g2.tmp t with ⟨e, e1, e2, e3, e4⟩ | ⟨e1, e2⟩
        · exact absurd e3 (y1 e e1)
        · rw [y2]; exact e2
end
end Go.Xq
