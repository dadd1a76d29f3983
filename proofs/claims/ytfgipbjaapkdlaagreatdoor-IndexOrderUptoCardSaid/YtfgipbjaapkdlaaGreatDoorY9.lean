/- A part of the proof that the evaluator is right. Conditions: in each theorem. -/
import Derived.Test.YtfgipbjaapkdlaaGreatDoorY8
namespace Go.Xq
section
variable {P : Program} {E : Env} (hE : TyOk P E) (hX : ExtOk P E) {b : Frame} {cx : Cx}
structure Stat (E : Env) (R : Rec) (cx : Cx) (ops : Array Oper) (l : List RO) (pm : Tr Nat) (hv : List Nat) (T0 : Tr AV) (H0 : AH) (s : DS) (acc : Nat) : Prop where
  pm_eq : pm = masks ops.toList 0 .e
  hv_eq : hv = heavies E ops.toList 0
  ed : edgesOk ops.toList 0 = true
  rs : ros E cx.n ops.toList pm hv ops.toList 0 = some l
  tm : ∀ x ∈ l, tmpsOk pm x l = true
  can : Can R l pm hv T0 H0 s acc []
  full : acc + 1 = 2 ^ ops.size
  chk : ∀ d ∈ s.dn, check1 (s.H :: s.hs).reverse d = true
theorem look_noselect {op : Op} {k : LK} (h : lookK E op = some k) (cs : Array SelectCase) (d : Bool) : op ≠ .select cs d := by
  rintro rfl; simp [lookK] at h
theorem fresh_noselect {op : Op} {k : FrK} (h : freshK E op = some k) (cs : Array SelectCase) (d : Bool) : op ≠ .select cs d := by
  rintro rfl; simp [freshK] at h
theorem heavy_noselect {op : Op} {k : HvK} (h : heavyK E op = some k) (cs : Array SelectCase) (d : Bool) : op ≠ .select cs d := by
  rintro rfl; simp [heavyK] at h
include hE hX in
theorem cur_step {R : Rec} (hR : RecOk P R) {ops : Array Oper} {l : List RO} {pm : Tr Nat} {hv : List Nat} {T0 : Tr AV} {m0 : Ren} {H0 : AH} {w0 : World} {D : List ADf} {s : DS} {acc : Nat} (hs : Stat E R cx ops l pm hv T0 H0 s acc)
    {L : Nat → Prop} {m : Ren} {a : Act} {w : World} (hc : Cur cx ops hv m0 H0 w0 T0 D s L m a w) {i : Nat} {o : Oper} (ho : ops[i]? = some o) (hi : ¬ L i) (hpre : ∀ e ∈ o.after.toList, bindsA e = true → L e.on) {rest : List Nat} {K : List Item} {cs : List Frame} :
    ∃ m' a' w', Steps P (lone (b.atR a (.inRegion ops (i :: rest) :: K)) cs w) (lone (b.atR a' (.inRegion ops rest :: K)) cs w') ∧ Cur cx ops hv m0 H0 w0 T0 D s (fun k => L k ∨ k = i) m' a' w' := by
  have hlt : i < ops.size := (Array.getElem?_eq_some_iff.1 ho).1
  have hol : ops.toList[i]? = some o := by rw [Array.getElem?_toList]; exact ho
  have hbit : Nat.testBit acc i = true := by
    have : acc = 2 ^ ops.size - 1 := by have := hs.full; omega
    rw [this, Nat.testBit_two_pow_sub_one]; simpa using hlt
  obtain ⟨d, hd, rfl⟩ := hs.can.out i hbit
  have hx := hs.can.mem d hd
  obtain ⟨q, hq, hxo, hsp, hhv, hlo, hhi⟩ := ros_spec hs.rs d.x hx
  rw [Nat.zero_add] at hq
  rw [← hq, hol] at hxo
  have hxo : d.x.o = o := by cases hxo; rfl
  rw [hxo] at hsp
  simp only [spK, ob_some, bt_some, Option.some.injEq] at hsp
  obtain ⟨g, hg, hdst, hspe⟩ := hsp
  have hspg : d.x.sp.g = g := by rw [← hspe]
  have hspa : d.x.sp.act = actK E o.op := by rw [← hspe]
  have hcl : ∀ i, i < ops.size → L i → ∀ k, Nat.testBit (mAt pm i) k = true → L k := by
    rw [hs.pm_eq]; exact masks_closed hs.ed hc.ed
  have hmask : ∀ k, Nat.testBit (mAt pm d.x.i) k = true → L k := by
    intro k hk
    have h1 := (masks_spec (pm := .e) hs.ed).2 d.x.i _ hol
    rw [Nat.zero_add, ← hs.pm_eq] at h1
    rw [h1] at hk
    obtain ⟨e, h2, h3, h4⟩ := maskOf_mem hk
    rcases h4 with rfl | h4
    · exact hpre e h2 h3
    · have := edgesOk_mem hs.ed d.x.i _ hol e h2 h3
      exact hcl e.on (by omega) (hpre e h2 h3) k h4
  have idx : ∀ y ∈ s.dn, y.x.i < ops.size := by
    intro y hy
    obtain ⟨p, a1, a2, _⟩ := ros_spec hs.rs y.x (hs.can.mem y hy)
    have := (List.getElem?_eq_some_iff.1 a2).1
    rw [Array.length_toList] at this
    omega
  -- the temporaries that are looked at
  have tmpf : ∃ S : Tr AV, (d.want = true → d.T = resT (looksA d.x) S) ∧ wantA d.x.sp.g S = some d.want ∧ ∀ t ∈ looksA d.x, ∀ v, S.get (bits t) = some v → VR m v (a.tmps.getD t undef) := by
    obtain ⟨accd, S, h1, h2, h3, h4, h5, h6, h7⟩ := hs.can.tok d hd
    refine ⟨S, h5, h6, fun t ht => ?_⟩
    rcases hc.tmp t with ⟨e, he, hLe, hed, hVe⟩ | ⟨hno, hV⟩
    · have hne : d.x.i ≠ e.x.i := fun e2 => hi (by rw [e2]; exact hLe)
      rcases (tmpsOk_spec (hs.tm d.x hx) e.x (hs.can.mem e he)).1 with k1 | k1 | k1 | k1
      · exact absurd k1 hne
      · rcases h7 t ht with ⟨y, hy, g1, g2, g3⟩ | ⟨g1, g2⟩
        · have hye : y = e := by
            apply hs.can.one y hy e he
            rcases (tmpsOk_spec (hs.tm y.x (hs.can.mem y hy)) e.x (hs.can.mem e he)).2 with k2 | k2
            · exact k2
            · exact absurd hed (k2 t g2)
          subst hye
          intro v hv; rw [g3] at hv; cases hv; exact hVe
        · exact absurd hed (g1 e he (h3 _ k1))
      · exact absurd (hcl _ (idx e he) hLe _ k1) hi
      · exact absurd hed (k1 t ht)
    · rcases h7 t ht with ⟨y, hy, g1, g2, g3⟩ | ⟨g1, g2⟩
      · rcases (tmpsOk_spec (hs.tm d.x hx) y.x (hs.can.mem y hy)).1 with k1 | k1 | k1 | k1
        · exact absurd g1 (by rw [← k1]; exact h1)
        · exact absurd g2 (hno y hy (hmask _ k1))
        · exact absurd (h4 _ _ g1 k1) h1
        · exact absurd g2 (k1 t ht)
      · intro v hv; rw [g2] at hv; exact hV v hv
  obtain ⟨S, hT, hwS, hVS⟩ := tmpf
  have hwant : Region.wanted o (yielded ops a.tmps) = d.want := by
    rw [hspg] at hwS
    refine want_at hg (fun dd want e => hVS dd ?_) hwS
    have : d.x.sp.g = some (dd, want) := by rw [hspg, e]
    simp [looksA, this]
  obtain ⟨j, G, hj, hst, hstj⟩ := hc.st
  have hjle := hAt_le hj
  -- the stage
  have hvlen : hv.length = s.hs.length := by obtain ⟨pre, h1, h2⟩ := hs.can.rest; rw [h1, ← h2]; simp
  have lightst : d.x.heavy = false → ∀ q i', hv[q]? = some i' → ((L i' ∨ i' = d.x.i) ↔ q < j) := by
    intro hh q i' hq
    rw [← hstj q i' hq]
    constructor
    · rintro (h | rfl)
      · exact h
      · have hm := List.mem_of_getElem? hq
        rw [hs.hv_eq] at hm
        obtain ⟨p, o', a1, a2, a3⟩ := heavies_mem hm
        rw [Nat.zero_add] at a1
        rw [← a1, hol] at a2; cases a2
        rw [hhv, hspa, a3] at hh; cases hh
    · exact .inl
  have heavyst : d.x.heavy = true → j = d.x.lo := by
    intro hh
    obtain ⟨_, h2, _⟩ := (hs.can.vok d hd).hvy hh
    rcases Nat.lt_trichotomy j d.x.lo with h | h | h
    · rw [hlo] at h
      obtain ⟨k, a1, a2⟩ := countLo_spec h
      have := (hstj j k a1).1 (hmask k a2)
      omega
    · exact h
    · exact absurd ((hstj _ _ h2).2 h) hi
  have heavyst2 : d.x.heavy = true → ∀ q i', hv[q]? = some i' → ((L i' ∨ i' = d.x.i) ↔ q < j + 1) := by
    intro hh q i' hq
    obtain ⟨_, h2, _⟩ := (hs.can.vok d hd).hvy hh
    have hjl := heavyst hh
    constructor
    · rintro (h | rfl)
      · have := (hstj q i' hq).1 h; omega
      · have : q = d.x.lo := by rw [hs.hv_eq] at hq h2; exact heavies_nodup hq h2
        omega
    · intro h
      rcases Nat.lt_or_ge q j with h3 | h3
      · exact .inl ((hstj q i' hq).2 h3)
      · have : q = d.x.lo := by omega
        subst this
        rw [h2] at hq; cases hq; exact .inr rfl
  have range : d.x.lo ≤ j ∧ j ≤ d.x.hi := by
    constructor
    · rcases Nat.lt_or_ge j d.x.lo with h | h
      · rw [hlo] at h
        obtain ⟨k, a1, a2⟩ := countLo_spec h
        have := (hstj j k a1).1 (hmask k a2)
        omega
      · exact h
    · rcases Nat.lt_or_ge d.x.hi j with h | h
      · have hl : d.x.hi < hv.length := by omega
        obtain ⟨h0, hk⟩ : ∃ h0, hv[d.x.hi]? = some h0 := ⟨_, List.getElem?_eq_getElem hl⟩
        have hL := (hstj _ _ hk).2 h
        have hk2 := hk
        rw [hhi] at hk2
        have hm := countHi_spec (pm := pm) (i := d.x.i) (hv := hv) hk2
        have hmem := List.mem_of_getElem? hk
        rw [hs.hv_eq] at hmem
        obtain ⟨p, o', a1, a2, a3⟩ := heavies_mem hmem
        rw [Nat.zero_add] at a1
        have hp := (List.getElem?_eq_some_iff.1 a2).1
        rw [Array.length_toList] at hp
        exact absurd (hcl _ (by rw [a1]; exact hp) hL _ hm) hi
      · exact h
  have unmK : ∀ e ∈ s.dn, ∀ b o, e.blk = some (b, o) → ¬ (L e.x.i ∨ e.x.i = d.x.i) → m b = none := fun e he b o hb hn => hc.unm e he b o hb fun h => hn (.inl h)
  cases hw : d.want with
  | false =>
    have hskip := stepR_op_skip (P := P) (b := b) (a := a) (k := K) (cs := cs) (w := w) (ops := ops) (i := d.x.i) (rest := rest) (by simp [ho, hwant, hw])
    rw [ho] at hskip
    refine ⟨m, _, w, .one hskip, ?_⟩
    refine hc.put hs.can.one hd hol hxo hdst hpre (fun _ _ h => h) (v' := undef) (by rw [(hs.can.vok d hd).no hw]; exact undef_ok m) ?_ unmK
    cases hh : d.x.heavy with
    | false => exact ⟨j, G, hj, hst, lightst hh⟩
    | true =>
      obtain ⟨_, _, G1, G', G2, _, k1, _, k2, k3, k4⟩ := (hs.can.vok d hd).hvy hh
      have hjl := heavyst hh
      rw [← hjl, hj] at k1; cases k1
      rw [k4 hw] at k3
      exact ⟨j + 1, G2, by rw [hjl]; exact k2, hst.grow k3, heavyst2 hh⟩
  | true =>
    have hwd : Region.wanted o (yielded ops a.tmps) = true := by rw [hwant, hw]
    have hT := hT hw
    let a1 : Act := { tmps := Array.ofFn (n := cx.n) fun t => if t.val ∈ looksA d.x then a.tmps.getD t.val undef else undef, defers := [] }
    have hget : ∀ t, a1.tmps.getD t undef = if t ∈ looksA d.x then a.tmps.getD t undef else undef := by
      intro t
      by_cases ht : t < cx.n
      · simp [a1, Array.getD_eq_getD_getElem?, ht]
      · have h1 : a1.tmps.getD t undef = undef := by simp [a1, Array.getD_eq_getD_getElem?, ht]
        have h2 : a.tmps.getD t undef = undef := by rw [Array.getD_eq_getD_getElem?, Array.getElem?_eq_none (by rw [hc.size]; omega)]; rfl
        rw [h1, h2]; simp
    have hTR : TR cx.n m d.T a1.tmps := by
      refine ⟨by simp [a1], fun t v hv => ?_⟩
      rw [hT, resT_get] at hv
      rw [hget]
      split at hv
      · rename_i h; rw [if_pos h]; exact hVS t h v hv
      · cases hv
    have hER : ER m d.T a1.eval := ER.of hst.rel.glob hTR
    have hev : ∀ y ∈ o.op.operands, a1.eval y = a.eval y := by
      intro y hy
      cases y with
      | tmp t =>
        have hm : t ∈ looksA d.x := by
          simp only [looksA, List.mem_append, List.mem_filterMap]
          refine .inl ⟨.tmp t, ?_, rfl⟩
          rw [hxo]; simpa using hy
        have h1 := hget t
        rw [if_pos hm] at h1
        simpa [Act.eval, Array.getD_eq_getD_getElem?] using h1
      | _ => rfl
    rcases (hs.can.vok d hd).yes hw with ⟨k, H1, hact, hk⟩ | ⟨k, bn, ob, hact, hblk, hk, hlow, hbn⟩ | ⟨k, G0, G', hact, hhp, hk⟩
    · -- looks
      rw [hspa] at hact
      rcases actK_look hact with hlk | hbad
      rotate_left
      · rw [hbad] at hk; cases hk
      have hh : d.x.heavy = false := by rw [hhv, hspa, hact]; rfl
      have kG : k.f d.T G = some d.v := by
        cases hp : pureK o.op with
        | true => rw [pureK_ok hp hlk d.T G H1]; exact hk
        | false =>
          have hck := hs.chk d hd
          simp only [check1, hw, hspa, hact, hxo, hp] at hck
          have e1 : Nat.add (Nat.sub d.x.hi d.x.lo) 1 = d.x.hi - d.x.lo + 1 := rfl
          obtain ⟨G1, a1, a2⟩ := sameAt_spec hck j range.1 (by have := range.2; rw [e1]; omega)
          have a1 : hAt s.hs s.H j = some G1 := a1
          rw [hj] at a1; cases a1
          unfold looksSame at a2
          cases hkg : k.f d.T G with
          | none => rw [hkg] at a2; cases a2
          | some v2 =>
            rw [hkg] at a2
            rw [AV.beq_eq a2]
      obtain ⟨v', r1, r2⟩ := lookK_ok hE hlk m G w d.T a1.eval d.v hst.rel hER kG
      rw [execOp_congr o (look_noselect hlk) hev] at r1
      obtain ⟨v2, w2, ⟨rfl, hv2⟩, hsteps⟩ := step_op (b := b) (K := K) (cs := cs) (rest := rest) (Q := fun v2 w2 => w2 = w ∧ VR m d.v v2) ho hwd (Oper.semAt_eq _ _ _ (look_nodefer hlk)) (.value v' w r1 ⟨rfl, r2⟩)
      exact ⟨m, _, _, hsteps, hc.put hs.can.one hd hol hxo hdst hpre (fun _ _ h => h) hv2 ⟨j, G, hj, hst, lightst hh⟩ unmK⟩
    · -- a new block
      rw [hspa] at hact
      have hfr := actK_fresh hact
      have hh : d.x.heavy = false := by rw [hhv, hspa, hact]; rfl
      have hG : G.get bn = some ob := by
        have hck := hs.chk d hd
        simp only [check1, hw, hspa, hact, hblk] at hck
        have e1 : Nat.add (Nat.sub d.x.hi d.x.lo) 1 = d.x.hi - d.x.lo + 1 := rfl
        obtain ⟨G1, a1, a2⟩ := sameAt_spec hck j range.1 (by have := range.2; rw [e1]; omega)
        have a1 : hAt s.hs s.H j = some G1 := a1
        rw [hj] at a1; cases a1
        unfold holdsBlk at a2
        cases hgb : G.get bn with
        | none => rw [hgb] at a2; cases a2
        | some o2 => rw [hgb] at a2; rw [objBeq_eq a2]
      have hmb := hc.unm d hd bn ob hblk hi
      obtain ⟨v', y, w', bi, r1, r2, r3, r4, r5, r6⟩ := freshK_ok hE hfr m w d.T a1.eval bn d.v ob hER hk
      have hle : Le m (m.ext bn bi) := fun b' i' h' => by
        rw [Ren.ext_ne m bi (fun e => by subst e; rw [hmb] at h'; cases h')]; exact h'
      obtain ⟨g1, g2⟩ := r6 (m.ext bn bi) hle (Ren.ext_same _ _ _)
      obtain ⟨_, hst'⟩ := hst.reveal hG hmb (hbn j G range.1 hj) hlow r5 r2 g2 r3 r4
      rw [execOp_congr o (fresh_noselect hfr) hev] at r1
      obtain ⟨v2, w2, ⟨rfl, rfl⟩, hsteps⟩ := step_op (b := b) (K := K) (cs := cs) (rest := rest) (Q := fun v2 w2 => w2 = w' ∧ v2 = v') ho hwd (Oper.semAt_eq _ _ _ (fresh_nodefer hfr)) (.value v' w' r1 ⟨rfl, rfl⟩)
      refine ⟨_, _, _, hsteps, hc.put hs.can.one hd hol hxo hdst hpre hle g1 ⟨j, G, hj, hst', lightst hh⟩ fun e he b2 o2 hb hn => ?_⟩
      by_cases e2 : b2 = bn
      · subst e2
        exact absurd (hs.can.bone e he d hd b2 _ _ hb hblk) fun h => hn (.inr h)
      · rw [Ren.ext_ne m bi e2]; exact unmK e he b2 o2 hb hn
    · -- what changes the heap
      rw [hspa] at hact
      have hhk := actK_heavy hact
      have hh : d.x.heavy = true := by rw [hhv, hspa, hact]; rfl
      have hjl := heavyst hh
      obtain ⟨_, _, G1, G1', G2, k0, k1, k2, k3, k4, _⟩ := (hs.can.vok d hd).hvy hh
      rw [hhp] at k0; cases k0
      rw [← hjl, hj] at k1; cases k1
      have hout := heavyK_ok hE hX hhk R hR m G w d.T a1.eval d.v G' hst.rel hER hk
      rw [execOp_congr o (heavy_noselect hhk) hev] at hout
      obtain ⟨v2, w2, ⟨m2, hs2, hv2⟩, hsteps⟩ := step_op (b := b) (K := K) (cs := cs) (rest := rest) ho hwd (Oper.semAt_eq _ _ _ (heavy_nodefer hhk)) hout
      refine ⟨m2, _, w2, hsteps, hc.put hs.can.one hd hol hxo hdst hpre (St.le hst.rel hs2) hv2 ⟨j + 1, G2, by rw [hjl]; exact k3, (hst.trans hs2).grow k4, heavyst2 hh⟩ fun e he b2 o2 hb hn => ?_⟩
      have hm := unmK e he b2 o2 hb hn
      rcases hs.can.hpb e he d hd b2 o2 G G' hb hhp with h | h
      · rw [hs2.ext b2 h]; exact hm
      · cases hmb : m2 b2 with
        | none => rfl
        | some bi => have := (hs2.rel.bnd b2 bi hmb).1; omega
end
end Go.Xq
namespace Go.Xq
def unl (f : Nat → Bool) : Nat → Nat
  | 0 => 0
  | n + 1 => unl f n + (if f n then 0 else 1)
theorem unl_zero {f : Nat → Bool} : ∀ {n : Nat}, unl f n = 0 → ∀ i, i < n → f i = true
  | 0, _, i, hi => by omega
  | n + 1, h, i, hi => by
    simp only [unl] at h
    by_cases e : i = n
    · subst e
      cases hf : f i with
      | true => rfl
      | false => rw [hf] at h; simp at h
    · exact unl_zero (n := n) (by omega) i (by omega)
theorem unl_le {f g : Nat → Bool} (h : ∀ i, f i = true → g i = true) : ∀ n, unl g n ≤ unl f n
  | 0 => Nat.le_refl _
  | n + 1 => by
    have ih := unl_le h n
    simp only [unl]
    cases hf : f n with
    | true => rw [h n hf]; simpa using ih
    | false => cases g n <;> simp <;> omega
theorem unl_lt {f g : Nat → Bool} (h : ∀ i, f i = true → g i = true) {i : Nat} (hf : f i = false) (hg : g i = true) : ∀ n, i < n → unl g n < unl f n
  | 0, hi => by omega
  | n + 1, hi => by
    simp only [unl]
    by_cases e : i = n
    · subst e
      have := unl_le h i
      rw [hf, hg]; simp; omega
    · have ih := unl_lt h hf hg n (by omega)
      cases hf' : f n with
      | true => rw [h n hf']; simpa using ih
      | false => cases g n <;> simp <;> omega
theorem unl_bound (f : Nat → Bool) : ∀ n, unl f n ≤ n
  | 0 => Nat.le_refl _
  | n + 1 => by have := unl_bound f n; simp only [unl]; split <;> omega
theorem all_listed {ops : Array Oper} {listed : Array Bool} (hsz : listed.size = ops.size) (he : edgesOk ops.toList 0 = true) (hr : Region.ready .any ops listed = []) : ∀ i, i < ops.size → listed.getD i false = true := by
  intro i
  induction i using Nat.strongRecOn with
  | _ i ih =>
    intro hi
    cases hL : listed.getD i false with
    | true => rfl
    | false =>
      have ho : ops[i]? = some ops[i] := Array.getElem?_eq_getElem hi
      have hmem : i ∈ Region.ready .any ops listed := by
        rw [mem_ready]
        refine ⟨?_, _, ho, fun e hem hb => ?_⟩
        · have hlt : i < listed.size := by omega
          simp [Array.getD_eq_getD_getElem?, hlt] at hL ⊢; exact hL
        · rw [binds_any] at hb
          have := edgesOk_mem he i _ (by rw [Array.getElem?_toList]; exact ho) e (by simpa using hem) hb
          exact ih e.on (by omega) (by omega)
      rw [hr] at hmem; cases hmem
section
variable {P : Program} {E : Env} (hE : TyOk P E) (hX : ExtOk P E) {b : Frame} {cx : Cx}
include hE hX in
theorem lin_ok {R : Rec} (hR : RecOk P R) {ops : Array Oper} {l : List RO} {pm : Tr Nat} {hv : List Nat} {T0 : Tr AV} {m0 : Ren} {H0 : AH} {w0 : World} {D : List ADf} {s : DS} {acc : Nat} (hs : Stat E R cx ops l pm hv T0 H0 s acc) {K : List Item} {cs : List Frame} :
    ∀ (fuel t : Nat) (listed : Array Bool) (m : Ren) (a : Act) (w : World), listed.size = ops.size → unl (fun i => listed.getD i false) ops.size ≤ fuel → Cur cx ops hv m0 H0 w0 T0 D s (fun i => listed.getD i false = true) m a w →
    ∃ L m' a' w', (∀ i, i < ops.size → L i) ∧ Cur cx ops hv m0 H0 w0 T0 D s L m' a' w' ∧ Steps P (lone (b.atR a (.inRegion ops (Region.linearise.go .any ops fuel t listed []) :: K)) cs w) (lone (b.atR a' K) cs w') := by
  intro fuel
  induction fuel with
  | zero =>
    intro t listed m a w hsz hu hc
    refine ⟨_, m, a, w, fun i hi => unl_zero (f := fun i => listed.getD i false) (n := ops.size) (by omega) i hi, hc, .one ?_⟩
    simpa [Region.linearise.go] using stepR_region_end
  | succ fuel ih =>
    intro t listed m a w hsz hu hc
    simp only [Region.linearise.go]
    change ∃ L m' a' w', _ ∧ _ ∧ Steps P (lone (b.atR a (.inRegion ops (match (Region.ready .any ops listed)[t % (Region.ready .any ops listed).length]? with
      | some i => Region.linearise.go .any ops fuel (t / (Region.ready .any ops listed).length) (listed.setIfInBounds i true) [i]
      | none => [].reverse) :: K)) cs w) _
    cases hi : (Region.ready .any ops listed)[t % (Region.ready .any ops listed).length]? with
    | none =>
      have hnil : Region.ready .any ops listed = [] := by
        cases hr : Region.ready .any ops listed with
        | nil => rfl
        | cons x xs =>
          rw [hr] at hi
          have hlt : t % (x :: xs).length < (x :: xs).length := Nat.mod_lt _ (by simp)
          rw [List.getElem?_eq_none_iff] at hi
          omega
      exact ⟨_, m, a, w, all_listed hsz hs.ed hnil, hc, .one stepR_region_end⟩
    | some i =>
      simp only []
      rw [linearise_go_acc, List.reverse_singleton, List.singleton_append]
      have hmem := List.mem_of_getElem? hi
      rw [mem_ready] at hmem
      obtain ⟨h0, o, ho, hall⟩ := hmem
      have hlt : i < listed.size := by rw [hsz]; exact (Array.getElem?_eq_some_iff.1 ho).1
      have hi0 : listed.getD i false = false := by simp [Array.getD_eq_getD_getElem?, hlt] at h0 ⊢; exact h0
      obtain ⟨m1, a1, w1, g1, g2⟩ := cur_step hE hX (b := b) (K := K) (cs := cs) (rest := Region.linearise.go .any ops fuel (t / (Region.ready .any ops listed).length) (listed.setIfInBounds i true) []) hR hs hc ho (by simp [hi0])
        (fun e he hb => hall e (by simpa using he) (by rw [binds_any]; exact hb))
      have eL : (fun k => listed.getD k false = true ∨ k = i) = fun k => (listed.setIfInBounds i true).getD k false = true := by
        funext k
        apply propext
        by_cases e : i = k
        · subst e; simp [Array.getD_eq_getD_getElem?, hlt]
        · rw [getD_set_ne false e]
          exact ⟨fun h => h.resolve_right (Ne.symm e), .inl⟩
      rw [eL] at g2
      have hu2 : unl (fun k => (listed.setIfInBounds i true).getD k false) ops.size < unl (fun k => listed.getD k false) ops.size := by
        refine unl_lt (f := fun k => listed.getD k false) (g := fun k => (listed.setIfInBounds i true).getD k false) (i := i) (fun k hk => getD_set_true hk) hi0 ?_ _ (by omega)
        simp [Array.getD_eq_getD_getElem?, hlt]
      obtain ⟨L, m2, a2, w2, k1, k2, k3⟩ := ih (t / (Region.ready .any ops listed).length) (listed.setIfInBounds i true) m1 a1 w1 (by simpa using hsz) (by omega) g2
      exact ⟨L, m2, a2, w2, k1, k2, g1.trans k3⟩
include hE hX in
theorem draw_ok (hm : P.follows .mixedOrders = true) {id : Nat} {ops : Array Oper} {k : RK} (h : drawK E cx.n ops.toList = some k) : RKOk P b cx [.code (.region id ops true)] k := by
  simp only [drawK, ob_some, Option.some.injEq] at h
  obtain ⟨ra, h, rfl⟩ := h
  simp only [analyse, ob_some] at h
  obtain ⟨l, hros, h⟩ := h
  split at h
  rotate_left
  · cases h
  rename_i hchk
  simp only [Option.some.injEq] at h
  subst h
  simp only [Bool.and_eq_true, List.all_eq_true] at hchk
  obtain ⟨hed, _, htm, hord⟩ := hchk
  intro R hR m H w T D a K cs hcs hr hf
  show OutOk P b cx K cs m H w _ (oc ((drawsK (orderOf l (heavies E ops.toList 0).length 0)).f R { T, H, hs := [], dn := [] }) .bad fun d => bt (checkA ((d.H :: d.hs).reverse) d.dn) (.nor d.T D d.H) .bad)
  cases hrun : (drawsK (orderOf l (heavies E ops.toList 0).length 0)).f R { T, H, hs := [], dn := [] } with
  | none => trivial
  | some s =>
    rw [oc_some]
    cases hck : checkA ((s.H :: s.hs).reverse) s.dn with
    | false => trivial
    | true =>
      rw [bt_true]
      have hl : ∀ x ∈ l, x.heavy = isHv x.sp.act ∧ x.sp.dst = x.o.dst := by
        intro x hx
        obtain ⟨q, _, _, hsp, hh, _⟩ := ros_spec hros x hx
        refine ⟨hh, ?_⟩
        simp only [spK, ob_some, bt_some, Option.some.injEq] at hsp
        obtain ⟨g, _, _, e⟩ := hsp
        rw [← e]
      obtain ⟨acc, hcan, hfull⟩ := draws_can hl (fun x hx => mem_orderOf hx) hord (Can.init R l (masks ops.toList 0 .e) (heavies E ops.toList 0) T H) hrun
      have hs : Stat E R cx ops l (masks ops.toList 0 .e) (heavies E ops.toList 0) T H s acc := ⟨rfl, rfl, hed, hros, htm, hcan, by simpa using hfull, checkA_spec hck⟩
      have hst0 : St m H w m H { w with drawn := w.drawn + 1 } := St.world hr rfl rfl rfl
      obtain ⟨G0, s1, s2⟩ := hcan.start
      have hc0 : Cur cx ops (heavies E ops.toList 0) m H w T D s (fun i => (Array.replicate ops.size false).getD i false = true) m a { w with drawn := w.drawn + 1 } := by
        have hno : ∀ i, (Array.replicate ops.size false).getD i false = false := by
          intro i
          by_cases hi : i < ops.size <;> simp [Array.getD_eq_getD_getElem?, hi]
        refine ⟨⟨0, G0, s1, hst0.grow s2, fun q i _ => by simp [hno]⟩, fun i o _ h => by simp [hno] at h, hf.t.size, fun t => .inr ⟨fun d _ h => by simp [hno] at h, hf.t.at_ t⟩, hf.d, hf.r, fun d hd b o hb _ => ?_⟩
        have := (hcan.vok d hd).low b o hb
        cases hmb : m b with
        | none => rfl
        | some i => have := (hr.bnd b i hmb).1; omega
      have hstep := stepR_region_draw (P := P) (b := b) (a := a) (k := K) (cs := cs) (w := w) (ops := ops) (id := id)
      simp only [Region.schedule, hm, Bool.true_or, if_true] at hstep
      obtain ⟨L, m2, a2, w2, g1, g2, g3⟩ := lin_ok hE hX (b := b) (K := K) (cs := cs) hR hs ops.size (w.tape w.drawn (.order b.fn id)) (Array.replicate ops.size false) m a _ (by simp) (unl_bound _ _) hc0
      obtain ⟨j, G, k1, k2, k3⟩ := g2.st
      have hvlen : (heavies E ops.toList 0).length = s.hs.length := by obtain ⟨pre, h1, h2⟩ := hcan.rest; rw [h1, ← h2]; simp
      have idx : ∀ y ∈ s.dn, y.x.i < ops.size := by
        intro y hy
        obtain ⟨p, a1, a2, _⟩ := ros_spec hros y.x (hcan.mem y hy)
        have := (List.getElem?_eq_some_iff.1 a2).1
        rw [Array.length_toList] at this
        omega
      have hj : j = s.hs.length := by
        have hle := hAt_le k1
        rcases Nat.lt_or_ge j s.hs.length with h | h
        · have hl : j < (heavies E ops.toList 0).length := by omega
          have hk : (heavies E ops.toList 0)[j]? = some (heavies E ops.toList 0)[j] := List.getElem?_eq_getElem hl
          obtain ⟨p, o', b1, b2, _⟩ := heavies_mem (List.mem_of_getElem? hk)
          have := (List.getElem?_eq_some_iff.1 b2).1
          rw [Array.length_toList] at this
          have := (k3 j _ hk).1 (g1 _ (by omega))
          omega
        · omega
      subst hj
      rw [hAt_len] at k1; cases k1
      refine ⟨m2, a2, w2, k2, ⟨⟨g2.size, fun t v hv => ?_⟩, g2.dfr, g2.rd⟩, .head hstep g3⟩
      rcases hcan.tmp t with ⟨y, y1, y2, y3⟩ | ⟨y1, y2⟩
      · rcases g2.tmp t with ⟨e, e1, e2, e3, e4⟩ | ⟨e1, _⟩
        · have hye : y = e := by
            apply hcan.one y y1 e e1
            rcases (tmpsOk_spec (htm y.x (hcan.mem y y1)) e.x (hcan.mem e e1)).2 with h2 | h2
            · exact h2
            · exact absurd e3 (h2 t y2)
          subst hye
          rw [y3] at hv; cases hv; exact e4
        · exact absurd y2 (e1 y y1 (g1 _ (idx y y1)))
      · rcases g2.tmp t with ⟨e, e1, e2, e3, e4⟩ | ⟨e1, e2⟩
        · exact absurd e3 (y1 e e1)
        · rw [y2] at hv; exact e2 v hv
end
end Go.Xq
namespace Go.Xq
theorem mentsSame_eq : ∀ {l k : List MEnt}, mentsSame l k = true → l = k
  | [], [], _ => rfl
  | [], _ :: _, h => by simp [mentsSame] at h
  | _ :: _, [], h => by simp [mentsSame] at h
  | a :: r, b :: s, h => by
    simp only [mentsSame, mentBeq, Bool.and_eq_true, Nat.beq_eq] at h
    obtain ⟨⟨h1, h2, h3⟩, h4⟩ := h
    have e1 := AV.beq_eq h1
    have e2 := AV.beq_eq h2
    rw [mentsSame_eq h4]
    cases a; cases b
    simp only at e1 e2 h3
    subst e1 e2 h3; rfl
theorem natsSame_eq : ∀ {l k : List Nat}, natsSame l k = true → l = k
  | [], [], _ => rfl
  | [], _ :: _, h => by simp [natsSame] at h
  | _ :: _, [], h => by simp [natsSame] at h
  | a :: r, b :: s, h => by
    simp only [natsSame, Bool.and_eq_true, Nat.beq_eq] at h
    rw [h.1, natsSame_eq h.2]
theorem objSame_eq {a b : AObj} (h : objSame a b = true) : a = b := by
  unfold objSame at h
  split at h
  · simp only [Bool.and_eq_true, Nat.beq_eq, bEq_iff] at h
    obtain ⟨⟨rfl, rfl⟩, rfl, rfl⟩ := h; rfl
  · simp only [Bool.and_eq_true, Nat.beq_eq, bEq_iff] at h
    obtain ⟨⟨⟨rfl, rfl⟩, rfl, rfl⟩, h1, h2⟩ := h
    rw [AV.beq_eq h1, Tr.beq_eq (fun a b => AV.beq_eq) h2]
  · simp only [Bool.and_eq_true, Nat.beq_eq] at h
    rw [mentsSame_eq h.1, h.2]
  · simp only [Bool.and_eq_true, Nat.beq_eq, optBeq_iff] at h
    obtain ⟨⟨rfl, rfl⟩, h1, rfl⟩ := h
    rw [natsSame_eq h1]
  · rw [bEq_iff.1 h]
  · cases h
theorem dfsSame_eq : ∀ {l k : List ADf}, dfsSame l k = true → l = k
  | [], [], _ => rfl
  | [], _ :: _, h => by simp [dfsSame] at h
  | _ :: _, [], h => by simp [dfsSame] at h
  | a :: r, b :: s, h => by
    simp only [dfsSame, dfSame, Bool.and_eq_true, optBeq_iff] at h
    obtain ⟨⟨h1, h2, h3⟩, h4⟩ := h
    have e1 := AV.beq_eq h2
    have e2 := AV.beq_eq h3
    rw [dfsSame_eq h4]
    cases a; cases b
    simp only at h1 e1 e2
    subst h1 e1 e2; rfl
theorem meetO_some {α : Type} {f : α → α → Bool} {a b : Option α} {x : α} (h : meetO f a b = some x) : a = some x ∧ ∃ y, b = some y ∧ f x y = true := by
  cases a with
  | none => cases h
  | some a =>
    cases b with
    | none => cases h
    | some b =>
      have h : bt (f a b) (some a) none = some x := h
      rw [bt_some] at h
      obtain ⟨h1, h2⟩ := h
      cases h2
      exact ⟨rfl, b, rfl, h1⟩
theorem meetT_get {α : Type} {f : α → α → Bool} : ∀ (p : List Q4) (s t : Tr α) {x : α}, (meetT f s t).get p = some x → s.get p = some x ∧ ∃ y, t.get p = some y ∧ f x y = true
  | [], .e, t, x, h => by cases h
  | [], .n v a b c d, .e, x, h => by cases h
  | [], .n v a b c d, .n v' a' b' c' d', x, h => meetO_some h
  | q :: p, .e, t, x, h => by cases h
  | q :: p, .n v a b c d, .e, x, h => by cases h
  | q :: p, .n v a b c d, .n v' a' b' c' d', x, h => by
    cases q
    · exact meetT_get p a a' h
    · exact meetT_get p b b' h
    · exact meetT_get p c c' h
    · exact meetT_get p d d' h
def TLe (T T' : Tr AV) : Prop := ∀ p v, T.get p = some v → T'.get p = some v
structure HLe (H H' : AH) : Prop where
  next : H.next = H'.next
  get : ∀ b o, H.get b = some o → H'.get b = some o
theorem meetT_l (T T' : Tr AV) : TLe (meetT AV.beq T T') T := fun p _ h => (meetT_get p T T' h).1
theorem meetT_r (T T' : Tr AV) : TLe (meetT AV.beq T T') T' := fun p _ h => by
  obtain ⟨_, y, h1, h2⟩ := meetT_get p T T' h
  rw [AV.beq_eq h2]; exact h1
theorem meetH_l (H H' : AH) : HLe (meetH H H') H := ⟨rfl, fun b _ h => (meetT_get (bits b) H.t H'.t h).1⟩
theorem meetH_r (H H' : AH) (hn : H.next = H'.next) : HLe (meetH H H') H' := ⟨hn, fun b _ h => by
  obtain ⟨_, y, h1, h2⟩ := meetT_get (bits b) H.t H'.t h
  rw [objSame_eq h2]; exact h1⟩
theorem TLe.trans {A B C : Tr AV} (h : TLe A B) (h' : TLe B C) : TLe A C := fun p v hv => h' p v (h p v hv)
theorem HLe.trans {A B C : AH} (h : HLe A B) (h' : HLe B C) : HLe A C := ⟨h.next.trans h'.next, fun b o hb => h'.get b o (h.get b o hb)⟩
def OLe : Out → Out → Prop
  | .bad, _ => True
  | .nor .., _ => False
  | .ext i T D H, o => ∃ T' H', o = .ext i T' D H' ∧ TLe T T' ∧ HLe H H'
  | .ret T D H, o => ∃ T' H', o = .ret T' D H' ∧ TLe T T' ∧ HLe H H'
theorem OLe.trans : ∀ {a b c : Out}, OLe a b → OLe b c → OLe a c
  | .bad, _, _, _, _ => trivial
  | .nor .., _, _, h, _ => h.elim
  | .ext i T D H, _, _, h, h' => by
    obtain ⟨T', H', rfl, h1, h2⟩ := h
    obtain ⟨T2, H2, rfl, h3, h4⟩ := h'
    exact ⟨T2, H2, rfl, h1.trans h3, h2.trans h4⟩
  | .ret T D H, _, _, h, h' => by
    obtain ⟨T', H', rfl, h1, h2⟩ := h
    obtain ⟨T2, H2, rfl, h3, h4⟩ := h'
    exact ⟨T2, H2, rfl, h1.trans h3, h2.trans h4⟩
theorem meetOut_le (a b : Out) : OLe (meetOut a b) a ∧ OLe (meetOut a b) b := by
  cases a with
  | bad => exact ⟨trivial, trivial⟩
  | nor T D H => exact ⟨trivial, trivial⟩
  | ext i T D H =>
    cases b with
    | ext j T' D' H' =>
      simp only [meetOut]
      cases hb : (Nat.beq i j && (dfsSame D D' && Nat.beq H.next H'.next)) with
      | false => exact ⟨trivial, trivial⟩
      | true =>
        simp only [Bool.and_eq_true, Nat.beq_eq] at hb
        obtain ⟨rfl, h1, h2⟩ := hb
        have := dfsSame_eq h1
        subst this
        exact ⟨⟨T, H, rfl, meetT_l _ _, meetH_l _ _⟩, ⟨T', H', rfl, meetT_r _ _, meetH_r _ _ h2⟩⟩
    | _ => exact ⟨trivial, trivial⟩
  | ret T D H =>
    cases b with
    | ret T' D' H' =>
      simp only [meetOut]
      cases hb : (dfsSame D D' && Nat.beq H.next H'.next) with
      | false => exact ⟨trivial, trivial⟩
      | true =>
        simp only [Bool.and_eq_true, Nat.beq_eq] at hb
        obtain ⟨h1, h2⟩ := hb
        have := dfsSame_eq h1
        subst this
        exact ⟨⟨T, H, rfl, meetT_l _ _, meetH_l _ _⟩, ⟨T', H', rfl, meetT_r _ _, meetH_r _ _ h2⟩⟩
    | _ => exact ⟨trivial, trivial⟩
theorem OLe.refl {o : Out} (h : ∀ T D H, o ≠ .nor T D H) : OLe o o := by
  cases o with
  | bad => trivial
  | nor T D H => exact absurd rfl (h T D H)
  | ext i T D H => exact ⟨T, H, rfl, fun _ _ h => h, rfl, fun _ _ h => h⟩
  | ret T D H => exact ⟨T, H, rfl, fun _ _ h => h, rfl, fun _ _ h => h⟩
theorem meetOut_not (a b : Out) : ∀ T D H, meetOut a b ≠ .nor T D H := by
  intro T D H e
  have := (meetOut_le a b).1
  rw [e] at this; exact this
theorem meetAll_le : ∀ (r : List Out) (o : Out), (∀ T D H, o ≠ .nor T D H) → OLe (meetAll o r) o ∧ ∀ p ∈ r, OLe (meetAll o r) p
  | [], o, h => ⟨OLe.refl h, fun p hp => by cases hp⟩
  | q :: r, o, _ => by
    obtain ⟨h1, h2⟩ := meetAll_le r (meetOut o q) (meetOut_not o q)
    refine ⟨h1.trans (meetOut_le o q).1, fun p hp => ?_⟩
    rcases List.mem_cons.1 hp with rfl | hp
    · exact h1.trans (meetOut_le o p).2
    · exact h2 p hp
theorem meetL_le {l : List Out} {o : Out} (ho : o ∈ l) (hn : ∀ p ∈ l, ∀ T D H, p ≠ .nor T D H) : OLe (meetL l) o := by
  cases l with
  | nil => cases ho
  | cons p r =>
    obtain ⟨h1, h2⟩ := meetAll_le r p (hn p (by simp))
    rcases List.mem_cons.1 ho with rfl | ho
    · exact h1
    · exact h2 o ho
section
variable {P : Program} {b : Frame} {n : Cx}
theorem Rel.less {m : Ren} {H H' : AH} {w : World} (h : Rel m H w) (hn : H'.next = H.next) (hg : ∀ b o, H'.get b = some o → H.get b = some o) : Rel m H' w :=
  ⟨fun b o hb => h.live b o (hg b o hb), fun b b' o o' i i' hb hb' => h.inj b b' o o' i i' (hg b o hb) (hg b' o' hb'), fun b i hi => by rw [hn]; exact h.bnd b i hi, h.glob⟩
theorem St.less {m m2 : Ren} {H H1 H2 : AH} {w w2 : World} (h : St m H w m2 H2 w2) (hl : HLe H1 H2) : St m H w m2 H1 w2 :=
  ⟨h.rel.less hl.next hl.get, h.ext, by rw [hl.next]; exact h.next, h.os, h.out, h.size, h.keep, fun b i hi hv => h.new b i hi (by
    cases hg : H1.get b with
    | none => exact absurd hg hv
    | some o => rw [hl.get b o hg]; simp)⟩
theorem OutOk.less {K : List Item} {cs : List Frame} {m : Ren} {H : AH} {w : World} {s0 : Machine} {o p : Out} (hl : OLe o p) (h : OutOk P b n K cs m H w s0 p) : OutOk P b n K cs m H w s0 o := by
  cases o with
  | bad => trivial
  | nor T D H => exact hl.elim
  | ext i T D H1 =>
    obtain ⟨T', H', rfl, h1, h2⟩ := hl
    obtain ⟨m2, a2, w2, K2, g1, g2, g3, g4⟩ := h
    exact ⟨m2, a2, w2, K2, g1.less h2, ⟨⟨g2.t.size, fun t v hv => g2.t.at_ t v (h1 _ _ hv)⟩, g2.d, g2.r⟩, g3, g4⟩
  | ret T D H1 =>
    obtain ⟨T', H', rfl, h1, h2⟩ := hl
    obtain ⟨m2, a2, w2, K2, g1, g2, g3⟩ := h
    exact ⟨m2, a2, w2, K2, g1.less h2, ⟨⟨g2.t.size, fun t v hv => g2.t.at_ t v (h1 _ _ hv)⟩, g2.d, g2.r⟩, g3⟩
end
theorem EntsR.at_ {m : Ren} : ∀ {l : List MEnt} {k : List MapEntry}, EntsR m l k → l.length = k.length ∧ ∀ (j : Nat) (f : MapEntry), k[j]? = some f → ∃ e, e ∈ l ∧ EntR m e f
  | _, _, .nil => ⟨rfl, fun j f h => by simp at h⟩
  | _, _, .cons e f l k h hl => by
    obtain ⟨h1, h2⟩ := EntsR.at_ hl
    refine ⟨by simp [h1], fun j g hj => ?_⟩
    cases j with
    | zero => simp at hj; subst hj; exact ⟨e, by simp, h⟩
    | succ j =>
      obtain ⟨e', a1, a2⟩ := h2 j g (by simpa using hj)
      exact ⟨e', by simp [a1], a2⟩
theorem optsOf_mem {r m since : Nat} {seen : List Nat} {H : AH} : ∀ {l : List MEnt} {e : MEnt}, e ∈ l → optOf r m since seen H e ∈ optsOf r m since seen H l
  | [], _, h => by cases h
  | a :: l, e, h => by
    simp only [optsOf]
    rcases List.mem_cons.1 h with rfl | h
    · simp
    · exact List.mem_cons_of_mem _ (optsOf_mem h)
theorem allOld_mem {since : Nat} : ∀ {l : List MEnt}, allOld since l = true → ∀ e ∈ l, e.born < since
  | [], _, e, h => by cases h
  | a :: l, h, e, he => by
    simp only [allOld, Bool.and_eq_true, Nat.blt_eq] at h
    rcases List.mem_cons.1 he with rfl | he
    · exact h.1
    · exact allOld_mem h.2 e he
section
variable {P : Program} {o : Oper}
theorem choose_next (k : Nat) (w : World) (hk : 0 < k) : ∃ j w', j < k ∧ (choose (.mapNext k)).run P w = .ok j w' ∧ w'.heap = w.heap ∧ w'.os = w.os ∧ w'.output = w.output := by
  rw [run_choose]
  by_cases h : (Question.mapNext k).forced = true
  · rw [if_pos h]; exact ⟨0, w, hk, rfl, rfl, rfl, rfl⟩
  · rw [if_neg h]; exact ⟨_, _, Nat.mod_lt _ hk, rfl, rfl, rfl, rfl⟩
theorem nextOpts_ok {x : Operand} (ho : o.op = .next x false) {m : Ren} {H : AH} {w : World} {T : Tr AV} {ρ : Operand → Value} (hr : Rel m H w) (he : ER m T ρ) {l : List (AV × AH)} (hk : nextOpts x T H = some l) :
    ∃ p ∈ l, Outc P (execOp ρ o) w (Post m H w p.1 p.2) := by
  simp only [nextOpts, ob_some] at hk
  obtain ⟨a, g1, hk⟩ := hk
  have e1 := he x a g1
  split at hk <;> try (cases hk; done)
  rename_i r
  obtain ⟨i, hi, ex⟩ := e1.ptr_inv
  split at hk
  · rename_i since seen st g2
    simp only [Option.some.injEq] at hk
    subst hk
    obtain ⟨y, hy, hor⟩ := hr.live _ _ g2 _ hi
    cases hor with | mitN _ _ _ _ hb0 =>
    refine ⟨(.tup (.cons (.bool false) .nil), H), List.mem_singleton.2 rfl, .value (.tuple #[.bool false]) w ?_ ⟨m, St.refl hr, .tup _ [.bool false] (.cons _ _ _ _ (.bool false) .nil)⟩⟩
    simp only [execOp, ho, ex, hb0]; apply run_v
    simp [Instr.next, run_getObj hy, Result.andThen]
  · rename_i mm since seen st g2
    obtain ⟨y, hy, hor⟩ := hr.live _ _ g2 _ hi
    cases hor with | mitS _ _ _ _ _ j hj hb0 =>
    split at hk <;> try (cases hk; done)
    rename_i es clock g3
    obtain ⟨y2, hy2, hor2⟩ := hr.live _ _ g3 _ hj
    cases hor2 with | mp en _ _ _ hen =>
    split at hk <;> try (cases hk; done)
    rename_i hcl
    simp only [Bool.and_eq_true] at hcl
    obtain ⟨⟨c1, c2⟩, c3⟩ := hcl
    have c1 := Nat.eq_of_beq_eq_true c1
    have c2 := Nat.eq_of_beq_eq_true c2
    subst c1; subst c2
    have hguard : (!seen.reverse.toArray.isEmpty && !en.isEmpty && en.all fun e => decide (e.born ≥ clock)) = false := by
      rcases anyOld_ok hen c3 with h | h
      · have : en.isEmpty = true := by simpa using h
        rw [this]; simp
      · have : (en.all fun e => decide (e.born ≥ clock)) = false := by rw [← Array.all_toList]; exact h
        rw [this]; simp
    have hleft := leftOf_ok seen hen
    split at hk
    · rename_i hl0
      rw [hl0] at hleft
      simp only [Option.some.injEq] at hk
      subst hk
      have hf : (en.filter fun e => !(seen.reverse.toArray).contains e.born) = #[] := by
        apply Array.toList_inj.1
        rw [Array.toList_filter]
        generalize en.toList.filter _ = q at hleft ⊢
        cases hleft; rfl
      refine ⟨(.tup (.cons (.bool false) .nil), H), List.mem_singleton.2 rfl, .value (.tuple #[.bool false]) w ?_ ⟨m, St.refl hr, .tup _ [.bool false] (.cons _ _ _ _ (.bool false) .nil)⟩⟩
      simp only [execOp, ho, ex, hb0]; apply run_v
      simp only [Instr.next, Sem.run_bind, run_getObj hy (by simp), Result.andThen, run_getObj hy2 (by simp), hguard, Bool.false_eq_true, if_false, hf]
      simp [Question.forced]
    · rename_i e0 l0 hl0
      rw [hl0] at hleft
      simp only [bt_some, Option.some.injEq] at hk
      obtain ⟨hold, rfl⟩ := hk
      have hold := allOld_mem hold
      generalize hL : (en.filter fun e => !(seen.reverse.toArray).contains e.born) = L at *
      have hleft : EntsR m (e0 :: l0) L.toList := by rw [← hL, Array.toList_filter]; exact hleft
      obtain ⟨hlen, hat⟩ := hleft.at_
      have hLold : ∀ f ∈ L.toList, f.born < clock := by
        intro f hf
        obtain ⟨q, hq⟩ := List.getElem?_of_mem hf
        obtain ⟨e, h1, h2⟩ := hat q f hq
        cases h2 with | mk _ _ h3 =>
        have := hold e h1; omega
      have hfo : L.filter (fun e => decide (e.born < clock)) = L := by
        apply Array.toList_inj.1
        rw [Array.toList_filter, List.filter_eq_self]
        intro f hf; simpa using hLold f hf
      have hfn : L.filter (fun e => decide (e.born ≥ clock)) = #[] := by
        apply Array.toList_inj.1
        rw [Array.toList_filter]
        rw [List.filter_eq_nil_iff]
        intro f hf; have := hLold f hf; simp; omega
      have hpos : 0 < L.size := by rw [← Array.length_toList, ← hlen]; simp
      have hne : L.isEmpty = false := by rw [Array.isEmpty_eq_false_iff]; intro e; rw [e] at hpos; simp at hpos
      have hcand : ((if L.isEmpty = true then #[none] else #[]) ++ (L ++ #[]).map some) = L.map some := by rw [hne]; simp
      obtain ⟨q, w', hq, hch, hh, hos, hout⟩ := choose_next (P := P) (L.map some).size w (by simpa using hpos)
      have hq' : q < L.size := by simpa using hq
      obtain ⟨e, hmem, hent⟩ := hat q L[q] (by rw [Array.getElem?_toList]; exact Array.getElem?_eq_getElem hq')
      cases hent with | mk k1 k2 k3 =>
      have hy' : w'.heap[i.blk]? = some (.mapIter (some j.blk) clock seen.reverse.toArray clock) := by rw [hh]; exact hy
      refine ⟨optOf r mm clock seen H e, optsOf_mem hmem, .value (.tuple #[.bool true, L[q].key, L[q].val]) { w' with heap := w'.heap.setIfInBounds i.blk (.mapIter (some j.blk) clock (seen.reverse.toArray.push L[q].born) clock) } ?_
        ⟨m, St.upd hr g2 hi ?_ (by rw [hh]) hos hout, .tup _ [.bool true, L[q].key, L[q].val] (.cons _ _ _ _ (.bool true) (.cons _ _ _ _ k1 (.cons _ _ _ _ k2 .nil)))⟩⟩
      · simp only [execOp, ho, ex, hb0]; apply run_v
        simp only [Instr.next, Sem.run_bind, run_getObj hy (by simp), Result.andThen, run_getObj hy2 (by simp), hguard, Bool.false_eq_true, if_false, hL, hfo, hfn, hcand, hch]
        simp [hq', run_setObj _ hy', Result.andThen]
      · have := OR.mitS (m := m) mm clock clock (e.born :: seen) i j hj hb0
        rw [k3] at this ⊢
        have e2 : (L[q].born :: seen).reverse.toArray = seen.reverse.toArray.push L[q].born := by simp
        rw [e2] at this
        exact this
  · cases hk
end
end Go.Xq
