/- A part of the proof that what the evaluator answers is what the machine does. Its conditions stand in each theorem. -/
import Derived.Test.YtgcgpblccnajjacGreatDoorY32
namespace Go.Xq
section
variable {P : Program} {E : Env} (hE : TyOk P E) (hX : ExtOk P E) {b : Frame} {cx : Cx}
structure Stat (E : Env) (R : Rec) (cx : Cx) (ops : Array Oper) (l : List RO) (pm : Tr Nat) (hv : List Nat) (T0 : Tr AV) (H0 : AH) (s : DS) (acc : Nat) : Prop where
  pm_eq : pm = masks ops.toList 0 .e
  hv_eq : hv = heavies E ops.toList 0
  ed : edgesOk ops.toList 0 = true
  rs : ros E cx.n ops.toList pm hv ops.toList 0 = some l
  tm : ∀ x ∈ l, tmpsOk pm x l = true
  can : Can R l pm hv T0 H0 s acc []
  full : acc + 1 = 2 ^ ops.size
  chk : ∀ d ∈ s.dn, check1 (s.H :: s.hs).reverse d = true
theorem look_noselect {op : Op} {k : LK} (h : lookK E op = some k) (cs : Array SelectCase) (d : Bool) : op ≠ .select cs d := by
  rintro rfl; simp [lookK] at h
theorem fresh_noselect {op : Op} {k : FrK} (h : freshK E op = some k) (cs : Array SelectCase) (d : Bool) : op ≠ .select cs d := by
  rintro rfl; simp [freshK] at h
theorem heavy_noselect {op : Op} {k : HvK} (h : heavyK E op = some k) (cs : Array SelectCase) (d : Bool) : op ≠ .select cs d := by
  rintro rfl; simp [heavyK] at h
include hE hX in
theorem cur_step {R : Rec} (hR : RecOk P R) {ops : Array Oper} {l : List RO} {pm : Tr Nat} {hv : List Nat} {T0 : Tr AV} {m0 : Ren} {H0 : AH} {w0 : World} {D : List ADf} {s : DS} {acc : Nat} (hs : Stat E R cx ops l pm hv T0 H0 s acc)
    {L : Nat → Prop} {m : Ren} {a : Act} {w : World} (hc : Cur cx ops hv m0 H0 w0 T0 D s L m a w) {i : Nat} {o : Oper} (ho : ops[i]? = some o) (hi : ¬ L i) (hpre : ∀ e ∈ o.after.toList, bindsA e = true → L e.on) {rest : List Nat} {K : List Item} {cs : List Frame} :
    ∃ m' a' w', Steps P (lone (b.atR a (.inRegion ops (i :: rest) :: K)) cs w) (lone (b.atR a' (.inRegion ops rest :: K)) cs w') ∧ Cur cx ops hv m0 H0 w0 T0 D s (fun k => L k ∨ k = i) m' a' w' := by
  have hlt : i < ops.size := (Array.getElem?_eq_some_iff.1 ho).1
  have hol : ops.toList[i]? = some o := by rw [Array.getElem?_toList]; exact ho
  have hbit : Nat.testBit acc i = true := by
    have : acc = 2 ^ ops.size - 1 := by have := hs.full; omega
    rw [this, Nat.testBit_two_pow_sub_one]; simpa using hlt
  obtain ⟨d, hd, rfl⟩ := hs.can.out i hbit
  have hx := hs.can.mem d hd
  obtain ⟨q, hq, hxo, hsp, hhv, hlo, hhi⟩ := ros_spec hs.rs d.x hx
  rw [Nat.zero_add] at hq
  rw [← hq, hol] at hxo
  have hxo : d.x.o = o := by cases hxo; rfl
  rw [hxo] at hsp
  simp only [spK, ob_some, bt_some, Option.some.injEq] at hsp
  obtain ⟨g, hg, hdst, hspe⟩ := hsp
  have hspg : d.x.sp.g = g := by rw [← hspe]
  have hspa : d.x.sp.act = actK E o.op := by rw [← hspe]
  have hcl : ∀ i, i < ops.size → L i → ∀ k, Nat.testBit (mAt pm i) k = true → L k := by
    rw [hs.pm_eq]; exact masks_closed hs.ed hc.ed
  have hmask : ∀ k, Nat.testBit (mAt pm d.x.i) k = true → L k := by
    intro k hk
    have h1 := (masks_spec (pm := .e) hs.ed).2 d.x.i _ hol
    rw [Nat.zero_add, ← hs.pm_eq] at h1
    rw [h1] at hk
    obtain ⟨e, h2, h3, h4⟩ := maskOf_mem hk
    rcases h4 with rfl | h4
    · exact hpre e h2 h3
    · have := edgesOk_mem hs.ed d.x.i _ hol e h2 h3
      exact hcl e.on (by omega) (hpre e h2 h3) k h4
  have idx : ∀ y ∈ s.dn, y.x.i < ops.size := by
    intro y hy
    obtain ⟨p, a1, a2, _⟩ := ros_spec hs.rs y.x (hs.can.mem y hy)
    have := (List.getElem?_eq_some_iff.1 a2).1
    rw [Array.length_toList] at this
    omega
  -- the temporaries that are looked at
  have tmpf : ∃ S : Tr AV, (d.want = true → d.T = resT (looksA d.x) S) ∧ d.want = wantA d.x.sp.g S ∧ ∀ t ∈ looksA d.x, VR m (oc (S.get (bits t)) undefA id) (a.tmps.getD t undef) := by
    obtain ⟨accd, S, h1, h2, h3, h4, h5, h6, h7⟩ := hs.can.tok d hd
    refine ⟨S, h5, h6, fun t ht => ?_⟩
    rcases hc.tmp t with ⟨e, he, hLe, hed, hVe⟩ | ⟨hno, hV⟩
    · have hne : d.x.i ≠ e.x.i := fun e2 => hi (by rw [e2]; exact hLe)
      rcases (tmpsOk_spec (hs.tm d.x hx) e.x (hs.can.mem e he)).1 with k1 | k1 | k1 | k1
      · exact absurd k1 hne
      · rcases h7 t ht with ⟨y, hy, g1, g2, g3⟩ | ⟨g1, g2⟩
        · have hye : y = e := by
            apply hs.can.one y hy e he
            rcases (tmpsOk_spec (hs.tm y.x (hs.can.mem y hy)) e.x (hs.can.mem e he)).2 with k2 | k2
            · exact k2
            · exact absurd hed (k2 t g2)
          subst hye
          rw [g3]; exact hVe
        · exact absurd hed (g1 e he (h3 _ k1))
      · exact absurd (hcl _ (idx e he) hLe _ k1) hi
      · exact absurd hed (k1 t ht)
    · rcases h7 t ht with ⟨y, hy, g1, g2, g3⟩ | ⟨g1, g2⟩
      · rcases (tmpsOk_spec (hs.tm d.x hx) y.x (hs.can.mem y hy)).1 with k1 | k1 | k1 | k1
        · exact absurd g1 (by rw [← k1]; exact h1)
        · exact absurd g2 (hno y hy (hmask _ k1))
        · exact absurd (h4 _ _ g1 k1) h1
        · exact absurd g2 (k1 t ht)
      · rw [g2]; exact hV
  obtain ⟨S, hT, hwS, hVS⟩ := tmpf
  have hwant : Region.wanted o (yielded ops a.tmps) = d.want := by
    rw [hwS, hspg]
    refine want_at hg fun dd want e => hVS dd ?_
    have : d.x.sp.g = some (dd, want) := by rw [hspg, e]
    simp [looksA, this]
  obtain ⟨j, G, hj, hst, hstj⟩ := hc.st
  have hjle := hAt_le hj
  -- the stage
  have hvlen : hv.length = s.hs.length := by obtain ⟨pre, h1, h2⟩ := hs.can.rest; rw [h1, ← h2]; simp
  have lightst : d.x.heavy = false → ∀ q i', hv[q]? = some i' → ((L i' ∨ i' = d.x.i) ↔ q < j) := by
    intro hh q i' hq
    rw [← hstj q i' hq]
    constructor
    · rintro (h | rfl)
      · exact h
      · have hm := List.mem_of_getElem? hq
        rw [hs.hv_eq] at hm
        obtain ⟨p, o', a1, a2, a3⟩ := heavies_mem hm
        rw [Nat.zero_add] at a1
        rw [← a1, hol] at a2; cases a2
        rw [hhv, hspa, a3] at hh; cases hh
    · exact .inl
  have heavyst : d.x.heavy = true → j = d.x.lo := by
    intro hh
    obtain ⟨_, h2, _⟩ := (hs.can.vok d hd).hvy hh
    rcases Nat.lt_trichotomy j d.x.lo with h | h | h
    · rw [hlo] at h
      obtain ⟨k, a1, a2⟩ := countLo_spec h
      have := (hstj j k a1).1 (hmask k a2)
      omega
    · exact h
    · exact absurd ((hstj _ _ h2).2 h) hi
  have heavyst2 : d.x.heavy = true → ∀ q i', hv[q]? = some i' → ((L i' ∨ i' = d.x.i) ↔ q < j + 1) := by
    intro hh q i' hq
    obtain ⟨_, h2, _⟩ := (hs.can.vok d hd).hvy hh
    have hjl := heavyst hh
    constructor
    · rintro (h | rfl)
      · have := (hstj q i' hq).1 h; omega
      · have : q = d.x.lo := by rw [hs.hv_eq] at hq h2; exact heavies_nodup hq h2
        omega
    · intro h
      rcases Nat.lt_or_ge q j with h3 | h3
      · exact .inl ((hstj q i' hq).2 h3)
      · have : q = d.x.lo := by omega
        subst this
        rw [h2] at hq; cases hq; exact .inr rfl
  have range : d.x.lo ≤ j ∧ j ≤ d.x.hi := by
    constructor
    · rcases Nat.lt_or_ge j d.x.lo with h | h
      · rw [hlo] at h
        obtain ⟨k, a1, a2⟩ := countLo_spec h
        have := (hstj j k a1).1 (hmask k a2)
        omega
      · exact h
    · rcases Nat.lt_or_ge d.x.hi j with h | h
      · have hl : d.x.hi < hv.length := by omega
        obtain ⟨h0, hk⟩ : ∃ h0, hv[d.x.hi]? = some h0 := ⟨_, List.getElem?_eq_getElem hl⟩
        have hL := (hstj _ _ hk).2 h
        have hk2 := hk
        rw [hhi] at hk2
        have hm := countHi_spec (pm := pm) (i := d.x.i) (hv := hv) hk2
        have hmem := List.mem_of_getElem? hk
        rw [hs.hv_eq] at hmem
        obtain ⟨p, o', a1, a2, a3⟩ := heavies_mem hmem
        rw [Nat.zero_add] at a1
        have hp := (List.getElem?_eq_some_iff.1 a2).1
        rw [Array.length_toList] at hp
        exact absurd (hcl _ (by rw [a1]; exact hp) hL _ hm) hi
      · exact h
  have unmK : ∀ e ∈ s.dn, ∀ b o, e.blk = some (b, o) → ¬ (L e.x.i ∨ e.x.i = d.x.i) → m b = none := fun e he b o hb hn => hc.unm e he b o hb fun h => hn (.inl h)
  cases hw : d.want with
  | false =>
    have hskip := stepR_op_skip (P := P) (b := b) (a := a) (k := K) (cs := cs) (w := w) (ops := ops) (i := d.x.i) (rest := rest) (by simp [ho, hwant, hw])
    rw [ho] at hskip
    refine ⟨m, _, w, .one hskip, ?_⟩
    refine hc.put hs.can.one hd hol hxo hdst hpre (fun _ _ h => h) (v' := undef) (by rw [(hs.can.vok d hd).no hw]; exact undef_ok m) ?_ unmK
    cases hh : d.x.heavy with
    | false => exact ⟨j, G, hj, hst, lightst hh⟩
    | true =>
      obtain ⟨_, _, G1, G', G2, _, k1, _, k2, k3, k4⟩ := (hs.can.vok d hd).hvy hh
      have hjl := heavyst hh
      rw [← hjl, hj] at k1; cases k1
      rw [k4 hw] at k3
      exact ⟨j + 1, G2, by rw [hjl]; exact k2, hst.grow k3, heavyst2 hh⟩
  | true =>
    have hwd : Region.wanted o (yielded ops a.tmps) = true := by rw [hwant, hw]
    have hT := hT hw
    let a1 : Act := { tmps := Array.ofFn (n := cx.n) fun t => if t.val ∈ looksA d.x then a.tmps.getD t.val undef else undef, defers := [] }
    have hget : ∀ t, a1.tmps.getD t undef = if t ∈ looksA d.x then a.tmps.getD t undef else undef := by
      intro t
      by_cases ht : t < cx.n
      · simp [a1, Array.getD_eq_getD_getElem?, ht]
      · have h1 : a1.tmps.getD t undef = undef := by simp [a1, Array.getD_eq_getD_getElem?, ht]
        have h2 : a.tmps.getD t undef = undef := by rw [Array.getD_eq_getD_getElem?, Array.getElem?_eq_none (by rw [hc.size]; omega)]; rfl
        rw [h1, h2]; simp
    have hTR : TR cx.n m d.T a1.tmps := by
      refine ⟨by simp [a1], fun t => ?_⟩
      rw [hget, hT, resT_get]
      split
      · rename_i h; exact hVS t h
      · exact undef_ok m
    have hER : ER m d.T a1.eval := ER.of hst.rel.glob hTR
    have hev : ∀ y ∈ o.op.operands, a1.eval y = a.eval y := by
      intro y hy
      cases y with
      | tmp t =>
        have hm : t ∈ looksA d.x := by
          simp only [looksA, List.mem_append, List.mem_filterMap]
          refine .inl ⟨.tmp t, ?_, rfl⟩
          rw [hxo]; simpa using hy
        have h1 := hget t
        rw [if_pos hm] at h1
        simpa [Act.eval, Array.getD_eq_getD_getElem?] using h1
      | _ => rfl
    rcases (hs.can.vok d hd).yes hw with ⟨k, H1, hact, hk⟩ | ⟨k, bn, ob, hact, hblk, hk, hlow, hbn⟩ | ⟨k, G0, G', hact, hhp, hk⟩
    · -- looks
      rw [hspa] at hact
      rcases actK_look hact with hlk | hbad
      rotate_left
      · rw [hbad] at hk; cases hk
      have hh : d.x.heavy = false := by rw [hhv, hspa, hact]; rfl
      have kG : k.f d.T G = some d.v := by
        cases hp : pureK o.op with
        | true => rw [pureK_ok hp hlk d.T G H1]; exact hk
        | false =>
          have hck := hs.chk d hd
          simp only [check1, hw, hspa, hact, hxo, hp] at hck
          have e1 : Nat.add (Nat.sub d.x.hi d.x.lo) 1 = d.x.hi - d.x.lo + 1 := rfl
          obtain ⟨G1, a1, a2⟩ := sameAt_spec hck j range.1 (by have := range.2; rw [e1]; omega)
          have a1 : hAt s.hs s.H j = some G1 := a1
          rw [hj] at a1; cases a1
          unfold looksSame at a2
          cases hkg : k.f d.T G with
          | none => rw [hkg] at a2; cases a2
          | some v2 =>
            rw [hkg] at a2
            rw [AV.beq_eq a2]
      obtain ⟨v', r1, r2⟩ := lookK_ok hE hlk m G w d.T a1.eval d.v hst.rel hER kG
      rw [execOp_congr o (look_noselect hlk) hev] at r1
      obtain ⟨v2, w2, ⟨rfl, hv2⟩, hsteps⟩ := step_op (b := b) (K := K) (cs := cs) (rest := rest) (Q := fun v2 w2 => w2 = w ∧ VR m d.v v2) ho hwd (Oper.semAt_eq _ _ _ (look_nodefer hlk)) (.value v' w r1 ⟨rfl, r2⟩)
      exact ⟨m, _, _, hsteps, hc.put hs.can.one hd hol hxo hdst hpre (fun _ _ h => h) hv2 ⟨j, G, hj, hst, lightst hh⟩ unmK⟩
    · -- a new block
      rw [hspa] at hact
      have hfr := actK_fresh hact
      have hh : d.x.heavy = false := by rw [hhv, hspa, hact]; rfl
      have hG : G.get bn = some ob := by
        have hck := hs.chk d hd
        simp only [check1, hw, hspa, hact, hblk] at hck
        have e1 : Nat.add (Nat.sub d.x.hi d.x.lo) 1 = d.x.hi - d.x.lo + 1 := rfl
        obtain ⟨G1, a1, a2⟩ := sameAt_spec hck j range.1 (by have := range.2; rw [e1]; omega)
        have a1 : hAt s.hs s.H j = some G1 := a1
        rw [hj] at a1; cases a1
        unfold holdsBlk at a2
        cases hgb : G.get bn with
        | none => rw [hgb] at a2; cases a2
        | some o2 => rw [hgb] at a2; rw [objBeq_eq a2]
      have hmb := hc.unm d hd bn ob hblk hi
      obtain ⟨v', y, w', bi, r1, r2, r3, r4, r5, r6⟩ := freshK_ok hE hfr m w d.T a1.eval bn d.v ob hER hk
      have hle : Le m (m.ext bn bi) := fun b' i' h' => by
        rw [Ren.ext_ne m bi (fun e => by subst e; rw [hmb] at h'; cases h')]; exact h'
      obtain ⟨g1, g2⟩ := r6 (m.ext bn bi) hle (Ren.ext_same _ _ _)
      obtain ⟨_, hst'⟩ := hst.reveal hG hmb (hbn j G range.1 hj) hlow r5 r2 g2 r3 r4
      rw [execOp_congr o (fresh_noselect hfr) hev] at r1
      obtain ⟨v2, w2, ⟨rfl, rfl⟩, hsteps⟩ := step_op (b := b) (K := K) (cs := cs) (rest := rest) (Q := fun v2 w2 => w2 = w' ∧ v2 = v') ho hwd (Oper.semAt_eq _ _ _ (fresh_nodefer hfr)) (.value v' w' r1 ⟨rfl, rfl⟩)
      refine ⟨_, _, _, hsteps, hc.put hs.can.one hd hol hxo hdst hpre hle g1 ⟨j, G, hj, hst', lightst hh⟩ fun e he b2 o2 hb hn => ?_⟩
      by_cases e2 : b2 = bn
      · subst e2
        exact absurd (hs.can.bone e he d hd b2 _ _ hb hblk) fun h => hn (.inr h)
      · rw [Ren.ext_ne m bi e2]; exact unmK e he b2 o2 hb hn
    · -- what changes the heap
      rw [hspa] at hact
      have hhk := actK_heavy hact
      have hh : d.x.heavy = true := by rw [hhv, hspa, hact]; rfl
      have hjl := heavyst hh
      obtain ⟨_, _, G1, G1', G2, k0, k1, k2, k3, k4, _⟩ := (hs.can.vok d hd).hvy hh
      rw [hhp] at k0; cases k0
      rw [← hjl, hj] at k1; cases k1
      have hout := heavyK_ok hE hX hhk R hR m G w d.T a1.eval d.v G' hst.rel hER hk
      rw [execOp_congr o (heavy_noselect hhk) hev] at hout
      obtain ⟨v2, w2, ⟨m2, hs2, hv2⟩, hsteps⟩ := step_op (b := b) (K := K) (cs := cs) (rest := rest) ho hwd (Oper.semAt_eq _ _ _ (heavy_nodefer hhk)) hout
      refine ⟨m2, _, w2, hsteps, hc.put hs.can.one hd hol hxo hdst hpre (St.le hst.rel hs2) hv2 ⟨j + 1, G2, by rw [hjl]; exact k3, (hst.trans hs2).grow k4, heavyst2 hh⟩ fun e he b2 o2 hb hn => ?_⟩
      have hm := unmK e he b2 o2 hb hn
      rcases hs.can.hpb e he d hd b2 o2 G G' hb hhp with h | h
      · rw [hs2.ext b2 h]; exact hm
      · cases hmb : m2 b2 with
        | none => rfl
        | some bi => have := (hs2.rel.bnd b2 bi hmb).1; omega
end
end Go.Xq
