/- A part of the proof of this seat's statement. Conditions: in each theorem. -/
import Derived.Test.YtnodjhgmghkikaaGreatW16
namespace Go.Xq
variable [Dealing]
section
variable {P : Program} {E : Env} (hE : TyOk P E) (hX : ExtRun P E) (hQ : ExtQ P E) {b : Frame} {cx : Cx}
include hE hX hQ in
theorem cur_stepS {opsS : Array Oper} {R : Rec} (hR : RecOk P R) {ops : Array Oper} {l : List RO} {pm : Tr Nat} {hv : List Nat} {T0 : Tr AV} {m0 : Ren} {H0 : AH} {w0 : World} {D : List ADf} {s : DS} {acc : Nat} (hs : Stat E R cx ops l pm hv T0 H0 s acc)
    {L : Nat → Prop} {m : Ren} {a : Act} {w : World} (hc : Cur cx ops hv m0 H0 w0 T0 D s L m a w) (hSub : ∀ (i : Nat) (o : Oper), ops[i]? = some o → opsS[i]? = some o) (hW : ∀ (i : Nat) (o : Oper), ops[i]? = some o → ∀ ts, Region.wanted o (yielded opsS ts) = Region.wanted o (yielded ops ts)) {i : Nat} {o : Oper} (ho : ops[i]? = some o) (hi : ¬ L i) (hpre : ∀ e ∈ o.after.toList, bindsA e = true → L e.on) {rest : List Nat} {K : List Item} {cs : List Frame}
    {Φ : Frame → List Frame → World → Prop} (hΦ : ∀ m' a' w', Cur cx ops hv m0 H0 w0 T0 D s (fun k => L k ∨ k = i) m' a' w' → Gx P Φ (b.atR a' (.inRegion opsS rest :: K)) cs w') : Gx P Φ (b.atR a (.inRegion opsS (i :: rest) :: K)) cs w := by
  have hlt : i < ops.size := (Array.getElem?_eq_some_iff.1 ho).1
  have hol : ops.toList[i]? = some o := by rw [Array.getElem?_toList]; exact ho
  have hbit : Nat.testBit acc i = true := by
    have : acc = 2 ^ ops.size - 1 := by have := hs.full; omega
    rw [this, Nat.testBit_two_pow_sub_one]; simpa using hlt
  obtain ⟨d, hd, rfl⟩ := hs.can.out i hbit
  have hx := hs.can.mem d hd
  obtain ⟨q, hq, hxo, hsp, hhv, hlo, hhi⟩ := ros_spec hs.rs d.x hx
  rw [Nat.zero_add] at hq
  rw [← hq, hol] at hxo
  have hxo : d.x.o = o := by cases hxo; rfl
  rw [hxo] at hsp
  simp only [spK, ob_some, bt_some, Option.some.injEq] at hsp
  obtain ⟨g, hg, hdst, hspe⟩ := hsp
  have hspg : d.x.sp.g = g := by rw [← hspe]
  have hspa : d.x.sp.act = actK E o.op := by rw [← hspe]
  have hcl : ∀ i, i < ops.size → L i → ∀ k, Nat.testBit (mAt pm i) k = true → L k := by
    rw [hs.pm_eq]; exact masks_closed hs.ed hc.ed
  have hmask : ∀ k, Nat.testBit (mAt pm d.x.i) k = true → L k := by
    intro k hk
    have h1 := (masks_spec (pm := .e) hs.ed).2 d.x.i _ hol
    rw [Nat.zero_add, ← hs.pm_eq] at h1
    rw [h1] at hk
    obtain ⟨e, h2, h3, h4⟩ := maskOf_mem hk
    rcases h4 with rfl | h4
    · exact hpre e h2 h3
    · have := edgesOk_mem hs.ed d.x.i _ hol e h2 h3
      exact hcl e.on (by omega) (hpre e h2 h3) k h4
  have idx : ∀ y ∈ s.dn, y.x.i < ops.size := by
    intro y hy
    obtain ⟨p, a1, a2, _⟩ := ros_spec hs.rs y.x (hs.can.mem y hy)
    have := (List.getElem?_eq_some_iff.1 a2).1
    rw [Array.length_toList] at this
    omega
  -- the temporaries that are looked at
  have tmpf : ∃ S : Tr AV, (d.want = true → d.T = resT (looksA d.x) S) ∧ wantA d.x.sp.g S = some d.want ∧ ∀ t ∈ looksA d.x, ∀ v, S.get (bits t) = some v → VR m v (a.tmps.getD t undef) := by
    obtain ⟨accd, S, h1, h2, h3, h4, h5, h6, h7⟩ := hs.can.tok d hd
    refine ⟨S, h5, h6, fun t ht => ?_⟩
    rcases hc.tmp t with ⟨e, he, hLe, hed, hVe⟩ | ⟨hno, hV⟩
    · have hne : d.x.i ≠ e.x.i := fun e2 => hi (by rw [e2]; exact hLe)
      rcases (tmpsOk_spec (hs.tm d.x hx) e.x (hs.can.mem e he)).1 with k1 | k1 | k1 | k1
      · exact absurd k1 hne
      · rcases h7 t ht with ⟨y, hy, g1, g2, g3⟩ | ⟨g1, g2⟩
        · have hye : y = e := by
            apply hs.can.one y hy e he
            rcases (tmpsOk_spec (hs.tm y.x (hs.can.mem y hy)) e.x (hs.can.mem e he)).2 with k2 | k2
            · exact k2
            · exact absurd hed (k2 t g2)
          subst hye
          intro v hv; rw [g3] at hv; cases hv; exact hVe
        · exact absurd hed (g1 e he (h3 _ k1))
      · exact absurd (hcl _ (idx e he) hLe _ k1) hi
      · exact absurd hed (k1 t ht)
    · rcases h7 t ht with ⟨y, hy, g1, g2, g3⟩ | ⟨g1, g2⟩
      · rcases (tmpsOk_spec (hs.tm d.x hx) y.x (hs.can.mem y hy)).1 with k1 | k1 | k1 | k1
        · exact absurd g1 (by rw [← k1]; exact h1)
        · exact absurd g2 (hno y hy (hmask _ k1))
        · exact absurd (h4 _ _ g1 k1) h1
        · exact absurd g2 (k1 t ht)
      · intro v hv; rw [g2] at hv; exact hV v hv
  obtain ⟨S, hT, hwS, hVS⟩ := tmpf
  have hwant : Region.wanted o (yielded ops a.tmps) = d.want := by
    rw [hspg] at hwS
    refine want_at hg (fun dd want e => hVS dd ?_) hwS
    have : d.x.sp.g = some (dd, want) := by rw [hspg, e]
    simp [looksA, this]
  obtain ⟨j, G, hj, hst, hstj⟩ := hc.st
  have hjle := hAt_le hj
  -- the stage
  have hvlen : hv.length = s.hs.length := by obtain ⟨pre, h1, h2⟩ := hs.can.rest; rw [h1, ← h2]; simp
  have lightst : d.x.heavy = false → ∀ q i', hv[q]? = some i' → ((L i' ∨ i' = d.x.i) ↔ q < j) := by
    intro hh q i' hq
    rw [← hstj q i' hq]
    constructor
    · rintro (h | rfl)
      · exact h
      · have hm := List.mem_of_getElem? hq
        rw [hs.hv_eq] at hm
        obtain ⟨p, o', a1, a2, a3⟩ := heavies_mem hm
        rw [Nat.zero_add] at a1
        rw [← a1, hol] at a2; cases a2
        rw [hhv, hspa, a3] at hh; cases hh
    · exact .inl
  have heavyst : d.x.heavy = true → j = d.x.lo := by
    intro hh
    obtain ⟨_, h2, _⟩ := (hs.can.vok d hd).hvy hh
    rcases Nat.lt_trichotomy j d.x.lo with h | h | h
    · rw [hlo] at h
      obtain ⟨k, a1, a2⟩ := countLo_spec h
      have := (hstj j k a1).1 (hmask k a2)
      omega
    · exact h
    · exact absurd ((hstj _ _ h2).2 h) hi
  have heavyst2 : d.x.heavy = true → ∀ q i', hv[q]? = some i' → ((L i' ∨ i' = d.x.i) ↔ q < j + 1) := by
    intro hh q i' hq
    obtain ⟨_, h2, _⟩ := (hs.can.vok d hd).hvy hh
    have hjl := heavyst hh
    constructor
    · rintro (h | rfl)
      · have := (hstj q i' hq).1 h; omega
      · have : q = d.x.lo := by rw [hs.hv_eq] at hq h2; exact heavies_nodup hq h2
        omega
    · intro h
      rcases Nat.lt_or_ge q j with h3 | h3
      · exact .inl ((hstj q i' hq).2 h3)
      · have : q = d.x.lo := by omega
        subst this
        rw [h2] at hq; cases hq; exact .inr rfl
  have range : d.x.lo ≤ j ∧ j ≤ d.x.hi := by
    constructor
    · rcases Nat.lt_or_ge j d.x.lo with h | h
      · rw [hlo] at h
        obtain ⟨k, a1, a2⟩ := countLo_spec h
        have := (hstj j k a1).1 (hmask k a2)
        omega
      · exact h
    · rcases Nat.lt_or_ge d.x.hi j with h | h
      · have hl : d.x.hi < hv.length := by omega
        obtain ⟨h0, hk⟩ : ∃ h0, hv[d.x.hi]? = some h0 := ⟨_, List.getElem?_eq_getElem hl⟩
        have hL := (hstj _ _ hk).2 h
        have hk2 := hk
        rw [hhi] at hk2
        have hm := countHi_spec (pm := pm) (i := d.x.i) (hv := hv) hk2
        have hmem := List.mem_of_getElem? hk
        rw [hs.hv_eq] at hmem
        obtain ⟨p, o', a1, a2, a3⟩ := heavies_mem hmem
        rw [Nat.zero_add] at a1
        have hp := (List.getElem?_eq_some_iff.1 a2).1
        rw [Array.length_toList] at hp
        exact absurd (hcl _ (by rw [a1]; exact hp) hL _ hm) hi
      · exact h
  have unmK : ∀ e ∈ s.dn, ∀ b o, e.blk = some (b, o) → ¬ (L e.x.i ∨ e.x.i = d.x.i) → m b = none := fun e he b o hb hn => hc.unm e he b o hb fun h => hn (.inl h)
  cases hw : d.want with
  | false =>
    have hskip := stepR_op_skip (P := P) (b := b) (a := a) (K := K) (cs := cs) (w := w) (ops := opsS) (i := d.x.i) (rest := rest) (by simp [hSub _ _ ho, hW _ _ ho, hwant, hw])
    rw [hSub _ _ ho] at hskip
    refine Steps.one hskip Φ (hΦ m _ w ?_)
    refine hc.put hs.can.one hd hol hxo hdst hpre (fun _ _ h => h) (v' := undef) (by rw [(hs.can.vok d hd).no hw]; exact undef_ok m) ?_ unmK
    cases hh : d.x.heavy with
    | false => exact ⟨j, G, hj, hst, lightst hh⟩
    | true =>
      obtain ⟨_, _, G1, G', G2, _, k1, _, k2, k3, k4⟩ := (hs.can.vok d hd).hvy hh
      have hjl := heavyst hh
      rw [← hjl, hj] at k1; cases k1
      rw [k4 hw] at k3
      exact ⟨j + 1, G2, by rw [hjl]; exact k2, hst.grow k3, heavyst2 hh⟩
  | true =>
    have hwd : Region.wanted o (yielded opsS a.tmps) = true := by rw [hW _ _ ho, hwant, hw]
    have hT := hT hw
    let a1 : Act := { tmps := Array.ofFn (n := cx.n) fun t => if t.val ∈ looksA d.x then a.tmps.getD t.val undef else undef, defers := [] }
    have hget : ∀ t, a1.tmps.getD t undef = if t ∈ looksA d.x then a.tmps.getD t undef else undef := by
      intro t
      by_cases ht : t < cx.n
      · simp [a1, Array.getD_eq_getD_getElem?, ht]
      · have h1 : a1.tmps.getD t undef = undef := by simp [a1, Array.getD_eq_getD_getElem?, ht]
        have h2 : a.tmps.getD t undef = undef := by rw [Array.getD_eq_getD_getElem?, Array.getElem?_eq_none (by rw [hc.size]; omega)]; rfl
        rw [h1, h2]; simp
    have hTR : TR cx.n m d.T a1.tmps := by
      refine ⟨by simp [a1], fun t v hv => ?_⟩
      rw [hT, resT_get] at hv
      rw [hget]
      split at hv
      · rename_i h; rw [if_pos h]; exact hVS t h v hv
      · cases hv
    have hER : ER m d.T a1.eval := ER.of hst.rel.glob hTR
    have hev : ∀ y ∈ o.op.operands, a1.eval y = a.eval y := by
      intro y hy
      cases y with
      | tmp t =>
        have hm : t ∈ looksA d.x := by
          simp only [looksA, List.mem_append, List.mem_filterMap]
          refine .inl ⟨.tmp t, ?_, rfl⟩
          rw [hxo]; simpa using hy
        have h1 := hget t
        rw [if_pos hm] at h1
        simpa [Act.eval, Array.getD_eq_getD_getElem?] using h1
      | _ => rfl
    rcases (hs.can.vok d hd).yes hw with ⟨k, H1, hact, hk⟩ | ⟨k, bn, ob, hact, hblk, hk, hlow, hbn⟩ | ⟨k, G0, G', hact, hhp, hk⟩
    · -- looks
      rw [hspa] at hact
      rcases actK_look hact with hlk | hbad
      rotate_left
      · rw [hbad] at hk; cases hk
      have hh : d.x.heavy = false := by rw [hhv, hspa, hact]; rfl
      have kG : k.f d.T G = some d.v := by
        cases hp : pureK o.op with
        | true => rw [pureK_ok hp hlk d.T G H1]; exact hk
        | false =>
          have hck := hs.chk d hd
          simp only [check1, hw, hspa, hact, hxo, hp] at hck
          have e1 : Nat.add (Nat.sub d.x.hi d.x.lo) 1 = d.x.hi - d.x.lo + 1 := rfl
          obtain ⟨G1, a1, a2⟩ := sameAt_spec hck j range.1 (by have := range.2; rw [e1]; omega)
          have a1 : hAt s.hs s.H j = some G1 := a1
          rw [hj] at a1; cases a1
          unfold looksSame at a2
          cases hkg : k.f d.T G with
          | none => rw [hkg] at a2; cases a2
          | some v2 =>
            rw [hkg] at a2
            rw [AV.beq_eq a2]
      refine step_op (b := b) (K := K) (cs := cs) (rest := rest) (Q := fun v2 w2 => ∃ m', Cur cx ops hv m0 H0 w0 T0 D s (fun k => L k ∨ k = d.x.i) m' (a.put o.dst v2) w2) (hSub _ _ ho) hwd (Oper.semAt_eq _ _ _ (look_nodefer hlk)) (fun w1 hid => ?_) fun v2 w2 ⟨m', h⟩ => hΦ m' _ w2 h
      have hst1 := hst.idleR hid
      obtain ⟨v', r1, r2⟩ := lookK_ok hE hlk m G w1 d.T a1.eval d.v hst1.rel hER kG
      have rq := lookK_q hE hlk hst1.rel hER kG
      rw [execOp_congr o (look_noselect hlk) hev] at r1 rq
      exact ⟨rq, .value v' w1 r1 ⟨m, hc.put hs.can.one hd hol hxo hdst hpre (fun _ _ h => h) r2 ⟨j, G, hj, hst1, lightst hh⟩ unmK⟩⟩
    · -- a new block
      rw [hspa] at hact
      have hfr := actK_fresh hact
      have hh : d.x.heavy = false := by rw [hhv, hspa, hact]; rfl
      have hG : G.get bn = some ob := by
        have hck := hs.chk d hd
        simp only [check1, hw, hspa, hact, hblk] at hck
        have e1 : Nat.add (Nat.sub d.x.hi d.x.lo) 1 = d.x.hi - d.x.lo + 1 := rfl
        obtain ⟨G1, a1, a2⟩ := sameAt_spec hck j range.1 (by have := range.2; rw [e1]; omega)
        have a1 : hAt s.hs s.H j = some G1 := a1
        rw [hj] at a1; cases a1
        unfold holdsBlk at a2
        cases hgb : G.get bn with
        | none => rw [hgb] at a2; cases a2
        | some o2 => rw [hgb] at a2; rw [objBeq_eq a2]
      have hmb := hc.unm d hd bn ob hblk hi
      refine step_op (b := b) (K := K) (cs := cs) (rest := rest) (Q := fun v2 w2 => ∃ m', Cur cx ops hv m0 H0 w0 T0 D s (fun k => L k ∨ k = d.x.i) m' (a.put o.dst v2) w2) (hSub _ _ ho) hwd (Oper.semAt_eq _ _ _ (fresh_nodefer hfr)) (fun w1 hid => ?_) fun v2 w2 ⟨m', h⟩ => hΦ m' _ w2 h
      have hst1 := hst.idleR hid
      obtain ⟨v', y, w', bi, r1, r2, r3, r4, r5, r6⟩ := freshK_ok hE hfr m w1 d.T a1.eval bn d.v ob hER hk
      have rq := freshK_q (w := w1) hE hfr hER hk
      have hle : Le m (m.ext bn bi) := fun b' i' h' => by
        rw [Ren.ext_ne m bi (fun e => by subst e; rw [hmb] at h'; cases h')]; exact h'
      obtain ⟨g1, g2⟩ := r6 (m.ext bn bi) hle (Ren.ext_same _ _ _)
      obtain ⟨_, hst'⟩ := hst1.reveal hG hmb (hbn j G range.1 hj) hlow r5 r2 g2 r3 r4
      rw [execOp_congr o (fresh_noselect hfr) hev] at r1 rq
      refine ⟨rq, .value v' w' r1 ⟨_, hc.put hs.can.one hd hol hxo hdst hpre hle g1 ⟨j, G, hj, hst', lightst hh⟩ fun e he b2 o2 hb hn => ?_⟩⟩
      by_cases e2 : b2 = bn
      · subst e2
        exact absurd (hs.can.bone e he d hd b2 _ _ hb hblk) fun h => hn (.inr h)
      · rw [Ren.ext_ne m bi e2]; exact unmK e he b2 o2 hb hn
    · -- what changes the heap
      rw [hspa] at hact
      have hhk := actK_heavy hact
      have hh : d.x.heavy = true := by rw [hhv, hspa, hact]; rfl
      have hjl := heavyst hh
      obtain ⟨_, _, G1, G1', G2, k0, k1, k2, k3, k4, _⟩ := (hs.can.vok d hd).hvy hh
      rw [hhp] at k0; cases k0
      rw [← hjl, hj] at k1; cases k1
      refine step_op (b := b) (K := K) (cs := cs) (rest := rest) (Q := fun v2 w2 => ∃ m', Cur cx ops hv m0 H0 w0 T0 D s (fun k => L k ∨ k = d.x.i) m' (a.put o.dst v2) w2) (hSub _ _ ho) hwd (Oper.semAt_eq _ _ _ (heavy_nodefer hhk)) (fun w1 hid => ?_) fun v2 w2 ⟨m', h⟩ => hΦ m' _ w2 h
      have hst1 := hst.idleR hid
      have hout := heavyK_ok hE hX hhk R hR m G w1 d.T a1.eval d.v G' hst1.rel hER hk
      have rq := heavyK_q hE hQ hR hhk hst1.rel hER hk
      rw [execOp_congr o (heavy_noselect hhk) hev] at hout rq
      refine ⟨rq, hout.mono ?_⟩
      rintro v2 w2 ⟨m2, hs2, hv2⟩
      refine ⟨m2, hc.put hs.can.one hd hol hxo hdst hpre (St.le hst1.rel hs2) hv2 ⟨j + 1, G2, by rw [hjl]; exact k3, (hst1.trans hs2).grow k4, heavyst2 hh⟩ fun e he b2 o2 hb hn => ?_⟩
      have hm := unmK e he b2 o2 hb hn
      rcases hs.can.hpb e he d hd b2 o2 G G' hb hhp with h | h
      · rw [hs2.ext b2 h]; exact hm
      · cases hmb : m2 b2 with
        | none => rfl
        | some bi => have := (hs2.rel.bnd b2 bi hmb).1; omega
omit hE hX hQ in
omit [Dealing] in
theorem go_done {ops : Array Oper} {listed : Array Bool} (h : Region.ready .any ops listed = []) : ∀ fuel t, Region.linearise.go .any ops fuel t listed [] = [] := by
  intro fuel t
  cases fuel with
  | zero => simp [Region.linearise.go]
  | succ fuel =>
    simp only [Region.linearise.go]
    change (match (Region.ready .any ops listed)[t % (Region.ready .any ops listed).length]? with
      | some i => Region.linearise.go .any ops fuel (t / (Region.ready .any ops listed).length) (listed.setIfInBounds i true) [i]
      | none => [].reverse) = []
    rw [h]
    rfl
include hE hX hQ in
theorem lin_stop {R : Rec} (hR : RecOk P R) {ops opsS : Array Oper} {l : List RO} {pm : Tr Nat} {hv : List Nat} {T0 : Tr AV} {m0 : Ren} {H0 : AH} {w0 : World} {D : List ADf} {s : DS} {acc : Nat} (hs : Stat E R cx ops l pm hv T0 H0 s acc) {K : List Item} {cs : List Frame}
    (hSub : ∀ (i : Nat) (o : Oper), ops[i]? = some o → opsS[i]? = some o) (hW : ∀ (i : Nat) (o : Oper), ops[i]? = some o → ∀ ts, Region.wanted o (yielded opsS ts) = Region.wanted o (yielded ops ts)) (hsz : opsS.size = ops.size + 1) (hed : edgesOk opsS.toList 0 = true)
    (hz : ∀ z : Oper, opsS[ops.size]? = some z → ∀ i, i < ops.size → ∃ e ∈ z.after.toList, bindsA e = true ∧ e.on = i) :
    ∀ (fuel t : Nat) (listed : Array Bool) (m : Ren) (a : Act) (w : World), listed.size = opsS.size → listed.getD ops.size false = false → unl (fun i => listed.getD i false) opsS.size ≤ fuel → Cur cx ops hv m0 H0 w0 T0 D s (fun i => i < ops.size ∧ listed.getD i false = true) m a w →
    ∀ {Φ : Frame → List Frame → World → Prop}, (∀ (L : Nat → Prop) m' a' w', (∀ i, i < ops.size → L i) → Cur cx ops hv m0 H0 w0 T0 D s L m' a' w' → Gx P Φ (b.atR a' (.inRegion opsS [ops.size] :: K)) cs w') → Gx P Φ (b.atR a (.inRegion opsS (Region.linearise.go .any opsS fuel t listed []) :: K)) cs w := by
  intro fuel
  induction fuel with
  | zero =>
    intro t listed m a w hls hlz hu hc Φ hk
    have := unl_zero (f := fun i => listed.getD i false) (n := opsS.size) (by omega) ops.size (by omega)
    rw [hlz] at this; cases this
  | succ fuel ih =>
    intro t listed m a w hls hlz hu hc Φ hk
    simp only [Region.linearise.go]
    change Gx P Φ (b.atR a (.inRegion opsS (match (Region.ready .any opsS listed)[t % (Region.ready .any opsS listed).length]? with
      | some i => Region.linearise.go .any opsS fuel (t / (Region.ready .any opsS listed).length) (listed.setIfInBounds i true) [i]
      | none => [].reverse) :: K)) cs w
    cases hi : (Region.ready .any opsS listed)[t % (Region.ready .any opsS listed).length]? with
    | none =>
      have hnil : Region.ready .any opsS listed = [] := by
        cases hr : Region.ready .any opsS listed with
        | nil => rfl
        | cons x xs =>
          rw [hr] at hi
          have hlt : t % (x :: xs).length < (x :: xs).length := Nat.mod_lt _ (by simp)
          rw [List.getElem?_eq_none_iff] at hi
          omega
      have := all_listed hls hed hnil ops.size (by omega)
      rw [hlz] at this; cases this
    | some i =>
      simp only []
      rw [linearise_go_acc, List.reverse_singleton, List.singleton_append]
      have hmem := List.mem_of_getElem? hi
      rw [mem_ready] at hmem
      obtain ⟨h0, o, ho, hall⟩ := hmem
      have hlt : i < listed.size := by rw [hls]; exact (Array.getElem?_eq_some_iff.1 ho).1
      have hi0 : listed.getD i false = false := by simp [Array.getD_eq_getD_getElem?, hlt] at h0 ⊢; exact h0
      by_cases hiz : i = ops.size
      · subst hiz
        have hlist : ∀ k, k < ops.size → listed.getD k false = true := fun k hk' => by
          obtain ⟨e, e1, e2, e3⟩ := hz o ho k hk'
          have := hall e (by simpa using e1) (by rw [binds_any]; exact e2)
          rw [e3] at this
          exact this
        have hnil : Region.ready .any opsS (listed.setIfInBounds ops.size true) = [] := by
          cases hr : Region.ready .any opsS (listed.setIfInBounds ops.size true) with
          | nil => rfl
          | cons x xs =>
            have hx : x ∈ Region.ready .any opsS (listed.setIfInBounds ops.size true) := by rw [hr]; exact List.mem_cons_self
            rw [mem_ready] at hx
            obtain ⟨k0, o', k1, _⟩ := hx
            have hxl : x < opsS.size := (Array.getElem?_eq_some_iff.1 k1).1
            have hx1 : (listed.setIfInBounds ops.size true).getD x false = true := by
              by_cases e : x = ops.size
              · subst e; simp [Array.getD_eq_getD_getElem?, hlt]
              · rw [getD_set_ne false (Ne.symm e)]; exact hlist x (by omega)
            have hxs : x < (listed.setIfInBounds ops.size true).size := by simp; omega
            simp only [Array.getD_eq_getD_getElem?, Array.getElem?_eq_getElem hxs, Option.getD_some] at hx1 k0
            rw [hx1] at k0
            simp at k0
        rw [go_done hnil]
        exact hk _ m a w (fun k hk' => ⟨hk', hlist k hk'⟩) hc
      · have hio : i < ops.size := by
          have := (Array.getElem?_eq_some_iff.1 ho).1
          omega
        have hoo : ops[i]? = some o := by
          have h1 := hSub i _ (Array.getElem?_eq_getElem hio)
          rw [ho] at h1; cases h1
          exact Array.getElem?_eq_getElem hio
        refine cur_stepS hE hX hQ (b := b) (K := K) (cs := cs) (opsS := opsS) (rest := Region.linearise.go .any opsS fuel (t / (Region.ready .any opsS listed).length) (listed.setIfInBounds i true) []) hR hs hc hSub hW hoo (by simp [hi0])
          (fun e he hb => ⟨by have := edgesOk_mem hs.ed i _ (by rw [Array.getElem?_toList]; exact hoo) e he hb; omega, hall e (by simpa using he) (by rw [binds_any]; exact hb)⟩) fun m1 a1 w1 g2 => ?_
        have eL : (fun k => (k < ops.size ∧ listed.getD k false = true) ∨ k = i) = fun k => k < ops.size ∧ (listed.setIfInBounds i true).getD k false = true := by
          funext k
          apply propext
          by_cases e : i = k
          · subst e; simp [Array.getD_eq_getD_getElem?, hlt, hio]
          · rw [getD_set_ne false e]
            exact ⟨fun h => h.resolve_right (Ne.symm e), .inl⟩
        rw [eL] at g2
        have hu2 : unl (fun k => (listed.setIfInBounds i true).getD k false) opsS.size < unl (fun k => listed.getD k false) opsS.size := by
          refine unl_lt (f := fun k => listed.getD k false) (g := fun k => (listed.setIfInBounds i true).getD k false) (i := i) (fun k hk => getD_set_true hk) hi0 ?_ _ (by omega)
          simp [Array.getD_eq_getD_getElem?, hlt]
        exact ih (t / (Region.ready .any opsS listed).length) (listed.setIfInBounds i true) m1 a1 w1 (by simpa using hls) (by rw [getD_set_ne false hiz]; exact hlz) (by omega) g2 hk
end
end Go.Xq
namespace Go.Xq
variable [Dealing]
section
variable {P : Program} {E : Env} (hE : TyOk P E) (hX : ExtRun P E) (hQ : ExtQ P E) {b : Frame} {cx : Cx}
include hE hX hQ in
theorem draw_stop (hm : P.follows .mixedOrders = true) {id : Nat} {ops opsS : Array Oper} {k : RK} (h : drawK E cx.n ops.toList = some k)
    (hSub : ∀ (i : Nat) (o : Oper), ops[i]? = some o → opsS[i]? = some o) (hW : ∀ (i : Nat) (o : Oper), ops[i]? = some o → ∀ ts, Region.wanted o (yielded opsS ts) = Region.wanted o (yielded ops ts)) (hsz : opsS.size = ops.size + 1) (hedS : edgesOk opsS.toList 0 = true)
    (hz : ∀ z : Oper, opsS[ops.size]? = some z → ∀ i, i < ops.size → ∃ e ∈ z.after.toList, bindsA e = true ∧ e.on = i)
    {R : Rec} (hR : RecOk P R) {m : Ren} {H H2 : AH} {w : World} {T T2 : Tr AV} {D D2 : List ADf} {a : Act} {K : List Item} {cs : List Frame} (hr : Rel m H w) (hf : FrR cx m T D a) (hk : k.f R T D H = .nor T2 D2 H2)
    {Φ : Frame → List Frame → World → Prop} (hΦ : ∀ m2 a2 w2, St m H w m2 H2 w2 → FrR cx m2 T2 D2 a2 → Gx P Φ (b.atR a2 (.inRegion opsS [ops.size] :: K)) cs w2) : Gx P Φ (b.atR a (.code (.region id opsS true) :: K)) cs w := by
  simp only [drawK, ob_some, Option.some.injEq] at h
  obtain ⟨ra, h, rfl⟩ := h
  simp only [analyse, ob_some] at h
  obtain ⟨l, hros, h⟩ := h
  split at h
  rotate_left
  · cases h
  rename_i hchk
  simp only [Option.some.injEq] at h
  subst h
  simp only [Bool.and_eq_true, List.all_eq_true] at hchk
  obtain ⟨hed, _, htm, hord⟩ := hchk
  replace hk : (oc ((drawsK (orderOf l (heavies E ops.toList 0).length 0)).f R { T, H, hs := [], dn := [] }) .bad fun d => bt (checkA ((d.H :: d.hs).reverse) d.dn) (.nor d.T D d.H) .bad) = Out.nor T2 D2 H2 := hk
  cases hrun : (drawsK (orderOf l (heavies E ops.toList 0).length 0)).f R { T, H, hs := [], dn := [] } with
  | none => rw [hrun, oc_none] at hk; cases hk
  | some s =>
    rw [hrun, oc_some] at hk
    cases hck : checkA ((s.H :: s.hs).reverse) s.dn with
    | false => rw [hck, bt_false] at hk; cases hk
    | true =>
      rw [hck, bt_true] at hk
      injection hk with hk1 hk2 hk3
      subst hk1; subst hk2; subst hk3
      have hl : ∀ x ∈ l, x.heavy = isHv x.sp.act ∧ x.sp.dst = x.o.dst := by
        intro x hx
        obtain ⟨q, _, _, hsp, hh, _⟩ := ros_spec hros x hx
        refine ⟨hh, ?_⟩
        simp only [spK, ob_some, bt_some, Option.some.injEq] at hsp
        obtain ⟨g, _, _, e⟩ := hsp
        rw [← e]
      obtain ⟨acc, hcan, hfull⟩ := draws_can hl (fun x hx => mem_orderOf hx) hord (Can.init R l (masks ops.toList 0 .e) (heavies E ops.toList 0) T H) hrun
      have hs : Stat E R cx ops l (masks ops.toList 0 .e) (heavies E ops.toList 0) T H s acc := ⟨rfl, rfl, hed, hros, htm, hcan, by simpa using hfull, checkA_spec hck⟩
      refine Gx.step' fun w1 hid => ?_
      have hst0 : St m H w m H { w1 with drawn := w1.drawn + 1 } := (St.world (w2 := { w1 with drawn := w1.drawn + 1 }) (hr.idle hid) rfl rfl rfl).idleL hid
      obtain ⟨G0, s1, s2⟩ := hcan.start
      have hno : ∀ i, (Array.replicate opsS.size false).getD i false = false := by
        intro i
        by_cases hi : i < opsS.size <;> simp [Array.getD_eq_getD_getElem?, hi]
      have hc0 : Cur cx ops (heavies E ops.toList 0) m H w T D s (fun i => i < ops.size ∧ (Array.replicate opsS.size false).getD i false = true) m a { w1 with drawn := w1.drawn + 1 } := by
        refine ⟨⟨0, G0, s1, hst0.grow s2, fun q i _ => by simp [hno]⟩, fun i o _ h => by simp [hno] at h, hf.t.size, fun t => .inr ⟨fun d _ h => by simp [hno] at h, hf.t.at_ t⟩, hf.d, hf.r, fun d hd b o hb _ => ?_⟩
        have := (hcan.vok d hd).low b o hb
        cases hmb : m b with
        | none => rfl
        | some i => have := (hr.bnd b i hmb).1; omega
      refine ⟨_, _, _, lift_draw (P := P) (b := b) (a := a) (K := K) (cs := cs) (w := w1) (ops := opsS) (id := id), ?_⟩
      simp only [Region.schedule, hm, Bool.true_or, if_true]
      refine lin_stop hE hX hQ (b := b) (K := K) (cs := cs) hR hs hSub hW hsz hedS hz opsS.size (w1.tape w1.drawn (.order b.fn id)) (Array.replicate opsS.size false) m a _ (by simp) (hno _) (unl_bound _ _) hc0 fun L m2 a2 w2 g1 g2 => ?_
      obtain ⟨j, G, k1, k2, k3⟩ := g2.st
      have hvlen : (heavies E ops.toList 0).length = s.hs.length := by obtain ⟨pre, h1, h2⟩ := hcan.rest; rw [h1, ← h2]; simp
      have idx : ∀ y ∈ s.dn, y.x.i < ops.size := by
        intro y hy
        obtain ⟨p, a1, a2, _⟩ := ros_spec hros y.x (hcan.mem y hy)
        have := (List.getElem?_eq_some_iff.1 a2).1
        rw [Array.length_toList] at this
        omega
      have hj : j = s.hs.length := by
        have hle := hAt_le k1
        rcases Nat.lt_or_ge j s.hs.length with h | h
        · have hl : j < (heavies E ops.toList 0).length := by omega
          have hk : (heavies E ops.toList 0)[j]? = some (heavies E ops.toList 0)[j] := List.getElem?_eq_getElem hl
          obtain ⟨p, o', b1, b2, _⟩ := heavies_mem (List.mem_of_getElem? hk)
          have := (List.getElem?_eq_some_iff.1 b2).1
          rw [Array.length_toList] at this
          have := (k3 j _ hk).1 (g1 _ (by omega))
          omega
        · omega
      subst hj
      rw [hAt_len] at k1; cases k1
      refine hΦ m2 a2 w2 k2 ⟨⟨g2.size, fun t v hv => ?_⟩, g2.dfr, g2.rd⟩
      rcases hcan.tmp t with ⟨y, y1, y2, y3⟩ | ⟨y1, y2⟩
      · rcases g2.tmp t with ⟨e, e1, e2, e3, e4⟩ | ⟨e1, _⟩
        · have hye : y = e := by
            apply hcan.one y y1 e e1
            rcases (tmpsOk_spec (htm y.x (hcan.mem y y1)) e.x (hcan.mem e e1)).2 with h2 | h2
            · exact h2
            · exact absurd e3 (h2 t y2)
          subst hye
          rw [y3] at hv; cases hv; exact e4
        · exact absurd y2 (e1 y y1 (g1 _ (idx y y1)))
      · rcases g2.tmp t with ⟨e, e1, e2, e3, e4⟩ | ⟨e1, e2⟩
        · exact absurd e3 (y1 e e1)
        · rw [y2] at hv; exact e2 v hv
end
end Go.Xq
namespace Go.Xq
def Apart (vi vj : World) : Prop := ∀ (k : Nat) (o o' : Obj), vj.heap[k]? = some o → ¬ Dead o → vi.heap[k]? = some o' → Dead o' ∨ (Shr o ∧ Shr o')
theorem nvo_dead : NVo deadO := ⟨rfl, fun _ _ h => by cases h⟩
end Go.Xq
namespace Go.Xq
inductive Rk where
  | z
  | s (f : World × Frame × List Frame × World → Rk)
inductive Rk.lt : Rk → Rk → Prop
  | mk (f : World × Frame × List Frame × World → Rk) (i : World × Frame × List Frame × World) : Rk.lt (f i) (.s f)
theorem Rk.acc (r : Rk) : Acc Rk.lt r := by
  induction r with
  | z => exact ⟨_, fun y h => by cases h⟩
  | s f ih => exact ⟨_, fun y h => by cases h with | mk _ i => exact ih i⟩
theorem Rk.wf : WellFounded Rk.lt := ⟨Rk.acc⟩
def Rk.nat : Nat → Rk
  | 0 => .z
  | n + 1 => .s fun _ => Rk.nat n
theorem Rk.nat_lt (n : Nat) : Rk.lt (Rk.nat n) (Rk.nat (n + 1)) := .mk (fun _ => Rk.nat n) default
theorem Rk.z_lt : ∀ (n : Nat), Relation.TransGen Rk.lt .z (Rk.nat (n + 1))
  | 0 => .single (Rk.nat_lt 0)
  | n + 1 => .tail (Rk.z_lt n) (Rk.nat_lt (n + 1))
def PLt (n : Nat) (x y : Nat → Rk) : Prop := ∃ i, i < n ∧ Rk.lt (x i) (y i) ∧ ∀ j, j ≠ i → x j = y j
theorem PLt.acc : ∀ (n : Nat) (x : Nat → Rk), Acc (PLt n) x
  | 0, x => ⟨_, fun y ⟨i, hi, _⟩ => absurd hi (Nat.not_lt_zero i)⟩
  | n + 1, x => by
    have key : ∀ (r : Rk), ∀ x : Nat → Rk, x n = r → Acc (PLt (n + 1)) x := by
      intro r
      induction Rk.acc r with
      | intro r _ ih1 =>
        intro x
        induction PLt.acc n x with
        | intro x _ ih2 =>
          intro hx
          refine ⟨_, fun y hy => ?_⟩
          obtain ⟨i, hi, hlt, hne⟩ := hy
          by_cases e : i = n
          · subst e
            exact ih1 (y i) (hx ▸ hlt) y rfl
          · exact ih2 y ⟨i, by omega, hlt, hne⟩ (by rw [hne n (Ne.symm e)]; exact hx)
    exact key (x n) x rfl
abbrev MLt (n : Nat) : Nat × (Nat → Rk) × Rk → Nat × (Nat → Rk) × Rk → Prop := Prod.Lex (· < ·) (Prod.Lex (PLt n) (Relation.TransGen Rk.lt))
theorem MLt.wf (n : Nat) : WellFounded (MLt n) := (Prod.lex Nat.lt_wfRel (Prod.lex ⟨PLt n, ⟨PLt.acc n⟩⟩ ⟨Relation.TransGen Rk.lt, Rk.wf.transGen⟩)).wf
section
variable [Dealing]
def GxR (P : Program) (Φ : Frame → List Frame → World → Prop) : Rk → Frame → List Frame → World → Prop
  | .z, fr, cs, w => ∀ w1, Idle w w1 → Φ fr cs w1
  | .s g, fr, cs, w =>
    (∃ f : World → Frame × List Frame × World, (∀ w1, Idle w w1 → Lifts P fr cs w1 (f w1).1 (f w1).2.1 (f w1).2.2) ∧ ∀ w1, Idle w w1 → GxR P Φ (g (w1, f w1)) (f w1).1 (f w1).2.1 (f w1).2.2) ∨
      ∃ d : Deal, Dealing.ok d ∧ (∀ w1, Idle w w1 → d.pre fr cs w1) ∧ ∀ w1 fr' cs' w', Idle w w1 → d.post fr cs w1 fr' cs' w' → GxR P Φ (g (w1, fr', cs', w')) fr' cs' w'
variable {P : Program} {Φ : Frame → List Frame → World → Prop}
theorem Gx.rank {fr : Frame} {cs : List Frame} {w : World} (h : Gx P Φ fr cs w) : ∃ r, GxR P Φ r fr cs w := by
  classical
  induction h with
  | stop h => exact ⟨.z, h⟩
  | @step fr cs w f hl _ ih =>
    refine ⟨.s fun x => if h : Idle w x.1 ∧ x.2 = f x.1 then (ih x.1 h.1).choose else .z, .inl ⟨f, hl, fun w1 hi => ?_⟩⟩
    have hc : Idle w (w1, f w1).1 ∧ (w1, f w1).2 = f (w1, f w1).1 := ⟨hi, rfl⟩
    exact (congrArg (fun r => GxR P Φ r (f w1).1 (f w1).2.1 (f w1).2.2) (dif_pos hc)).mpr (ih w1 hi).choose_spec
  | @deal fr cs w d hd hp _ ih =>
    refine ⟨.s fun x => if h : Idle w x.1 ∧ d.post fr cs x.1 x.2.1 x.2.2.1 x.2.2.2 then (ih x.1 x.2.1 x.2.2.1 x.2.2.2 h.1 h.2).choose else .z, .inr ⟨d, hd, hp, fun w1 fr' cs' w' hi hq => ?_⟩⟩
    have hc : Idle w (w1, fr', cs', w').1 ∧ d.post fr cs (w1, fr', cs', w').1 (w1, fr', cs', w').2.1 (w1, fr', cs', w').2.2.1 (w1, fr', cs', w').2.2.2 := ⟨hi, hq⟩
    exact (congrArg (fun r => GxR P Φ r fr' cs' w') (dif_pos hc)).mpr (ih w1 fr' cs' w' hi hq).choose_spec
theorem GxR.idle {r : Rk} {fr : Frame} {cs : List Frame} {w w' : World} (h : GxR P Φ r fr cs w) (hi : Idle w w') : GxR P Φ r fr cs w' := by
  cases r with
  | z => exact fun w1 h1 => h w1 (hi.trans h1)
  | s g =>
    rcases h with ⟨f, h1, h2⟩ | ⟨d, h1, h2, h3⟩
    · exact .inl ⟨f, fun w1 hw => h1 w1 (hi.trans hw), fun w1 hw => h2 w1 (hi.trans hw)⟩
    · exact .inr ⟨d, h1, fun w1 hw => h2 w1 (hi.trans hw), fun w1 fr' cs' w2 hw => h3 w1 fr' cs' w2 (hi.trans hw)⟩
end
end Go.Xq
