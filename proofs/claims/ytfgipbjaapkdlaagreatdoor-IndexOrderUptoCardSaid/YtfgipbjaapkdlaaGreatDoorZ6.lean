/- Contracts of calls and rules for code. Conditions: in each theorem. -/
import Derived.Test.YtfgipbjaapkdlaaGreatDoorZ5
namespace Go.Xq
noncomputable section
section
variable {P : Program} {E : Env} {b : Frame} {n : Cx} {T T2 : Tr AV} {D D2 : List ADf} {H H2 : AH} {Q Q' : Out → Prop} {its its2 : List Item}
theorem WD.forR {i j ic ii t : Nat} {opsc opsi : Array Oper} {body : Code} {σ : Type} (cs : σ → List (Nat × AV)) (I : σ → AH → Prop) (μ : σ → Nat) {l : List (Nat × AV)} (s0 : σ) (h0 : I s0 H) (hl : lsub (cs s0) l)
    (hc : ∀ s H, I s H → WDO P b n opsc opsc.toList (tl (cs s)) [] H fun o => ∃ (c : Bool) (l' : List (Nat × AV)), o = .nor (tl l') [] H ∧ tget t l' = some (.bool c) ∧
      (c = false → Q (.nor (tl l') [] H)) ∧
      (c = true → WD P b n [.code body] (tl l') [] H fun o => match o with
        | .nor T2 D2 H2 => WDO P b n opsi opsi.toList T2 D2 H2 fun o => match o with
          | .nor T3 D3 H3 => D3 = [] ∧ ∃ s' l'', T3 = tl l'' ∧ lsub (cs s') l'' ∧ I s' H3 ∧ μ s' < μ s
          | _ => False
        | .ret T2 D2 H2 => Q (.ret T2 D2 H2)
        | _ => False)) :
    WD P b n [.code (.block i (.loop (.seq (.region ic opsc false) (.seq (.cond (.tmp t) .skip (.exit i)) (.seq (.block j body) (.region ii opsi false))))))] (tl l) [] H Q := by
  refine WD.block (WD.loopS cs I μ s0 h0 hl fun s H hI => ?_)
  refine WD.seq ((WD.region (hc s H hI)).mono fun o ho => ?_)
  obtain ⟨c, l', rfl, h2, h3, h4⟩ := ho
  refine WD.seq (WD.cond (t := c) (by rw [opnd_tl]; exact h2) (fun hc => WD.skip (.inl rfl) ?_) (fun hc => WD.exit ?_))
  · refine WD.seq (WD.block ((h4 hc).mono fun o ho => ?_))
    cases o with
    | bad => exact ho.elim
    | ext => exact ho.elim
    | ret => exact ho
    | nor T2 D2 H2 =>
      refine (WD.region ho).mono fun o ho => ?_
      cases o with
      | nor T3 D3 H3 => exact ho
      | bad => exact ho.elim
      | ext => exact ho.elim
      | ret => exact ho.elim
  · show Q (bOut i (.ext i (tl l') [] H))
    rw [bOut_ext]
    exact h3 hc
end
end
end Go.Xq
namespace Go.Xq
noncomputable section
section
variable {P : Program} {E : Env} {b : Frame} {n : Cx} {T T2 : Tr AV} {D D2 : List ADf} {H H2 : AH} {Q Q' : Out → Prop} {its its2 : List Item}
end
end
end Go.Xq
namespace Go.Xq
noncomputable section
section
variable {P : Program} {E : Env} {b : Frame} {n : Cx} {T : Tr AV} {D : List ADf} {H : AH} {Q : Out → Prop}
theorem WDO.callG {ops : Array Oper} {o : Oper} {r : List Oper} {c : Call} {g : Nat} {l : AV} {Q1 : AV → AH → Prop} {gd : Option (Nat × Bool)} (hop : o.op = .call c) (hf : c.callee = .value (.func g)) (hg : guardOf ops.toList o.guard = some gd) (hw : wantA gd T = some true)
    (hd : dstOk n.n o.dst = true) (hl : (opnds c.args.toList).f T = some l) (hc : DC P .normal g l H Q1) (h : ∀ v H2, Q1 v H2 → WDO P b n ops r (putA T o.dst v) D H2 Q) : WDO P b n ops (o :: r) T D H Q := by
  obtain ⟨v, H2, hq, hc⟩ := hc
  obtain ⟨o, h1, h2⟩ := h v H2 hq
  exact ⟨o, h1, WPO.callG hop hf hg hw hd hl hc fun v' H' e => by obtain ⟨rfl, rfl⟩ := e; exact h2⟩
theorem WDO.skipG {ops : Array Oper} {o : Oper} {r : List Oper} {g : Option (Nat × Bool)} (hg : guardOf ops.toList o.guard = some g) (hw : wantA g T = some false) (hdst : dstOk n.n o.dst = true)
    (h : WDO P b n ops r (putA T o.dst undefA) D H Q) : WDO P b n ops (o :: r) T D H Q := by
  obtain ⟨o', h1, h2⟩ := h
  exact ⟨o', h1, WPO.skip hg hw hdst h2⟩
end
end
end Go.Xq
namespace Go.Xq
noncomputable section
theorem putL_get (k l : List UInt8) (off i : Nat) (h : off + l.length ≤ k.length) : (putL k off l)[i]? = if off ≤ i ∧ i < off + l.length then l[i - off]? else k[i]? := by
  unfold putL
  have e1 : (k.take off).length = off := by simp; omega
  by_cases h1 : i < off
  · rw [if_neg (by omega), List.append_assoc, List.getElem?_append_left (by omega), List.getElem?_take_of_lt h1]
  · by_cases h2 : i < off + l.length
    · rw [if_pos ⟨by omega, h2⟩, List.getElem?_append_left (by rw [List.length_append, e1]; omega), List.getElem?_append_right (by omega), e1]
    · rw [if_neg (by omega), List.getElem?_append_right (by rw [List.length_append, e1]; omega), List.length_append, e1, List.getElem?_drop]
      congr 1; omega
theorem copyA_at {H : AH} {b e n off : Nat} {cap : Option Nat} {o : Bool} {k l : List UInt8} {v : AV} (hb : H.get b = some (bb e o k)) (hn : off + n ≤ k.length) (h1 : lengthA v = some l.length) (h2 : bytesA H v = some (l.length, leNat l)) (hl : l.length ≤ n) :
    copyA H 1 (.sl b off n cap) v = some (.int .i64 (l.length : Int), if l = [] then H else H.set b (bb e o (putL k off l))) := by
  unfold copyA
  rw [h1, ob_some', onSl_sl]
  have hmin : Nat.min l.length n = l.length := Nat.min_eq_left hl
  rw [hmin]
  by_cases hz : l = []
  · subst hz; rfl
  · rw [if_neg hz]
    obtain ⟨j, hj⟩ : ∃ j, l.length = j + 1 := ⟨l.length - 1, by have := List.length_pos_iff.2 hz; omega⟩
    rw [hj, nc_succ, ← hj]
    have : layA H 1 b off l.length v = some (H.set b (bb e o (putL k off l))) := by
      unfold layA
      rw [hb, ob_some']
      show bt (Nat.beq 1 1) (ob (bytesA H v) fun r => ob (overBlk off l.length r.2 e k.length o (leNat k)) fun o' => some (H.set b o')) none = _
      rw [Nat.beq_refl, bt_true, h2, ob_some']
      have hov : overBlk off l.length (leNat l) e k.length o (leNat k) = some (bb e o (putL k off l)) := by
        unfold overBlk
        rw [ble_true (by show off + l.length ≤ k.length; omega), bt_true]
        have hp : Nat.shiftLeft 1 (Nat.mul 8 l.length) = 256 ^ l.length := by rw [shift_bytes, Nat.mul_one]
        have hmod : Nat.mod (leNat l) (Nat.shiftLeft 1 (Nat.mul 8 l.length)) = leNat l := by rw [hp]; exact Nat.mod_eq_of_lt (leNat_lt l)
        rw [hmod]
        have hlen : (putL k off l).length = k.length := putL_len (by omega)
        have hle : overN (leNat k) off l.length (leNat l) = leNat (putL k off l) := by
          refine leNat_ext hlen (overN_lt (by omega) (leNat_lt l) (leNat_lt k)) fun i hi => ?_
          rw [byteAt_over _ _ _ _ _ (leNat_lt l)]
          have hg := putL_get k l off i (by omega)
          by_cases h3 : i < off
          · rw [if_neg (by omega)] at hg
            refine ⟨k[i], by rw [hg, List.getElem?_eq_getElem hi], ?_⟩
            rw [if_pos h3]
            exact byteAt_leNat (List.getElem?_eq_getElem hi)
          · by_cases h4 : i < off + l.length
            · rw [if_pos ⟨by omega, h4⟩] at hg
              refine ⟨l[i - off]'(by omega), by rw [hg, List.getElem?_eq_getElem (by omega)], ?_⟩
              rw [if_neg h3, if_pos h4]
              exact byteAt_leNat (List.getElem?_eq_getElem (by omega))
            · rw [if_neg (by omega)] at hg
              refine ⟨k[i], by rw [hg, List.getElem?_eq_getElem hi], ?_⟩
              rw [if_neg h3, if_neg h4]
              exact byteAt_leNat (List.getElem?_eq_getElem hi)
        rw [hle, bb, hlen]
      rw [hov, ob_some']
    rw [this, ob_some']; rfl
def IL (n : Nat) : Type := {l : List Int // l.length = n}
def encIL {n : Nat} (a : IL n) : List AV := a.1.map (AV.int .i64)
def zeroIL (n : Nat) : IL n := ⟨List.replicate n 0, by simp⟩
def zIL (n : Nat) : AV := avl (encIL (zeroIL n))
structure RdIL (e n : Nat) (H : AH) (b : Nat) (a : IL n) : Prop where
  ex : ∃ o, H.get b = some o ∧ ElB encIL e n false (zIL n) [a] o
def setIL {n : Nat} (a : IL n) (i : Nat) (z : Int) : IL n := ⟨a.1.set i z, by rw [List.length_set, a.2]⟩
end
end Go.Xq
namespace Go.Xq
noncomputable section
end
end Go.Xq
namespace Go.Xq
noncomputable section
section
variable {R : Rec} {K : Tr AV → AH → Prop} {r : List DI} {H H2 : AH} {hs : List AH} {chk : List AH → Prop}
def resC (t : Nat) (k : List (Nat × AV)) : Option AV → List (Nat × AV)
  | some v => (t, v) :: k
  | none => k
theorem resL_cc (t : Nat) (r : List Nat) (l : List (Nat × AV)) : resL (t :: r) l = resC t (resL r l) (tget t l) := by
  rw [resL_cons]
  cases tget t l <;> rfl
@[simp] theorem resC_some (t : Nat) (k : List (Nat × AV)) (v : AV) : resC t k (some v) = (t, v) :: k := rfl
@[simp] theorem resC_none (t : Nat) (k : List (Nat × AV)) : resC t k none = k := rfl
theorem diLookP {ts : List Nat} {k : LK} {d lo cnt : Nat} {hv : Bool} {l l2 : List (Nat × AV)} {v : AV} (hl : resL ts l = l2) (h : k.f (tl l2) H = some v)
    (h2 : DiRun R K r (tl ((d, v) :: l)) H hs chk) : DiRun R K (⟨ts, .look k, some d, none, lo, cnt, true, hv⟩ :: r) (tl l) H hs chk := by
  subst hl
  simp [h]
  exact h2
theorem diLookC {ts : List Nat} {k : LK} {d lo cnt : Nat} {hv : Bool} {l l2 : List (Nat × AV)} {v : AV} (hl : resL ts l = l2) (h : k.f (tl l2) H = some v)
    (h2 : DiRun R K r (tl ((d, v) :: l)) H hs (chkAdd chk k (tl l2) v lo cnt)) : DiRun R K (⟨ts, .look k, some d, none, lo, cnt, false, hv⟩ :: r) (tl l) H hs chk := by
  subst hl
  simp [h]
  exact h2
theorem diFresh {ts : List Nat} {k : FrK} {d lo cnt : Nat} {pu hv : Bool} {l l2 : List (Nat × AV)} {v : AV} {o : AObj} (hl : resL ts l = l2) (h : k.f (tl l2) H.next = some (v, o))
    (h2 : DiRun R K r (tl ((d, v) :: l)) (H.new o) hs (chkBlk chk H.next o lo cnt)) : DiRun R K (⟨ts, .fresh k, some d, none, lo, cnt, pu, hv⟩ :: r) (tl l) H hs chk := by
  subst hl
  simp only [diRun_cons, wantA_none]
  exact diFr_in (by simpa using h) h2
theorem diHeavy {ts : List Nat} {k : HvK} {dst : Option Nat} {lo cnt : Nat} {pu hv : Bool} {l l2 : List (Nat × AV)} {v : AV} (hl : resL ts l = l2) (h : k.f R (tl l2) H = some (v, H2)) (hn : H.next ≤ H2.next)
    (h2 : DiRun R K r (putA (tl l) dst v) H2 (H :: hs) chk) : DiRun R K (⟨ts, .heavy k, dst, none, lo, cnt, pu, hv⟩ :: r) (tl l) H hs chk := by
  subst hl
  simp only [diRun_cons, wantA_none]
  exact diHv_in (by simpa using h) hn h2
theorem diCallF {E : Env} {ts : List Nat} {g : Nat} {x : LsK} {a : AV} {d lo cnt : Nat} {pu hv : Bool} {l l2 : List (Nat × AV)} {v : AV} (hl : resL ts l = l2) (hx : x.f (tl l2) = some a) (he : E.ext g a H = none) (hc : R.call g a H = some (v, H2)) (hn : H.next ≤ H2.next)
    (h2 : DiRun R K r (tl ((d, v) :: l)) H2 (H :: hs) chk) : DiRun R K (⟨ts, .heavy ⟨hvCallF E g x⟩, some d, none, lo, cnt, pu, hv⟩ :: r) (tl l) H hs chk :=
  diHeavy hl (hvCallF_f hx he hc) hn h2
end
end
end Go.Xq
namespace Go.Xq
noncomputable section
section
variable {α : Type} {enc : α → List AV} {e es : Nat} {z : AV} {H H2 : AH} {b : Nat} {a : α}
structure Bx (enc : α → List AV) (e es : Nat) (z : AV) (H : AH) (b : Nat) (a : α) : Prop where
  ex : ∃ o, H.get b = some o ∧ ElB enc e es false z [a] o
theorem Bx.keep {S : Nat → Prop} (h : Bx enc e es z H b a) (hk : Keep S H H2) (hb : b < H.next) (hs : ¬ S b) : Bx enc e es z H2 b a := by
  obtain ⟨o, h1, h2⟩ := h.ex
  exact ⟨o, hk.get hb hs h1, h2⟩
theorem Bx.get (hl : ∀ a, (enc a).length = es) (h : Bx enc e es z H b a) : ∃ o, H.get b = some o ∧ (∀ (j : Nat) (v : AV), (enc a)[j]? = some v → rdCell o j = some v) ∧ rdCells o es 0 = some (avl (enc a)) := by
  obtain ⟨o, h1, h2⟩ := h.ex
  refine ⟨o, h1, fun j v hv => ?_, ?_⟩
  · have := h2.cell (k := 0) (a := a) (j := j) (v := v) rfl hv
    simpa using this
  · have := h2.rd.elem (k := 0) (a := a) rfl (hl a)
    simpa using this
theorem Bx.new (hl : ∀ a, (enc a).length = es) (hz : z = avl (enc a)) (H : AH) {n : Nat} (hn : n = es) : Bx enc e es z (H.new (.cs e es n false z .e)) H.next a := by
  have := ElB.zeros (enc := enc) (e := e) (es := es) (op := false) (z := z) hl (a := a) hz 1
  rw [Nat.one_mul] at this
  subst hn
  exact ⟨_, get_new_same _ _, this⟩
theorem Bx.store (hl : ∀ a, (enc a).length = es) (a' : α) (hc : ∀ v ∈ enc a', isCell v = true) (h : Bx enc e es z H b a) :
    ∃ H2, stN es H (.agg (avl (enc a'))) (.ptr b 0) = some H2 ∧ H2.next = H.next ∧ Bx enc e es z H2 b a' ∧ Keep (fun x => x = b) H H2 := by
  obtain ⟨o, h1, h2⟩ := h.ex
  obtain ⟨o', s1, s2⟩ := stN_el hl h2 h1 (i := 0) (by simp) hc
  exact ⟨_, by simpa using s1, by simp, ⟨o', get_set_same _ _ _, by simpa using s2⟩, Keep.set _ fun _ => rfl⟩
theorem Bx.store1 (h : Bx enc e es z H b a) (hl : ∀ a, (enc a).length = es) (a' : α) {f : Nat} {v : AV} (hf : f < es) (ha : enc a' = (enc a).set f v) (hv : isCell v = true) :
    ∃ H2, st1' H v (.ptr b f) = some H2 ∧ H2.next = H.next ∧ Bx enc e es z H2 b a' ∧ Keep (fun x => x = b) H H2 := by
  obtain ⟨o, h1, h2⟩ := h.ex
  obtain ⟨o', s1, s2⟩ := st1_el (a' := a') (v := v) (f := f) hl h2 h1 (i := 0) rfl hf ha hv
  exact ⟨_, by simpa using s1, by simp, ⟨o', get_set_same _ _ _, by simpa using s2⟩, Keep.set _ fun _ => rfl⟩
end
structure Dv where
  e : Int
  p : Int
  f : Int
  t : Int
  pv : AV
  mv : AV
  ok1 : isCell pv = true
  ok2 : isCell mv = true
def encDv (d : Dv) : List AV := [.int .i64 d.e, .int .i64 d.p, .int .i64 d.f, .int .i64 d.t, d.pv, d.mv]
def zDv : AV := .cons (.int .i64 0) (.cons (.int .i64 0) (.cons (.int .i64 0) (.cons (.int .i64 0) (.cons .snil (.cons .snil .nil)))))
def zeroDv : Dv := ⟨0, 0, 0, 0, .snil, .snil, rfl, rfl⟩
def Dl.dv (d : Dl) (pv mv : AV) (h1 : isCell pv = true) (h2 : isCell mv = true) : Dv := ⟨d.engine, d.page, d.frm, d.to, pv, mv, h1, h2⟩
structure Pv where
  n : Int
  v : AV
  ok : isCell v = true
def encPv (p : Pv) : List AV := [.int .i64 p.n, p.v]
def zPv : AV := .cons (.int .i64 0) (.cons .snil .nil)
def zeroPv : Pv := ⟨0, .snil, rfl⟩
end
end Go.Xq
namespace Go.Xq
noncomputable section
section
variable {P : Program} {E : Env} {b : Frame} {n : Cx} {T T2 : Tr AV} {D : List ADf} {H : AH} {Q : Out → Prop}
theorem WD.drawLooks (hE : TyOk P E) (hX : ExtOk P E) (hm : P.follows .mixedOrders = true) {id : Nat} {ops : Array Oper} {ls : List Dk} (hk : dksOf E n.n ops.toList = some ls) (ho : runDk ls T H = some T2)
    (h : Q (.nor T2 D H)) : WD P b n [.code (.region id ops true)] T D H Q := ⟨_, h, WP.drawLooks hE hX hm hk ho rfl⟩
theorem dkStep {ts : List Nat} {k : LK} {d : Nat} {g : Option (Nat × Bool)} {r : List Dk} {l l2 : List (Nat × AV)} {v : AV} (hl : resL ts l = l2) (hw : wantA g (tl l) = some true) (h : k.f (tl l2) H = some v)
    (h2 : runDk r (tl ((d, v) :: l)) H = some T2) : runDk (⟨ts, k, some d, g⟩ :: r) (tl l) H = some T2 := by
  subst hl
  simp [hw, h]
  exact h2
theorem dkSkip {ts : List Nat} {k : LK} {d : Nat} {g : Option (Nat × Bool)} {r : List Dk} {l : List (Nat × AV)} (hw : wantA g (tl l) = some false)
    (h2 : runDk r (tl ((d, undefA) :: l)) H = some T2) : runDk (⟨ts, k, some d, g⟩ :: r) (tl l) H = some T2 := by
  simp [hw]
  exact h2
end
end
end Go.Xq
