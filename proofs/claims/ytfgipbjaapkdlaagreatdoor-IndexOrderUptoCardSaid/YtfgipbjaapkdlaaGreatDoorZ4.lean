/- Contracts of calls and rules for code. Conditions: in each theorem. -/
import Derived.Test.YtfgipbjaapkdlaaGreatDoorZ3
import Derived.Deep.Slices
import Derived.ChangeArms
import Derived.DataReads
namespace Go.Xq
noncomputable section
section
variable {α : Type} {enc : α → List AV} {e es : Nat} {op : Bool} {z : AV} {els : List α} {o : AObj} {H : AH}
theorem frSlice_el (hl : ∀ a, (enc a).length = es) {x : Operand} {T : Tr AV} {b0 : Nat} {a : α} {v z0 : AV} (hx : opnd x T = some v) (hv : cellsA v = avl (enc a)) (hz : AV.over0 (avl (enc a)) (zerosA z0 1) = avl (enc a)) (hzl : AV.len (zerosA z0 1) = es) :
    ∃ o, frSlice 1 (zerosA z0 1) ⟨fill1 x 0 es flEnd⟩ ⟨mkCs e es z⟩ T b0 = some (.sl b0 0 1 (some 1), o) ∧ ElB enc e es false z [a] o := by
  obtain ⟨o, h1, h2⟩ := ElB.new (e := e) (op := false) (z := z) hl [a]
  refine ⟨o, ?_, h2⟩
  have : [a].flatMap enc = enc a := by simp
  rw [this] at h1
  rw [frSlice_f]
  show ob (fill1 x 0 es flEnd T (zerosA z0 1)) _ = _
  rw [fill1_f, hx, ob_some', hv, len_avl, hl, Nat.beq_refl, bt_true]
  have h3 : Nat.ble (Nat.add 0 es) (AV.len (zerosA z0 1)) = true := ble_true (by rw [hzl]; show 0 + es ≤ es; omega)
  rw [h3, bt_true, flEnd_f, ob_some', AVover_zero, hz]
  show ob (mkCs e es z false (avl (enc a))) _ = _
  rw [h1, ob_some']
def enc1 (v : AV) : List AV := [v]
theorem enc1_len (v : AV) : (enc1 v).length = 1 := rfl
def LstAt {α : Type} (enc : α → List AV) (e es : Nat) (z : AV) (H : AH) (lo : Nat) (v : AV) (S : List α) : Prop :=
  (v = .snil ∧ S = []) ∨ ∃ b o, v = .sl b 0 S.length none ∧ S ≠ [] ∧ lo ≤ b ∧ b < H.next ∧ H.get b = some o ∧ ElB enc e es true z S o
theorem LstAt.len {lo : Nat} {v : AV} (h : LstAt enc e es z H lo v els) : onSl v (some (AV.int .i64 0)) (fun _ _ n _ => some (.int .i64 (n : Int))) = some (.int .i64 (els.length : Int)) := by
  rcases h with ⟨rfl, rfl⟩ | ⟨b, o, rfl, _⟩ <;> rfl
theorem LstAt.keep {S : Nat → Prop} {H2 : AH} {lo : Nat} {v : AV} (h : LstAt enc e es z H lo v els) (hk : Keep S H H2) (hs : ∀ b, blk v = some b → ¬ S b) : LstAt enc e es z H2 lo v els := by
  rcases h with h | ⟨b, o, rfl, h1, h2, h3, h4, h5⟩
  · exact .inl h
  · exact .inr ⟨b, o, rfl, h1, h2, Nat.lt_of_lt_of_le h3 hk.1, hk.get h3 (hs b rfl) h4, h5⟩
theorem LstAt.low {lo b : Nat} {v : AV} (h : LstAt enc e es z H lo v els) (hb : blk v = some b) : lo ≤ b ∧ b < H.next := by
  rcases h with ⟨rfl, _⟩ | ⟨b', o, rfl, h1, h2, h3, _⟩
  · cases hb
  · cases hb; exact ⟨h2, h3⟩
theorem LstAt.app (hl : ∀ a, (enc a).length = es) (hes : 0 < es) {lo : Nat} {v x : AV} {a : α} (h : LstAt enc e es z H lo v els) (hlo : lo ≤ H.next) (hc : ∀ v ∈ enc a, isCell v = true) (hx : One enc es H x a) (hmax : els.length < 8589934592) :
    ∃ v' H2, appendA ⟨grownCs es ⟨mkCs e es z⟩⟩ es H v x = some (v', H2) ∧ LstAt enc e es z H2 lo v' (els ++ [a]) ∧ blk v' = some H.next ∧ H2.next = H.next + 1 ∧ Keep (fun b => blk v = some b) H H2 := by
  rcases h with ⟨rfl, rfl⟩ | ⟨b, o, rfl, h1, h2, h3, h4, h5⟩
  · obtain ⟨o', g1, g2⟩ := appE_snil (e := e) (z := z) hl hc hx
    exact ⟨_, _, g1, .inr ⟨H.next, o', rfl, by simp, hlo, by simp, get_new_same _ _, g2⟩, rfl, by simp, Keep.new _ _ _⟩
  · obtain ⟨o', g1, g2⟩ := appE_move hl hes hc hx rfl h4 h5 (by omega)
    refine ⟨_, _, g1, .inr ⟨H.next, o', by simp, by simp, hlo, by simp, ?_, g2⟩, rfl, by simp, (Keep.kill (S := fun b' => blk (.sl b 0 els.length none) = some b') fun _ => rfl).trans (Keep.new _ _ _)⟩
    have := get_new_same (H.kill b) o'
    simpa using this
theorem One.of {b : Nat} {cap : Option Nat} {a : α} (hb : H.get b = some o) (h : ElB enc e es op z [a] o) : One enc es H (.sl b 0 1 cap) a := ⟨b, 0, cap, o, rfl, hb, h.rd⟩
end
end
end Go.Xq
namespace Go.Xq
noncomputable section
section
variable {R : Rec} {K : Tr AV → AH → Prop} {r : List DI} {x : DI} {T : Tr AV} {H H2 : AH} {hs : List AH} {chk : List AH → Prop}
def chkAdd (chk : List AH → Prop) (k : LK) (T : Tr AV) (v : AV) (lo cnt : Nat) : List AH → Prop := fun l => chk l ∧ atAll (fun h => k.f T h = some v) lo cnt l
def chkBlk (chk : List AH → Prop) (b : Nat) (o : AObj) (lo cnt : Nat) : List AH → Prop := fun l => chk l ∧ plainB o ∧ atAll (fun h => h.get b = some o) lo cnt l
def diLk (R : Rec) (K : Tr AV → AH → Prop) (r : List DI) (x : DI) (k : LK) (T : Tr AV) (H : AH) (hs : List AH) (chk : List AH → Prop) : Option AV → Prop
  | some v => DiRun R K r (putA T x.dst v) H hs (bt x.pu chk (chkAdd chk k (resT x.ts T) v x.lo x.cnt))
  | none => False
def diHv (R : Rec) (K : Tr AV → AH → Prop) (r : List DI) (x : DI) (k : HvK) (T : Tr AV) (H : AH) (hs : List AH) (chk : List AH → Prop) : Prop :=
  ∃ v H2, k.f R (resT x.ts T) H = some (v, H2) ∧ H.next ≤ H2.next ∧ DiRun R K r (putA T x.dst v) H2 (H :: hs) chk
def diFr (R : Rec) (K : Tr AV → AH → Prop) (r : List DI) (x : DI) (k : FrK) (T : Tr AV) (H : AH) (hs : List AH) (chk : List AH → Prop) : Prop :=
  ∃ v o, k.f (resT x.ts T) H.next = some (v, o) ∧ DiRun R K r (putA T x.dst v) (H.new o) hs (chkBlk chk H.next o x.lo x.cnt)
def diGo (R : Rec) (K : Tr AV → AH → Prop) (r : List DI) (x : DI) (T : Tr AV) (H : AH) (hs : List AH) (chk : List AH → Prop) : Kd → Prop
  | .look k => diLk R K r x k T H hs chk (k.f (resT x.ts T) H)
  | .heavy k => diHv R K r x k T H hs chk
  | .fresh k => diFr R K r x k T H hs chk
  | _ => False
def diW (R : Rec) (K : Tr AV → AH → Prop) (r : List DI) (x : DI) (T : Tr AV) (H : AH) (hs : List AH) (chk : List AH → Prop) : Option Bool → Prop
  | some true => diGo R K r x T H hs chk x.act
  | some false => DiRun R K r (putA T x.dst undefA) H (bt x.hv (H :: hs) hs) chk
  | none => False
@[simp] theorem diLk_some (k : LK) (v : AV) : diLk R K r x k T H hs chk (some v) = DiRun R K r (putA T x.dst v) H hs (bt x.pu chk (chkAdd chk k (resT x.ts T) v x.lo x.cnt)) := rfl
@[simp] theorem diGo_look (k : LK) : diGo R K r x T H hs chk (.look k) = diLk R K r x k T H hs chk (k.f (resT x.ts T) H) := rfl
@[simp] theorem diGo_heavy (k : HvK) : diGo R K r x T H hs chk (.heavy k) = diHv R K r x k T H hs chk := rfl
@[simp] theorem diGo_fresh (k : FrK) : diGo R K r x T H hs chk (.fresh k) = diFr R K r x k T H hs chk := rfl
@[simp] theorem diW_true : diW R K r x T H hs chk (some true) = diGo R K r x T H hs chk x.act := rfl
@[simp] theorem diW_false : diW R K r x T H hs chk (some false) = DiRun R K r (putA T x.dst undefA) H (bt x.hv (H :: hs) hs) chk := rfl
@[simp] theorem diRun_nil : DiRun R K [] T H hs chk = (chk ((H :: hs).reverse) ∧ K T H) := rfl
@[simp] theorem diRun_cons (ts : List Nat) (act : Kd) (dst : Option Nat) (g : Option (Nat × Bool)) (lo cnt : Nat) (pu hv : Bool) :
    DiRun R K (⟨ts, act, dst, g, lo, cnt, pu, hv⟩ :: r) T H hs chk = diW R K r ⟨ts, act, dst, g, lo, cnt, pu, hv⟩ T H hs chk (wantA g T) := by
  show oc (wantA g T) False _ = _
  cases wantA g T with
  | none => rfl
  | some w =>
    rw [oc_some]
    cases w with
    | false => rfl
    | true =>
      rw [bt_true]
      cases act with
      | look k =>
        show oc (k.f (resT ts T) H) False _ = diLk R K r _ k T H hs chk (k.f (resT ts T) H)
        cases k.f (resT ts T) H <;> rfl
      | heavy k => rfl
      | fresh k =>
        show oc (k.f (resT ts T) H.next) False _ = diFr R K r _ k T H hs chk
        apply propext
        unfold diFr
        show _ ↔ ∃ v o, k.f (resT ts T) H.next = some (v, o) ∧ _
        cases hk : k.f (resT ts T) H.next with
        | none => exact ⟨fun h => h.elim, fun ⟨_, _, h, _⟩ => by cases h⟩
        | some p =>
          rw [oc_some]
          constructor
          · intro h; exact ⟨p.1, p.2, rfl, h⟩
          · rintro ⟨v, o, h, h2⟩
            cases h
            exact h2
      | dfr f l => rfl
      | rcv => rfl
@[simp] theorem chkAdd_f (k : LK) (v : AV) (lo cnt : Nat) (l : List AH) : chkAdd chk k T v lo cnt l = (chk l ∧ atAll (fun h => k.f T h = some v) lo cnt l) := rfl
@[simp] theorem chkBlk_f (b : Nat) (o : AObj) (lo cnt : Nat) (l : List AH) : chkBlk chk b o lo cnt l = (chk l ∧ plainB o ∧ atAll (fun h => h.get b = some o) lo cnt l) := rfl
@[simp] theorem atAll_z (p : AH → Prop) (l : List AH) : atAll p 0 0 l = True := by cases l <;> rfl
@[simp] theorem atAll_s (p : AH → Prop) (c : Nat) (h : AH) (l : List AH) : atAll p 0 (c + 1) (h :: l) = (p h ∧ atAll p 0 c l) := rfl
@[simp] theorem atAll_d (p : AH → Prop) (lo c : Nat) (h : AH) (l : List AH) : atAll p (lo + 1) c (h :: l) = atAll p lo c l := by cases c <;> rfl
theorem diHv_in {k : HvK} {v : AV} (h : k.f R (resT x.ts T) H = some (v, H2)) (hn : H.next ≤ H2.next) (h2 : DiRun R K r (putA T x.dst v) H2 (H :: hs) chk) : diHv R K r x k T H hs chk := ⟨v, H2, h, hn, h2⟩
theorem diFr_in {k : FrK} {v : AV} {o : AObj} (h : k.f (resT x.ts T) H.next = some (v, o)) (h2 : DiRun R K r (putA T x.dst v) (H.new o) hs (chkBlk chk H.next o x.lo x.cnt)) : diFr R K r x k T H hs chk := ⟨v, o, h, h2⟩
theorem hvCallF_f {E : Env} {g : Nat} {l : LsK} {a v : AV} (hl : l.f T = some a) (he : E.ext g a H = none) (hc : R.call g a H = some (v, H2)) : hvCallF E g l R T H = some (v, H2) := by
  unfold hvCallF callFA
  rw [hl, ob_some', he, hc]; rfl
theorem diCall {E : Env} {g : Nat} {l : LsK} {a v : AV} (hl : l.f (resT x.ts T) = some a) (he : E.ext g a H = none) (hc : R.call g a H = some (v, H2)) (hn : H.next ≤ H2.next) (h2 : DiRun R K r (putA T x.dst v) H2 (H :: hs) chk) :
    diHv R K r x ⟨hvCallF E g l⟩ T H hs chk := diHv_in (hvCallF_f hl he hc) hn h2
theorem specR_ex (P : Program) (S : Nat → AV → AH → AV → AH → Prop) : ∃ R, RecOk P R ∧ ∀ g l H, DC P .normal g l H (S g l H) → ∃ v H2, R.call g l H = some (v, H2) ∧ S g l H v H2 :=
  ⟨specR P S, specR_ok P S, fun _ _ _ h => specR_call h⟩
theorem WD.drawnK {P : Program} {E : Env} {b : Frame} {n : Cx} {D : List ADf} {Q : Out → Prop} (hE : TyOk P E) (hX : ExtOk P E) (hm : P.follows .mixedOrders = true) {id : Nat} {ops : Array Oper} {ls : List DI} (hk : disOf E n.n ops.toList = some ls) {R : Rec} (hR : RecOk P R)
    (h : ∀ K : Tr AV → AH → Prop, (∀ T2 H2, Q (.nor T2 D H2) → K T2 H2) → DiRun R K ls T H [] (fun _ => True)) : WD P b n [.code (.region id ops true)] T D H Q :=
  WD.drawn hE hX hm hk hR (h _ fun _ _ q => q)
end
abbrev zM (t d lo cnt : Nat) : DI := ⟨[t], .look (lkMove (.tmp t)), some d, none, lo, cnt, true, false⟩
abbrev zF (t i d lo cnt : Nat) : DI := ⟨[t], .look ⟨fAddr (.tmp t) i⟩, some d, none, lo, cnt, true, false⟩
abbrev zL (t d lo cnt : Nat) : DI := ⟨[t], .look ⟨ldA ⟨ld1⟩ (.tmp t)⟩, some d, none, lo, cnt, false, false⟩
abbrev zI (e x i d lo cnt : Nat) : DI := ⟨[x, i], .look ⟨ixSl e (.tmp x) (.tmp i)⟩, some d, none, lo, cnt, true, false⟩
end
end Go.Xq
namespace Go.Xq
noncomputable section
section
variable {P : Program} {E : Env} {b : Frame} {n : Cx} {T T2 : Tr AV} {D D2 : List ADf} {H H2 : AH} {Q Q' : Out → Prop} {α : Type} {enc : α → List AV} {e es : Nat} {z : AV}
theorem WDO.slice1 (hE : TyOk P E) (hl : ∀ a, (enc a).length = es) {ops : Array Oper} {o : Oper} {r : List Oper} {z0 : AV} {x : Operand} {v : AV} {a : α} (hk : freshK E o.op = some ⟨frSlice 1 (zerosA z0 1) ⟨fill1 x 0 es flEnd⟩ ⟨mkCs e es z⟩⟩) (hg : o.guard = none) (hd : dstOk n.n o.dst = true)
    (hx : opnd x T = some v) (hv : cellsA v = avl (enc a)) (hz : AV.over0 (avl (enc a)) (zerosA z0 1) = avl (enc a)) (hzl : AV.len (zerosA z0 1) = es)
    (h : ∀ o1, ElB enc e es false z [a] o1 → WDO P b n ops r (putA T o.dst (.sl H.next 0 1 (some 1))) D (H.new o1) Q) : WDO P b n ops (o :: r) T D H Q := by
  obtain ⟨o1, f1, b1⟩ := frSlice_el (e := e) (z := z) (b0 := H.next) hl hx hv hz hzl
  exact WDO.fresh1 hE hk hg hd f1 (h o1 b1)
theorem WDO.box1 (hE : TyOk P E) (hl : ∀ a, (enc a).length = es) {ops : Array Oper} {o : Oper} {r : List Oper} {x : Operand} {a : α} (hk : freshK E o.op = some ⟨frBox ⟨mkCs e es z⟩ x⟩) (hg : o.guard = none) (hd : dstOk n.n o.dst = true)
    (hx : opnd x T = some (.agg (avl (enc a))))
    (h : ∀ o1, ElB enc e es false z [a] o1 → WDO P b n ops r (putA T o.dst (.ptr H.next 0)) D (H.new o1) Q) : WDO P b n ops (o :: r) T D H Q := by
  obtain ⟨o1, f1, b1⟩ := frBox_el (e := e) (z := z) (b0 := H.next) hl hx
  exact WDO.fresh1 hE hk hg hd f1 (h o1 b1)
theorem WPO.box1 (hE : TyOk P E) (hl : ∀ a, (enc a).length = es) {ops : Array Oper} {o : Oper} {r : List Oper} {x : Operand} {a : α} (hk : freshK E o.op = some ⟨frBox ⟨mkCs e es z⟩ x⟩) (hg : o.guard = none) (hd : dstOk n.n o.dst = true)
    (hx : opnd x T = some (.agg (avl (enc a))))
    (h : ∀ o1, ElB enc e es false z [a] o1 → WPO P b n ops r (putA T o.dst (.ptr H.next 0)) D (H.new o1) Q) : WPO P b n ops (o :: r) T D H Q := by
  obtain ⟨o1, f1, b1⟩ := frBox_el (e := e) (z := z) (b0 := H.next) hl hx
  exact WPO.fresh1 hE hk hg hd f1 (h o1 b1)
end
end
end Go.Xq
namespace Go.Xq
noncomputable section
section
variable {P : Program} {E : Env} {b : Frame} {n : Cx} {T T2 : Tr AV} {D D2 : List ADf} {H H2 : AH} {Q Q' : Out → Prop} {α : Type} {enc : α → List AV} {e es : Nat} {z : AV}
end
end
end Go.Xq
namespace Go.Xq
open Go.Deep
noncomputable section
def avOf (n : Nat) (v : Value) : Option AV :=
  match v with
  | .bool b => some (.bool b)
  | .int k i => some (.int k i)
  | .string s => some (sb s.data.toList)
  | .slice none 0 0 => some .snil
  | .iface t (.pointer (some a)) => if a.spot = none ∧ a.block < n then some (.ifc t (.ptr a.block a.off)) else none
  | .slice (some a) len cap => if len = 0 ∧ cap = 0 then some (.sl 0 0 0 (some 0)) else if a.spot = none ∧ a.block < n then some (.sl a.block a.off len (some cap)) else none
  | _ => none
def mI (n : Nat) : Ren := fun b => if b < n then some ⟨b, 0, 1, 1⟩ else none
theorem avOf_vr {n : Nat} {v : Value} {a : AV} (h : avOf n v = some a) : VR (mI n) a v := by
  unfold avOf at h
  split at h
  · cases h; exact .bool _
  · cases h; exact .int _ _
  · cases h; exact .str _
  · cases h; exact .snil
  · rename_i t a'
    split at h
    · rename_i e
      obtain ⟨e1, e2⟩ := e
      cases h
      obtain ⟨b, off, sp⟩ := a'
      have e1 : sp = none := e1
      subst e1
      have e2 : b < n := e2
      have := VR.ptr (m := mI n) b off ⟨b, 0, 1, 1⟩ (by unfold mI; rw [if_pos e2])
      exact .ifc _ _ _ (by simpa using this)
    · cases h
  · rename_i a' len cap
    split at h
    · rename_i e
      obtain ⟨rfl, rfl⟩ := e
      cases h
      exact .slz _ _ _
    · split at h
      · rename_i e
        obtain ⟨e1, e2⟩ := e
        cases h
        obtain ⟨b, off, sp⟩ := a'
        have e1 : sp = none := e1
        subst e1
        have e2 : b < n := e2
        have := VR.sl (m := mI n) b off len cap ⟨b, 0, 1, 1⟩ (by unfold mI; rw [if_pos e2])
        simpa using this
      · cases h
  · cases h
def roOf (n : Nat) (c : Array Value) (e : TypeId) (fr : Nat × Nat) : AObj := .ro (.cells c e fr) fun k => (c[k]?).bind (avOf n)
theorem rd_ro (n : Nat) (c : Array Value) (e : TypeId) (fr : Nat × Nat) (k : Nat) : rdCell (roOf n c e fr) k = (c[k]?).bind (avOf n) := rfl
def hI (n : Nat) (heap : Array Obj) : Nat → AH
  | 0 => { next := n, t := .e }
  | k + 1 => match heap[k]? with
    | some (.cells c e fr) => (hI n heap k).set k (roOf n c e fr)
    | _ => hI n heap k
theorem hI_next (n : Nat) (heap : Array Obj) : ∀ k, (hI n heap k).next = n
  | 0 => rfl
  | k + 1 => by
    unfold hI
    split
    · rw [AH.next_set]; exact hI_next n heap k
    · exact hI_next n heap k
theorem hI_get {n : Nat} {heap : Array Obj} : ∀ {k b : Nat} {o : AObj}, (hI n heap k).get b = some o → b < k ∧ ∃ c e fr, heap[b]? = some (.cells c e fr) ∧ o = roOf n c e fr
  | 0, b, o, h => by
    have : (hI n heap 0).get b = none := Tr.get_e _
    rw [this] at h; cases h
  | k + 1, b, o, h => by
    unfold hI at h
    split at h
    · rename_i c e fr hk
      rw [AH.get_set] at h
      split at h
      · rename_i e1
        cases h
        subst e1
        exact ⟨by omega, c, e, fr, hk, rfl⟩
      · obtain ⟨h1, h2⟩ := hI_get h
        exact ⟨by omega, h2⟩
    · obtain ⟨h1, h2⟩ := hI_get h
      exact ⟨by omega, h2⟩
theorem hI_at {n : Nat} {heap : Array Obj} {b : Nat} {c : Array Value} {e : TypeId} {fr : Nat × Nat} (h : heap[b]? = some (.cells c e fr)) : ∀ {k : Nat}, b < k → (hI n heap k).get b = some (roOf n c e fr)
  | 0, hb => absurd hb (by omega)
  | k + 1, hb => by
    unfold hI
    by_cases e1 : b = k
    · subst e1
      rw [h]
      exact get_set_same _ _ _
    · have ih := hI_at (n := n) (heap := heap) h (k := k) (by omega)
      split
      · rw [AH.get_set, if_neg e1]; exact ih
      · exact ih
def HI (w : World) : AH := hI w.heap.size w.heap w.heap.size
theorem HI_next (w : World) : (HI w).next = w.heap.size := hI_next _ _ _
theorem rel_start {w : World} (hsz : ngl ≤ w.heap.size) : Rel (mI w.heap.size) (HI w) w := by
  refine ⟨?_, ?_, ?_, ?_⟩
  · intro b o hb i hi
    obtain ⟨h1, c, e, fr, h2, rfl⟩ := hI_get hb
    unfold mI at hi
    rw [if_pos h1] at hi
    cases hi
    refine ⟨_, h2, .ro c fr e _ _ fun k v hk => ?_⟩
    simp only [Option.bind_eq_some_iff] at hk
    obtain ⟨u, hu, hv⟩ := hk
    exact ⟨u, by simpa using hu, avOf_vr hv⟩
  · intro b b' o o' i i' hb hb' hi hi' e
    obtain ⟨h1, _⟩ := hI_get hb
    obtain ⟨h2, _⟩ := hI_get hb'
    unfold mI at hi hi'
    rw [if_pos h1] at hi
    rw [if_pos h2] at hi'
    cases hi; cases hi'
    exact e
  · intro b i hi
    unfold mI at hi
    split at hi
    · rename_i h
      cases hi
      exact ⟨by rw [HI_next]; exact h, h⟩
    · cases hi
  · intro g hg
    exact ⟨⟨g, 0, 1, 1⟩, by unfold mI; rw [if_pos (by omega)], rfl, rfl⟩
theorem kept_start {w w' : World} {m2 : Ren} {H2 : AH} (hst : St (mI w.heap.size) (HI w) w m2 H2 w') (hk : ∀ b, b < w.heap.size → H2.get b = (HI w).get b) : KeptAll w w' := by
  refine kept_of hst fun b i hi hl => ?_
  cases hg : (HI w).get b with
  | none => exact absurd hg hl
  | some o =>
    obtain ⟨h1, c, e, fr, h2, rfl⟩ := hI_get hg
    unfold mI at hi
    rw [if_pos h1] at hi
    cases hi
    have hg2 : H2.get b = some (roOf w.heap.size c e fr) := by rw [hk b h1]; exact hg
    have hm : m2 b = some ⟨b, 0, 1, 1⟩ := by rw [hst.ext b (by rw [HI_next]; exact h1)]; unfold mI; rw [if_pos h1]
    obtain ⟨x, h3, h4⟩ := hst.rel.live b _ hg2 _ hm
    unfold roOf at h4
    have h3 : w'.heap[b]? = some x := h3
    cases h4
    show w'.heap[b]? = w.heap[b]?
    rw [h3, h2]
theorem cell_at {w : World} {b off q : Nat} {u : Value} (h : w.cell? ((⟨b, off, none⟩ : Addr).add q) = some u) : b < w.heap.size ∧ ∃ c e fr, w.heap[b]? = some (.cells c e fr) ∧ c[off + q]? = some u := by
  have e : (⟨b, off, none⟩ : Addr).add q = ⟨b, off + q, none⟩ := by
    unfold Addr.add
    split
    · rename_i h0; subst h0; rfl
    · rfl
  rw [e] at h
  unfold World.cell? at h
  split at h
  · rename_i c t f hh
    exact ⟨(Array.getElem?_eq_some_iff.1 hh).1, c, t, f, hh, by simpa using h⟩
  · cases h
theorem spot_of {w : World} {a : Addr} {u : Value} (h : w.cell? a = some u) : a.spot = none := by
  unfold World.cell? at h
  split at h
  · cases hs : a.spot with
    | none => rfl
    | some s => rw [hs] at h; simp at h
  · cases h
section
variable {H : Type} {enc : TypeId × Value → H} {P : Program} {w : World}
def byteOf : Value → UInt8
  | .int _ z => UInt8.ofNat z.toNat
  | _ => 0
end
end
end Go.Xq
