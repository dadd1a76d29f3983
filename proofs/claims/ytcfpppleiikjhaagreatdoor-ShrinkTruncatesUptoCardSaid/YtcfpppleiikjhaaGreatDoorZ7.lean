/- Contracts of calls and rules for code, over heaps that may hold less than the machine's. Their conditions stand in each theorem. -/
import Derived.Test.YtcfpppleiikjhaaGreatDoorZ6
import Derived.Test.YtcfpppleiikjhaaGreatDoorZ5
namespace Go.Xq
noncomputable section
theorem slC_gen {H : AH} {v : AV} {l : List UInt8} {lo : Nat} (hi : Option Nat) {n : Nat} (hn : n = oc hi l.length id) (h : RdS H v l) (hs : SlOk H v) (hl : l ≠ []) (h1 : lo ≤ n) (h2 : n ≤ l.length) :
    ∃ v', slC 1 (some lo) hi v H = some v' ∧ RdS H v' (sub l lo (n - lo)) ∧ SlOk H v' ∧ blk v' = blk v := by
  have hsl := sub_len (b := l) (at_ := lo) (w := n - lo) (by omega)
  rcases h with ⟨_, e⟩ | ⟨b, off, cap, rfl, h⟩
  · exact absurd e hl
  · obtain ⟨g1, o, g2, g3⟩ := h hl
    have key : ∀ room, n ≤ (oc cap room id) → boundsA l.length cap room (some lo) hi none = some (lo, n, cap) := fun room hr => by
      show bt (Nat.ble (oc hi l.length id) (oc cap room id)) (bt (Nat.ble lo (oc hi l.length id)) (some (lo, oc hi l.length id, cap)) none) none = _
      rw [← hn, ble_true hr, bt_true, ble_true h1, bt_true]
    cases cap with
    | some c =>
      have hc : l.length ≤ c := by
        rcases hs with e | ⟨b', off', len, c', e, hc⟩ | ⟨b', off', len, e', k, e, _⟩
        · cases e
        · cases e; exact hc
        · cases e
      refine ⟨.sl b (offOf (some c) off lo 1) (n - lo) (some (c - lo)), ?_, .sl (by rw [hsl]) fun hne => ⟨g1, o, g2, ?_⟩, .inr (.inl ⟨_, _, _, _, rfl, by omega⟩), rfl⟩
      · unfold slC
        rw [onSl_sl, oc_some, ob_some', key c (by show n ≤ c; omega), ob_some']
        rfl
      · have hlt : lo < n := by
          have := List.length_pos_iff.2 hne
          omega
        have : offOf (some c) off lo 1 = off + lo := by
          show bt (Nat.beq c lo) off (off + lo * 1) = _
          have : Nat.beq c lo = false := by
            cases e : Nat.beq c lo with
            | false => rfl
            | true => have := Nat.eq_of_beq_eq_true e; omega
          rw [this, bt_false, Nat.mul_one]
        rw [this]
        exact bytes_sub g3
    | none =>
      obtain ⟨e, k, hg⟩ : ∃ e k, H.get b = some (bb e true k) := by
        rcases hs with e | ⟨b', off', len, c', e, hc⟩ | ⟨b', off', len, e', k, e, hg⟩
        · cases e
        · cases e
        · cases e; exact ⟨_, _, hg⟩
      refine ⟨.sl b (offOf none off lo 1) (n - lo) none, ?_, .sl (by rw [hsl]) fun _ => ⟨g1, o, g2, ?_⟩, .inr (.inr ⟨_, _, _, e, k, rfl, hg⟩), rfl⟩
      · unfold slC
        rw [onSl_sl]
        have hroom : roomOf H b off l.length 1 = some (max l.length (k.length - off)) := by
          unfold roomOf
          rw [hg, ob_some']
          rfl
        show ob (roomOf H b off l.length 1) _ = _
        rw [hroom, ob_some', key _ (by show n ≤ max l.length (k.length - off); omega), ob_some']
        rfl
      · have : offOf none off lo 1 = off + lo := by show off + lo * 1 = _; rw [Nat.mul_one]
        rw [this]
        exact bytes_sub g3
theorem slA_gen {H : AH} {v : AV} {l : List UInt8} {n : Nat} (h : RdS H v l) (hs : SlOk H v) (hl : l ≠ []) (h2 : n ≤ l.length) : ∃ v', slA 1 n v H = some v' ∧ RdS H v' (l.take n) ∧ SlOk H v' ∧ blk v' = blk v := by
  have hsl : (l.take n).length = n := by simp; omega
  rcases h with ⟨_, e⟩ | ⟨b, off, cap, rfl, h⟩
  · exact absurd e hl
  · obtain ⟨g1, o, g2, g3⟩ := h hl
    have hby : BytesAt o off (l.take n) := by
      have := bytes_sub (lo := 0) (n := n) g3
      simpa [sub] using this
    have key : ∀ room, n ≤ (oc cap room id) → boundsA l.length cap room none (some n) none = some (0, n, cap) := fun room hr => by
      show bt (Nat.ble n (oc cap room id)) (bt (Nat.ble 0 n) (some (0, n, cap)) none) none = _
      rw [ble_true hr, bt_true, ble_true (by omega), bt_true]
    cases cap with
    | some c =>
      have hc : l.length ≤ c := by
        rcases hs with e | ⟨b', off', len, c', e, hc⟩ | ⟨b', off', len, e', k, e, _⟩
        · cases e
        · cases e; exact hc
        · cases e
      refine ⟨.sl b off n (some c), ?_, .sl (by rw [hsl]) fun hne => ⟨g1, o, g2, hby⟩, .inr (.inl ⟨_, _, _, _, rfl, by omega⟩), rfl⟩
      unfold slA
      rw [onSl_sl, oc_some, ob_some', key c (by show n ≤ c; omega), ob_some']
      have e0 : offOf (some c) off 0 1 = off := by
        show bt (Nat.beq c 0) off (off + 0 * 1) = _
        cases Nat.beq c 0 <;> simp [bt_true, bt_false]
      show some (AV.sl b (offOf (some c) off 0 1) (n - 0) (some (c - 0))) = _
      rw [e0]
      rfl
    | none =>
      obtain ⟨e, k, hg⟩ : ∃ e k, H.get b = some (bb e true k) := by
        rcases hs with e | ⟨b', off', len, c', e, hc⟩ | ⟨b', off', len, e', k, e, hg⟩
        · cases e
        · cases e
        · cases e; exact ⟨_, _, hg⟩
      refine ⟨.sl b off n none, ?_, .sl (by rw [hsl]) fun _ => ⟨g1, o, g2, hby⟩, .inr (.inr ⟨_, _, _, e, k, rfl, hg⟩), rfl⟩
      unfold slA
      rw [onSl_sl]
      have hroom : roomOf H b off l.length 1 = some (max l.length (k.length - off)) := by
        unfold roomOf
        rw [hg, ob_some']
        rfl
      show ob (roomOf H b off l.length 1) _ = _
      rw [hroom, ob_some', key _ (by show n ≤ max l.length (k.length - off); omega), ob_some']
      have e0 : offOf none off 0 1 = off := by show off + 0 * 1 = _; omega
      show some (AV.sl b (offOf none off 0 1) (n - 0) none) = _
      rw [e0]
      rfl
structure OldS (H0 : AH) (v : AV) (l : List UInt8) : Prop where
  rd : RdS H0 v l
  cut : SlOk H0 v
  low : ∀ b, blk v = some b → b < H0.next
theorem OldS.at {H0 H : AH} {v : AV} {l : List UInt8} (h : OldS H0 v l) (hk : Keep noB H0 H) : RdS H v l := h.rd.keep hk fun _ _ => id
theorem OldS.cutAt {H0 H : AH} {v : AV} {l : List UInt8} (h : OldS H0 v l) (hk : Keep noB H0 H) (hl : l ≠ []) : SlOk H v := h.cut.keep h.rd hl hk fun _ _ => id
end
end Go.Xq
namespace Go.Xq
noncomputable section
def slD (es lo hi mx : Nat) (v : AV) (H : AH) : Option AV := onSl v (ob (boundsA 0 (some 0) 0 (some lo) (some hi) (some mx)) fun _ => some .snil) fun b off len cap =>
    ob (oc cap (roomOf H b off len es) some) fun room => ob (boundsA len cap room (some lo) (some hi) (some mx)) fun r =>
    some (.sl b (offOf r.2.2 off r.1 es) (Nat.sub r.2.1 r.1) (capLess r.2.2 r.1))
@[simp] theorem slSl_lhm_f (es : Nat) (x h g m : Operand) (T : Tr AV) (H : AH) : slSl es x (some h) (some g) (some m) T H = ob (opnd h T) fun hv => ob (natOf hv) fun n => ob (opnd g T) fun gv => ob (natOf gv) fun k => ob (opnd m T) fun mv => ob (natOf mv) fun j => ob (opnd x T) fun v => slD es n k j v H := by
  unfold slSl
  simp only [optNat]
  cases opnd h T with
  | none => rfl
  | some hv =>
    simp only [ob_some']
    cases hn : natOf hv with
    | none => rfl
    | some n =>
      simp only [ob_some']
      cases opnd g T with
      | none => rfl
      | some gv =>
        simp only [ob_some']
        cases hm : natOf gv with
        | none => rfl
        | some k =>
          simp only [ob_some']
          cases opnd m T with
          | none => rfl
          | some mv =>
            simp only [ob_some']
            cases hj : natOf mv with
            | none => rfl
            | some j => rfl
@[simp] theorem mmK_f (gt : Bool) (x : Operand) (r : List Operand) (T : Tr AV) (H : AH) : mmK gt x r T H = ob (opnd x T) fun v => ob ((opnds r).f T) fun l => mmA gt l v := rfl
def encN (n : Int) : List AV := [.int .i64 n]
def zN : AV := .cons (.int .i64 0) .nil
abbrev NBox (H : AH) (b : Nat) (n : Int) : Prop := Bx encN 3 1 zN H b n
end
end Go.Xq
namespace Go.Xq
noncomputable section
def pageN (b : List UInt8) : Nat := readL (sub b 8 4)
def manyN (b : List UInt8) : Nat := readL (sub b 28 4)
def atN (b : List UInt8) (i : Nat) : Nat := 32 + pageN b + i * (4 + pageN b)
def pageAt (b : List UInt8) (i : Nat) : Int × List UInt8 := (((readL (sub b (atN b i) 4) : Nat) : Int), sub b (atN b i + 4) (pageN b))
def pagesOf (b : List UInt8) (k : Nat) : List (Int × List UInt8) := (List.range k).map (pageAt b)
def fldsD (b : List UInt8) : Dl := ⟨((b[4]?.getD 0).toNat : Int), (pageN b : Int), i64 (readL (sub b 12 8)), i64 (readL (sub b 20 8)), pagesOf b (manyN b), sub b 32 (pageN b)⟩
def shapeD (b : List UInt8) : Prop := 36 ≤ b.length ∧ isPgI (pageN b : Int) = true ∧ b.length = 36 + pageN b + manyN b * (4 + pageN b)
def saysD (b : List UInt8) : Prop := shapeD b ∧ okD (fldsD b) ∧ encD (fldsD b) = b
def frontD (l : List UInt8) : List UInt8 := [69, 83, 80, 68, l[4]?.getD 0, 0, 0, 0]
end
end Go.Xq
namespace Go.Xq
noncomputable section
structure BackD (d : Dl) : Prop where
  shape : shapeD (encD d)
  flds : fldsD (encD d) = d
def xorL (l : List UInt8) (p : Nat) (t : List UInt8) : List UInt8 := l.mapIdx fun k x => if p ≤ k then x ^^^ (t[k - p]?.getD 0) else x
end
end Go.Xq
namespace Go.Xq
noncomputable section
section
variable {P : Program} {b : Frame} {n : Cx} {D : List ADf} {H : AH} {Q : Out → Prop}
theorem WPO.keep {ops : Array Oper} {r : List Oper} {l k : List (Nat × AV)} (h : WPO P b n ops r (tl l) D H Q) (hs : lsub l k) : WPO P b n ops r (tl k) D H Q := fun i hi => WP.keep (h i hi) hs
theorem WDO.keep {ops : Array Oper} {r : List Oper} {l k : List (Nat × AV)} (h : WDO P b n ops r (tl l) D H Q) (hs : lsub l k) : WDO P b n ops r (tl k) D H Q := by
  obtain ⟨o, h1, h2⟩ := h
  exact ⟨o, h1, WPO.keep h2 hs⟩
end
theorem WP.drawnK {P : Program} {E : Env} {b : Frame} {n : Cx} {T : Tr AV} {D : List ADf} {H : AH} {Q : Out → Prop} (hE : TyOk P E) (hX : ExtOk P E) (hm : P.follows .mixedOrders = true) {id : Nat} {ops : Array Oper} {ls : List DI} (hk : disOf E n.n ops.toList = some ls) {R : Rec} (hR : RecOk P R)
    (h : ∀ K : Tr AV → AH → Prop, (∀ T2 H2, Q (.nor T2 D H2) → K T2 H2) → DiRun R K ls T H [] (fun _ => True)) : WP P b n [.code (.region id ops true)] T D H Q :=
  (WD.drawnK hE hX hm hk hR h).wp
end
end Go.Xq
namespace Go.Xq
noncomputable section
section
variable {P : Program} {b : Frame} {n : Cx} {H : AH} {Q : Out → Prop}
end
end
end Go.Xq
