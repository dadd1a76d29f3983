/- Contracts of calls and rules for code. Conditions: in each theorem. -/
import Derived.Test.YtfgipbjaapkdlaaGreatDoorZ6
namespace Go.Xq
noncomputable section
theorem slC_gen {H : AH} {v : AV} {l : List UInt8} {lo : Nat} (hi : Option Nat) {n : Nat} (hn : n = oc hi l.length id) (h : RdS H v l) (hs : SlOk H v) (hl : l ≠ []) (h1 : lo ≤ n) (h2 : n ≤ l.length) :
    ∃ v', slC 1 (some lo) hi v H = some v' ∧ RdS H v' (sub l lo (n - lo)) ∧ SlOk H v' ∧ blk v' = blk v := by
  have hsl := sub_len (b := l) (at_ := lo) (w := n - lo) (by omega)
  rcases h with ⟨_, e⟩ | ⟨b, off, cap, rfl, h⟩
  · exact absurd e hl
  · obtain ⟨g1, o, g2, g3⟩ := h hl
    have key : ∀ room, n ≤ (oc cap room id) → boundsA l.length cap room (some lo) hi none = some (lo, n, cap) := fun room hr => by
      show bt (Nat.ble (oc hi l.length id) (oc cap room id)) (bt (Nat.ble lo (oc hi l.length id)) (some (lo, oc hi l.length id, cap)) none) none = _
      rw [← hn, ble_true hr, bt_true, ble_true h1, bt_true]
    cases cap with
    | some c =>
      have hc : l.length ≤ c := by
        rcases hs with e | ⟨b', off', len, c', e, hc⟩ | ⟨b', off', len, e', k, e, _⟩
        · cases e
        · cases e; exact hc
        · cases e
      refine ⟨.sl b (offOf (some c) off lo 1) (n - lo) (some (c - lo)), ?_, .sl (by rw [hsl]) fun hne => ⟨g1, o, g2, ?_⟩, .inr (.inl ⟨_, _, _, _, rfl, by omega⟩), rfl⟩
      · unfold slC
        rw [onSl_sl, oc_some, ob_some', key c (by show n ≤ c; omega), ob_some']
        rfl
      · have hlt : lo < n := by
          have := List.length_pos_iff.2 hne
          omega
        have : offOf (some c) off lo 1 = off + lo := by
          show bt (Nat.beq c lo) off (off + lo * 1) = _
          have : Nat.beq c lo = false := by
            cases e : Nat.beq c lo with
            | false => rfl
            | true => have := Nat.eq_of_beq_eq_true e; omega
          rw [this, bt_false, Nat.mul_one]
        rw [this]
        exact bytes_sub g3
    | none =>
      obtain ⟨e, k, hg⟩ : ∃ e k, H.get b = some (bb e true k) := by
        rcases hs with e | ⟨b', off', len, c', e, hc⟩ | ⟨b', off', len, e', k, e, hg⟩
        · cases e
        · cases e
        · cases e; exact ⟨_, _, hg⟩
      refine ⟨.sl b (offOf none off lo 1) (n - lo) none, ?_, .sl (by rw [hsl]) fun _ => ⟨g1, o, g2, ?_⟩, .inr (.inr ⟨_, _, _, e, k, rfl, hg⟩), rfl⟩
      · unfold slC
        rw [onSl_sl]
        have hroom : roomOf H b off l.length 1 = some (max l.length (k.length - off)) := by
          unfold roomOf
          rw [hg, ob_some']
          rfl
        show ob (roomOf H b off l.length 1) _ = _
        rw [hroom, ob_some', key _ (by show n ≤ max l.length (k.length - off); omega), ob_some']
        rfl
      · have : offOf none off lo 1 = off + lo := by show off + lo * 1 = _; rw [Nat.mul_one]
        rw [this]
        exact bytes_sub g3
structure OldS (H0 : AH) (v : AV) (l : List UInt8) : Prop where
  rd : RdS H0 v l
  cut : SlOk H0 v
  low : ∀ b, blk v = some b → b < H0.next
end
end Go.Xq
namespace Go.Xq
noncomputable section
def slD (es lo hi mx : Nat) (v : AV) (H : AH) : Option AV := onSl v (ob (boundsA 0 (some 0) 0 (some lo) (some hi) (some mx)) fun _ => some .snil) fun b off len cap =>
    ob (oc cap (roomOf H b off len es) some) fun room => ob (boundsA len cap room (some lo) (some hi) (some mx)) fun r =>
    some (.sl b (offOf r.2.2 off r.1 es) (Nat.sub r.2.1 r.1) (capLess r.2.2 r.1))
@[simp] theorem slSl_lhm_f (es : Nat) (x h g m : Operand) (T : Tr AV) (H : AH) : slSl es x (some h) (some g) (some m) T H = ob (opnd h T) fun hv => ob (natOf hv) fun n => ob (opnd g T) fun gv => ob (natOf gv) fun k => ob (opnd m T) fun mv => ob (natOf mv) fun j => ob (opnd x T) fun v => slD es n k j v H := by
  unfold slSl
  simp only [optNat]
  cases opnd h T with
  | none => rfl
  | some hv =>
    simp only [ob_some']
    cases hn : natOf hv with
    | none => rfl
    | some n =>
      simp only [ob_some']
      cases opnd g T with
      | none => rfl
      | some gv =>
        simp only [ob_some']
        cases hm : natOf gv with
        | none => rfl
        | some k =>
          simp only [ob_some']
          cases opnd m T with
          | none => rfl
          | some mv =>
            simp only [ob_some']
            cases hj : natOf mv with
            | none => rfl
            | some j => rfl
@[simp] theorem mmK_f (gt : Bool) (x : Operand) (r : List Operand) (T : Tr AV) (H : AH) : mmK gt x r T H = ob (opnd x T) fun v => ob ((opnds r).f T) fun l => mmA gt l v := rfl
theorem slD_gen {H : AH} {v : AV} {l : List UInt8} {lo hi : Nat} (h : RdS H v l) (hs : SlOk H v) (hl : l ≠ []) (h1 : lo ≤ hi) (h2 : hi ≤ l.length) :
    ∃ v', slD 1 lo hi hi v H = some v' ∧ RdS H v' (sub l lo (hi - lo)) ∧ SlOk H v' ∧ blk v' = blk v := by
  have hsl := sub_len (b := l) (at_ := lo) (w := hi - lo) (by omega)
  rcases h with ⟨_, e⟩ | ⟨b, off, cap, rfl, h⟩
  · exact absurd e hl
  · obtain ⟨g1, o, g2, g3⟩ := h hl
    have key : ∀ room, hi ≤ room → boundsA l.length cap room (some lo) (some hi) (some hi) = some (lo, hi, some hi) := fun room hr => by
      show ob (bt (Nat.ble hi room) (some (some hi)) none) (fun m => bt (Nat.ble hi (oc m room id)) (bt (Nat.ble lo hi) (some (lo, hi, m)) none) none) = _
      rw [ble_true hr, bt_true, ob_some']
      show bt (Nat.ble hi hi) (bt (Nat.ble lo hi) (some (lo, hi, some hi)) none) none = _
      rw [ble_true (Nat.le_refl _), bt_true, ble_true h1, bt_true]
    have hoff : lo < hi → offOf (some hi) off lo 1 = off + lo := fun hlt => by
      show bt (Nat.beq hi lo) off (off + lo * 1) = _
      have : Nat.beq hi lo = false := by
        cases e : Nat.beq hi lo with
        | false => rfl
        | true => have := Nat.eq_of_beq_eq_true e; omega
      rw [this, bt_false, Nat.mul_one]
    have hroom : ∃ room, oc cap (roomOf H b off l.length 1) some = some room ∧ hi ≤ room := by
      cases cap with
      | some c =>
        refine ⟨c, rfl, ?_⟩
        rcases hs with e | ⟨b', off', len, c', e, hc⟩ | ⟨b', off', len, e', k, e, _⟩
        · cases e
        · cases e; omega
        · cases e
      | none =>
        obtain ⟨e, k, hg⟩ : ∃ e k, H.get b = some (bb e true k) := by
          rcases hs with e | ⟨b', off', len, c', e, hc⟩ | ⟨b', off', len, e', k, e, hg⟩
          · cases e
          · cases e
          · cases e; exact ⟨_, _, hg⟩
        refine ⟨max l.length (k.length - off), ?_, by omega⟩
        show roomOf H b off l.length 1 = _
        unfold roomOf
        rw [hg, ob_some']
        rfl
    obtain ⟨room, hr1, hr2⟩ := hroom
    refine ⟨.sl b (offOf (some hi) off lo 1) (hi - lo) (some (hi - lo)), ?_, .sl (by rw [hsl]) fun hne => ⟨g1, o, g2, ?_⟩, .inr (.inl ⟨_, _, _, _, rfl, Nat.le_refl _⟩), rfl⟩
    · unfold slD
      rw [onSl_sl, hr1, ob_some', key room hr2, ob_some']
      rfl
    · have hlt : lo < hi := by
        have := List.length_pos_iff.2 hne
        omega
      rw [hoff hlt]
      exact bytes_sub g3
def encN (n : Int) : List AV := [.int .i64 n]
def zN : AV := .cons (.int .i64 0) .nil
abbrev NBox (H : AH) (b : Nat) (n : Int) : Prop := Bx encN 3 1 zN H b n
end
end Go.Xq
namespace Go.Xq
noncomputable section
def pageN (b : List UInt8) : Nat := readL (sub b 8 4)
def manyN (b : List UInt8) : Nat := readL (sub b 28 4)
def atN (b : List UInt8) (i : Nat) : Nat := 32 + pageN b + i * (4 + pageN b)
def pageAt (b : List UInt8) (i : Nat) : Int × List UInt8 := (((readL (sub b (atN b i) 4) : Nat) : Int), sub b (atN b i + 4) (pageN b))
def pagesOf (b : List UInt8) (k : Nat) : List (Int × List UInt8) := (List.range k).map (pageAt b)
def fldsD (b : List UInt8) : Dl := ⟨((b[4]?.getD 0).toNat : Int), (pageN b : Int), i64 (readL (sub b 12 8)), i64 (readL (sub b 20 8)), pagesOf b (manyN b), sub b 32 (pageN b)⟩
def shapeD (b : List UInt8) : Prop := 36 ≤ b.length ∧ isPgI (pageN b : Int) = true ∧ b.length = 36 + pageN b + manyN b * (4 + pageN b)
def saysD (b : List UInt8) : Prop := shapeD b ∧ okD (fldsD b) ∧ encD (fldsD b) = b
theorem fixedL_snoc (n : Nat) (x : UInt8) (w : Nat) : fixedL (256 * n + x.toNat) (w + 1) = fixedL n w ++ [x] := by
  have hx := x.toNat_lt
  apply List.ext_getElem?
  intro i
  rcases Nat.lt_or_ge i w with hi | hi
  · rw [fixedL_get _ _ (by omega), List.getElem?_append_left (by rw [fixedL_len]; exact hi), fixedL_get _ _ hi]
    have e : w + 1 - 1 - i = (w - 1 - i) + 1 := by omega
    rw [e, Nat.pow_succ, Nat.mul_comm (256 ^ _) 256, ← Nat.div_div_eq_div_mul]
    have e2 : (256 * n + x.toNat) / 256 = n := by omega
    rw [e2]
  · rw [List.getElem?_append_right (by rw [fixedL_len]; exact hi), fixedL_len]
    rcases Nat.lt_or_ge i (w + 1) with h2 | h2
    · have e : i = w := by omega
      subst e
      rw [fixedL_get _ _ (by omega), Nat.sub_self]
      have e : i + 1 - 1 - i = 0 := by omega
      rw [e, Nat.pow_zero, Nat.div_one]
      simp only [List.getElem?_cons_zero, Option.some.injEq]
      apply UInt8.toNat_inj.1
      rw [UInt8.toNat_ofNat']
      omega
    · rw [List.getElem?_eq_none (by rw [fixedL_len]; exact h2), List.getElem?_eq_none (by simp; omega)]
theorem readL_fixedL : ∀ (w n : Nat), n < 256 ^ w → readL (fixedL n w) = n
  | 0, n, h => by
    have : n = 0 := by simpa using h
    subst this
    rfl
  | w + 1, n, h => by
    have e : n = 256 * (n / 256) + (UInt8.ofNat (n % 256)).toNat := by
      rw [UInt8.toNat_ofNat']
      omega
    have h2 : n / 256 < 256 ^ w := by
      rw [Nat.pow_succ] at h
      exact Nat.div_lt_of_lt_mul (by rw [Nat.mul_comm]; exact h)
    rw [e, fixedL_snoc, readL_snoc, readL_fixedL w _ h2]
def frontD (l : List UInt8) : List UInt8 := [69, 83, 80, 68, l[4]?.getD 0, 0, 0, 0]
end
end Go.Xq
namespace Go.Xq
noncomputable section
structure BackD (d : Dl) : Prop where
  shape : shapeD (encD d)
  flds : fldsD (encD d) = d
def xorL (l : List UInt8) (p : Nat) (t : List UInt8) : List UInt8 := l.mapIdx fun k x => if p ≤ k then x ^^^ (t[k - p]?.getD 0) else x
theorem xor_zero8 (x : UInt8) : x ^^^ 0 = x := by simp
end
end Go.Xq
namespace Go.Xq
noncomputable section
section
variable {P : Program} {b : Frame} {n : Cx} {D : List ADf} {H : AH} {Q : Out → Prop}
theorem WPO.keep {ops : Array Oper} {r : List Oper} {l k : List (Nat × AV)} (h : WPO P b n ops r (tl l) D H Q) (hs : lsub l k) : WPO P b n ops r (tl k) D H Q := fun i hi => WP.keep (h i hi) hs
theorem WDO.keep {ops : Array Oper} {r : List Oper} {l k : List (Nat × AV)} (h : WDO P b n ops r (tl l) D H Q) (hs : lsub l k) : WDO P b n ops r (tl k) D H Q := by
  obtain ⟨o, h1, h2⟩ := h
  exact ⟨o, h1, WPO.keep h2 hs⟩
end
end
end Go.Xq
namespace Go.Xq
noncomputable section
theorem toU_u8 (x : UInt8) : toU .u8 (x.toNat : Int) = x.toNat := Nat.mod_eq_of_lt x.toNat_lt
theorem akXor_u8 (x y : UInt8) : akXor.f .u8 (x.toNat : Int) (y.toNat : Int) = some (.int .u8 ((x ^^^ y).toNat : Int)) := by
  show mkInt .u8 (Int.ofNat (Nat.xor (toU .u8 x.toNat) (toU .u8 y.toNat))) = _
  rw [toU_u8, toU_u8, mkInt_u8]
  have h : (x ^^^ y).toNat = Nat.xor x.toNat y.toNat := UInt8.toNat_xor x y
  have h2 := (x ^^^ y).toNat_lt
  rw [h] at h2 ⊢
  congr 2
  show ((Nat.xor x.toNat y.toNat : Nat) : Int) % 256 = _
  omega
theorem u8_zero (x : UInt8) : (x.toNat : Int) = 0 ↔ x = 0 := by
  constructor
  · intro h
    apply UInt8.toNat_inj.1
    show x.toNat = 0
    omega
  · rintro rfl; rfl
section
variable {P : Program} {b : Frame} {n : Cx} {H : AH} {Q : Out → Prop}
end
end
end Go.Xq
