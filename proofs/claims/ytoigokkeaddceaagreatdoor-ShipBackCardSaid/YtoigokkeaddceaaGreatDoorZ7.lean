/- Contracts of calls and rules for code, over heaps that may hold less than the machine's. Their conditions stand in each theorem. -/
import Derived.Test.YtoigokkeaddceaaGreatDoorZ6
import Derived.Test.YtoigokkeaddceaaGreatDoorZ5
namespace Go.Xq
noncomputable section
theorem slC_gen {H : AH} {v : AV} {l : List UInt8} {lo : Nat} (hi : Option Nat) {n : Nat} (hn : n = oc hi l.length id) (h : RdS H v l) (hs : SlOk H v) (hl : l ≠ []) (h1 : lo ≤ n) (h2 : n ≤ l.length) :
    ∃ v', slC 1 (some lo) hi v H = some v' ∧ RdS H v' (sub l lo (n - lo)) ∧ SlOk H v' ∧ blk v' = blk v := by
  have hsl := sub_len (b := l) (at_ := lo) (w := n - lo) (by omega)
  rcases h with ⟨_, e⟩ | ⟨b, off, cap, rfl, h⟩
  · exact absurd e hl
  · obtain ⟨g1, o, g2, g3⟩ := h hl
    have key : ∀ room, n ≤ (oc cap room id) → boundsA l.length cap room (some lo) hi none = some (lo, n, cap) := fun room hr => by
      show bt (Nat.ble (oc hi l.length id) (oc cap room id)) (bt (Nat.ble lo (oc hi l.length id)) (some (lo, oc hi l.length id, cap)) none) none = _
      rw [← hn, ble_true hr, bt_true, ble_true h1, bt_true]
    cases cap with
    | some c =>
      have hc : l.length ≤ c := by
        rcases hs with e | ⟨b', off', len, c', e, hc⟩ | ⟨b', off', len, e', k, e, _⟩
        · cases e
        · cases e; exact hc
        · cases e
      refine ⟨.sl b (offOf (some c) off lo 1) (n - lo) (some (c - lo)), ?_, .sl (by rw [hsl]) fun hne => ⟨g1, o, g2, ?_⟩, .inr (.inl ⟨_, _, _, _, rfl, by omega⟩), rfl⟩
      · unfold slC
        rw [onSl_sl, oc_some, ob_some', key c (by show n ≤ c; omega), ob_some']
        rfl
      · have hlt : lo < n := by
          have := List.length_pos_iff.2 hne
          omega
        have : offOf (some c) off lo 1 = off + lo := by
          show bt (Nat.beq c lo) off (off + lo * 1) = _
          have : Nat.beq c lo = false := by
            cases e : Nat.beq c lo with
            | false => rfl
            | true => have := Nat.eq_of_beq_eq_true e; omega
          rw [this, bt_false, Nat.mul_one]
        rw [this]
        exact bytes_sub g3
    | none =>
      obtain ⟨e, k, hg⟩ : ∃ e k, H.get b = some (bb e true k) := by
        rcases hs with e | ⟨b', off', len, c', e, hc⟩ | ⟨b', off', len, e', k, e, hg⟩
        · cases e
        · cases e
        · cases e; exact ⟨_, _, hg⟩
      refine ⟨.sl b (offOf none off lo 1) (n - lo) none, ?_, .sl (by rw [hsl]) fun _ => ⟨g1, o, g2, ?_⟩, .inr (.inr ⟨_, _, _, e, k, rfl, hg⟩), rfl⟩
      · unfold slC
        rw [onSl_sl]
        have hroom : roomOf H b off l.length 1 = some (max l.length (k.length - off)) := by
          unfold roomOf
          rw [hg, ob_some']
          rfl
        show ob (roomOf H b off l.length 1) _ = _
        rw [hroom, ob_some', key _ (by show n ≤ max l.length (k.length - off); omega), ob_some']
        rfl
      · have : offOf none off lo 1 = off + lo := by show off + lo * 1 = _; rw [Nat.mul_one]
        rw [this]
        exact bytes_sub g3
theorem slA_gen {H : AH} {v : AV} {l : List UInt8} {n : Nat} (h : RdS H v l) (hs : SlOk H v) (hl : l ≠ []) (h2 : n ≤ l.length) : ∃ v', slA 1 n v H = some v' ∧ RdS H v' (l.take n) ∧ SlOk H v' ∧ blk v' = blk v := by
  have hsl : (l.take n).length = n := by simp; omega
  rcases h with ⟨_, e⟩ | ⟨b, off, cap, rfl, h⟩
  · exact absurd e hl
  · obtain ⟨g1, o, g2, g3⟩ := h hl
    have hby : BytesAt o off (l.take n) := by
      have := bytes_sub (lo := 0) (n := n) g3
      simpa [sub] using this
    have key : ∀ room, n ≤ (oc cap room id) → boundsA l.length cap room none (some n) none = some (0, n, cap) := fun room hr => by
      show bt (Nat.ble n (oc cap room id)) (bt (Nat.ble 0 n) (some (0, n, cap)) none) none = _
      rw [ble_true hr, bt_true, ble_true (by omega), bt_true]
    cases cap with
    | some c =>
      have hc : l.length ≤ c := by
        rcases hs with e | ⟨b', off', len, c', e, hc⟩ | ⟨b', off', len, e', k, e, _⟩
        · cases e
        · cases e; exact hc
        · cases e
      refine ⟨.sl b off n (some c), ?_, .sl (by rw [hsl]) fun hne => ⟨g1, o, g2, hby⟩, .inr (.inl ⟨_, _, _, _, rfl, by omega⟩), rfl⟩
      unfold slA
      rw [onSl_sl, oc_some, ob_some', key c (by show n ≤ c; omega), ob_some']
      have e0 : offOf (some c) off 0 1 = off := by
        show bt (Nat.beq c 0) off (off + 0 * 1) = _
        cases Nat.beq c 0 <;> simp [bt_true, bt_false]
      show some (AV.sl b (offOf (some c) off 0 1) (n - 0) (some (c - 0))) = _
      rw [e0]
      rfl
    | none =>
      obtain ⟨e, k, hg⟩ : ∃ e k, H.get b = some (bb e true k) := by
        rcases hs with e | ⟨b', off', len, c', e, hc⟩ | ⟨b', off', len, e', k, e, hg⟩
        · cases e
        · cases e
        · cases e; exact ⟨_, _, hg⟩
      refine ⟨.sl b off n none, ?_, .sl (by rw [hsl]) fun _ => ⟨g1, o, g2, hby⟩, .inr (.inr ⟨_, _, _, e, k, rfl, hg⟩), rfl⟩
      unfold slA
      rw [onSl_sl]
      have hroom : roomOf H b off l.length 1 = some (max l.length (k.length - off)) := by
        unfold roomOf
        rw [hg, ob_some']
        rfl
      show ob (roomOf H b off l.length 1) _ = _
      rw [hroom, ob_some', key _ (by show n ≤ max l.length (k.length - off); omega), ob_some']
      have e0 : offOf none off 0 1 = off := by show off + 0 * 1 = _; omega
      show some (AV.sl b (offOf none off 0 1) (n - 0) none) = _
      rw [e0]
      rfl
structure OldS (H0 : AH) (v : AV) (l : List UInt8) : Prop where
  rd : RdS H0 v l
  cut : SlOk H0 v
  low : ∀ b, blk v = some b → b < H0.next
theorem OldS.at {H0 H : AH} {v : AV} {l : List UInt8} (h : OldS H0 v l) (hk : Keep noB H0 H) : RdS H v l := h.rd.keep hk fun _ _ => id
theorem OldS.cutAt {H0 H : AH} {v : AV} {l : List UInt8} (h : OldS H0 v l) (hk : Keep noB H0 H) (hl : l ≠ []) : SlOk H v := h.cut.keep h.rd hl hk fun _ _ => id
theorem slOk_back {H0 H : AH} {v : AV} (hk : Keep noB H0 H) (h : SlOk H v) (hb : ∀ b, blk v = some b → b < H0.next) : SlOk H0 v := by
  rcases h with h | h | ⟨b, off, len, e, k, rfl, hg⟩
  · exact .inl h
  · exact .inr (.inl h)
  · exact .inr (.inr ⟨b, off, len, e, k, rfl, by rw [← hk.2 b (hb b rfl) id]; exact hg⟩)
theorem rdS_back {H0 H : AH} {v : AV} {l : List UInt8} (hk : Keep noB H0 H) (h : RdS H v l) (hb : ∀ b, blk v = some b → b < H0.next) : RdS H0 v l := by
  rcases h with h | ⟨b, off, cap, rfl, h⟩
  · exact .inl h
  · refine .inr ⟨b, off, cap, rfl, fun hl => ?_⟩
    obtain ⟨h1, o, h2, h3⟩ := h hl
    exact ⟨hb b rfl, o, by rw [← hk.2 b (hb b rfl) id]; exact h2, h3⟩
theorem OldS.sl {H0 H : AH} {v : AV} {l : List UInt8} {lo : Nat} (hi : Option Nat) {n : Nat} (hn : n = oc hi l.length id) (h : OldS H0 v l) (hk : Keep noB H0 H) (hl : l ≠ []) (h1 : lo ≤ n) (h2 : n ≤ l.length) : ∃ v', slC 1 (some lo) hi v H = some v' ∧ OldS H0 v' (sub l lo (n - lo)) ∧ blk v' = blk v := by
  obtain ⟨v', a1, a2, a3, a4⟩ := slC_gen hi hn (h.at hk) (h.cutAt hk hl) hl h1 h2
  have hb : ∀ b, blk v' = some b → b < H0.next := fun b e => h.low b (by rw [← a4]; exact e)
  exact ⟨v', a1, ⟨rdS_back hk a2 hb, slOk_back hk a3 hb, hb⟩, a4⟩
theorem OldS.upto {H0 H : AH} {v : AV} {l : List UInt8} {n : Nat} (h : OldS H0 v l) (hk : Keep noB H0 H) (hl : l ≠ []) (h2 : n ≤ l.length) : ∃ v', slA 1 n v H = some v' ∧ OldS H0 v' (l.take n) ∧ blk v' = blk v := by
  obtain ⟨v', a1, a2, a3, a4⟩ := slA_gen (h.at hk) (h.cutAt hk hl) hl h2
  have hb : ∀ b, blk v' = some b → b < H0.next := fun b e => h.low b (by rw [← a4]; exact e)
  exact ⟨v', a1, ⟨rdS_back hk a2 hb, slOk_back hk a3 hb, hb⟩, a4⟩
end
end Go.Xq
namespace Go.Xq
noncomputable section
def slD (es lo hi mx : Nat) (v : AV) (H : AH) : Option AV := onSl v (ob (boundsA 0 (some 0) 0 (some lo) (some hi) (some mx)) fun _ => some .snil) fun b off len cap =>
    ob (oc cap (roomOf H b off len es) some) fun room => ob (boundsA len cap room (some lo) (some hi) (some mx)) fun r =>
    some (.sl b (offOf r.2.2 off r.1 es) (Nat.sub r.2.1 r.1) (capLess r.2.2 r.1))
@[simp] theorem slSl_lhm_f (es : Nat) (x h g m : Operand) (T : Tr AV) (H : AH) : slSl es x (some h) (some g) (some m) T H = ob (opnd h T) fun hv => ob (natOf hv) fun n => ob (opnd g T) fun gv => ob (natOf gv) fun k => ob (opnd m T) fun mv => ob (natOf mv) fun j => ob (opnd x T) fun v => slD es n k j v H := by
  unfold slSl
  simp only [optNat]
  cases opnd h T with
  | none => rfl
  | some hv =>
    simp only [ob_some']
    cases hn : natOf hv with
    | none => rfl
    | some n =>
      simp only [ob_some']
      cases opnd g T with
      | none => rfl
      | some gv =>
        simp only [ob_some']
        cases hm : natOf gv with
        | none => rfl
        | some k =>
          simp only [ob_some']
          cases opnd m T with
          | none => rfl
          | some mv =>
            simp only [ob_some']
            cases hj : natOf mv with
            | none => rfl
            | some j => rfl
@[simp] theorem mmK_f (gt : Bool) (x : Operand) (r : List Operand) (T : Tr AV) (H : AH) : mmK gt x r T H = ob (opnd x T) fun v => ob ((opnds r).f T) fun l => mmA gt l v := rfl
theorem mmMin {k j : IntKind} {m n : Int} (h : n ≤ m) : mmA false (.cons (.int j m) .nil) (.int k n) = some (.int k n) := by
  show some (AV.int k (bt (bt false (ltI n m) (ltI m n)) m n)) = _
  rw [bt_false, ltI_dec, decide_eq_false (by omega), bt_false]
theorem slD_gen {H : AH} {v : AV} {l : List UInt8} {lo hi : Nat} (h : RdS H v l) (hs : SlOk H v) (hl : l ≠ []) (h1 : lo ≤ hi) (h2 : hi ≤ l.length) :
    ∃ v', slD 1 lo hi hi v H = some v' ∧ RdS H v' (sub l lo (hi - lo)) ∧ SlOk H v' ∧ blk v' = blk v := by
  have hsl := sub_len (b := l) (at_ := lo) (w := hi - lo) (by omega)
  rcases h with ⟨_, e⟩ | ⟨b, off, cap, rfl, h⟩
  · exact absurd e hl
  · obtain ⟨g1, o, g2, g3⟩ := h hl
    have key : ∀ room, hi ≤ room → boundsA l.length cap room (some lo) (some hi) (some hi) = some (lo, hi, some hi) := fun room hr => by
      show ob (bt (Nat.ble hi room) (some (some hi)) none) (fun m => bt (Nat.ble hi (oc m room id)) (bt (Nat.ble lo hi) (some (lo, hi, m)) none) none) = _
      rw [ble_true hr, bt_true, ob_some']
      show bt (Nat.ble hi hi) (bt (Nat.ble lo hi) (some (lo, hi, some hi)) none) none = _
      rw [ble_true (Nat.le_refl _), bt_true, ble_true h1, bt_true]
    have hoff : lo < hi → offOf (some hi) off lo 1 = off + lo := fun hlt => by
      show bt (Nat.beq hi lo) off (off + lo * 1) = _
      have : Nat.beq hi lo = false := by
        cases e : Nat.beq hi lo with
        | false => rfl
        | true => have := Nat.eq_of_beq_eq_true e; omega
      rw [this, bt_false, Nat.mul_one]
    have hroom : ∃ room, oc cap (roomOf H b off l.length 1) some = some room ∧ hi ≤ room := by
      cases cap with
      | some c =>
        refine ⟨c, rfl, ?_⟩
        rcases hs with e | ⟨b', off', len, c', e, hc⟩ | ⟨b', off', len, e', k, e, _⟩
        · cases e
        · cases e; omega
        · cases e
      | none =>
        obtain ⟨e, k, hg⟩ : ∃ e k, H.get b = some (bb e true k) := by
          rcases hs with e | ⟨b', off', len, c', e, hc⟩ | ⟨b', off', len, e', k, e, hg⟩
          · cases e
          · cases e
          · cases e; exact ⟨_, _, hg⟩
        refine ⟨max l.length (k.length - off), ?_, by omega⟩
        show roomOf H b off l.length 1 = _
        unfold roomOf
        rw [hg, ob_some']
        rfl
    obtain ⟨room, hr1, hr2⟩ := hroom
    refine ⟨.sl b (offOf (some hi) off lo 1) (hi - lo) (some (hi - lo)), ?_, .sl (by rw [hsl]) fun hne => ⟨g1, o, g2, ?_⟩, .inr (.inl ⟨_, _, _, _, rfl, Nat.le_refl _⟩), rfl⟩
    · unfold slD
      rw [onSl_sl, hr1, ob_some', key room hr2, ob_some']
      rfl
    · have hlt : lo < hi := by
        have := List.length_pos_iff.2 hne
        omega
      rw [hoff hlt]
      exact bytes_sub g3
theorem OldS.chunk {H0 H : AH} {v : AV} {l : List UInt8} {lo hi : Nat} (h : OldS H0 v l) (hk : Keep noB H0 H) (hl : l ≠ []) (h1 : lo ≤ hi) (h2 : hi ≤ l.length) : ∃ v', slD 1 lo hi hi v H = some v' ∧ OldS H0 v' (sub l lo (hi - lo)) ∧ blk v' = blk v := by
  obtain ⟨v', a1, a2, a3, a4⟩ := slD_gen (h.at hk) (h.cutAt hk hl) hl h1 h2
  have hb : ∀ b, blk v' = some b → b < H0.next := fun b e => h.low b (by rw [← a4]; exact e)
  exact ⟨v', a1, ⟨rdS_back hk a2 hb, slOk_back hk a3 hb, hb⟩, a4⟩
def encN (n : Int) : List AV := [.int .i64 n]
theorem encN_len (n : Int) : (encN n).length = 1 := rfl
def zN : AV := .cons (.int .i64 0) .nil
abbrev NBox (H : AH) (b : Nat) (n : Int) : Prop := Bx encN 3 1 zN H b n
theorem NBox.rd {H : AH} {b : Nat} {n : Int} (h : NBox H b n) : ∃ o, H.get b = some o ∧ rdCell o 0 = some (.int .i64 n) := by
  obtain ⟨o, h1, h2, _⟩ := h.get encN_len
  exact ⟨o, h1, h2 0 _ rfl⟩
theorem Bx.boxV {α : Type} {enc : α → List AV} {e : Nat} {z : AV} {H : AH} {a : α} {v : AV} (hl : ∀ a, (enc a).length = 1) (ha : enc a = [v]) (hv : isCell v = true) {x : Operand} {T : Tr AV} (hT : opnd x T = some v) :
    ∃ o, frBox ⟨mkCs e 1 z⟩ x T H.next = some (.ptr H.next 0, o) ∧ Bx enc e 1 z (H.new o) H.next a ∧ Keep noB H (H.new o) := by
  obtain ⟨o1, e1, b1⟩ := frBox_v (enc := enc) (e := e) (z := z) (x := x) (T := T) (b0 := H.next) (a := a) hl hT (by rw [ha, cellsA_cell hv]; rfl)
  exact ⟨o1, e1, ⟨o1, get_new_same _ _, b1⟩, Keep.new _ _ _⟩
end
end Go.Xq
namespace Go.Xq
noncomputable section
def pageN (b : List UInt8) : Nat := readL (sub b 8 4)
def manyN (b : List UInt8) : Nat := readL (sub b 28 4)
def atN (b : List UInt8) (i : Nat) : Nat := 32 + pageN b + i * (4 + pageN b)
def pageAt (b : List UInt8) (i : Nat) : Int × List UInt8 := (((readL (sub b (atN b i) 4) : Nat) : Int), sub b (atN b i + 4) (pageN b))
def pagesOf (b : List UInt8) (k : Nat) : List (Int × List UInt8) := (List.range k).map (pageAt b)
def fldsD (b : List UInt8) : Dl := ⟨((b[4]?.getD 0).toNat : Int), (pageN b : Int), i64 (readL (sub b 12 8)), i64 (readL (sub b 20 8)), pagesOf b (manyN b), sub b 32 (pageN b)⟩
def shapeD (b : List UInt8) : Prop := 36 ≤ b.length ∧ isPgI (pageN b : Int) = true ∧ b.length = 36 + pageN b + manyN b * (4 + pageN b)
def saysD (b : List UInt8) : Prop := shapeD b ∧ okD (fldsD b) ∧ encD (fldsD b) = b
theorem pagesOf_len (b : List UInt8) (k : Nat) : (pagesOf b k).length = k := by simp [pagesOf]
theorem pagesOf_get (b : List UInt8) {k i : Nat} (h : i < k) : (pagesOf b k)[i]? = some (pageAt b i) := by simp [pagesOf, List.getElem?_range h]
theorem pagesOf_succ (b : List UInt8) (k : Nat) : pagesOf b (k + 1) = pagesOf b k ++ [pageAt b k] := by simp [pagesOf, List.range_succ]
theorem atN_succ (b : List UInt8) (i : Nat) : atN b (i + 1) = atN b i + 4 + pageN b := by unfold atN; rw [Nat.succ_mul]; omega
theorem atN_le {b : List UInt8} (h : shapeD b) {i : Nat} (hi : i < manyN b) : atN b i + 4 + pageN b + 4 ≤ b.length := by
  have h1 := h.2.2
  have h2 : (i + 1) * (4 + pageN b) ≤ manyN b * (4 + pageN b) := Nat.mul_le_mul_right _ hi
  have h3 := atN_succ b i
  unfold atN at h3 ⊢
  omega
theorem fixedL_snoc (n : Nat) (x : UInt8) (w : Nat) : fixedL (256 * n + x.toNat) (w + 1) = fixedL n w ++ [x] := by
  have hx := x.toNat_lt
  apply List.ext_getElem?
  intro i
  rcases Nat.lt_or_ge i w with hi | hi
  · rw [fixedL_get _ _ (by omega), List.getElem?_append_left (by rw [fixedL_len]; exact hi), fixedL_get _ _ hi]
    have e : w + 1 - 1 - i = (w - 1 - i) + 1 := by omega
    rw [e, Nat.pow_succ, Nat.mul_comm (256 ^ _) 256, ← Nat.div_div_eq_div_mul]
    have e2 : (256 * n + x.toNat) / 256 = n := by omega
    rw [e2]
  · rw [List.getElem?_append_right (by rw [fixedL_len]; exact hi), fixedL_len]
    rcases Nat.lt_or_ge i (w + 1) with h2 | h2
    · have e : i = w := by omega
      subst e
      rw [fixedL_get _ _ (by omega), Nat.sub_self]
      have e : i + 1 - 1 - i = 0 := by omega
      rw [e, Nat.pow_zero, Nat.div_one]
      simp only [List.getElem?_cons_zero, Option.some.injEq]
      apply UInt8.toNat_inj.1
      rw [UInt8.toNat_ofNat']
      omega
    · rw [List.getElem?_eq_none (by rw [fixedL_len]; exact h2), List.getElem?_eq_none (by simp; omega)]
theorem fixedL_readL : ∀ (w : Nat) (l : List UInt8), l.length = w → fixedL (readL l) w = l
  | 0, l, h => by
    rw [List.length_eq_zero_iff] at h
    subst h
    rfl
  | w + 1, l, h => by
    have hl : l ≠ [] := by intro e; subst e; simp at h
    obtain ⟨k, x, rfl⟩ : ∃ k x, l = k ++ [x] := ⟨l.dropLast, l.getLast hl, (List.dropLast_concat_getLast hl).symm⟩
    rw [readL_snoc, fixedL_snoc, fixedL_readL w k (by simpa using h)]
theorem readL_fixedL : ∀ (w n : Nat), n < 256 ^ w → readL (fixedL n w) = n
  | 0, n, h => by
    have : n = 0 := by simpa using h
    subst this
    rfl
  | w + 1, n, h => by
    have e : n = 256 * (n / 256) + (UInt8.ofNat (n % 256)).toNat := by
      rw [UInt8.toNat_ofNat']
      omega
    have h2 : n / 256 < 256 ^ w := by
      rw [Nat.pow_succ] at h
      exact Nat.div_lt_of_lt_mul (by rw [Nat.mul_comm]; exact h)
    rw [e, fixedL_snoc, readL_snoc, readL_fixedL w _ h2]
theorem u64_i64 {n : Nat} (h : n < 18446744073709551616) : u64 (i64 n) = n := by
  unfold u64 i64
  split <;> omega
theorem i64_u64 {n : Int} (h1 : -9223372036854775808 ≤ n) (h2 : n < 9223372036854775808) : i64 (u64 n) = n := by
  unfold u64 i64
  split <;> omega
theorem byteI_toNat (x : UInt8) : byteI (x.toNat : Int) = x := by
  have := x.toNat_lt
  apply UInt8.toNat_inj.1
  unfold byteI
  rw [UInt8.toNat_ofNat']
  omega
theorem sub_add (l : List UInt8) (a m n : Nat) : sub l a (m + n) = sub l a m ++ sub l (a + m) n := by
  unfold sub
  rw [List.take_add, List.drop_drop]
theorem fixed_sub {l : List UInt8} {a w : Nat} (h : a + w ≤ l.length) : fixedL (readL (sub l a w)) w = sub l a w := fixedL_readL _ _ (sub_len h)
theorem sumL_lt32 (l : List UInt8) : sumL l < 4294967296 := by
  rw [sumL, sumN_reg]
  exact xor_lt32 (regN_lt l (by omega)) (by omega)
theorem readL_lt8 {l : List UInt8} {a : Nat} (h : a + 8 ≤ l.length) : readL (sub l a 8) < 18446744073709551616 := by
  have := readL_lt 8 (sub l a 8) (sub_len h)
  exact this
theorem readL_lt4 {l : List UInt8} {a : Nat} (h : a + 4 ≤ l.length) : readL (sub l a 4) < 4294967296 := by
  have := readL_lt 4 (sub l a 4) (sub_len h)
  exact this
theorem flat_sub {l : List UInt8} (h : shapeD l) : ∀ k, k ≤ manyN l → (pagesOf l k).flatMap (fun p => fixedL (u64 p.1) 4 ++ p.2) = sub l (32 + pageN l) (k * (4 + pageN l))
  | 0, _ => by simp [pagesOf, sub]
  | k + 1, hk => by
    have hle := atN_le h (i := k) (by omega)
    have h4 := readL_lt4 (l := l) (a := atN l k) (by omega)
    rw [pagesOf_succ, List.flatMap_append, flat_sub h k (by omega), Nat.succ_mul, sub_add, List.flatMap_cons, List.flatMap_nil, List.append_nil]
    congr 1
    show fixedL (u64 ((readL (sub l (atN l k) 4) : Nat) : Int)) 4 ++ sub l (atN l k + 4) (pageN l) = _
    rw [u64_nat (by omega), fixed_sub (by omega), ← sub_add]
    rfl
def frontD (l : List UInt8) : List UInt8 := [69, 83, 80, 68, l[4]?.getD 0, 0, 0, 0]
theorem bodyD_flds {l : List UInt8} (h : shapeD l) : bodyD (fldsD l) = frontD l ++ sub l 8 (l.length - 12) := by
  have h1 := h.1
  have h3 := h.2.2
  have hp := readL_lt4 (l := l) (a := 8) (by omega)
  have hm := readL_lt4 (l := l) (a := 28) (by omega)
  have e : l.length - 12 = 4 + (8 + (8 + (4 + (pageN l + manyN l * (4 + pageN l))))) := by omega
  have e1 : headD (fldsD l) = frontD l ++ (sub l 8 4 ++ (sub l 12 8 ++ (sub l 20 8 ++ (sub l 28 4 ++ sub l 32 (pageN l))))) := by
    show [69, 83, 80, 68, byteI ((l[4]?.getD 0).toNat : Int), 0, 0, 0] ++ fixedL (u64 (pageN l : Int)) 4 ++ fixedL (u64 (i64 (readL (sub l 12 8)))) 8 ++ fixedL (u64 (i64 (readL (sub l 20 8)))) 8 ++ fixedL (pagesOf l (manyN l)).length 4 ++ sub l 32 (pageN l) = _
    rw [byteI_toNat, pagesOf_len, u64_nat (by unfold pageN; omega), u64_i64 (readL_lt8 (by omega)), u64_i64 (readL_lt8 (by omega))]
    unfold pageN manyN
    rw [fixed_sub (by omega), fixed_sub (by omega), fixed_sub (by omega), fixed_sub (by omega)]
    unfold frontD
    simp only [List.append_assoc]
  show headD (fldsD l) ++ (pagesOf l (manyN l)).flatMap (fun p => fixedL (u64 p.1) 4 ++ p.2) = _
  rw [e1, flat_sub h _ (Nat.le_refl _), e, sub_add, sub_add, sub_add, sub_add, sub_add]
  simp only [List.append_assoc]
theorem take_front {l : List UInt8} (h : 36 ≤ l.length) : l.take (l.length - 4) = l.take 8 ++ sub l 8 (l.length - 12) := by
  have e : l.length - 4 = 8 + (l.length - 12) := by omega
  rw [e, List.take_add]
  rfl
theorem front_eq {l : List UInt8} (h : 36 ≤ l.length) : frontD l = l.take 8 ↔ l.take 4 = [69, 83, 80, 68] ∧ sub l 5 3 = [0, 0, 0] := by
  obtain ⟨a, b, c, d, e, f, g, k, r, rfl⟩ : ∃ a b c d e f g k r, l = a :: b :: c :: d :: e :: f :: g :: k :: r := by
    match l, h with
    | a :: b :: c :: d :: e :: f :: g :: k :: r, _ => exact ⟨_, _, _, _, _, _, _, _, _, rfl⟩
  simp [frontD, sub]
  constructor
  · rintro ⟨rfl, rfl, rfl, rfl, rfl, rfl, rfl⟩
    exact ⟨⟨rfl, rfl, rfl, rfl⟩, rfl, rfl, rfl⟩
  · rintro ⟨⟨rfl, rfl, rfl, rfl⟩, rfl, rfl, rfl⟩
    exact ⟨rfl, rfl, rfl, rfl, rfl, rfl, rfl⟩
theorem encD_iff {l : List UInt8} (h : shapeD l) : encD (fldsD l) = l ↔ l.take 4 = [69, 83, 80, 68] ∧ sub l 5 3 = [0, 0, 0] ∧ readL (sub l (l.length - 4) 4) = sumL (l.take (l.length - 4)) := by
  have h1 := h.1
  have hb := bodyD_flds h
  have hft : (frontD l).length = 8 := rfl
  have hbl : (bodyD (fldsD l)).length = l.length - 4 := by
    rw [hb, List.length_append, hft, sub_len (by omega)]
    omega
  have hl : l = l.take (l.length - 4) ++ sub l (l.length - 4) 4 := by
    have e : sub l (l.length - 4) 4 = l.drop (l.length - 4) := List.take_of_length_le (by simp; omega)
    rw [e, List.take_append_drop]
  have hs := sub_len (b := l) (at_ := l.length - 4) (w := 4) (by omega)
  have hf := front_eq h1
  constructor
  · intro e
    have e2 : bodyD (fldsD l) ++ fixedL (sumL (bodyD (fldsD l))) 4 = l.take (l.length - 4) ++ sub l (l.length - 4) 4 := e.trans hl
    obtain ⟨a1, a2⟩ := List.append_inj e2 (by rw [hbl]; simp)
    have a3 : frontD l = l.take 8 := by
      rw [hb, take_front h1] at a1
      exact List.append_inj_left a1 (by rw [hft]; simp; omega)
    refine ⟨(hf.1 a3).1, (hf.1 a3).2, ?_⟩
    rw [← a2, a1]
    exact readL_fixedL 4 _ (sumL_lt32 _)
  · rintro ⟨b1, b2, b3⟩
    have a1 : bodyD (fldsD l) = l.take (l.length - 4) := by rw [hb, take_front h1, hf.2 ⟨b1, b2⟩]
    show bodyD (fldsD l) ++ fixedL (sumL (bodyD (fldsD l))) 4 = l
    rw [a1, ← b3, fixed_sub (by omega)]
    exact hl.symm
end
end Go.Xq
namespace Go.Xq
noncomputable section
theorem sub_mid (p k s : List UInt8) {a w : Nat} (ha : a = p.length) (hw : w = k.length) : sub (p ++ (k ++ s)) a w = k := by
  subst ha hw
  unfold sub
  rw [List.drop_left, List.take_left]
theorem risesP_len : ∀ {page high last : Int} {ps : List (Int × List UInt8)}, risesP page high last ps → ∀ p ∈ ps, last < p.1 ∧ p.1 < high ∧ (p.2.length : Int) = page
  | _, _, _, [], _, p, hp => by cases hp
  | page, high, last, q :: ps, h, p, hp => by
    obtain ⟨h1, h2, h3, h4⟩ := h
    rcases List.mem_cons.1 hp with rfl | hp
    · exact ⟨h1, h2, h3⟩
    · have := risesP_len h4 p hp
      exact ⟨by omega, this.2⟩
theorem flat_len {page : Nat} : ∀ {ps : List (Int × List UInt8)}, (∀ p ∈ ps, p.2.length = page) → (ps.flatMap fun p => fixedL (u64 p.1) 4 ++ p.2).length = ps.length * (4 + page)
  | [], _ => by simp
  | p :: ps, h => by
    rw [List.flatMap_cons, List.length_append, flat_len fun q hq => h q (List.mem_cons_of_mem _ hq), List.length_append, fixedL_len, h p (List.mem_cons_self ..), List.length_cons, Nat.succ_mul]
    omega
theorem u64_small {n : Int} (h1 : 0 ≤ n) (h2 : n < 4294967296) : u64 n = n.toNat := by
  unfold u64
  omega
structure BackD (d : Dl) : Prop where
  shape : shapeD (encD d)
  flds : fldsD (encD d) = d
theorem back_okD {d : Dl} (h : okD d) (hn : d.pages.length < 4294967296) : BackD d := by
  obtain ⟨hm, hpg, he, hp, ht, f0, f1, _, hr⟩ := h
  have hml := hm.len
  rw [hp] at hml
  have hpc := pgI_cases hpg
  have hmo := hm.2.1
  obtain ⟨m1, m2, ⟨m3, m4⟩, ⟨m5, m6⟩, _⟩ := hmo
  rw [he] at m1
  rw [ht] at m3 m4
  have hps := risesP_len hr
  have hp0 : 0 ≤ d.page := by omega
  obtain ⟨P, hP⟩ : ∃ P : Nat, P = d.page.toNat := ⟨_, rfl⟩
  have hP' : d.page = (P : Int) := by omega
  rw [← hP] at hml
  have hpl : ∀ p ∈ d.pages, p.2.length = P := fun p hp => by have := (hps p hp).2.2; omega
  have hfl := flat_len hpl
  obtain ⟨S, hS⟩ : ∃ S, S = fixedL (sumL (bodyD d)) 4 := ⟨_, rfl⟩
  have hSl : S.length = 4 := by rw [hS, fixedL_len]
  obtain ⟨X, hX⟩ : ∃ X, X = d.pages.flatMap (fun p => fixedL (u64 p.1) 4 ++ p.2) := ⟨_, rfl⟩
  rw [← hX] at hfl
  obtain ⟨F, hF⟩ : ∃ F : List UInt8, F = [69, 83, 80, 68, byteI d.engine, 0, 0, 0] := ⟨_, rfl⟩
  have hFl : F.length = 8 := by rw [hF]; rfl
  have e : encD d = F ++ (fixedL (u64 d.page) 4 ++ (fixedL (u64 d.frm) 8 ++ (fixedL (u64 d.to) 8 ++ (fixedL d.pages.length 4 ++ (d.meta_ ++ (X ++ S)))))) := by
    show headD d ++ d.pages.flatMap (fun p => fixedL (u64 p.1) 4 ++ p.2) ++ fixedL (sumL (bodyD d)) 4 = _
    rw [← hS, ← hX]
    unfold headD
    rw [← hF]
    simp only [List.append_assoc]
  suffices hh : shapeD (encD d) ∧ fldsD (encD d) = d from ⟨hh.1, hh.2⟩
  generalize encD d = l at e ⊢
  have s8 : sub l 8 4 = fixedL (u64 d.page) 4 := by rw [e]; exact sub_mid _ _ _ hFl.symm (fixedL_len _ _).symm
  have s12 : sub l 12 8 = fixedL (u64 d.frm) 8 := by
    rw [e, ← List.append_assoc]
    exact sub_mid _ _ _ (by simp [hFl, fixedL_len]) (fixedL_len _ _).symm
  have s20 : sub l 20 8 = fixedL (u64 d.to) 8 := by
    rw [e, ← List.append_assoc, ← List.append_assoc]
    exact sub_mid _ _ _ (by simp [hFl, fixedL_len]) (fixedL_len _ _).symm
  have s28 : sub l 28 4 = fixedL d.pages.length 4 := by
    rw [e, ← List.append_assoc, ← List.append_assoc, ← List.append_assoc]
    exact sub_mid _ _ _ (by simp [hFl, fixedL_len]) (fixedL_len _ _).symm
  have s32 : sub l 32 P = d.meta_ := by
    rw [e, ← List.append_assoc, ← List.append_assoc, ← List.append_assoc, ← List.append_assoc]
    exact sub_mid _ _ _ (by simp [hFl, fixedL_len]) hml.symm
  have p8 : pageN l = P := by
    unfold pageN
    rw [s8, readL_fixedL 4 _ (by rw [u64_small hp0 (by omega)]; show _ < 4294967296; omega), u64_small hp0 (by omega)]
    exact hP.symm
  have p28 : manyN l = d.pages.length := by
    unfold manyN
    rw [s28, readL_fixedL 4 _ hn]
  have pf : i64 (readL (sub l 12 8)) = d.frm := by
    rw [s12, readL_fixedL 8 _ (by unfold u64; show _ < 18446744073709551616; omega), i64_u64 (by omega) (by omega)]
  have pt : i64 (readL (sub l 20 8)) = d.to := by
    rw [s20, readL_fixedL 8 _ (by unfold u64; show _ < 18446744073709551616; omega), i64_u64 (by omega) (by omega)]
  have ll : l.length = 36 + P + d.pages.length * (4 + P) := by
    rw [e]
    simp only [List.length_append, hFl, fixedL_len, hml, hfl, hSl]
    omega
  refine ⟨⟨by omega, by rw [p8, ← hP']; exact hpg, by rw [p8, p28]; exact ll⟩, ?_⟩
  have e4 : (l[4]?.getD 0) = byteI d.engine := by
    rw [e, List.getElem?_append_left (by omega), hF]
    rfl
  have eg : ((byteI d.engine).toNat : Int) = d.engine := by rcases m1 with e | e <;> rw [e] <;> rfl
  have hpgs : pagesOf l d.pages.length = d.pages := by
    apply List.ext_getElem?
    intro i
    rcases Nat.lt_or_ge i d.pages.length with hi | hi
    · rw [pagesOf_get _ hi]
      have hq : d.pages[i]? = some (d.pages[i]) := List.getElem?_eq_getElem hi
      have hqm : d.pages[i] ∈ d.pages := List.getElem_mem _
      generalize d.pages[i] = q at hq hqm
      rw [hq]
      have hsp : d.pages = d.pages.take i ++ q :: d.pages.drop (i + 1) := by
        have h1 := (List.take_append_drop i d.pages).symm
        rwa [List.drop_eq_getElem_cons hi, show d.pages[i] = q from Option.some.inj ((List.getElem?_eq_getElem hi).symm.trans hq)] at h1
      obtain ⟨Y, hY⟩ : ∃ Y, Y = (d.pages.take i).flatMap (fun p => fixedL (u64 p.1) 4 ++ p.2) := ⟨_, rfl⟩
      have hYl : Y.length = i * (4 + P) := by
        rw [hY, flat_len fun p hp => hpl p (List.mem_of_mem_take hp), List.length_take, Nat.min_eq_left (by omega)]
      obtain ⟨Z, hZ⟩ : ∃ Z, Z = (d.pages.drop (i + 1)).flatMap (fun p => fixedL (u64 p.1) 4 ++ p.2) := ⟨_, rfl⟩
      have hXs : X = Y ++ (fixedL (u64 q.1) 4 ++ (q.2 ++ Z)) := by
        rw [hX, hY, hZ]
        conv => lhs; rw [hsp]
        rw [List.flatMap_append, List.flatMap_cons]
        simp only [List.append_assoc]
      have hql := hpl q hqm
      have hq3 := hps q hqm
      have hat : atN l i = 32 + P + i * (4 + P) := by unfold atN; rw [p8]
      have hpre : ∃ U : List UInt8, U.length = 32 + P + i * (4 + P) ∧ l = U ++ (fixedL (u64 q.1) 4 ++ (q.2 ++ (Z ++ S))) := by
        refine ⟨F ++ fixedL (u64 d.page) 4 ++ fixedL (u64 d.frm) 8 ++ fixedL (u64 d.to) 8 ++ fixedL d.pages.length 4 ++ d.meta_ ++ Y, ?_, ?_⟩
        · simp only [List.length_append, hFl, fixedL_len, hml, hYl]
        · rw [e, hXs]; simp only [List.append_assoc]
      obtain ⟨U, hU, hl⟩ := hpre
      have a1 : sub l (atN l i) 4 = fixedL (u64 q.1) 4 := by rw [hat, hl]; exact sub_mid _ _ _ hU.symm (fixedL_len _ _).symm
      have a2 : sub l (atN l i + 4) P = q.2 := by
        rw [hat, hl, ← List.append_assoc]
        exact sub_mid _ _ _ (by simp [hU, fixedL_len]) hql.symm
      show some (((readL (sub l (atN l i) 4) : Nat) : Int), sub l (atN l i + 4) (pageN l)) = some q
      rw [a1, p8, a2, readL_fixedL 4 _ (by rw [u64_small (by omega) (by omega)]; show _ < 4294967296; omega), u64_small (by omega) (by omega)]
      congr 1
      exact Prod.ext (by simp only; omega) rfl
    · rw [List.getElem?_eq_none (by rw [pagesOf_len]; exact hi), List.getElem?_eq_none hi]
  show (⟨((l[4]?.getD 0).toNat : Int), (pageN l : Int), i64 (readL (sub l 12 8)), i64 (readL (sub l 20 8)), pagesOf l (manyN l), sub l 32 (pageN l)⟩ : Dl) = d
  rw [e4, eg, p8, pf, pt, p28, hpgs, s32, ← hP']
theorem back_says {d : Dl} (h : okD d) (hn : d.pages.length < 4294967296) : saysD (encD d) := by
  have := back_okD h hn
  exact ⟨this.shape, by rw [this.flds]; exact h, by rw [this.flds]⟩
theorem burst {l l' : List UInt8} {p w : Nat} (hn : l'.length = l.length) (hp : l'.take p = l.take p) (hd : l'.drop (p + w) = l.drop (p + w)) (hw : w ≤ 4) (hin : p + w ≤ l.length) (hwin : p + w ≤ l.length - 4 ∨ l.length - 4 ≤ p)
    (h : saysD l) (h' : saysD l') : l' = l := by
  have hl := h.1.1
  have a := ((encD_iff h.1).1 h.2.2).2.2
  have b := ((encD_iff h'.1).1 h'.2.2).2.2
  rw [hn] at b
  have e1 : l = l.take p ++ (sub l p w ++ l.drop (p + w)) := by
    unfold sub
    rw [← List.drop_drop, List.take_append_drop, List.take_append_drop]
  have e2 : l' = l.take p ++ (sub l' p w ++ l.drop (p + w)) := by
    rw [← hp, ← hd]
    unfold sub
    rw [← List.drop_drop, List.take_append_drop, List.take_append_drop]
  have w1 := sub_len (b := l) (at_ := p) (w := w) hin
  have w2 := sub_len (b := l') (at_ := p) (w := w) (by omega)
  rcases hwin with hk | hk
  · have hs : sub l' (l.length - 4) 4 = sub l (l.length - 4) 4 := by
      unfold sub
      have : l.length - 4 = (p + w) + (l.length - 4 - (p + w)) := by omega
      rw [this, ← List.drop_drop, hd, List.drop_drop]
    rw [hs, a] at b
    have t1 : ∀ k : List UInt8, k.length = w → (l.take p ++ (k ++ l.drop (p + w))).take (l.length - 4) = l.take p ++ (k ++ (l.drop (p + w)).take (l.length - 4 - (p + w))) := fun k hk2 => by
      have hpl : (l.take p).length = p := by simp; omega
      rw [List.take_append, List.take_of_length_le (l := l.take p) (i := l.length - 4) (by omega), hpl, List.take_append, List.take_of_length_le (l := k) (i := l.length - 4 - p) (by omega), hk2, Nat.sub_sub]
    have t2 := t1 _ w1
    have t3 := t1 _ w2
    rw [← e1] at t2
    rw [← e2] at t3
    rw [t2, t3] at b
    have := sumL_burst (by omega) (by omega) b
    rw [e2, ← this, ← e1]
  · have ht : l'.take (l.length - 4) = l.take (l.length - 4) := by
      have := congrArg (List.take (l.length - 4)) hp
      rwa [List.take_take, List.take_take, Nat.min_eq_left hk] at this
    rw [ht, ← a] at b
    have c1 := fixedL_readL 4 (sub l (l.length - 4) 4) (sub_len (by omega))
    have c2 := fixedL_readL 4 (sub l' (l.length - 4) 4) (sub_len (by omega))
    rw [b, c1] at c2
    have f : ∀ k : List UInt8, k.length = l.length → k = k.take (l.length - 4) ++ sub k (l.length - 4) 4 := fun k hk2 => by
      have e : sub k (l.length - 4) 4 = k.drop (l.length - 4) := List.take_of_length_le (by simp; omega)
      rw [e, List.take_append_drop]
    have f1 := f l' hn
    rw [ht, ← c2] at f1
    exact f1.trans (f l rfl).symm
def xorL (l : List UInt8) (p : Nat) (t : List UInt8) : List UInt8 := l.mapIdx fun k x => if p ≤ k then x ^^^ (t[k - p]?.getD 0) else x
theorem xorL_len (l : List UInt8) (p : Nat) (t : List UInt8) : (xorL l p t).length = l.length := by simp [xorL]
theorem xorL_get (l : List UInt8) (p : Nat) (t : List UInt8) (k : Nat) : (xorL l p t)[k]? = (l[k]?).map fun x => if p ≤ k then x ^^^ (t[k - p]?.getD 0) else x := by simp [xorL]
theorem xorL_take0 (l : List UInt8) (p : Nat) (t : List UInt8) : xorL l p (t.take 0) = l := by
  apply List.ext_getElem?
  intro k
  rw [xorL_get]
  cases l[k]? <;> simp
theorem xorL_step (l : List UInt8) (p : Nat) (t : List UInt8) {i : Nat} {x y : UInt8} (hx : l[p + i]? = some x) (hy : t[i]? = some y) : (xorL l p (t.take i)).set (p + i) (x ^^^ y) = xorL l p (t.take (i + 1)) := by
  have hi := (List.getElem?_eq_some_iff.1 hy).1
  have hk := (List.getElem?_eq_some_iff.1 hx).1
  apply List.ext_getElem?
  intro k
  rw [xorL_get]
  by_cases e : k = p + i
  · subst e
    rw [List.getElem?_set_self (by rw [xorL_len]; exact hk), hx, Option.map_some, if_pos (by omega), Nat.add_sub_cancel_left, List.getElem?_take_of_lt (by omega), hy]
    rfl
  · rw [List.getElem?_set_ne (by omega), xorL_get]
    cases l[k]? with
    | none => rfl
    | some z =>
      simp only [Option.map_some]
      by_cases hp : p ≤ k
      · rw [if_pos hp, if_pos hp]
        congr 2
        by_cases hki : k - p < i
        · rw [List.getElem?_take_of_lt hki, List.getElem?_take_of_lt (by omega)]
        · rw [List.getElem?_eq_none (by simp; omega), List.getElem?_eq_none (by simp; omega)]
      · rw [if_neg hp, if_neg hp]
theorem xor_zero8 (x : UInt8) : x ^^^ 0 = x := by simp
theorem xorL_zeros {l : List UInt8} {p : Nat} {t : List UInt8} (h : ∀ y ∈ t, y = 0) : xorL l p t = l := by
  apply List.ext_getElem?
  intro k
  rw [xorL_get]
  cases l[k]? with
  | none => rfl
  | some z =>
    simp only [Option.map_some]
    split
    · have : t[k - p]?.getD 0 = 0 := by
        cases e : t[k - p]? with
        | none => rfl
        | some y => exact h y (List.mem_of_getElem? e)
      rw [this, xor_zero8]
    · rfl
theorem xor_fix {x y : UInt8} (h : x ^^^ y = x) : y = 0 := by
  have := congrArg (x ^^^ ·) h
  simp only [← UInt8.xor_assoc, UInt8.xor_self, UInt8.zero_xor] at this
  exact this
theorem turned_no {l : List UInt8} {p : Nat} {t : List UInt8} (h : saysD l) (h4 : t.length ≤ 4) (hin : p + t.length ≤ l.length) (hwin : p + t.length ≤ l.length - 4 ∨ l.length - 4 ≤ p) (hne : ∃ y ∈ t, y ≠ 0) : ¬ saysD (xorL l p t) := by
  intro h'
  have e := burst (p := p) (w := t.length) (xorL_len l p t) ?_ ?_ h4 hin hwin h h'
  · obtain ⟨y, hy, hy0⟩ := hne
    obtain ⟨i, hi⟩ := List.mem_iff_getElem?.1 hy
    have hil := (List.getElem?_eq_some_iff.1 hi).1
    have hx : l[p + i]? = some (l[p + i]'(by omega)) := List.getElem?_eq_getElem _
    have := congrArg (·[p + i]?) e
    simp only [xorL_get, hx, Option.map_some, if_pos (Nat.le_add_right p i), Nat.add_sub_cancel_left, hi, Option.getD_some, Option.some.injEq] at this
    exact hy0 (xor_fix this)
  · apply List.ext_getElem?
    intro k
    rw [List.getElem?_take, List.getElem?_take]
    split
    · rw [xorL_get]
      cases l[k]? with
      | none => rfl
      | some z => rw [Option.map_some, if_neg (by omega)]
    · rfl
  · apply List.ext_getElem?
    intro k
    rw [List.getElem?_drop, List.getElem?_drop, xorL_get]
    cases l[p + t.length + k]? with
    | none => rfl
    | some z =>
      have : t[p + t.length + k - p]?.getD 0 = 0 := by rw [List.getElem?_eq_none (by omega)]; rfl
      rw [Option.map_some, if_pos (by omega), this, xor_zero8]
end
end Go.Xq
namespace Go.Xq
noncomputable section
section
variable {P : Program} {b : Frame} {n : Cx} {D : List ADf} {H : AH} {Q : Out → Prop}
theorem WPO.keep {ops : Array Oper} {r : List Oper} {l k : List (Nat × AV)} (h : WPO P b n ops r (tl l) D H Q) (hs : lsub l k) : WPO P b n ops r (tl k) D H Q := fun i hi => WP.keep (h i hi) hs
end
theorem WP.drawnK {P : Program} {E : Env} {b : Frame} {n : Cx} {T : Tr AV} {D : List ADf} {H : AH} {Q : Out → Prop} (hE : TyOk P E) (hX : ExtOk P E) (hm : P.follows .mixedOrders = true) {id : Nat} {ops : Array Oper} {ls : List DI} (hk : disOf E n.n ops.toList = some ls) {R : Rec} (hR : RecOk P R)
    (h : ∀ K : Tr AV → AH → Prop, (∀ T2 H2, Q (.nor T2 D H2) → K T2 H2) → DiRun R K ls T H [] (fun _ => True)) : WP P b n [.code (.region id ops true)] T D H Q :=
  (WD.drawnK hE hX hm hk hR h).wp
end
end Go.Xq
namespace Go.Xq
noncomputable section
theorem toU_u8 (x : UInt8) : toU .u8 (x.toNat : Int) = x.toNat := Nat.mod_eq_of_lt x.toNat_lt
theorem akXor_u8 (x y : UInt8) : akXor.f .u8 (x.toNat : Int) (y.toNat : Int) = some (.int .u8 ((x ^^^ y).toNat : Int)) := by
  show mkInt .u8 (Int.ofNat (Nat.xor (toU .u8 x.toNat) (toU .u8 y.toNat))) = _
  rw [toU_u8, toU_u8, mkInt_u8]
  have h : (x ^^^ y).toNat = Nat.xor x.toNat y.toNat := UInt8.toNat_xor x y
  have h2 := (x ^^^ y).toNat_lt
  rw [h] at h2 ⊢
  congr 2
  show ((Nat.xor x.toNat y.toNat : Nat) : Int) % 256 = _
  omega
theorem u8_zero (x : UInt8) : (x.toNat : Int) = 0 ↔ x = 0 := by
  constructor
  · intro h
    apply UInt8.toNat_inj.1
    show x.toNat = 0
    omega
  · rintro rfl; rfl
section
variable {P : Program} {b : Frame} {n : Cx} {H : AH} {Q : Out → Prop}
theorem WP.forB {i j ic ii t : Nat} {opsc opsi : Array Oper} {body : Code} {σ : Type} (hij : Nat.beq i j = false) (cs : σ → List (Nat × AV)) (I : σ → AH → Prop) (μ : σ → Nat) {l : List (Nat × AV)} (s0 : σ) (h0 : I s0 H) (hl : lsub (cs s0) l)
    (hc : ∀ s H, I s H → WPO P b n opsc opsc.toList (tl (cs s)) [] H fun o => ∃ (c : Bool) (l' : List (Nat × AV)), o = .nor (tl l') [] H ∧ tget t l' = some (.bool c) ∧
      (c = false → Q (.nor (tl l') [] H)) ∧
      (c = true → WP P b n [.code body] (tl l') [] H fun o => match o with
        | .nor T2 D2 H2 => WPO P b n opsi opsi.toList T2 D2 H2 fun o => match o with
          | .nor T3 D3 H3 => D3 = [] ∧ ∃ s' l'', T3 = tl l'' ∧ lsub (cs s') l'' ∧ I s' H3 ∧ μ s' < μ s
          | _ => False
        | .ret T2 D2 H2 => Q (.ret T2 D2 H2)
        | .ext e T2 D2 H2 => e = i ∧ Q (.nor T2 D2 H2)
        | _ => False)) :
    WP P b n [.code (.block i (.loop (.seq (.seq (.region ic opsc false) (.cond (.tmp t) .skip (.exit i))) (.seq (.block j body) (.region ii opsi false)))))] (tl l) [] H Q := by
  refine WP.block (WP.loopS cs I μ s0 h0 hl fun s H hI => ?_)
  refine WP.seq (WP.seq ((WP.region (hc s H hI)).mono fun o ho => ?_))
  obtain ⟨c, l', rfl, h2, h3, h4⟩ := ho
  refine WP.cond (t := c) (by rw [opnd_tl]; exact h2) (fun hc => WP.skip (.inl rfl) ?_) (fun hc => WP.exit ?_)
  · refine WP.seq (WP.block ((h4 hc).mono fun o ho => ?_))
    cases o with
    | bad => exact ho.elim
    | ext e T2 D2 H2 =>
      obtain ⟨rfl, hq⟩ := ho
      have e1 : bOut j (.ext e T2 D2 H2) = .ext e T2 D2 H2 := by
        show bt (Nat.beq e j) _ _ = _
        rw [hij, bt_false]
      rw [e1]
      show Q (bOut e (.ext e T2 D2 H2))
      rw [bOut_ext]
      exact hq
    | ret => exact ho
    | nor T2 D2 H2 =>
      refine (WP.region ho).mono fun o ho => ?_
      cases o with
      | nor T3 D3 H3 => exact ho
      | bad => exact ho.elim
      | ext => exact ho.elim
      | ret => exact ho.elim
  · show Q (bOut i (.ext i (tl l') [] H))
    rw [bOut_ext]
    exact h3 hc
end
end
end Go.Xq
