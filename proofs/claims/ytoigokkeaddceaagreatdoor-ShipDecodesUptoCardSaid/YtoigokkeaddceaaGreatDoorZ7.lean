/- Contracts of calls and rules for code, over heaps that may hold less than the machine's. Their conditions stand in each theorem. -/
import Derived.Test.YtoigokkeaddceaaGreatDoorZ6
import Derived.Test.YtoigokkeaddceaaGreatDoorZ5
namespace Go.Xq
noncomputable section
theorem slC_gen {H : AH} {v : AV} {l : List UInt8} {lo : Nat} (hi : Option Nat) {n : Nat} (hn : n = oc hi l.length id) (h : RdS H v l) (hs : SlOk H v) (hl : l ≠ []) (h1 : lo ≤ n) (h2 : n ≤ l.length) :
    ∃ v', slC 1 (some lo) hi v H = some v' ∧ RdS H v' (sub l lo (n - lo)) ∧ SlOk H v' ∧ blk v' = blk v := by
  have hsl := sub_len (b := l) (at_ := lo) (w := n - lo) (by omega)
  rcases h with ⟨_, e⟩ | ⟨b, off, cap, rfl, h⟩
  · exact absurd e hl
  · obtain ⟨g1, o, g2, g3⟩ := h hl
    have key : ∀ room, n ≤ (oc cap room id) → boundsA l.length cap room (some lo) hi none = some (lo, n, cap) := fun room hr => by
      show bt (Nat.ble (oc hi l.length id) (oc cap room id)) (bt (Nat.ble lo (oc hi l.length id)) (some (lo, oc hi l.length id, cap)) none) none = _
      rw [← hn, ble_true hr, bt_true, ble_true h1, bt_true]
    cases cap with
    | some c =>
      have hc : l.length ≤ c := by
        rcases hs with e | ⟨b', off', len, c', e, hc⟩ | ⟨b', off', len, e', k, e, _⟩
        · cases e
        · cases e; exact hc
        · cases e
      refine ⟨.sl b (offOf (some c) off lo 1) (n - lo) (some (c - lo)), ?_, .sl (by rw [hsl]) fun hne => ⟨g1, o, g2, ?_⟩, .inr (.inl ⟨_, _, _, _, rfl, by omega⟩), rfl⟩
      · unfold slC
        rw [onSl_sl, oc_some, ob_some', key c (by show n ≤ c; omega), ob_some']
        rfl
      · have hlt : lo < n := by
          have := List.length_pos_iff.2 hne
          omega
        have : offOf (some c) off lo 1 = off + lo := by
          show bt (Nat.beq c lo) off (off + lo * 1) = _
          have : Nat.beq c lo = false := by
            cases e : Nat.beq c lo with
            | false => rfl
            | true => have := Nat.eq_of_beq_eq_true e; omega
          rw [this, bt_false, Nat.mul_one]
        rw [this]
        exact bytes_sub g3
    | none =>
      obtain ⟨e, k, hg⟩ : ∃ e k, H.get b = some (bb e true k) := by
        rcases hs with e | ⟨b', off', len, c', e, hc⟩ | ⟨b', off', len, e', k, e, hg⟩
        · cases e
        · cases e
        · cases e; exact ⟨_, _, hg⟩
      refine ⟨.sl b (offOf none off lo 1) (n - lo) none, ?_, .sl (by rw [hsl]) fun _ => ⟨g1, o, g2, ?_⟩, .inr (.inr ⟨_, _, _, e, k, rfl, hg⟩), rfl⟩
      · unfold slC
        rw [onSl_sl]
        have hroom : roomOf H b off l.length 1 = some (max l.length (k.length - off)) := by
          unfold roomOf
          rw [hg, ob_some']
          rfl
        show ob (roomOf H b off l.length 1) _ = _
        rw [hroom, ob_some', key _ (by show n ≤ max l.length (k.length - off); omega), ob_some']
        rfl
      · have : offOf none off lo 1 = off + lo := by show off + lo * 1 = _; rw [Nat.mul_one]
        rw [this]
        exact bytes_sub g3
theorem slA_gen {H : AH} {v : AV} {l : List UInt8} {n : Nat} (h : RdS H v l) (hs : SlOk H v) (hl : l ≠ []) (h2 : n ≤ l.length) : ∃ v', slA 1 n v H = some v' ∧ RdS H v' (l.take n) ∧ SlOk H v' ∧ blk v' = blk v := by
  have hsl : (l.take n).length = n := by simp; omega
  rcases h with ⟨_, e⟩ | ⟨b, off, cap, rfl, h⟩
  · exact absurd e hl
  · obtain ⟨g1, o, g2, g3⟩ := h hl
    have hby : BytesAt o off (l.take n) := by
      have := bytes_sub (lo := 0) (n := n) g3
      simpa [sub] using this
    have key : ∀ room, n ≤ (oc cap room id) → boundsA l.length cap room none (some n) none = some (0, n, cap) := fun room hr => by
      show bt (Nat.ble n (oc cap room id)) (bt (Nat.ble 0 n) (some (0, n, cap)) none) none = _
      rw [ble_true hr, bt_true, ble_true (by omega), bt_true]
    cases cap with
    | some c =>
      have hc : l.length ≤ c := by
        rcases hs with e | ⟨b', off', len, c', e, hc⟩ | ⟨b', off', len, e', k, e, _⟩
        · cases e
        · cases e; exact hc
        · cases e
      refine ⟨.sl b off n (some c), ?_, .sl (by rw [hsl]) fun hne => ⟨g1, o, g2, hby⟩, .inr (.inl ⟨_, _, _, _, rfl, by omega⟩), rfl⟩
      unfold slA
      rw [onSl_sl, oc_some, ob_some', key c (by show n ≤ c; omega), ob_some']
      have e0 : offOf (some c) off 0 1 = off := by
        show bt (Nat.beq c 0) off (off + 0 * 1) = _
        cases Nat.beq c 0 <;> simp [bt_true, bt_false]
      show some (AV.sl b (offOf (some c) off 0 1) (n - 0) (some (c - 0))) = _
      rw [e0]
      rfl
    | none =>
      obtain ⟨e, k, hg⟩ : ∃ e k, H.get b = some (bb e true k) := by
        rcases hs with e | ⟨b', off', len, c', e, hc⟩ | ⟨b', off', len, e', k, e, hg⟩
        · cases e
        · cases e
        · cases e; exact ⟨_, _, hg⟩
      refine ⟨.sl b off n none, ?_, .sl (by rw [hsl]) fun _ => ⟨g1, o, g2, hby⟩, .inr (.inr ⟨_, _, _, e, k, rfl, hg⟩), rfl⟩
      unfold slA
      rw [onSl_sl]
      have hroom : roomOf H b off l.length 1 = some (max l.length (k.length - off)) := by
        unfold roomOf
        rw [hg, ob_some']
        rfl
      show ob (roomOf H b off l.length 1) _ = _
      rw [hroom, ob_some', key _ (by show n ≤ max l.length (k.length - off); omega), ob_some']
      have e0 : offOf none off 0 1 = off := by show off + 0 * 1 = _; omega
      show some (AV.sl b (offOf none off 0 1) (n - 0) none) = _
      rw [e0]
      rfl
structure OldS (H0 : AH) (v : AV) (l : List UInt8) : Prop where
  rd : RdS H0 v l
  cut : SlOk H0 v
  low : ∀ b, blk v = some b → b < H0.next
theorem OldS.at {H0 H : AH} {v : AV} {l : List UInt8} (h : OldS H0 v l) (hk : Keep noB H0 H) : RdS H v l := h.rd.keep hk fun _ _ => id
theorem OldS.cutAt {H0 H : AH} {v : AV} {l : List UInt8} (h : OldS H0 v l) (hk : Keep noB H0 H) (hl : l ≠ []) : SlOk H v := h.cut.keep h.rd hl hk fun _ _ => id
theorem slOk_back {H0 H : AH} {v : AV} (hk : Keep noB H0 H) (h : SlOk H v) (hb : ∀ b, blk v = some b → b < H0.next) : SlOk H0 v := by
  rcases h with h | h | ⟨b, off, len, e, k, rfl, hg⟩
  · exact .inl h
  · exact .inr (.inl h)
  · exact .inr (.inr ⟨b, off, len, e, k, rfl, by rw [← hk.2 b (hb b rfl) id]; exact hg⟩)
theorem rdS_back {H0 H : AH} {v : AV} {l : List UInt8} (hk : Keep noB H0 H) (h : RdS H v l) (hb : ∀ b, blk v = some b → b < H0.next) : RdS H0 v l := by
  rcases h with h | ⟨b, off, cap, rfl, h⟩
  · exact .inl h
  · refine .inr ⟨b, off, cap, rfl, fun hl => ?_⟩
    obtain ⟨h1, o, h2, h3⟩ := h hl
    exact ⟨hb b rfl, o, by rw [← hk.2 b (hb b rfl) id]; exact h2, h3⟩
theorem OldS.sl {H0 H : AH} {v : AV} {l : List UInt8} {lo : Nat} (hi : Option Nat) {n : Nat} (hn : n = oc hi l.length id) (h : OldS H0 v l) (hk : Keep noB H0 H) (hl : l ≠ []) (h1 : lo ≤ n) (h2 : n ≤ l.length) : ∃ v', slC 1 (some lo) hi v H = some v' ∧ OldS H0 v' (sub l lo (n - lo)) ∧ blk v' = blk v := by
  obtain ⟨v', a1, a2, a3, a4⟩ := slC_gen hi hn (h.at hk) (h.cutAt hk hl) hl h1 h2
  have hb : ∀ b, blk v' = some b → b < H0.next := fun b e => h.low b (by rw [← a4]; exact e)
  exact ⟨v', a1, ⟨rdS_back hk a2 hb, slOk_back hk a3 hb, hb⟩, a4⟩
theorem OldS.upto {H0 H : AH} {v : AV} {l : List UInt8} {n : Nat} (h : OldS H0 v l) (hk : Keep noB H0 H) (hl : l ≠ []) (h2 : n ≤ l.length) : ∃ v', slA 1 n v H = some v' ∧ OldS H0 v' (l.take n) ∧ blk v' = blk v := by
  obtain ⟨v', a1, a2, a3, a4⟩ := slA_gen (h.at hk) (h.cutAt hk hl) hl h2
  have hb : ∀ b, blk v' = some b → b < H0.next := fun b e => h.low b (by rw [← a4]; exact e)
  exact ⟨v', a1, ⟨rdS_back hk a2 hb, slOk_back hk a3 hb, hb⟩, a4⟩
end
end Go.Xq
namespace Go.Xq
noncomputable section
def slD (es lo hi mx : Nat) (v : AV) (H : AH) : Option AV := onSl v (ob (boundsA 0 (some 0) 0 (some lo) (some hi) (some mx)) fun _ => some .snil) fun b off len cap =>
    ob (oc cap (roomOf H b off len es) some) fun room => ob (boundsA len cap room (some lo) (some hi) (some mx)) fun r =>
    some (.sl b (offOf r.2.2 off r.1 es) (Nat.sub r.2.1 r.1) (capLess r.2.2 r.1))
@[simp] theorem slSl_lhm_f (es : Nat) (x h g m : Operand) (T : Tr AV) (H : AH) : slSl es x (some h) (some g) (some m) T H = ob (opnd h T) fun hv => ob (natOf hv) fun n => ob (opnd g T) fun gv => ob (natOf gv) fun k => ob (opnd m T) fun mv => ob (natOf mv) fun j => ob (opnd x T) fun v => slD es n k j v H := by
  unfold slSl
  simp only [optNat]
  cases opnd h T with
  | none => rfl
  | some hv =>
    simp only [ob_some']
    cases hn : natOf hv with
    | none => rfl
    | some n =>
      simp only [ob_some']
      cases opnd g T with
      | none => rfl
      | some gv =>
        simp only [ob_some']
        cases hm : natOf gv with
        | none => rfl
        | some k =>
          simp only [ob_some']
          cases opnd m T with
          | none => rfl
          | some mv =>
            simp only [ob_some']
            cases hj : natOf mv with
            | none => rfl
            | some j => rfl
@[simp] theorem mmK_f (gt : Bool) (x : Operand) (r : List Operand) (T : Tr AV) (H : AH) : mmK gt x r T H = ob (opnd x T) fun v => ob ((opnds r).f T) fun l => mmA gt l v := rfl
theorem mmMin {k j : IntKind} {m n : Int} (h : n ≤ m) : mmA false (.cons (.int j m) .nil) (.int k n) = some (.int k n) := by
  show some (AV.int k (bt (bt false (ltI n m) (ltI m n)) m n)) = _
  rw [bt_false, ltI_dec, decide_eq_false (by omega), bt_false]
theorem slD_gen {H : AH} {v : AV} {l : List UInt8} {lo hi : Nat} (h : RdS H v l) (hs : SlOk H v) (hl : l ≠ []) (h1 : lo ≤ hi) (h2 : hi ≤ l.length) :
    ∃ v', slD 1 lo hi hi v H = some v' ∧ RdS H v' (sub l lo (hi - lo)) ∧ SlOk H v' ∧ blk v' = blk v := by
  have hsl := sub_len (b := l) (at_ := lo) (w := hi - lo) (by omega)
  rcases h with ⟨_, e⟩ | ⟨b, off, cap, rfl, h⟩
  · exact absurd e hl
  · obtain ⟨g1, o, g2, g3⟩ := h hl
    have key : ∀ room, hi ≤ room → boundsA l.length cap room (some lo) (some hi) (some hi) = some (lo, hi, some hi) := fun room hr => by
      show ob (bt (Nat.ble hi room) (some (some hi)) none) (fun m => bt (Nat.ble hi (oc m room id)) (bt (Nat.ble lo hi) (some (lo, hi, m)) none) none) = _
      rw [ble_true hr, bt_true, ob_some']
      show bt (Nat.ble hi hi) (bt (Nat.ble lo hi) (some (lo, hi, some hi)) none) none = _
      rw [ble_true (Nat.le_refl _), bt_true, ble_true h1, bt_true]
    have hoff : lo < hi → offOf (some hi) off lo 1 = off + lo := fun hlt => by
      show bt (Nat.beq hi lo) off (off + lo * 1) = _
      have : Nat.beq hi lo = false := by
        cases e : Nat.beq hi lo with
        | false => rfl
        | true => have := Nat.eq_of_beq_eq_true e; omega
      rw [this, bt_false, Nat.mul_one]
    have hroom : ∃ room, oc cap (roomOf H b off l.length 1) some = some room ∧ hi ≤ room := by
      cases cap with
      | some c =>
        refine ⟨c, rfl, ?_⟩
        rcases hs with e | ⟨b', off', len, c', e, hc⟩ | ⟨b', off', len, e', k, e, _⟩
        · cases e
        · cases e; omega
        · cases e
      | none =>
        obtain ⟨e, k, hg⟩ : ∃ e k, H.get b = some (bb e true k) := by
          rcases hs with e | ⟨b', off', len, c', e, hc⟩ | ⟨b', off', len, e', k, e, hg⟩
          · cases e
          · cases e
          · cases e; exact ⟨_, _, hg⟩
        refine ⟨max l.length (k.length - off), ?_, by omega⟩
        show roomOf H b off l.length 1 = _
        unfold roomOf
        rw [hg, ob_some']
        rfl
    obtain ⟨room, hr1, hr2⟩ := hroom
    refine ⟨.sl b (offOf (some hi) off lo 1) (hi - lo) (some (hi - lo)), ?_, .sl (by rw [hsl]) fun hne => ⟨g1, o, g2, ?_⟩, .inr (.inl ⟨_, _, _, _, rfl, Nat.le_refl _⟩), rfl⟩
    · unfold slD
      rw [onSl_sl, hr1, ob_some', key room hr2, ob_some']
      rfl
    · have hlt : lo < hi := by
        have := List.length_pos_iff.2 hne
        omega
      rw [hoff hlt]
      exact bytes_sub g3
theorem OldS.chunk {H0 H : AH} {v : AV} {l : List UInt8} {lo hi : Nat} (h : OldS H0 v l) (hk : Keep noB H0 H) (hl : l ≠ []) (h1 : lo ≤ hi) (h2 : hi ≤ l.length) : ∃ v', slD 1 lo hi hi v H = some v' ∧ OldS H0 v' (sub l lo (hi - lo)) ∧ blk v' = blk v := by
  obtain ⟨v', a1, a2, a3, a4⟩ := slD_gen (h.at hk) (h.cutAt hk hl) hl h1 h2
  have hb : ∀ b, blk v' = some b → b < H0.next := fun b e => h.low b (by rw [← a4]; exact e)
  exact ⟨v', a1, ⟨rdS_back hk a2 hb, slOk_back hk a3 hb, hb⟩, a4⟩
def encN (n : Int) : List AV := [.int .i64 n]
theorem encN_len (n : Int) : (encN n).length = 1 := rfl
def zN : AV := .cons (.int .i64 0) .nil
abbrev NBox (H : AH) (b : Nat) (n : Int) : Prop := Bx encN 3 1 zN H b n
theorem NBox.rd {H : AH} {b : Nat} {n : Int} (h : NBox H b n) : ∃ o, H.get b = some o ∧ rdCell o 0 = some (.int .i64 n) := by
  obtain ⟨o, h1, h2, _⟩ := h.get encN_len
  exact ⟨o, h1, h2 0 _ rfl⟩
theorem Bx.boxV {α : Type} {enc : α → List AV} {e : Nat} {z : AV} {H : AH} {a : α} {v : AV} (hl : ∀ a, (enc a).length = 1) (ha : enc a = [v]) (hv : isCell v = true) {x : Operand} {T : Tr AV} (hT : opnd x T = some v) :
    ∃ o, frBox ⟨mkCs e 1 z⟩ x T H.next = some (.ptr H.next 0, o) ∧ Bx enc e 1 z (H.new o) H.next a ∧ Keep noB H (H.new o) := by
  obtain ⟨o1, e1, b1⟩ := frBox_v (enc := enc) (e := e) (z := z) (x := x) (T := T) (b0 := H.next) (a := a) hl hT (by rw [ha, cellsA_cell hv]; rfl)
  exact ⟨o1, e1, ⟨o1, get_new_same _ _, b1⟩, Keep.new _ _ _⟩
end
end Go.Xq
namespace Go.Xq
noncomputable section
def pageN (b : List UInt8) : Nat := readL (sub b 8 4)
def manyN (b : List UInt8) : Nat := readL (sub b 28 4)
def atN (b : List UInt8) (i : Nat) : Nat := 32 + pageN b + i * (4 + pageN b)
def pageAt (b : List UInt8) (i : Nat) : Int × List UInt8 := (((readL (sub b (atN b i) 4) : Nat) : Int), sub b (atN b i + 4) (pageN b))
def pagesOf (b : List UInt8) (k : Nat) : List (Int × List UInt8) := (List.range k).map (pageAt b)
def fldsD (b : List UInt8) : Dl := ⟨((b[4]?.getD 0).toNat : Int), (pageN b : Int), i64 (readL (sub b 12 8)), i64 (readL (sub b 20 8)), pagesOf b (manyN b), sub b 32 (pageN b)⟩
def shapeD (b : List UInt8) : Prop := 36 ≤ b.length ∧ isPgI (pageN b : Int) = true ∧ b.length = 36 + pageN b + manyN b * (4 + pageN b)
def saysD (b : List UInt8) : Prop := shapeD b ∧ okD (fldsD b) ∧ encD (fldsD b) = b
theorem pagesOf_len (b : List UInt8) (k : Nat) : (pagesOf b k).length = k := by simp [pagesOf]
theorem pagesOf_get (b : List UInt8) {k i : Nat} (h : i < k) : (pagesOf b k)[i]? = some (pageAt b i) := by simp [pagesOf, List.getElem?_range h]
theorem pagesOf_succ (b : List UInt8) (k : Nat) : pagesOf b (k + 1) = pagesOf b k ++ [pageAt b k] := by simp [pagesOf, List.range_succ]
theorem atN_succ (b : List UInt8) (i : Nat) : atN b (i + 1) = atN b i + 4 + pageN b := by unfold atN; rw [Nat.succ_mul]; omega
theorem atN_le {b : List UInt8} (h : shapeD b) {i : Nat} (hi : i < manyN b) : atN b i + 4 + pageN b + 4 ≤ b.length := by
  have h1 := h.2.2
  have h2 : (i + 1) * (4 + pageN b) ≤ manyN b * (4 + pageN b) := Nat.mul_le_mul_right _ hi
  have h3 := atN_succ b i
  unfold atN at h3 ⊢
  omega
theorem fixedL_snoc (n : Nat) (x : UInt8) (w : Nat) : fixedL (256 * n + x.toNat) (w + 1) = fixedL n w ++ [x] := by
  have hx := x.toNat_lt
  apply List.ext_getElem?
  intro i
  rcases Nat.lt_or_ge i w with hi | hi
  · rw [fixedL_get _ _ (by omega), List.getElem?_append_left (by rw [fixedL_len]; exact hi), fixedL_get _ _ hi]
    have e : w + 1 - 1 - i = (w - 1 - i) + 1 := by omega
    rw [e, Nat.pow_succ, Nat.mul_comm (256 ^ _) 256, ← Nat.div_div_eq_div_mul]
    have e2 : (256 * n + x.toNat) / 256 = n := by omega
    rw [e2]
  · rw [List.getElem?_append_right (by rw [fixedL_len]; exact hi), fixedL_len]
    rcases Nat.lt_or_ge i (w + 1) with h2 | h2
    · have e : i = w := by omega
      subst e
      rw [fixedL_get _ _ (by omega), Nat.sub_self]
      have e : i + 1 - 1 - i = 0 := by omega
      rw [e, Nat.pow_zero, Nat.div_one]
      simp only [List.getElem?_cons_zero, Option.some.injEq]
      apply UInt8.toNat_inj.1
      rw [UInt8.toNat_ofNat']
      omega
    · rw [List.getElem?_eq_none (by rw [fixedL_len]; exact h2), List.getElem?_eq_none (by simp; omega)]
theorem fixedL_readL : ∀ (w : Nat) (l : List UInt8), l.length = w → fixedL (readL l) w = l
  | 0, l, h => by
    rw [List.length_eq_zero_iff] at h
    subst h
    rfl
  | w + 1, l, h => by
    have hl : l ≠ [] := by intro e; subst e; simp at h
    obtain ⟨k, x, rfl⟩ : ∃ k x, l = k ++ [x] := ⟨l.dropLast, l.getLast hl, (List.dropLast_concat_getLast hl).symm⟩
    rw [readL_snoc, fixedL_snoc, fixedL_readL w k (by simpa using h)]
theorem readL_fixedL : ∀ (w n : Nat), n < 256 ^ w → readL (fixedL n w) = n
  | 0, n, h => by
    have : n = 0 := by simpa using h
    subst this
    rfl
  | w + 1, n, h => by
    have e : n = 256 * (n / 256) + (UInt8.ofNat (n % 256)).toNat := by
      rw [UInt8.toNat_ofNat']
      omega
    have h2 : n / 256 < 256 ^ w := by
      rw [Nat.pow_succ] at h
      exact Nat.div_lt_of_lt_mul (by rw [Nat.mul_comm]; exact h)
    rw [e, fixedL_snoc, readL_snoc, readL_fixedL w _ h2]
theorem u64_i64 {n : Nat} (h : n < 18446744073709551616) : u64 (i64 n) = n := by
  unfold u64 i64
  split <;> omega
theorem byteI_toNat (x : UInt8) : byteI (x.toNat : Int) = x := by
  have := x.toNat_lt
  apply UInt8.toNat_inj.1
  unfold byteI
  rw [UInt8.toNat_ofNat']
  omega
theorem sub_add (l : List UInt8) (a m n : Nat) : sub l a (m + n) = sub l a m ++ sub l (a + m) n := by
  unfold sub
  rw [List.take_add, List.drop_drop]
theorem fixed_sub {l : List UInt8} {a w : Nat} (h : a + w ≤ l.length) : fixedL (readL (sub l a w)) w = sub l a w := fixedL_readL _ _ (sub_len h)
theorem sumL_lt32 (l : List UInt8) : sumL l < 4294967296 := by
  rw [sumL, sumN_reg]
  exact xor_lt32 (regN_lt l (by omega)) (by omega)
theorem readL_lt8 {l : List UInt8} {a : Nat} (h : a + 8 ≤ l.length) : readL (sub l a 8) < 18446744073709551616 := by
  have := readL_lt 8 (sub l a 8) (sub_len h)
  exact this
theorem readL_lt4 {l : List UInt8} {a : Nat} (h : a + 4 ≤ l.length) : readL (sub l a 4) < 4294967296 := by
  have := readL_lt 4 (sub l a 4) (sub_len h)
  exact this
theorem flat_sub {l : List UInt8} (h : shapeD l) : ∀ k, k ≤ manyN l → (pagesOf l k).flatMap (fun p => fixedL (u64 p.1) 4 ++ p.2) = sub l (32 + pageN l) (k * (4 + pageN l))
  | 0, _ => by simp [pagesOf, sub]
  | k + 1, hk => by
    have hle := atN_le h (i := k) (by omega)
    have h4 := readL_lt4 (l := l) (a := atN l k) (by omega)
    rw [pagesOf_succ, List.flatMap_append, flat_sub h k (by omega), Nat.succ_mul, sub_add, List.flatMap_cons, List.flatMap_nil, List.append_nil]
    congr 1
    show fixedL (u64 ((readL (sub l (atN l k) 4) : Nat) : Int)) 4 ++ sub l (atN l k + 4) (pageN l) = _
    rw [u64_nat (by omega), fixed_sub (by omega), ← sub_add]
    rfl
def frontD (l : List UInt8) : List UInt8 := [69, 83, 80, 68, l[4]?.getD 0, 0, 0, 0]
theorem bodyD_flds {l : List UInt8} (h : shapeD l) : bodyD (fldsD l) = frontD l ++ sub l 8 (l.length - 12) := by
  have h1 := h.1
  have h3 := h.2.2
  have hp := readL_lt4 (l := l) (a := 8) (by omega)
  have hm := readL_lt4 (l := l) (a := 28) (by omega)
  have e : l.length - 12 = 4 + (8 + (8 + (4 + (pageN l + manyN l * (4 + pageN l))))) := by omega
  have e1 : headD (fldsD l) = frontD l ++ (sub l 8 4 ++ (sub l 12 8 ++ (sub l 20 8 ++ (sub l 28 4 ++ sub l 32 (pageN l))))) := by
    show [69, 83, 80, 68, byteI ((l[4]?.getD 0).toNat : Int), 0, 0, 0] ++ fixedL (u64 (pageN l : Int)) 4 ++ fixedL (u64 (i64 (readL (sub l 12 8)))) 8 ++ fixedL (u64 (i64 (readL (sub l 20 8)))) 8 ++ fixedL (pagesOf l (manyN l)).length 4 ++ sub l 32 (pageN l) = _
    rw [byteI_toNat, pagesOf_len, u64_nat (by unfold pageN; omega), u64_i64 (readL_lt8 (by omega)), u64_i64 (readL_lt8 (by omega))]
    unfold pageN manyN
    rw [fixed_sub (by omega), fixed_sub (by omega), fixed_sub (by omega), fixed_sub (by omega)]
    unfold frontD
    simp only [List.append_assoc]
  show headD (fldsD l) ++ (pagesOf l (manyN l)).flatMap (fun p => fixedL (u64 p.1) 4 ++ p.2) = _
  rw [e1, flat_sub h _ (Nat.le_refl _), e, sub_add, sub_add, sub_add, sub_add, sub_add]
  simp only [List.append_assoc]
theorem take_front {l : List UInt8} (h : 36 ≤ l.length) : l.take (l.length - 4) = l.take 8 ++ sub l 8 (l.length - 12) := by
  have e : l.length - 4 = 8 + (l.length - 12) := by omega
  rw [e, List.take_add]
  rfl
theorem front_eq {l : List UInt8} (h : 36 ≤ l.length) : frontD l = l.take 8 ↔ l.take 4 = [69, 83, 80, 68] ∧ sub l 5 3 = [0, 0, 0] := by
  obtain ⟨a, b, c, d, e, f, g, k, r, rfl⟩ : ∃ a b c d e f g k r, l = a :: b :: c :: d :: e :: f :: g :: k :: r := by
    match l, h with
    | a :: b :: c :: d :: e :: f :: g :: k :: r, _ => exact ⟨_, _, _, _, _, _, _, _, _, rfl⟩
  simp [frontD, sub]
  constructor
  · rintro ⟨rfl, rfl, rfl, rfl, rfl, rfl, rfl⟩
    exact ⟨⟨rfl, rfl, rfl, rfl⟩, rfl, rfl, rfl⟩
  · rintro ⟨⟨rfl, rfl, rfl, rfl⟩, rfl, rfl, rfl⟩
    exact ⟨rfl, rfl, rfl, rfl, rfl, rfl, rfl⟩
theorem encD_iff {l : List UInt8} (h : shapeD l) : encD (fldsD l) = l ↔ l.take 4 = [69, 83, 80, 68] ∧ sub l 5 3 = [0, 0, 0] ∧ readL (sub l (l.length - 4) 4) = sumL (l.take (l.length - 4)) := by
  have h1 := h.1
  have hb := bodyD_flds h
  have hft : (frontD l).length = 8 := rfl
  have hbl : (bodyD (fldsD l)).length = l.length - 4 := by
    rw [hb, List.length_append, hft, sub_len (by omega)]
    omega
  have hl : l = l.take (l.length - 4) ++ sub l (l.length - 4) 4 := by
    have e : sub l (l.length - 4) 4 = l.drop (l.length - 4) := List.take_of_length_le (by simp; omega)
    rw [e, List.take_append_drop]
  have hs := sub_len (b := l) (at_ := l.length - 4) (w := 4) (by omega)
  have hf := front_eq h1
  constructor
  · intro e
    have e2 : bodyD (fldsD l) ++ fixedL (sumL (bodyD (fldsD l))) 4 = l.take (l.length - 4) ++ sub l (l.length - 4) 4 := e.trans hl
    obtain ⟨a1, a2⟩ := List.append_inj e2 (by rw [hbl]; simp)
    have a3 : frontD l = l.take 8 := by
      rw [hb, take_front h1] at a1
      exact List.append_inj_left a1 (by rw [hft]; simp; omega)
    refine ⟨(hf.1 a3).1, (hf.1 a3).2, ?_⟩
    rw [← a2, a1]
    exact readL_fixedL 4 _ (sumL_lt32 _)
  · rintro ⟨b1, b2, b3⟩
    have a1 : bodyD (fldsD l) = l.take (l.length - 4) := by rw [hb, take_front h1, hf.2 ⟨b1, b2⟩]
    show bodyD (fldsD l) ++ fixedL (sumL (bodyD (fldsD l))) 4 = l
    rw [a1, ← b3, fixed_sub (by omega)]
    exact hl.symm
end
end Go.Xq
namespace Go.Xq
noncomputable section
structure BackD (d : Dl) : Prop where
  shape : shapeD (encD d)
  flds : fldsD (encD d) = d
def xorL (l : List UInt8) (p : Nat) (t : List UInt8) : List UInt8 := l.mapIdx fun k x => if p ≤ k then x ^^^ (t[k - p]?.getD 0) else x
end
end Go.Xq
namespace Go.Xq
noncomputable section
section
variable {P : Program} {b : Frame} {n : Cx} {D : List ADf} {H : AH} {Q : Out → Prop}
theorem WPO.keep {ops : Array Oper} {r : List Oper} {l k : List (Nat × AV)} (h : WPO P b n ops r (tl l) D H Q) (hs : lsub l k) : WPO P b n ops r (tl k) D H Q := fun i hi => WP.keep (h i hi) hs
end
theorem WP.drawnK {P : Program} {E : Env} {b : Frame} {n : Cx} {T : Tr AV} {D : List ADf} {H : AH} {Q : Out → Prop} (hE : TyOk P E) (hX : ExtOk P E) (hm : P.follows .mixedOrders = true) {id : Nat} {ops : Array Oper} {ls : List DI} (hk : disOf E n.n ops.toList = some ls) {R : Rec} (hR : RecOk P R)
    (h : ∀ K : Tr AV → AH → Prop, (∀ T2 H2, Q (.nor T2 D H2) → K T2 H2) → DiRun R K ls T H [] (fun _ => True)) : WP P b n [.code (.region id ops true)] T D H Q :=
  (WD.drawnK hE hX hm hk hR h).wp
end
end Go.Xq
namespace Go.Xq
noncomputable section
section
variable {P : Program} {b : Frame} {n : Cx} {H : AH} {Q : Out → Prop}
end
end
end Go.Xq
