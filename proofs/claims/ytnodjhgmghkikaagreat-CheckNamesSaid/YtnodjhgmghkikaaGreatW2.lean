/- A part of the proof of this seat's statement. Conditions: in each theorem. -/
import Derived.Test.YtnodjhgmghkikaaGreatW1
namespace Go.Xq
theorem byteAt_eq (n i : Nat) : byteAt n i = n / 256 ^ i % 256 := by
  show (n >>> (8 * i)) % 256 = _
  rw [Nat.shiftRight_eq_div_pow, Nat.pow_mul]
theorem cutN_eq (n off len : Nat) : cutN n off len = n / 256 ^ off % 256 ^ len := by
  show (n >>> (8 * off)) % (1 <<< (8 * len)) = _
  rw [Nat.shiftRight_eq_div_pow, Nat.shiftLeft_eq, Nat.one_mul, Nat.pow_mul, Nat.pow_mul]
theorem overN_eq (n off len v : Nat) : overN n off len v = n % 256 ^ off + 256 ^ off * (v + 256 ^ len * (n / 256 ^ (off + len))) := by
  have hp : ∀ k, (2 : Nat) ^ (8 * k) = 256 ^ k := fun k => by rw [Nat.pow_mul]
  show n % (1 <<< (8 * off)) + v <<< (8 * off) + (n >>> (8 * (off + len))) <<< (8 * (off + len)) = _
  simp only [Nat.shiftRight_eq_div_pow, Nat.shiftLeft_eq, Nat.one_mul, hp]
  rw [Nat.mul_add, ← Nat.mul_assoc, ← Nat.pow_add, Nat.mul_comm v, Nat.mul_comm (n / _)]
  omega
theorem byteAt_lo (a x p j : Nat) (h : j < p) : byteAt (a + 256 ^ p * x) j = byteAt a j := by
  rw [byteAt_eq, byteAt_eq]
  obtain ⟨q, rfl⟩ : ∃ q, p = j + 1 + q := ⟨p - (j + 1), by omega⟩
  rw [Nat.pow_add, Nat.pow_succ, Nat.mul_assoc, Nat.mul_assoc, Nat.add_mul_div_left _ _ (Nat.pow_pos (by decide)), Nat.add_mul_mod_self_left]
theorem byteAt_hi (a x p j : Nat) (h : a < 256 ^ p) : byteAt (a + 256 ^ p * x) (p + j) = byteAt x j := by
  rw [byteAt_eq, byteAt_eq, Nat.pow_add, ← Nat.div_div_eq_div_mul, Nat.add_mul_div_left _ _ (Nat.pow_pos (by decide)), Nat.div_eq_of_lt h, Nat.zero_add]
theorem byteAt_mod (n p j : Nat) (h : j < p) : byteAt (n % 256 ^ p) j = byteAt n j := by
  conv => rhs; rw [← Nat.mod_add_div n (256 ^ p)]
  exact (byteAt_lo _ _ _ _ h).symm
theorem byteAt_div (n p j : Nat) : byteAt (n / 256 ^ p) j = byteAt n (p + j) := by
  conv => rhs; rw [← Nat.mod_add_div n (256 ^ p)]
  exact (byteAt_hi _ _ _ _ (Nat.mod_lt _ (Nat.pow_pos (by decide)))).symm
theorem byteAt_cut (n off len j : Nat) (h : j < len) : byteAt (cutN n off len) j = byteAt n (off + j) := by
  rw [cutN_eq, byteAt_mod _ _ _ h, byteAt_div]
theorem cutN_lt (n off len : Nat) : cutN n off len < 256 ^ len := by rw [cutN_eq]; exact Nat.mod_lt _ (Nat.pow_pos (by decide))
theorem byteAt_over (n off len v k : Nat) (hv : v < 256 ^ len) :
    byteAt (overN n off len v) k = if k < off then byteAt n k else if k < off + len then byteAt v (k - off) else byteAt n k := by
  rw [overN_eq]
  split
  · rename_i h; rw [byteAt_lo _ _ _ _ h, byteAt_mod _ _ _ h]
  · rename_i h
    obtain ⟨j, rfl⟩ : ∃ j, k = off + j := ⟨k - off, by omega⟩
    rw [byteAt_hi _ _ _ _ (Nat.mod_lt _ (Nat.pow_pos (by decide)))]
    split
    · rename_i h2; rw [byteAt_lo _ _ _ _ (by omega), Nat.add_sub_cancel_left]
    · rename_i h2
      obtain ⟨q, rfl⟩ : ∃ q, j = len + q := ⟨j - len, by omega⟩
      rw [byteAt_hi _ _ _ _ hv, byteAt_div, Nat.add_assoc]
theorem byteAt_lt (n i : Nat) : byteAt n i < 256 := by rw [byteAt_eq]; exact Nat.mod_lt _ (by decide)
theorem byteAt_zero (i : Nat) : byteAt 0 i = 0 := by simp [byteAt_eq]
def bytesN : Nat → Nat → List UInt8
  | 0, _ => []
  | len + 1, n => UInt8.ofNat (n % 256) :: bytesN len (n / 256)
theorem bytesN_length : ∀ len n, (bytesN len n).length = len
  | 0, _ => rfl
  | len + 1, n => by simp [bytesN, bytesN_length len]
theorem leNat_bytesN : ∀ len n, n < 256 ^ len → leNat (bytesN len n) = n
  | 0, n, h => by simp at h; simp [bytesN, leNat, h]
  | len + 1, n, h => by
    have h2 : n / 256 < 256 ^ len := by
      rw [Nat.div_lt_iff_lt_mul (by decide)]; rw [Nat.pow_succ] at h; exact h
    have h3 : (UInt8.ofNat (n % 256)).toNat = n % 256 := by simp
    show (UInt8.ofNat (n % 256)).toNat + 256 * leNat (bytesN len (n / 256)) = n
    rw [leNat_bytesN len _ h2, h3]; omega
theorem bytesN_leNat : ∀ l : List UInt8, bytesN l.length (leNat l) = l
  | [] => rfl
  | b :: r => by
    have hb := b.toNat_lt
    have e1 : leNat (b :: r) % 256 = b.toNat := by show (b.toNat + 256 * leNat r) % 256 = _; omega
    have e2 : leNat (b :: r) / 256 = leNat r := by show (b.toNat + 256 * leNat r) / 256 = _; omega
    simp only [List.length_cons, bytesN, e1, e2, bytesN_leNat r]
    congr 1
    exact UInt8.toNat_inj.1 (by simp)
theorem leNat_lt : ∀ l : List UInt8, leNat l < 256 ^ l.length
  | [] => by simp [leNat]
  | b :: r => by
    have := leNat_lt r
    have hb := b.toNat_lt
    show b.toNat + 256 * leNat r < _
    rw [List.length_cons, Nat.pow_succ]; omega
theorem leNat_inj {l k : List UInt8} (hl : l.length = k.length) (h : leNat l = leNat k) : l = k := by
  rw [← bytesN_leNat l, ← bytesN_leNat k, hl, h]
theorem byteAt_bytesN : ∀ (len n k : Nat), k < len → (bytesN len n)[k]? = some (UInt8.ofNat (byteAt n k))
  | 0, _, _, h => absurd h (by omega)
  | len + 1, n, 0, _ => by simp [bytesN, byteAt_eq]
  | len + 1, n, k + 1, h => by
    have := byteAt_bytesN len (n / 256) k (by omega)
    simp only [bytesN, List.getElem?_cons_succ, this]
    congr 2
    have e : n / 256 = n / 256 ^ 1 := by simp
    rw [e, byteAt_div, Nat.add_comm]
theorem byteAt_leNat {l : List UInt8} {k : Nat} {b : UInt8} (h : l[k]? = some b) : byteAt (leNat l) k = b.toNat := by
  have hk : k < l.length := by
    rcases Nat.lt_or_ge k l.length with h' | h'
    · exact h'
    · rw [List.getElem?_eq_none h'] at h; cases h
  have := byteAt_bytesN l.length (leNat l) k hk
  rw [bytesN_leNat, h] at this
  injection this with this
  rw [this]; simp [Nat.mod_eq_of_lt (byteAt_lt _ _)]
theorem bytesN_ext {len : Nat} {l : List UInt8} {n : Nat} (hl : l.length = len) (hn : ∀ k, k < len → ∃ b, l[k]? = some b ∧ b.toNat = byteAt n k) :
    l = bytesN len n := by
  apply List.ext_getElem?
  intro k
  rcases Nat.lt_or_ge k len with h | h
  · obtain ⟨b, h1, h2⟩ := hn k h
    rw [h1, byteAt_bytesN _ _ _ h]
    congr 1
    exact UInt8.toNat_inj.1 (by rw [h2]; simp [Nat.mod_eq_of_lt (byteAt_lt _ _)])
  · rw [List.getElem?_eq_none (by omega), List.getElem?_eq_none (by rw [bytesN_length]; omega)]
theorem leNat_append : ∀ l k : List UInt8, leNat (l ++ k) = leNat l + 256 ^ l.length * leNat k
  | [], k => by simp [leNat]
  | b :: r, k => by
    show b.toNat + 256 * leNat (r ++ k) = b.toNat + 256 * leNat r + 256 ^ (r.length + 1) * leNat k
    rw [leNat_append r k, Nat.pow_succ, Nat.mul_add, Nat.mul_comm (256 ^ r.length) 256, Nat.mul_assoc]; omega
theorem AH.get_set (h : AH) (b : Nat) (o : AObj) (b' : Nat) : (h.set b o).get b' = if b' = b then some o else h.get b' := by
  cases h with | mk nx t =>
  show Tr.get (bits b') (Tr.put (some o) (bits b) t) = _
  split
  · rename_i e; rw [e, Tr.get_put_same]
  · rename_i e; exact Tr.get_put_ne _ _ _ _ (bits_ne (Ne.symm e))
theorem AH.get_kill (h : AH) (b b' : Nat) : (h.kill b).get b' = if b' = b then none else h.get b' := by
  cases h with | mk nx t =>
  show Tr.get (bits b') (Tr.put none (bits b) t) = _
  split
  · rename_i e; rw [e, Tr.get_put_same]
  · rename_i e; exact Tr.get_put_ne _ _ _ _ (bits_ne (Ne.symm e))
theorem AH.get_new (h : AH) (o : AObj) (b' : Nat) : (h.new o).get b' = if b' = h.next then some o else h.get b' := by
  cases h with | mk nx t =>
  show Tr.get (bits b') (Tr.put (some o) (bits nx) t) = _
  split
  · rename_i e; rw [e, Tr.get_put_same]
  · rename_i e; exact Tr.get_put_ne _ _ _ _ (bits_ne (Ne.symm e))
@[simp] theorem AH.next_set (h : AH) (b : Nat) (o : AObj) : (h.set b o).next = h.next := by cases h; rfl
@[simp] theorem AH.next_kill (h : AH) (b : Nat) : (h.kill b).next = h.next := by cases h; rfl
@[simp] theorem AH.next_new (h : AH) (o : AObj) : (h.new o).next = h.next + 1 := by cases h; rfl
def FZ (fr : Nat × Nat) (n : Nat) : Prop := fr = (0, 0) ∨ fr = (n, n + 1)
inductive EntR (m : Ren) : MEnt → MapEntry → Prop
  | mk (e : MEnt) (f : MapEntry) (hk : VR m e.key f.key) (hv : VR m e.val f.val) (hb : e.born = f.born) : EntR m e f
inductive EntsR (m : Ren) : List MEnt → List MapEntry → Prop
  | nil : EntsR m [] []
  | cons (e f l k) (h : EntR m e f) (hl : EntsR m l k) : EntsR m (e :: l) (f :: k)
structure TR (n : Nat) (m : Ren) (T : Tr AV) (a : Array Value) : Prop where
  size : a.size = n
  at_ : ∀ t v, T.get (bits t) = some v → VR m v (a.getD t undef)
inductive OR (m : Ren) : Obj → AObj → BI → Prop
  | bys (c : Array Value) (fr : Nat × Nat) (e size : Nat) (opn : Bool) (n : Nat) (i : BI) (hc : c.size = i.sz) (he : i.es = 1) (hs : i.base + size ≤ i.sz) (hf : FZ fr i.sz)
      (h : ∀ k, k < size → c[i.base + k]? = some (.int .u8 (.ofNat (byteAt n k)))) : OR m (.cells c e fr) (.bys e size opn n) i
  | cs (c : Array Value) (fr : Nat × Nat) (e es size : Nat) (opn : Bool) (z : AV) (t : Tr AV) (i : BI) (hc : c.size = i.sz) (he : i.es = es) (hs : i.base + size ≤ i.sz) (hf : fr = (0, 0))
      (h : ∀ k v, rdCs es size z t k = some v → ∃ u, c[i.base + k]? = some u ∧ VR m v u) : OR m (.cells c e fr) (.cs e es size opn z t) i
  | ro (c : Array Value) (fr : Nat × Nat) (e : Nat) (f : Nat → Option AV) (i : BI) (h : ∀ k v, f k = some v → ∃ u, c[i.base + k]? = some u ∧ VR m v u) : OR m (.cells c e fr) (.ro (.cells c e fr) f) i
  | mp (en : Array MapEntry) (clock : Nat) (es : List MEnt) (i : BI) (h : EntsR m es en.toList) : OR m (.map en clock) (.mp es clock) i
  | mitN (since st : Nat) (seen : List Nat) (i : BI) (hb : i.base = 0) : OR m (.mapIter none since seen.reverse.toArray st) (.mit none since seen st) i
  | mitS (r since st : Nat) (seen : List Nat) (i j : BI) (h : m r = some j) (hb : i.base = 0) : OR m (.mapIter (some j.blk) since seen.reverse.toArray st) (.mit (some r) since seen st) i
  | dfrT (i : BI) : OR m (.deferred (some [])) (.dfr true) i
  | dfrF (i : BI) : OR m (.deferred none) (.dfr false) i
  | loop (q : ALoop) (tmps : Array Value) (j i : BI) (ht : TR q.ntmps m q.tmps tmps) (hj : m q.defers = some j) :
      OR m (.loop { state := q.state, pending := q.pending, fn := q.fn, tmps, params := q.params.toArray, assign := q.assign, body := q.body, defers := j.blk }) (.loop q) i
section
variable {m m2 : Ren}
theorem EntR.mono (hm : Le m m2) {e f} (h : EntR m e f) : EntR m2 e f := by
  cases h with | mk hk hv hb => exact .mk _ _ (hk.mono hm) (hv.mono hm) hb
theorem EntsR.mono (hm : Le m m2) : ∀ {l k}, EntsR m l k → EntsR m2 l k
  | _, _, .nil => .nil
  | _, _, .cons e f l k h hl => .cons e f l k (h.mono hm) (hl.mono hm)
theorem TR.mono (hm : Le m m2) {n T a} (h : TR n m T a) : TR n m2 T a := ⟨h.size, fun t v hv => (h.at_ t v hv).mono hm⟩
theorem OR.mono (hm : Le m m2) {x o i} (h : OR m x o i) : OR m2 x o i := by
  cases h with
  | bys c fr e size opn n i hc he hs hf h => exact .bys c fr e size opn n i hc he hs hf h
  | cs c fr e es size opn z t i hc he hs hf h =>
    exact .cs c fr e es size opn z t i hc he hs hf fun k v hk => let ⟨u, h1, h2⟩ := h k v hk; ⟨u, h1, h2.mono hm⟩
  | ro c fr e f i h => exact .ro c fr e f i fun k v hk => let ⟨u, h1, h2⟩ := h k v hk; ⟨u, h1, h2.mono hm⟩
  | mp en clock es i h => exact .mp en clock es i (h.mono hm)
  | mitN since st seen i hb => exact .mitN since st seen i hb
  | mitS r since st seen i j h hb => exact .mitS r since st seen i j (hm _ _ h) hb
  | dfrT i => exact .dfrT i
  | dfrF i => exact .dfrF i
  | loop q tmps j i ht hj => exact .loop q tmps j i (ht.mono hm) (hm _ _ hj)
end
structure Rel (m : Ren) (H : AH) (w : World) : Prop where
  live : ∀ b o, H.get b = some o → ∀ i, m b = some i → ∃ x, w.heap[i.blk]? = some x ∧ OR m x o i
  inj : ∀ b b' o o' i i', H.get b = some o → H.get b' = some o' → m b = some i → m b' = some i' → i.blk = i'.blk → b = b'
  bnd : ∀ b i, m b = some i → b < H.next ∧ i.blk < w.heap.size
  glob : ∀ g, g < ngl → ∃ i, m g = some i ∧ i.blk = g ∧ i.base = 0
def Ext (n : Nat) (m m2 : Ren) : Prop := ∀ b, b < n → m2 b = m b
theorem Ext.refl (n : Nat) (m : Ren) : Ext n m m := fun _ _ => rfl
theorem Ext.trans {n n2 : Nat} {m m1 m2 : Ren} (h : Ext n m m1) (h2 : Ext n2 m1 m2) (hn : n ≤ n2) : Ext n m m2 :=
  fun b hb => by rw [h2 b (by omega), h b hb]
section
variable {m m2 : Ren} {H : AH} {w w2 : World}
theorem Rel.le (h : Rel m H w) (he : Ext H.next m m2) : Le m m2 := fun b i hi => by rw [he b (h.bnd b i hi).1, hi]
theorem Rel.world (h : Rel m H w) (hw : w2.heap = w.heap) : Rel m H w2 :=
  ⟨fun b o hb i hi => by rw [hw]; exact h.live b o hb i hi, h.inj, fun b i hi => by rw [hw]; exact h.bnd b i hi, h.glob⟩
theorem Rel.upd (h : Rel m H w) {b : Nat} {o o2 : AObj} {i : BI} {x2 : Obj} (hb : H.get b = some o) (hi : m b = some i)
    (ho : OR m x2 o2 i) (hw : w2.heap = w.heap.setIfInBounds i.blk x2) : Rel m (H.set b o2) w2 := by
  have hlt : i.blk < w.heap.size := (h.bnd b i hi).2
  constructor
  · intro b' o' hb' i' hi'
    rw [AH.get_set] at hb'
    split at hb'
    · rename_i e; subst e; cases hb'; rw [hi] at hi'; cases hi'
      exact ⟨x2, by rw [hw]; simp [hlt], ho⟩
    · rename_i e
      obtain ⟨y, hy, hor⟩ := h.live b' o' hb' i' hi'
      refine ⟨y, ?_, hor⟩
      rw [hw, Array.getElem?_setIfInBounds_ne]
      · exact hy
      · intro e2; exact e (h.inj _ _ _ _ _ _ hb' hb hi' hi e2.symm)
  · intro b1 b2 o1 o2' i1 i2 h1 h2 hm1 hm2 e
    rw [AH.get_set] at h1 h2
    have key : ∀ b1 o1, (if b1 = b then some o2 else H.get b1) = some o1 → ∃ o, H.get b1 = some o := by
      intro b1 o1 h1
      split at h1
      · rename_i e; exact ⟨o, e ▸ hb⟩
      · exact ⟨_, h1⟩
    obtain ⟨p1, q1⟩ := key _ _ h1
    obtain ⟨p2, q2⟩ := key _ _ h2
    exact h.inj _ _ _ _ _ _ q1 q2 hm1 hm2 e
  · intro b' i' hi'
    rw [AH.next_set, hw, Array.size_setIfInBounds]
    exact h.bnd b' i' hi'
  · exact h.glob
theorem Rel.kill (h : Rel m H w) (b : Nat) : Rel m (H.kill b) w := by
  have key : ∀ b1 o1, (H.kill b).get b1 = some o1 → H.get b1 = some o1 := by
    intro b1 o1 h1; rw [AH.get_kill] at h1; split at h1
    · cases h1
    · exact h1
  exact ⟨fun b' o hb i hi => h.live b' o (key _ _ hb) i hi, fun b1 b2 o1 o2 i1 i2 h1 h2 => h.inj b1 b2 o1 o2 i1 i2 (key _ _ h1) (key _ _ h2),
    fun b' i hi => by rw [AH.next_kill]; exact h.bnd b' i hi, h.glob⟩
def Ren.ext (m : Ren) (n : Nat) (i : BI) : Ren := fun b => if b = n then some i else m b
theorem Ren.ext_same (m : Ren) (n : Nat) (i : BI) : m.ext n i n = some i := by simp [Ren.ext]
theorem Ren.ext_ne (m : Ren) {n b : Nat} (i : BI) (h : b ≠ n) : m.ext n i b = m b := by simp [Ren.ext, h]
theorem Ext.ext (m : Ren) (n : Nat) (i : BI) : Ext n m (m.ext n i) := fun b hb => Ren.ext_ne m i (by omega)
theorem Rel.new (h : Rel m H w) {o : AObj} {x : Obj} {i : BI} (hi : i.blk = w.heap.size) (hw : w2.heap = w.heap.push x) (ho : OR (m.ext H.next i) x o i) :
    Rel (m.ext H.next i) (H.new o) w2 := by
  have hle : Le m (m.ext H.next i) := h.le (Ext.ext _ _ _)
  constructor
  · intro b' o' hb' i' hi'
    rw [AH.get_new] at hb'
    split at hb'
    · rename_i e; subst e; cases hb'; rw [Ren.ext_same] at hi'; cases hi'
      exact ⟨x, by rw [hw, hi]; simp, ho⟩
    · rename_i e
      rw [Ren.ext_ne _ _ e] at hi'
      obtain ⟨y, hy, hor⟩ := h.live b' o' hb' i' hi'
      refine ⟨y, ?_, hor.mono hle⟩
      have := (h.bnd _ _ hi').2
      rw [hw, Array.getElem?_push, if_neg (by omega)]; exact hy
  · intro b1 b2 o1 o2' i1 i2 h1 h2 hm1 hm2 e
    rw [AH.get_new] at h1 h2
    by_cases e1 : b1 = H.next <;> by_cases e2 : b2 = H.next
    · rw [e1, e2]
    · subst e1; rw [Ren.ext_same] at hm1; cases hm1; rw [Ren.ext_ne _ _ e2] at hm2
      have := (h.bnd _ _ hm2).2; omega
    · subst e2; rw [Ren.ext_same] at hm2; cases hm2; rw [Ren.ext_ne _ _ e1] at hm1
      have := (h.bnd _ _ hm1).2; omega
    · rw [if_neg e1] at h1; rw [if_neg e2] at h2; rw [Ren.ext_ne _ _ e1] at hm1; rw [Ren.ext_ne _ _ e2] at hm2
      exact h.inj _ _ _ _ _ _ h1 h2 hm1 hm2 e
  · intro b' i' hi'
    rw [AH.next_new, hw, Array.size_push]
    by_cases e : b' = H.next
    · subst e; rw [Ren.ext_same] at hi'; cases hi'; omega
    · rw [Ren.ext_ne _ _ e] at hi'; have := h.bnd _ _ hi'; omega
  · intro g hg
    obtain ⟨j, h1, h2, h3⟩ := h.glob g hg
    have := (h.bnd _ _ h1).1
    exact ⟨j, by rw [Ren.ext_ne _ _ (by omega)]; exact h1, h2, h3⟩
theorem Rel.moved (h : Rel m H w) {b : Nat} {o o2 : AObj} {i i2 : BI} {x2 : Obj} (hb : H.get b = some o) (hi : m b = some i) (hi2 : i2.blk = i.blk)
    (hw : w2.heap = w.heap.setIfInBounds i.blk x2) (ho : OR (m.ext H.next i2) x2 o2 i2) : Rel (m.ext H.next i2) ((H.kill b).new o2) w2 := by
  have hle : Le m (m.ext H.next i2) := h.le (Ext.ext _ _ _)
  have hlt : i.blk < w.heap.size := (h.bnd b i hi).2
  have hn : (H.kill b).next = H.next := AH.next_kill _ _
  have key : ∀ b1 o1, (H.kill b).get b1 = some o1 → b1 ≠ b ∧ H.get b1 = some o1 := by
    intro b1 o1 h1; rw [AH.get_kill] at h1; split at h1
    · cases h1
    · rename_i e; exact ⟨e, h1⟩
  constructor
  · intro b' o' hb' i' hi'
    rw [AH.get_new, hn] at hb'
    split at hb'
    · rename_i e; subst e; cases hb'; rw [Ren.ext_same] at hi'; cases hi'
      exact ⟨x2, by rw [hw, hi2]; simp [hlt], ho⟩
    · rename_i e
      rw [Ren.ext_ne _ _ e] at hi'
      obtain ⟨hne, hb'⟩ := key _ _ hb'
      obtain ⟨y, hy, hor⟩ := h.live b' o' hb' i' hi'
      refine ⟨y, ?_, hor.mono hle⟩
      rw [hw, Array.getElem?_setIfInBounds_ne]
      · exact hy
      · intro e2; exact hne (h.inj _ _ _ _ _ _ hb' hb hi' hi e2.symm)
  · intro b1 b2 o1 o2' i1 i2' h1 h2 hm1 hm2 e
    rw [AH.get_new, hn] at h1 h2
    by_cases e1 : b1 = H.next <;> by_cases e2 : b2 = H.next
    · rw [e1, e2]
    · subst e1; rw [Ren.ext_same] at hm1; cases hm1; rw [Ren.ext_ne _ _ e2] at hm2; rw [if_neg e2] at h2
      obtain ⟨hne, h2⟩ := key _ _ h2
      exact absurd (h.inj _ _ _ _ _ _ h2 hb hm2 hi (by omega)) hne
    · subst e2; rw [Ren.ext_same] at hm2; cases hm2; rw [Ren.ext_ne _ _ e1] at hm1; rw [if_neg e1] at h1
      obtain ⟨hne, h1⟩ := key _ _ h1
      exact absurd (h.inj _ _ _ _ _ _ h1 hb hm1 hi (by omega)) hne
    · rw [if_neg e1] at h1; rw [if_neg e2] at h2; rw [Ren.ext_ne _ _ e1] at hm1; rw [Ren.ext_ne _ _ e2] at hm2
      exact h.inj _ _ _ _ _ _ (key _ _ h1).2 (key _ _ h2).2 hm1 hm2 e
  · intro b' i' hi'
    rw [AH.next_new, hn, hw, Array.size_setIfInBounds]
    by_cases e : b' = H.next
    · subst e; rw [Ren.ext_same] at hi'; cases hi'; omega
    · rw [Ren.ext_ne _ _ e] at hi'; have := h.bnd _ _ hi'; omega
  · intro g hg
    obtain ⟨j, h1, h2, h3⟩ := h.glob g hg
    have := (h.bnd _ _ h1).1
    exact ⟨j, by rw [Ren.ext_ne _ _ (by omega)]; exact h1, h2, h3⟩
end
theorem add_mk (b o n : Nat) : (⟨b, o, none⟩ : Addr).add n = ⟨b, o + n, none⟩ := by
  unfold Addr.add; split
  · rename_i h; subst h; rfl
  · rfl
section
variable {P : Program} {w : World}
theorem cell_of {b o : Nat} {c : Array Value} {e fr} (h : w.heap[b]? = some (.cells c e fr)) : w.cell? ⟨b, o, none⟩ = c[o]? := by
  simp [World.cell?, h]
theorem run_load_cell {a : Addr} {v : Value} (h : w.cell? a = some v) : (load a).run P w = .ok v w := by simp [h]
theorem run_loadFrom (b o : Nat) : ∀ (vs : List Value) (i : Nat) (acc : Array Value), (∀ k v, vs[k]? = some v → w.cell? ⟨b, o + i + k, none⟩ = some v) →
    (loadCellsFrom ⟨b, o, none⟩ i vs.length acc).run P w = .ok (acc ++ vs.toArray) w
  | [], i, acc, _ => by simp [loadCellsFrom]
  | v :: vs, i, acc, h => by
    have h0 : w.cell? ⟨b, o + i, none⟩ = some v := h 0 v rfl
    have ih := run_loadFrom b o vs (i + 1) (acc.push v) (fun k u hk => by
      have := h (k + 1) u (by simpa using hk)
      rw [show o + (i + 1) + k = o + i + (k + 1) from by omega]; exact this)
    simp only [List.length_cons, loadCellsFrom, Sem.run_bind, add_mk, run_load_cell h0, Result.andThen, ih]
    congr 1
    simp
theorem run_loadCells {b o : Nat} {vs : List Value} (h : ∀ k v, vs[k]? = some v → w.cell? ⟨b, o + k, none⟩ = some v) :
    (loadCells ⟨b, o, none⟩ vs.length).run P w = .ok vs.toArray w := by
  have := run_loadFrom (P := P) b o vs 0 #[] (fun k v hk => h k v hk)
  simpa [loadCells] using this
def spl : Array Value → Nat → List Value → Array Value
  | c, _, [] => c
  | c, o, v :: vs => spl (c.setIfInBounds o v) (o + 1) vs
theorem spl_size : ∀ (vs : List Value) (c : Array Value) (o : Nat), (spl c o vs).size = c.size
  | [], _, _ => rfl
  | v :: vs, c, o => by simp [spl, spl_size vs]
theorem spl_get : ∀ (vs : List Value) (c : Array Value) (o k : Nat), o + vs.length ≤ c.size →
    (spl c o vs)[k]? = if o ≤ k ∧ k < o + vs.length then vs[k - o]? else c[k]?
  | [], c, o, k, _ => by
    rw [if_neg (by simp only [List.length_nil]; omega)]; rfl
  | v :: vs, c, o, k, h => by
    have h1 : o + 1 + vs.length ≤ (c.setIfInBounds o v).size := by simp at h ⊢; omega
    rw [spl, spl_get vs _ _ _ h1]
    simp only [List.length_cons] at h ⊢
    by_cases e : k = o
    · subst e
      rw [if_neg (by omega), if_pos (by omega)]
      simp [show k < c.size by omega]
    · by_cases hin : o + 1 ≤ k ∧ k < o + 1 + vs.length
      · rw [if_pos hin, if_pos (by omega)]
        obtain ⟨j, rfl⟩ : ∃ j, k = o + 1 + j := ⟨k - (o + 1), by omega⟩
        rw [show o + 1 + j - o = j + 1 from by omega, show o + 1 + j - (o + 1) = j from by omega]
        rfl
      · rw [if_neg hin, if_neg (by omega), Array.getElem?_setIfInBounds_ne (Ne.symm e)]
theorem setCell_heap {b o : Nat} {v : Value} {c : Array Value} {e : TypeId} {fr : Nat × Nat} (h : w.heap[b]? = some (.cells c e fr)) :
    (w.setCell ⟨b, o, none⟩ v).heap = w.heap.setIfInBounds b (.cells (c.setIfInBounds o v) e fr) := by
  have hlt : b < w.heap.size := by
    rcases Nat.lt_or_ge b w.heap.size with h' | h'
    · exact h'
    · rw [Array.getElem?_eq_none h'] at h; cases h
  have hb : w.heap[b] = .cells c e fr := by rw [Array.getElem?_eq_getElem hlt] at h; exact Option.some.inj h
  apply Array.ext_getElem?
  intro k
  simp only [World.setCell, Array.getElem?_modify, Array.getElem?_setIfInBounds]
  by_cases hk : b = k
  · subst hk; simp [hlt, hb]
  · simp [hk]
theorem FZ.free {fr : Nat × Nat} {n k : Nat} (h : FZ fr n) (hk : k < n) : (decide (fr.1 ≤ k) && decide (k < fr.2)) = false := by
  rcases h with h | h
  · subst h; simp
  · subst h
    have : ¬ n ≤ k := by omega
    simp [this]
theorem run_store_cell {b o : Nat} {v u : Value} {c : Array Value} {e : TypeId} {fr : Nat × Nat} (h : w.heap[b]? = some (.cells c e fr)) (hc : c[o]? = some u) (hv : v.oneCell' = true)
    (hf : FZ fr c.size) : (store ⟨b, o, none⟩ v).run P w = .ok () { w with heap := w.heap.setIfInBounds b (.cells (c.setIfInBounds o v) e fr) } := by
  have hlt : o < c.size := by
    rcases Nat.lt_or_ge o c.size with h' | h'
    · exact h'
    · rw [Array.getElem?_eq_none h'] at hc; cases hc
  have hfr : w.frozen? ⟨b, o, none⟩ = false := by
    simp only [World.frozen?, h]
    obtain ⟨lo, hi⟩ := fr
    exact hf.free hlt
  rw [run_store P w _ _ _ hv, cell_of h, hc]
  simp only [hfr]
  have := setCell_heap (o := o) (v := v) h
  simp only [Bool.false_eq_true, if_false]
  congr 1
  show ({ w with heap := (w.setCell ⟨b, o, none⟩ v).heap } : World) = _
  rw [this]
theorem run_storeCells {b o : Nat} {e : TypeId} {fr : Nat × Nat} : ∀ (vs : List Value) (i : Nat) (c : Array Value) (w : World), w.heap[b]? = some (.cells c e fr) → (∀ v ∈ vs, v.oneCell' = true) →
    FZ fr c.size → o + i + vs.length ≤ c.size → (storeCells ⟨b, o, none⟩ vs i).run P w = .ok () { w with heap := w.heap.setIfInBounds b (.cells (spl c (o + i) vs) e fr) }
  | [], i, c, w, h, _, _, _ => by
    simp only [storeCells, Sem.run_pure, spl]
    congr 1
    have : w.heap.setIfInBounds b (.cells c e fr) = w.heap := by
      apply Array.ext_getElem?
      intro k
      rw [Array.getElem?_setIfInBounds]
      split
      · rename_i hk; subst hk; split
        · exact h.symm
        · rename_i h2; rw [Array.getElem?_eq_none (by omega)]
      · rfl
    rw [this]
  | v :: vs, i, c, w, h, hv, hf, hs => by
    simp only [List.length_cons] at hs
    have hlt : o + i < c.size := by omega
    have hb : b < w.heap.size := by
      rcases Nat.lt_or_ge b w.heap.size with h' | h'
      · exact h'
      · rw [Array.getElem?_eq_none h'] at h; cases h
    have h1 := run_store_cell (P := P) (v := v) (o := o + i) h (Array.getElem?_eq_getElem hlt) (hv v (by simp)) hf
    have ih := run_storeCells (b := b) (o := o) (e := e) (fr := fr) vs (i + 1) (c.setIfInBounds (o + i) v) { w with heap := w.heap.setIfInBounds b (.cells (c.setIfInBounds (o + i) v) e fr) }
      (by simp [hb]) (fun u hu => hv u (by simp [hu])) (by simpa using hf) (by simp; omega)
    simp only [storeCells, Sem.run_bind, add_mk, h1, Result.andThen, ih, spl]
    congr 1
    simp [Array.setIfInBounds_setIfInBounds, Nat.add_assoc]
end
section
variable {m : Ren} {H : AH} {w : World}
theorem OR.rd {x : Obj} {o : AObj} {i : BI} {k : Nat} {v : AV} (h : OR m x o i) (hr : rdCell o k = some v) :
    ∃ c e fr u, x = .cells c e fr ∧ c[i.base + k]? = some u ∧ VR m v u := by
  cases h with
  | bys c fr e size opn n i hc he hs hf h =>
    simp only [rdCell, onObj3, rdBy, bt_some] at hr
    obtain ⟨h1, h2⟩ := hr
    cases h2
    exact ⟨c, e, fr, _, rfl, h k (by simpa [Nat.blt_eq] using h1), .int _ _⟩
  | ro c fr e f i h =>
    obtain ⟨u, h1, h2⟩ := h k v hr
    exact ⟨c, e, fr, u, rfl, h1, h2⟩
  | cs c fr e es size opn z t i hc he hs hf h =>
    obtain ⟨u, h1, h2⟩ := h k v hr
    exact ⟨c, e, fr, u, rfl, h1, h2⟩
  | _ => simp [rdCell, onObj3] at hr
theorem Rel.rd (h : Rel m H w) {b : Nat} {o : AObj} {i : BI} {k : Nat} {v : AV} (hb : H.get b = some o) (hi : m b = some i) (hr : rdCell o k = some v) :
    ∃ u, w.cell? ⟨i.blk, i.base + k, none⟩ = some u ∧ VR m v u := by
  obtain ⟨x, hx, hor⟩ := h.live b o hb i hi
  obtain ⟨c, e, fr, u, rfl, h1, h2⟩ := hor.rd hr
  exact ⟨u, by rw [cell_of hx]; exact h1, h2⟩
theorem Rel.rds (h : Rel m H w) {b : Nat} {o : AObj} {i : BI} (hb : H.get b = some o) (hi : m b = some i) : ∀ (n k : Nat) (l : AV), rdCells o n k = some l →
    ∃ vs, vs.length = n ∧ VL m l vs ∧ ∀ j u, vs[j]? = some u → w.cell? ⟨i.blk, i.base + k + j, none⟩ = some u
  | 0, k, l, hr => by
    simp [rdCells] at hr; subst hr; exact ⟨[], rfl, .nil, fun j u hu => by simp at hu⟩
  | n + 1, k, l, hr => by
    simp only [rdCells, ob_some] at hr
    obtain ⟨v, h1, l', h2, h3⟩ := hr
    cases h3
    obtain ⟨u, hu, hv⟩ := h.rd hb hi h1
    obtain ⟨vs, hl, hvl, hall⟩ := h.rds hb hi n (k + 1) l' h2
    refine ⟨u :: vs, by simp [hl], .cons _ _ _ _ hv hvl, ?_⟩
    intro j y hy
    cases j with
    | zero => simp at hy; subst hy; exact hu
    | succ j => simp at hy; have := hall j y hy; rw [show i.base + k + (j + 1) = i.base + (k + 1) + j from by omega]; exact this
theorem isCell_one {v : AV} {u : Value} (h : VR m v u) (hc : isCell v = true) : u.oneCell' = true := by
  cases h <;> first | rfl | (simp [isCell] at hc; done)
theorem OR.wr {x : Obj} {o o2 : AObj} {i : BI} {k : Nat} {v : AV} {u : Value} (h : OR m x o i) (hr : wrCell o k v = some o2) (hv : VR m v u) :
    ∃ c e fr, x = .cells c e fr ∧ FZ fr c.size ∧ u.oneCell' = true ∧ i.base + k < c.size ∧ OR m (.cells (c.setIfInBounds (i.base + k) u) e fr) o2 i := by
  cases h with
  | bys c fr e size opn n i hc he hs hf h =>
    simp only [wrCell, onObj, wrBy, onInt_some, bt_some] at hr
    obtain ⟨kk, xx, rfl, hk, hr⟩ := hr
    have hk : kk = .u8 := by cases kk <;> simp [kIx, kc] at hk; rfl
    subst hk
    cases xx with
    | negSucc y => simp at hr
    | ofNat y =>
      simp only [ic_ofNat, bt_some, Nat.blt_eq] at hr
      obtain ⟨h1, h2, h3⟩ := hr
      cases h3
      cases hv
      refine ⟨c, e, fr, rfl, hc ▸ hf, rfl, by omega, .bys _ _ _ _ _ _ _ (by simpa using hc) he hs hf ?_⟩
      intro j hj
      rw [byteAt_over _ _ _ _ _ (by simpa using h2)]
      by_cases e1 : j = k
      · subst e1
        rw [if_neg (by omega), if_pos (by omega), Nat.sub_self]
        have : byteAt y 0 = y := by rw [byteAt_eq]; simp; omega
        rw [this, Array.getElem?_setIfInBounds_self_of_lt (by omega)]
      · have e2 : byteAt n j = if j < k then byteAt n j else if j < k + 1 then byteAt y (j - k) else byteAt n j := by
          split
          · rfl
          · rw [if_neg (by omega)]
        rw [← e2, Array.getElem?_setIfInBounds_ne (by omega)]
        exact h j hj
  | cs c fr e es size opn z t i hc he hs hf h =>
    simp only [wrCell, onObj, bt_some, Nat.blt_eq] at hr
    obtain ⟨h1, h2, h3⟩ := hr
    cases h3
    subst hf
    refine ⟨c, e, (0, 0), rfl, .inl rfl, isCell_one hv h2, by omega, .cs _ _ _ _ _ _ _ _ _ (by simpa using hc) he hs rfl ?_⟩
    intro j a ha
    simp only [rdCs, bt_some, Nat.blt_eq] at ha
    obtain ⟨hj, ha⟩ := ha
    by_cases e1 : j = k
    · subst e1
      rw [Tr.get_put_same] at ha
      cases ha
      exact ⟨u, Array.getElem?_setIfInBounds_self_of_lt (by omega), hv⟩
    · rw [Tr.get_put_ne _ _ _ _ (bits_ne (Ne.symm e1))] at ha
      rw [Array.getElem?_setIfInBounds_ne (by omega)]
      exact h j a (by simp only [rdCs, bt_some, Nat.blt_eq]; exact ⟨hj, ha⟩)
  | _ => simp [wrCell, onObj] at hr
theorem OR.wrs {i : BI} : ∀ {l : AV} {vs : List Value} {c : Array Value} {e : TypeId} {fr : Nat × Nat} {o o2 : AObj} {k : Nat}, VL m l vs → OR m (.cells c e fr) o i → wrCells l o k = some o2 →
    (∀ v ∈ vs, v.oneCell' = true) ∧ (vs ≠ [] → FZ fr c.size) ∧ (vs ≠ [] → i.base + k + vs.length ≤ c.size) ∧ OR m (.cells (spl c (i.base + k) vs) e fr) o2 i
  | _, _, c, e, fr, o, o2, k, .nil, ho, hr => by
    simp [wrCells] at hr; subst hr
    exact ⟨by simp, by simp, by simp, ho⟩
  | _, _, c, e, fr, o, o2, k, .cons a v l vs hv hl, ho, hr => by
    simp only [wrCells, ob_some] at hr
    obtain ⟨o1, h1, h2⟩ := hr
    obtain ⟨c', e', fr', hx, hf, hone, hlt, hor⟩ := ho.wr h1 hv
    cases hx
    obtain ⟨g1, g2, g3, g4⟩ := OR.wrs hl hor h2
    refine ⟨?_, fun _ => hf, fun _ => ?_, ?_⟩
    · intro u hu; rcases List.mem_cons.1 hu with rfl | hu
      · exact hone
      · exact g1 u hu
    · cases vs with
      | nil => simp; omega
      | cons y ys => have := g3 (by simp); simp at this ⊢; omega
    · exact g4
end
end Go.Xq
namespace Go.Xq
structure TyOk (P : Program) (E : Env) : Prop where
  ty : ∀ t ti, tyOf E t = some ti → mkTI P t = some ti
theorem tyOk_of (P : Program) (dt df : Nat) (s e) {u : Nat → Bool} : TyOk P (Env.of P dt df s e u) :=
  ⟨fun t ti h => by
    have h1 : Tr.get (bits t) (Tr.tab dt (mkTI P)) = some ti := h
    have := Tr.get_tab _ _ _ _ h1
    rwa [dec_bits] at this⟩
theorem ofA_ok {m : Ren} {v : Value} {a : AV} (h : ofA v = some a) : VR m a v := by
  cases v with
  | bool b => cases h; exact .bool b
  | int k n => cases h; exact .int k n
  | string s => cases h; exact .str s
  | pointer a => cases a with
    | none => cases h; exact .pnil
    | some a => cases h
  | slice a l c => cases a with
    | none => cases l with
      | zero => cases c with
        | zero => cases h; exact .snil
        | succ n => cases h
      | succ n => cases h
    | some a => cases h
  | map r => cases r with
    | none => cases h; exact .mnil
    | some r => cases h
  | nilFunc => cases h; exact .fnil
  | nilIface => cases h; exact .inil
  | _ => cases h
theorem ofL_ok {m : Ren} : ∀ {vs : List Value} {a : AV}, ofL vs = some a → VL m a vs
  | [], a, h => by cases h; exact .nil
  | v :: vs, a, h => by
    simp only [ofL, ob_some] at h
    obtain ⟨x, h1, l, h2, h3⟩ := h
    cases h3
    exact .cons _ _ _ _ (ofA_ok h1) (ofL_ok h2)
theorem ofV_ok {m : Ren} {v : Value} {a : AV} (h : ofV v = some a) : VR m a v := by
  unfold ofV at h
  split at h
  · rename_i cs
    simp only [ob_some] at h
    obtain ⟨l, h1, h2⟩ := h
    cases h2
    exact .agg l cs.toList (ofL_ok h1)
  · exact ofA_ok h
theorem ofA_notup {v : Value} {a : AV} (h : ofA v = some a) : ∀ l, a ≠ .tup l := by
  intro l e; subst e
  cases v with
  | pointer a => cases a <;> cases h
  | slice a l c => cases a <;> cases l <;> cases c <;> cases h
  | map r => cases r <;> cases h
  | _ => cases h
theorem ofV_notup {v : Value} {a : AV} (h : ofV v = some a) : ∀ l, a ≠ .tup l := by
  unfold ofV at h
  split at h
  · intro l
    simp only [ob_some] at h
    obtain ⟨k, _, h2⟩ := h
    cases h2
    exact fun e => by cases e
  · exact ofA_notup h
section
variable {P : Program} {E : Env} (hE : TyOk P E) {w : World} {t : Nat} {ti : TI}
include hE
theorem run_underlying (h : tyOf E t = some ti) : (underlying t).run P w = .ok ti.d w := by
  have := hE.ty t ti h
  unfold mkTI at this
  split at this
  · rename_i d i h1 h2; cases this; simp [underlying, h1]
  · cases this
theorem info_of (h : tyOf E t = some ti) : ∃ i, P.info? t = some i ∧ i.size = ti.size ∧ i.bytes = ti.bytes ∧ ti.zero = ob i.zero ofV ∧ i.methods = ti.methods := by
  have := hE.ty t ti h
  unfold mkTI at this
  split at this
  · rename_i d i h1 h2; cases this; exact ⟨i, h2, rfl, rfl, rfl, rfl⟩
  · cases this
theorem plain_of (h : tyOf E t = some ti) (hp : ti.plainEq = true) : P.stoodInHeld t = false ∧ P.eqGuardType P.depth t = false := by
  have := hE.ty t ti h
  unfold mkTI at this
  split at this
  · rename_i d i h1 h2; cases this; simpa using hp
  · cases this
theorem under_of (h : tyOf E t = some ti) : P.underlying t = some ti.d := by
  have := hE.ty t ti h
  unfold mkTI at this
  split at this
  · rename_i d i h1 h2; cases this; exact h1
  · cases this
theorem run_typeInfo (h : tyOf E t = some ti) : ∃ i, (typeInfo t).run P w = .ok i w ∧ i.size = ti.size ∧ i.bytes = ti.bytes ∧ ti.zero = ob i.zero ofV ∧ i.methods = ti.methods := by
  obtain ⟨i, h1, h2⟩ := info_of hE h
  exact ⟨i, by simp [typeInfo, h1], h2⟩
theorem run_sizeOf (h : tyOf E t = some ti) : (sizeOf t).run P w = .ok ti.size w := by
  obtain ⟨i, h1, h2, _⟩ := run_typeInfo (w := w) hE h
  simp [sizeOf, h1, Result.andThen, h2]
theorem run_zeroValue {z : AV} (h : tyOf E t = some ti) (hz : ti.zero = some z) : ∃ v, (zeroValue t).run P w = .ok v w ∧ (∀ m, VR m z v) ∧ ∀ l, z ≠ .tup l := by
  obtain ⟨i, h1, _, _, h4, _⟩ := run_typeInfo (w := w) hE h
  rw [h4] at hz
  obtain ⟨v, h5, h6⟩ := ob_some.1 hz
  exact ⟨v, by simp [zeroValue, h1, Result.andThen, h5], fun m => ofV_ok h6, ofV_notup h6⟩
theorem run_isAgg (h : tyOf E t = some ti) : (isAgg t).run P w = .ok (isAggD ti.d) w := by
  simp only [isAgg, Sem.run_bind, run_underlying hE h, Result.andThen]
  cases ti.d <;> rfl
end
def ER (m : Ren) (T : Tr AV) (ρ : Operand → Value) : Prop := ∀ x v, opnd x T = some v → VR m v (ρ x)
theorem ER.of {m : Ren} {n : Nat} {T : Tr AV} {a : Act} (hg : ∀ g, g < ngl → ∃ i, m g = some i ∧ i.blk = g ∧ i.base = 0) (h : TR n m T a.tmps) : ER m T a.eval := by
  intro x v hx
  cases x with
  | tmp t =>
    have h1 : T.get (bits t) = some v := hx
    exact h.at_ t v h1
  | const c =>
    simp only [opnd, opndK] at hx
    split at hx
    · rename_i a ha; cases hx; exact ofV_ok ha
    · cases hx
  | global g =>
    simp only [opnd, opndK] at hx
    split at hx
    · rename_i hlt
      cases hx
      obtain ⟨i, h1, h2, h3⟩ := hg g (by simpa [Nat.blt_eq] using hlt)
      have := VR.ptr (m := m) g 0 i h1
      rw [h2, h3] at this
      exact this
    · cases hx
  | func f =>
    cases hx
    exact .fn (.func f) (.func f) .nil .nil [] [] (.same _ (by simp)) .nil .nil
theorem opnds_ok {m : Ren} {T : Tr AV} {ρ : Operand → Value} (h : ER m T ρ) : ∀ {xs : List Operand} {l : AV}, (opnds xs).f T = some l → VL m l (xs.map ρ)
  | [], l, hx => by cases hx; exact .nil
  | x :: xs, l, hx => by
    simp only [opnds, ob_some] at hx
    obtain ⟨v, h1, k, h2, h3⟩ := hx
    cases h3
    exact .cons _ _ _ _ (h x v h1) (opnds_ok h h2)
def LookOk (P : Program) (k : LK) (o : Oper) : Prop :=
  ∀ (m : Ren) (H : AH) (w : World) (T : Tr AV) (ρ : Operand → Value) (v : AV), Rel m H w → ER m T ρ → k.f T H = some v →
    ∃ v', (execOp ρ o).run P w = .ok (.value v') w ∧ VR m v v'
theorem run_v {P : Program} {s : Sem Value} {w w2 : World} {x : Value} (h : s.run P w = .ok x w2) : (do pure (Next.value (← s)) : Sem Next).run P w = .ok (.value x) w2 := by
  simp [h, Result.andThen]
theorem run_u {P : Program} {s : Sem Unit} {w w2 : World} (h : s.run P w = .ok () w2) : (do s; pure Next.skip : Sem Next).run P w = .ok .skip w2 := by
  simp [h, Result.andThen]
section
variable {P : Program} {E : Env} (hE : TyOk P E) {o : Oper}
theorem look_move {x : Operand} (ho : o.op = .move x ∨ o.op = .assign x) : LookOk P ⟨fun T _ => opnd x T⟩ o := by
  intro m H w T ρ v hr he hk
  refine ⟨ρ x, ?_, he x v hk⟩
  rcases ho with ho | ho <;> simp [execOp, ho]
theorem VR.bool_inv {m : Ren} {b : Bool} {v : Value} (h : VR m (.bool b) v) : v = .bool b := by cases h; rfl
theorem VR.int_inv {m : Ren} {k n} {v : Value} (h : VR m (.int k n) v) : v = .int k n := by cases h; rfl
theorem VR.ptr_inv {m : Ren} {b o} {v : Value} (h : VR m (.ptr b o) v) : ∃ i, m b = some i ∧ v = .pointer (some ⟨i.blk, i.base + o, none⟩) := by
  cases h with | ptr _ _ i h => exact ⟨i, h, rfl⟩
theorem VR.agg_inv {m : Ren} {l} {v : Value} (h : VR m (.agg l) v) : ∃ vs, VL m l vs ∧ v = .agg vs.toArray := by
  cases h with | agg _ vs h => exact ⟨vs, h, rfl⟩
theorem VR.tup_inv {m : Ren} {l} {v : Value} (h : VR m (.tup l) v) : ∃ vs, VL m l vs ∧ v = .tuple vs.toArray := by
  cases h with | tup _ vs h => exact ⟨vs, h, rfl⟩
theorem VR.str_inv {m : Ren} {l n} {v : Value} (h : VR m (.str l n) v) : ∃ s : ByteArray, v = .string s ∧ l = s.data.toList.length ∧ n = leNat s.data.toList := by
  cases h with | str s => exact ⟨s, rfl, rfl, rfl⟩
theorem VR.mp_inv {m : Ren} {r} {v : Value} (h : VR m (.mp r) v) : ∃ i, m r = some i ∧ v = .map (some i.blk) := by
  cases h with | mp _ i h => exact ⟨i, h, rfl⟩
theorem VR.ifc_inv {m : Ren} {t a} {v : Value} (h : VR m (.ifc t a) v) : ∃ u, VR m a u ∧ v = .iface t u := by
  cases h with | ifc _ _ u h => exact ⟨u, h, rfl⟩
theorem VR.fn_inv {m : Ren} {f a c} {v : Value} (h : VR m (.fn f a c) v) : ∃ g va vc, FR m f g ∧ VL m a va ∧ VL m c vc ∧ v = .func g va.toArray vc.toArray := by
  cases h with | fn _ g _ _ va vc hf ha hc => exact ⟨g, va, vc, hf, ha, hc, rfl⟩
theorem VR.snil_inv {m : Ren} {v : Value} (h : VR m .snil v) : v = .slice none 0 0 := by cases h; rfl
theorem VR.pnil_inv {m : Ren} {v : Value} (h : VR m .pnil v) : v = .pointer none := by cases h; rfl
theorem VR.mnil_inv {m : Ren} {v : Value} (h : VR m .mnil v) : v = .map none := by cases h; rfl
theorem VR.fnil_inv {m : Ren} {v : Value} (h : VR m .fnil v) : v = .nilFunc := by cases h; rfl
theorem VR.inil_inv {m : Ren} {v : Value} (h : VR m .inil v) : v = .nilIface := by cases h; rfl
theorem VR.sl_inv {m : Ren} {b o l c} {v : Value} (h : VR m (.sl b o l c) v) : ∃ a c', v = .slice (some a) l c' ∧ (∀ k, c = some k → c' = k) ∧
    ((∃ i, m b = some i ∧ a = ⟨i.blk, i.base + o, none⟩ ∧ (c = none → 0 < i.es ∧ i.base + o + c' * i.es = i.sz ∧ l ≤ c')) ∨
      (l = 0 ∧ c' = 0 ∧ (c = none → ∃ i, m b = some i ∧ 0 < i.es ∧ i.base + o = i.sz))) := by
  cases h with
  | sl b off len k i h => exact ⟨_, _, rfl, by simp, .inl ⟨i, h, rfl, by simp⟩⟩
  | slo b off len k i h he hc hl => exact ⟨_, _, rfl, by simp, .inl ⟨i, h, rfl, fun _ => ⟨he, hc, hl⟩⟩⟩
  | sle b off a i h he hc => exact ⟨a, 0, rfl, by simp, .inr ⟨rfl, rfl, fun _ => ⟨i, h, he, hc⟩⟩⟩
  | slz b off a => exact ⟨a, 0, rfl, by simp, .inr ⟨rfl, rfl, by simp⟩⟩
theorem look_pick {c a b : Operand} (ho : o.op = .pick c a b) : LookOk P ⟨pickA c a b⟩ o := by
  intro m H w T ρ v hr he hk
  simp only [pickA, ob_some, onBool_some] at hk
  obtain ⟨u, h1, t, rfl, h2⟩ := hk
  have h3 := (he c _ h1).bool_inv
  cases t
  · exact ⟨ρ b, by simp [execOp, ho, h3, asBool], he b v h2⟩
  · exact ⟨ρ a, by simp [execOp, ho, h3, asBool], he a v h2⟩
include hE
theorem ldK_ok {t : Nat} {k : VK} (h : ldK E t = some k) {m : Ren} {H : AH} {w : World} {p v : AV} {u : Value} (hr : Rel m H w) (hp : VR m p u) (hk : k.f H p = some v) :
    ∃ a v', u = .pointer (some a) ∧ (loadVar t a).run P w = .ok v' w ∧ VR m v v' := by
  simp only [ldK, ob_some] at h
  obtain ⟨ti, ht, h⟩ := h
  have hagg := run_isAgg (w := w) hE ht
  split at h
  · rename_i hd
    cases h
    simp only [ldN, onPtr_some, ob_some] at hk
    obtain ⟨b, off, rfl, ob, h1, l, h2, h3⟩ := hk
    cases h3
    obtain ⟨i, hi, rfl⟩ := hp.ptr_inv
    obtain ⟨vs, hl, hvl, hall⟩ := hr.rds h1 hi _ _ _ h2
    refine ⟨_, .agg vs.toArray, rfl, ?_, .agg _ _ hvl⟩
    have := run_loadCells (P := P) hall
    rw [hl] at this
    simp [loadVar, hagg, Result.andThen, hd, run_sizeOf hE ht, this]
  · rename_i hd
    cases h
    simp only [ld1, onPtr_some, ob_some] at hk
    obtain ⟨b, off, rfl, ob, h1, h2⟩ := hk
    obtain ⟨i, hi, rfl⟩ := hp.ptr_inv
    obtain ⟨x, hx, hv⟩ := hr.rd h1 hi h2
    refine ⟨_, x, rfl, ?_, hv⟩
    simp only [loadVar, Sem.run_bind, hagg, Result.andThen, hd]
    exact run_load_cell hx
theorem look_load {t : Nat} {x : Operand} {k : VK} (h : ldK E t = some k) (ho : o.op = .load t x) : LookOk P ⟨ldA k x⟩ o := by
  intro m H w T ρ v hr he hk
  simp only [ldA, ob_some] at hk
  obtain ⟨p, h1, h2⟩ := hk
  obtain ⟨a, v', hu, hrun, hv⟩ := ldK_ok hE h hr (he x p h1) h2
  refine ⟨v', ?_, hv⟩
  simp only [execOp, ho]
  apply run_v
  simp [Instr.loadAt, hu, Instr.sureAddr, hrun]
end
end Go.Xq
