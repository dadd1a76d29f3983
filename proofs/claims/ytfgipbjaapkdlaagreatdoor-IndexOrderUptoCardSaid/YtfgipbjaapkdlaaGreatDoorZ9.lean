/- Contracts of calls and rules for code. Conditions: in each theorem. -/
import Derived.Test.YtfgipbjaapkdlaaGreatDoorZ8
namespace Go.Xq
inductive Its where
  | nil
  | cons (k n : Int) (t : List UInt8) (s r : Its)
structure It where
  k : Int
  n : Int
  t : List UInt8
  s : Its
namespace Its
def len : Its → Nat
  | nil => 0
  | cons _ _ _ _ r => r.len + 1
def get : Its → Nat → Option It
  | nil, _ => none
  | cons k n t s _, 0 => some ⟨k, n, t, s⟩
  | cons _ _ _ _ r, i + 1 => r.get i
def drop : Nat → Its → Its
  | 0, l => l
  | _ + 1, nil => nil
  | i + 1, cons _ _ _ _ r => r.drop i
def ofL : List It → Its
  | [] => nil
  | x :: l => cons x.k x.n x.t x.s (ofL l)
def toL : Its → List It
  | nil => []
  | cons k n t s r => ⟨k, n, t, s⟩ :: r.toL
def size : Its → Nat
  | nil => 0
  | cons _ _ t s r => 1 + t.length + s.size + r.size
def weigh : Its → Nat → Nat
  | nil, n => n
  | cons _ _ t s r, n => if n ≤ 100000 then r.weigh (s.weigh (n + 1 + t.length / 64)) else n
theorem weigh_le : ∀ (l : Its) (n : Nat), l.weigh n ≤ n + l.size
  | nil, n => by simp [weigh, size]
  | cons k m t s r, n => by
    unfold weigh size
    split
    · have h1 := weigh_le r (s.weigh (n + 1 + t.length / 64))
      have h2 := weigh_le s (n + 1 + t.length / 64)
      have h3 : t.length / 64 ≤ t.length := Nat.div_le_self _ _
      omega
    · omega
theorem weigh_stop (l : Its) {n : Nat} (h : 100000 < n) : l.weigh n = n := by
  cases l with
  | nil => rfl
  | cons k m t s r => unfold weigh; rw [if_neg (by omega)]
theorem len_le : ∀ l : Its, l.len ≤ l.size
  | nil => by simp [len, size]
  | cons k n t s r => by have := len_le r; simp only [len, size]; omega
theorem get_some : ∀ (l : Its) (i : Nat), i < l.len → ∃ x, l.get i = some x
  | nil, i, h => by simp [len] at h
  | cons k n t s r, 0, _ => ⟨_, rfl⟩
  | cons k n t s r, i + 1, h => get_some r i (by simp only [len] at h; omega)
theorem get_lt : ∀ {l : Its} {i : Nat} {x : It}, l.get i = some x → i < l.len
  | nil, i, x, h => by simp [get] at h
  | cons _ _ _ _ _, 0, _, _ => by simp [len]
  | cons k n t s r, i + 1, x, h => by
    have := get_lt (l := r) (i := i) h
    simp only [len]; omega
theorem drop_get : ∀ {l : Its} {i : Nat} {x : It}, l.get i = some x → l.drop i = cons x.k x.n x.t x.s (l.drop (i + 1))
  | nil, i, x, h => by simp [get] at h
  | cons k n t s r, 0, x, h => by simp only [get, Option.some.injEq] at h; subst h; rfl
  | cons k n t s r, i + 1, x, h => by
    have := drop_get (l := r) (i := i) h
    exact this
theorem drop_len : ∀ (l : Its), l.drop l.len = nil
  | nil => rfl
  | cons k n t s r => drop_len r
theorem size_get : ∀ {l : Its} {i : Nat} {x : It}, l.get i = some x → 1 + x.t.length + x.s.size ≤ l.size
  | nil, i, x, h => by simp [get] at h
  | cons k n t s r, 0, x, h => by simp only [get, Option.some.injEq] at h; subst h; simp only [size]; omega
  | cons k n t s r, i + 1, x, h => by
    have := size_get (l := r) (i := i) h
    simp only [size]; omega
theorem len_ofL : ∀ l : List It, (ofL l).len = l.length
  | [] => rfl
  | x :: l => by simp only [ofL, len, len_ofL l, List.length_cons]
end Its
def lead (c : Nat) : Nat × Nat × Nat :=
  if c < 194 then (0, 0, 0) else if c < 224 then (2, 128, 191) else if c = 224 then (3, 160, 191) else if c = 237 then (3, 128, 159) else if c < 240 then (3, 128, 191)
  else if c = 240 then (4, 144, 191) else if c < 244 then (4, 128, 191) else if c = 244 then (4, 128, 143) else (0, 0, 0)
def letterN (l : List UInt8) : Nat :=
  match l with
  | [] => 0
  | c :: r =>
    if c.toNat < 128 then 1
    else if (lead c.toNat).1 = 0 ∨ r.length + 1 < (lead c.toNat).1 then 0
    else if (∀ d, r[0]? = some d → (lead c.toNat).2.1 ≤ d.toNat ∧ d.toNat ≤ (lead c.toNat).2.2) ∧ (3 ≤ (lead c.toNat).1 → ∀ d, r[1]? = some d → 128 ≤ d.toNat ∧ d.toNat ≤ 191) ∧ (4 ≤ (lead c.toNat).1 → ∀ d, r[2]? = some d → 128 ≤ d.toNat ∧ d.toNat ≤ 191) then (lead c.toNat).1
    else 0
def utf8L (l : List UInt8) : Bool :=
  if h : l = [] then true else if h2 : letterN l = 0 then false else utf8L (l.drop (letterN l))
termination_by l.length
decreasing_by
  have : 0 < l.length := List.length_pos_iff.2 h
  rw [List.length_drop]; omega
theorem utf8L_nil : utf8L [] = true := by rw [utf8L]; simp
theorem utf8L_bad {l : List UInt8} (h : l ≠ []) (h2 : letterN l = 0) : utf8L l = false := by rw [utf8L]; simp [h, h2]
theorem utf8L_step {l : List UInt8} {n : Nat} (h2 : letterN l = n) (hn : n ≠ 0) : utf8L l = utf8L (l.drop n) := by
  have h : l ≠ [] := fun e => by subst e; simp [letterN] at h2; omega
  subst h2
  rw [utf8L]; simp [h, hn]
theorem letterN_ascii {c : UInt8} {r : List UInt8} (h : c.toNat < 128) : letterN (c :: r) = 1 := by simp [letterN, h]
theorem utf8L_ascii : ∀ (n : Nat) (l : List UInt8), n ≤ l.length → (∀ i x, i < n → l[i]? = some x → x.toNat < 128) → utf8L l = utf8L (l.drop n)
  | 0, l, _, _ => rfl
  | n + 1, [], h, _ => by simp at h
  | n + 1, c :: r, h, hx => by
    have h0 := hx 0 c (by omega) rfl
    rw [utf8L_step (letterN_ascii h0) (by omega), List.drop_succ_cons, List.drop_succ_cons, List.drop_zero]
    exact utf8L_ascii n r (by simpa using h) fun i x hi hg => hx (i + 1) x (by omega) (by simpa using hg)
end Go.Xq
namespace Go.Xq
def itemB (k n : Int) (t : List UInt8) (m : Nat) : Bool :=
  decide (0 ≤ k) && decide (k ≤ 7) && (decide (k = 3) || decide (k = 4) || decide (n = 0)) && (decide (k = 5) || decide (k = 6) || decide (t = [])) && (decide (k = 7) || decide (m = 0)) && (!decide (k = 6) || utf8L t)
def wid (n : Nat) : Nat :=
  if n = 0 then 0 else if n < 256 then 1 else if n < 65536 then 2 else if n < 16777216 then 3 else if n < 4294967296 then 4 else if n < 1099511627776 then 5 else if n < 281474976710656 then 6 else if n < 72057594037927936 then 7 else 8
theorem wid_le (n : Nat) : wid n ≤ 8 := by unfold wid; (repeat' split) <;> omega
def intB (n : Int) : List UInt8 :=
  if 0 ≤ n then UInt8.ofNat (128 + wid n.toNat) :: fixedL n.toNat (wid n.toNat)
  else UInt8.ofNat (127 - wid (-(n + 1)).toNat) :: (fixedL (-(n + 1)).toNat (wid (-(n + 1)).toNat)).map (· ^^^ 255)
def turned (n : Int) : Nat := if 0 ≤ n then n.toNat + 9223372036854775808 else (-(n + 1)).toNat
theorem turned_lt {n : Int} (h1 : -9223372036854775808 ≤ n) (h2 : n ≤ 9223372036854775807) : turned n < 18446744073709551616 := by unfold turned; split <;> omega
def ordB (t : List UInt8) : List UInt8 := (t.flatMap fun x => if x = 0 then [0, 255] else [x]) ++ [0, 1]
def ord1 (t : List UInt8) : List UInt8 := t.flatMap fun x => if x = 0 then [0, 255] else [x]
theorem ord1_snoc (t : List UInt8) (x : UInt8) : ord1 (t ++ [x]) = ord1 t ++ (if x = 0 then [0, 255] else [x]) := by simp [ord1, List.flatMap_append]
theorem ordB_eq (t : List UInt8) : ordB t = ord1 t ++ [0, 1] := rfl
theorem ord1_len : ∀ t : List UInt8, (ord1 t).length = t.length + t.count 0
  | [] => rfl
  | x :: t => by
    have h := ord1_len t
    unfold ord1 at h ⊢
    rw [List.flatMap_cons, List.length_append, h, List.count_cons, List.length_cons]
    by_cases hx : x = 0
    · subst hx; simp; omega
    · rw [if_neg hx]; simp [hx]; omega
theorem ord1_le (t : List UInt8) : (ord1 t).length ≤ 2 * t.length := by rw [ord1_len]; have := List.count_le_length (a := (0 : UInt8)) (l := t); omega
theorem intB_len (n : Int) : (intB n).length ≤ 9 := by
  unfold intB
  split
  · simp [fixedL_len]; have := wid_le n.toNat; omega
  · simp [fixedL_len]; have := wid_le (-(n + 1)).toNat; omega
namespace Its
def chk : Its → Nat → Nat
  | nil, _ => 0
  | cons k n t s r, d =>
    if itemB k n t s.len = false then 20
    else if k = 7 then (if (if 64 < s.len ∨ 16 < d + 1 then 22 else s.chk (d + 1)) = 0 then r.chk d else (if 64 < s.len ∨ 16 < d + 1 then 22 else s.chk (d + 1)))
    else r.chk d
def check (l : Its) (d : Nat) : Nat := if 64 < l.len ∨ 16 < d then 22 else l.chk d
theorem chk_cons (k n : Int) (t : List UInt8) (s r : Its) (d : Nat) : (cons k n t s r).chk d = if itemB k n t s.len = false then 20 else if k = 7 then (if s.check (d + 1) = 0 then r.chk d else s.check (d + 1)) else r.chk d := rfl
def enc1 (k n : Int) (t : List UInt8) (e : List UInt8) : List UInt8 :=
  UInt8.ofNat (16 + k.toNat) :: (if k = 3 then intB n else if k = 4 then fixedL (turned n) 8 else if k = 5 ∨ k = 6 then ordB t else if k = 7 then e ++ [0] else [])
def enc : Its → List UInt8
  | nil => []
  | cons k n t s r => enc1 k n t s.enc ++ r.enc
theorem enc1_len (k n : Int) (t e : List UInt8) : (enc1 k n t e).length ≤ 12 + 2 * t.length + e.length := by
  unfold enc1
  have h1 := intB_len n
  have h2 := ord1_le t
  split
  · simp; omega
  · split
    · simp [fixedL_len]
      omega
    · split
      · simp [ordB_eq]; omega
      · split
        · simp; omega
        · simp
          omega
theorem enc_len : ∀ l : Its, l.enc.length ≤ 12 * l.size
  | nil => by simp [enc, size]
  | cons k n t s r => by
    have h1 := enc_len s
    have h2 := enc_len r
    have h3 := enc1_len k n t s.enc
    simp only [enc, size, List.length_append]
    omega
def encTo : Nat → Its → List UInt8
  | 0, _ => []
  | _ + 1, nil => []
  | i + 1, cons k n t s r => enc1 k n t s.enc ++ r.encTo i
theorem encTo_succ : ∀ {l : Its} {i : Nat} {x : It}, l.get i = some x → l.encTo (i + 1) = l.encTo i ++ enc1 x.k x.n x.t x.s.enc
  | nil, i, x, h => by simp [get] at h
  | cons k n t s r, 0, x, h => by
    simp only [get, Option.some.injEq] at h; subst h
    cases r <;> simp [encTo]
  | cons k n t s r, i + 1, x, h => by
    have := encTo_succ (l := r) (i := i) h
    simp only [encTo] at this ⊢
    rw [this, List.append_assoc]
theorem encTo_all : ∀ l : Its, l.encTo l.len = l.enc
  | nil => rfl
  | cons k n t s r => by simp only [len, encTo, enc, encTo_all r]
theorem encTo_zero (l : Its) : l.encTo 0 = [] := by cases l <;> rfl
theorem encTo_le : ∀ (l : Its) (i : Nat), (l.encTo i).length ≤ l.enc.length
  | nil, 0 => by simp [encTo]
  | nil, i + 1 => by simp [encTo]
  | cons k n t s r, 0 => by simp [encTo]
  | cons k n t s r, i + 1 => by
    have := encTo_le r i
    simp only [encTo, enc, List.length_append]; omega
theorem chk_item : ∀ {l : Its} {d i : Nat} {x : It}, l.chk d = 0 → l.get i = some x → itemB x.k x.n x.t x.s.len = true ∧ (x.k = 7 → x.s.check (d + 1) = 0)
  | nil, d, i, x, _, h => by simp [get] at h
  | cons k n t s r, d, i, x, hc, h => by
    rw [chk_cons] at hc
    have hb : itemB k n t s.len = true := by
      cases e : itemB k n t s.len with
      | true => rfl
      | false => rw [if_pos e] at hc; omega
    rw [if_neg (by simp [hb])] at hc
    have hr : r.chk d = 0 ∧ (k = 7 → s.check (d + 1) = 0) := by
      split at hc
      · split at hc
        · exact ⟨hc, fun _ => by assumption⟩
        · rename_i h1; exact absurd hc h1
      · exact ⟨hc, fun e => by contradiction⟩
    cases i with
    | zero => simp only [get, Option.some.injEq] at h; subst h; exact ⟨hb, hr.2⟩
    | succ i => exact chk_item (l := r) hr.1 h
end Its
def encode (l : Its) : List UInt8 × Nat := if l.check 0 = 0 then (if 65536 < l.enc.length then ([], 2) else (l.enc, 0)) else ([], l.check 0)
end Go.Xq
namespace Go.Xq
noncomputable section
def ItsAt (H : AH) (N : Nat) : Its → AObj → Nat → Prop
  | .nil, _, _ => True
  | .cons k n t s r, o, off =>
    rdCell o off = some (.int .i64 k) ∧ rdCell o (off + 1) = some (.int .i64 n) ∧ rdCell o (off + 2) = some (sb t) ∧
      (∃ v, rdCell o (off + 3) = some v ∧ ((v = .snil ∧ s = .nil) ∨ ∃ b off' cap, v = .sl b off' s.len cap ∧ (s.len ≠ 0 → b < N ∧ ∃ o', H.get b = some o' ∧ ItsAt H N s o' off'))) ∧
      ItsAt H N r o (off + 4)
def SaysI (H : AH) (N : Nat) (v : AV) (s : Its) : Prop :=
  (v = .snil ∧ s = .nil) ∨ ∃ b off' cap, v = .sl b off' s.len cap ∧ (s.len ≠ 0 → b < N ∧ ∃ o', H.get b = some o' ∧ ItsAt H N s o' off')
theorem ItsAt.get : ∀ {l : Its} {H : AH} {N : Nat} {o : AObj} {off i : Nat} {x : It}, ItsAt H N l o off → l.get i = some x →
    rdCell o (off + 4 * i) = some (.int .i64 x.k) ∧ rdCell o (off + 4 * i + 1) = some (.int .i64 x.n) ∧ rdCell o (off + 4 * i + 2) = some (sb x.t) ∧ ∃ v, rdCell o (off + 4 * i + 3) = some v ∧ SaysI H N v x.s
  | .nil, _, _, _, _, i, x, _, h => by simp [Its.get] at h
  | .cons k n t s r, H, N, o, off, 0, x, ha, h => by
    simp only [Its.get, Option.some.injEq] at h; subst h
    exact ⟨ha.1, ha.2.1, ha.2.2.1, ha.2.2.2.1⟩
  | .cons k n t s r, H, N, o, off, i + 1, x, ha, h => by
    have := ItsAt.get (l := r) (i := i) ha.2.2.2.2 h
    rwa [show off + 4 + 4 * i = off + 4 * (i + 1) by omega] at this
theorem ItsAt.keep : ∀ {l : Its} {H H2 : AH} {N M : Nat} {S : Nat → Prop} {o : AObj} {off : Nat}, ItsAt H N l o off → Keep S H H2 → N ≤ H.next → (∀ b, b < N → ¬ S b) → N ≤ M → ItsAt H2 M l o off
  | .nil, _, _, _, _, _, _, _, _, _, _, _, _ => trivial
  | .cons k n t s r, H, H2, N, M, S, o, off, ha, hk, hN, hS, hM => by
    refine ⟨ha.1, ha.2.1, ha.2.2.1, ?_, ItsAt.keep (l := r) ha.2.2.2.2 hk hN hS hM⟩
    obtain ⟨v, h1, h2⟩ := ha.2.2.2.1
    refine ⟨v, h1, ?_⟩
    rcases h2 with h2 | ⟨b, off', cap, h2, h3⟩
    · exact .inl h2
    · refine .inr ⟨b, off', cap, h2, fun hne => ?_⟩
      obtain ⟨h4, o', h5, h6⟩ := h3 hne
      exact ⟨by omega, o', hk.get (by omega) (hS b h4) h5, ItsAt.keep (l := s) h6 hk hN hS hM⟩
theorem SaysI.keep {H H2 : AH} {N M : Nat} {S : Nat → Prop} {v : AV} {l : Its} (h : SaysI H N v l) (hk : Keep S H H2) (hN : N ≤ H.next) (hS : ∀ b, b < N → ¬ S b) (hM : N ≤ M) : SaysI H2 M v l := by
  rcases h with h | ⟨b, off, cap, h2, h3⟩
  · exact .inl h
  · refine .inr ⟨b, off, cap, h2, fun hne => ?_⟩
    obtain ⟨h4, o', h5, h6⟩ := h3 hne
    exact ⟨by omega, o', hk.get (by omega) (hS b h4) h5, h6.keep hk hN hS hM⟩
theorem SaysI.keep0 {H H2 : AH} {N : Nat} {v : AV} {l : Its} (h : SaysI H N v l) (hk : Keep noB H H2) (hN : N ≤ H.next) : SaysI H2 N v l := h.keep hk hN (fun _ _ => id) (Nat.le_refl _)
theorem SaysI.len {H : AH} {N : Nat} {v : AV} {l : Its} (h : SaysI H N v l) : onSl v (some (AV.int .i64 0)) (fun _ _ n _ => some (.int .i64 (n : Int))) = some (.int .i64 (l.len : Int)) := by
  rcases h with ⟨rfl, rfl⟩ | ⟨b, off, cap, rfl, _⟩ <;> rfl
theorem SaysI.cell {H : AH} {N : Nat} {v : AV} {l : Its} (h : SaysI H N v l) : isCell v = true := by
  rcases h with ⟨rfl, rfl⟩ | ⟨b, off, cap, rfl, _⟩ <;> rfl
theorem SaysI.at {H : AH} {N : Nat} {v : AV} {l : Its} (h : SaysI H N v l) {i : Nat} {x : It} (hx : l.get i = some x) :
    ∃ b off cap o u, v = .sl b off l.len cap ∧ i < l.len ∧ b < N ∧ H.get b = some o ∧ rdCell o (off + i * 4) = some (.int .i64 x.k) ∧ rdCell o (off + i * 4 + 1) = some (.int .i64 x.n) ∧ rdCell o (off + i * 4 + 2) = some (sb x.t) ∧ rdCell o (off + i * 4 + 3) = some u ∧ SaysI H N u x.s ∧
      rdCells o 4 (off + i * 4) = some (avl [.int .i64 x.k, .int .i64 x.n, sb x.t, u]) := by
  have hi := Its.get_lt hx
  rcases h with ⟨_, rfl⟩ | ⟨b, off, cap, h2, h3⟩
  · simp [Its.len] at hi
  · obtain ⟨h4, o, h5, h6⟩ := h3 (by omega)
    obtain ⟨a1, a2, a3, u, a4, a5⟩ := h6.get hx
    rw [Nat.mul_comm 4 i] at a1 a2 a3 a4
    refine ⟨b, off, cap, o, u, h2, hi, h4, h5, a1, a2, a3, a4, a5, ?_⟩
    refine rdCells_of [.int .i64 x.k, .int .i64 x.n, sb x.t, u] _ fun j w hj => ?_
    match j, hj with
    | 0, hj => simp at hj; subst hj; exact a1
    | 1, hj => simp at hj; subst hj; exact a2
    | 2, hj => simp at hj; subst hj; exact a3
    | 3, hj => simp at hj; subst hj; exact a4
    | j + 4, hj => simp at hj
structure Iv where
  k : Int
  n : Int
  t : List UInt8
  v : AV
  c : isCell v = true
def encI (x : Iv) : List AV := [.int .i64 x.k, .int .i64 x.n, sb x.t, x.v]
theorem encI_len (x : Iv) : (encI x).length = 4 := rfl
theorem cells_iv (x : Iv) : ∀ v ∈ encI x, isCell v = true := by
  intro v hv
  simp only [encI, List.mem_cons, List.not_mem_nil, or_false] at hv
  rcases hv with rfl | rfl | rfl | rfl
  · rfl
  · rfl
  · rfl
  · exact x.c
def zIv : AV := .cons (.int .i64 0) (.cons (.int .i64 0) (.cons (.str 0 0) (.cons .snil .nil)))
def zeroIv : Iv := ⟨0, 0, [], .snil, rfl⟩
def AsIts (H : AH) (N : Nat) (cs : List Iv) (l : List It) : Prop := cs.length = l.length ∧ ∀ (i : Nat) (c : Iv) (x : It), cs[i]? = some c → l[i]? = some x → c.k = x.k ∧ c.n = x.n ∧ c.t = x.t ∧ SaysI H N c.v x.s
theorem itsAt_of : ∀ {l : List It} {cs : List Iv} {H : AH} {N : Nat} {o : AObj} {off : Nat}, AsIts H N cs l → RdE encI 4 off cs o → ItsAt H N (Its.ofL l) o off
  | [], _, _, _, _, _, _, _ => trivial
  | x :: l, [], _, _, _, _, h, _ => by have := h.1; simp at this
  | x :: l, c :: cs, H, N, o, off, h, hr => by
    obtain ⟨h1, h2⟩ := h
    obtain ⟨e1, e2, e3, e4⟩ := h2 0 c x rfl rfl
    have g := fun j v (hj : (encI c)[j]? = some v) => hr 0 c rfl j v hj
    refine ⟨?_, ?_, ?_, ⟨c.v, ?_, e4⟩, ?_⟩
    · have := g 0 _ rfl; rw [e1] at this; simpa using this
    · have := g 1 _ rfl; rw [e2] at this; simpa using this
    · have := g 2 _ rfl; rw [e3] at this; simpa using this
    · have := g 3 _ rfl; simpa using this
    · exact itsAt_of ⟨by simpa using h1, fun i c' x' hc hx => h2 (i + 1) c' x' (by simpa using hc) (by simpa using hx)⟩ hr.tail
theorem AsIts.keep {H H2 : AH} {N M : Nat} {S : Nat → Prop} {cs : List Iv} {l : List It} (h : AsIts H N cs l) (hk : Keep S H H2) (hN : N ≤ H.next) (hS : ∀ b, b < N → ¬ S b) (hM : N ≤ M) : AsIts H2 M cs l :=
  ⟨h.1, fun i c x hc hx => let ⟨e1, e2, e3, e4⟩ := h.2 i c x hc hx; ⟨e1, e2, e3, e4.keep hk hN hS hM⟩⟩
theorem AsIts.snoc {H : AH} {N : Nat} {cs : List Iv} {l : List It} {c : Iv} {x : It} (h : AsIts H N cs l) (e1 : c.k = x.k) (e2 : c.n = x.n) (e3 : c.t = x.t) (e4 : SaysI H N c.v x.s) : AsIts H N (cs ++ [c]) (l ++ [x]) := by
  refine ⟨by simp [h.1], fun i c' x' hc hx => ?_⟩
  rcases Nat.lt_or_ge i cs.length with hi | hi
  · rw [List.getElem?_append_left hi] at hc
    rw [List.getElem?_append_left (by rw [← h.1]; exact hi)] at hx
    exact h.2 i c' x' hc hx
  · rw [List.getElem?_append_right hi] at hc
    rw [List.getElem?_append_right (by rw [← h.1]; exact hi), ← h.1] at hx
    obtain ⟨j, hj⟩ : ∃ j, j = i - cs.length := ⟨_, rfl⟩
    rw [← hj] at hc hx
    cases j with
    | zero => simp at hc hx; subst hc; subst hx; exact ⟨e1, e2, e3, e4⟩
    | succ j => simp at hc
end
end Go.Xq
namespace Go.Xq
noncomputable section
@[simp] theorem ixStr_f (x i : Operand) (T : Tr AV) (H : AH) : ixStr x i T H = ob (opnd x T) fun v => ob (opnd i T) fun i => onStr v fun n s => ob (natOf i) fun j => bt (Nat.blt j n) (some (.int .u8 ((byteAt s j : Nat) : Int))) none := rfl
theorem byte_at {l : List UInt8} {i : Nat} {x : UInt8} (h : l[i]? = some x) : byteAt (leNat l) i = x.toNat := byteAt_leNat h
def slS (n : Nat) (v : AV) : Option AV := onStr v fun len s => ob (boundsA len (some len) len (some n) none none) fun r => some (.str (Nat.sub r.2.1 r.1) (cutN s r.1 (Nat.sub r.2.1 r.1)))
@[simp] theorem slStr_lo_f (x h : Operand) (T : Tr AV) (H : AH) : slStr x (some h) none T H = ob (opnd h T) fun hv => ob (natOf hv) fun n => ob (opnd x T) fun v => slS n v := by
  unfold slStr optNat
  cases e1 : opnd h T with
  | none => simp only [e1, ob_none']
  | some hv =>
    simp only [ob_some']
    cases e : natOf hv with
    | none => simp only [e1, ob_some', e, ob_none']
    | some n => simp only [e1, ob_some', e]; rfl
@[simp] theorem slS_sb {n : Nat} {l : List UInt8} (h : n ≤ l.length) : slS n (sb l) = some (sb (l.drop n)) := by
  unfold slS
  rw [onStr_sb]
  have : boundsA l.length (some l.length) l.length (some n) none none = some (n, l.length, some l.length) := by
    show bt (Nat.ble l.length l.length) (bt (Nat.ble n l.length) (some (n, l.length, some l.length)) none) none = _
    rw [ble_true (Nat.le_refl _), bt_true, ble_true h, bt_true]
  rw [this, ob_some']
  have hc : cutN (leNat l) n (Nat.sub l.length n) = leNat (l.drop n) := by
    rw [cut_bb (by show n + (l.length - n) ≤ _; omega)]
    congr 1
    exact List.take_of_length_le (by simp)
  show some (AV.str (Nat.sub l.length n) (cutN (leNat l) n (Nat.sub l.length n))) = _
  rw [hc]
  simp [sb]
@[simp] theorem frStr_f (e : Nat) (x : Operand) (T : Tr AV) (b0 : Nat) : frStr e x T b0 = ob (opnd x T) fun v => onStr v fun n m => some (.sl b0 0 n none, .bys e n true m) := rfl
@[simp] theorem skLss_f (a b : List UInt8) : skLss.f a.length (leNat a) b.length (leNat b) = some (.bool (Op.bytesLess a b)) := by show some (AV.bool (lessN _ _ _ _ _)) = _; rw [lessN_ok _ _ _ (Nat.lt_succ_self _)]
@[simp] theorem skGeq_f (a b : List UInt8) : skGeq.f a.length (leNat a) b.length (leNat b) = some (.bool (!Op.bytesLess a b)) := by show some (AV.bool (bt (lessN _ _ _ _ _) false true)) = _; rw [lessN_ok _ _ _ (Nat.lt_succ_self _), bt_not]
theorem decT {p : Prop} [Decidable p] (h : p) : decide p = true := decide_eq_true h
theorem decF {p : Prop} [Decidable p] (h : ¬ p) : decide p = false := decide_eq_false h
def commB (c : UInt8) : Bool := decide (97 ≤ c.toNat ∧ c.toNat ≤ 122) || decide (48 ≤ c.toNat ∧ c.toNat ≤ 57) || decide (c.toNat = 45) || decide (c.toNat = 95) || decide (c.toNat = 46)
def nameB (l : List UInt8) (m : Nat) : Bool := l.all commB && decide (1 ≤ l.length) && decide (l.length ≤ m)
def keyL : List UInt8 := [107, 101, 121]
def fieldB (l : List UInt8) : Bool := nameB l 64 && (match l with | [] => false | c :: _ => decide (97 ≤ c.toNat ∧ c.toNat ≤ 122)) && decide (l ≠ keyL)
theorem nameB_bad {l : List UInt8} {m i : Nat} {x : UInt8} (hx : l[i]? = some x) (h : commB x = false) : nameB l m = false := by
  have : l.all commB = false := by
    rw [List.all_eq_false]
    exact ⟨x, List.mem_of_getElem? hx, by simp [h]⟩
  simp [nameB, this]
theorem nameB_all {l : List UInt8} {m : Nat} (h : ∀ (i : Nat) (x : UInt8), l[i]? = some x → commB x = true) : nameB l m = (decide (1 ≤ l.length) && decide (l.length ≤ m)) := by
  have : l.all commB = true := by
    rw [List.all_eq_true]
    intro x hx
    obtain ⟨i, hi⟩ := List.mem_iff_getElem?.1 hx
    exact h i x hi
  simp [nameB, this]
end
end Go.Xq
namespace Go.Xq
noncomputable section
section
variable {P : Program} {E : Env} {b : Frame} {n : Cx} {T T2 : Tr AV} {D D2 : List ADf} {H H2 : AH} {Q Q' : Out → Prop} {its its2 : List Item}
theorem WD.forWC {i j ic t : Nat} {opsc : Array Oper} {body : Code} {σ : Type} (cs : σ → List (Nat × AV)) (I : σ → AH → Prop) (μ : σ → Nat) {l : List (Nat × AV)} (s0 : σ) (h0 : I s0 H) (hl : lsub (cs s0) l)
    (hc : ∀ s H, I s H → WDO P b n opsc opsc.toList (tl (cs s)) [] H fun o => ∃ (c : Bool) (l' : List (Nat × AV)), o = .nor (tl l') [] H ∧ tget t l' = some (.bool c) ∧
      (c = false → Q (.nor (tl l') [] H)) ∧
      (c = true → WD P b n [.code body] (tl l') [] H fun o => match o with
        | .nor T2 D2 H2 => D2 = [] ∧ ∃ s' l'', T2 = tl l'' ∧ lsub (cs s') l'' ∧ I s' H2 ∧ μ s' < μ s
        | .ret T2 D2 H2 => Q (.ret T2 D2 H2)
        | .ext e T2 D2 H2 => e = j ∧ D2 = [] ∧ ∃ s' l'', T2 = tl l'' ∧ lsub (cs s') l'' ∧ I s' H2 ∧ μ s' < μ s
        | _ => False)) :
    WD P b n [.code (.block i (.loop (.seq (.seq (.region ic opsc false) (.cond (.tmp t) .skip (.exit i))) (.block j body))))] (tl l) [] H Q := by
  refine WD.block (WD.loopS cs I μ s0 h0 hl fun s H hI => ?_)
  refine WD.seq (WD.seq ((WD.region (hc s H hI)).mono fun o ho => ?_))
  obtain ⟨c, l', rfl, h2, h3, h4⟩ := ho
  refine WD.cond (t := c) (by rw [opnd_tl]; exact h2) (fun hc => WD.skip (.inl rfl) ?_) (fun hc => WD.exit ?_)
  · refine WD.block ((h4 hc).mono fun o ho => ?_)
    cases o with
    | bad => exact ho.elim
    | ext e T2 D2 H2 =>
      obtain ⟨rfl, ho⟩ := ho
      rw [bOut_ext]
      exact ho
    | ret => exact ho
    | nor T2 D2 H2 =>
      exact ho
  · show Q (bOut i (.ext i (tl l') [] H))
    rw [bOut_ext]
    exact h3 hc
theorem WD.forRC {i j ic ii t : Nat} {opsc opsi : Array Oper} {body : Code} {σ : Type} (cs : σ → List (Nat × AV)) (I : σ → AH → Prop) (μ : σ → Nat) {l : List (Nat × AV)} (s0 : σ) (h0 : I s0 H) (hl : lsub (cs s0) l)
    (hc : ∀ s H, I s H → WDO P b n opsc opsc.toList (tl (cs s)) [] H fun o => ∃ (c : Bool) (l' : List (Nat × AV)), o = .nor (tl l') [] H ∧ tget t l' = some (.bool c) ∧
      (c = false → Q (.nor (tl l') [] H)) ∧
      (c = true → WD P b n [.code body] (tl l') [] H fun o => match o with
        | .nor T2 D2 H2 => WDO P b n opsi opsi.toList T2 D2 H2 fun o => match o with
          | .nor T3 D3 H3 => D3 = [] ∧ ∃ s' l'', T3 = tl l'' ∧ lsub (cs s') l'' ∧ I s' H3 ∧ μ s' < μ s
          | _ => False
        | .ret T2 D2 H2 => Q (.ret T2 D2 H2)
        | .ext e T2 D2 H2 => e = j ∧ WDO P b n opsi opsi.toList T2 D2 H2 fun o => match o with
          | .nor T3 D3 H3 => D3 = [] ∧ ∃ s' l'', T3 = tl l'' ∧ lsub (cs s') l'' ∧ I s' H3 ∧ μ s' < μ s
          | _ => False
        | _ => False)) :
    WD P b n [.code (.block i (.loop (.seq (.region ic opsc false) (.seq (.cond (.tmp t) .skip (.exit i)) (.seq (.block j body) (.region ii opsi false))))))] (tl l) [] H Q := by
  refine WD.block (WD.loopS cs I μ s0 h0 hl fun s H hI => ?_)
  refine WD.seq ((WD.region (hc s H hI)).mono fun o ho => ?_)
  obtain ⟨c, l', rfl, h2, h3, h4⟩ := ho
  refine WD.seq (WD.cond (t := c) (by rw [opnd_tl]; exact h2) (fun hc => WD.skip (.inl rfl) ?_) (fun hc => WD.exit ?_))
  · refine WD.seq (WD.block ((h4 hc).mono fun o ho => ?_))
    cases o with
    | bad => exact ho.elim
    | ext e T2 D2 H2 =>
      obtain ⟨rfl, ho⟩ := ho
      rw [bOut_ext]
      refine (WD.region ho).mono fun o ho => ?_
      cases o with
      | nor T3 D3 H3 => exact ho
      | bad => exact ho.elim
      | ext => exact ho.elim
      | ret => exact ho.elim
    | ret => exact ho
    | nor T2 D2 H2 =>
      refine (WD.region ho).mono fun o ho => ?_
      cases o with
      | nor T3 D3 H3 => exact ho
      | bad => exact ho.elim
      | ext => exact ho.elim
      | ret => exact ho.elim
  · show Q (bOut i (.ext i (tl l') [] H))
    rw [bOut_ext]
    exact h3 hc
end
end
end Go.Xq
namespace Go.Xq
noncomputable section
@[simp] theorem natOf_l2 (k : IntKind) : natOf (.int k 2) = some 2 := rfl
@[simp] theorem natOf_l3 (k : IntKind) : natOf (.int k 3) = some 3 := rfl
@[simp] theorem natOf_l4 (k : IntKind) : natOf (.int k 4) = some 4 := rfl
@[simp] theorem natOf_l5 (k : IntKind) : natOf (.int k 5) = some 5 := rfl
@[simp] theorem natOf_l6 (k : IntKind) : natOf (.int k 6) = some 6 := rfl
@[simp] theorem natOf_l7 (k : IntKind) : natOf (.int k 7) = some 7 := rfl
@[simp] theorem natOf_l8 (k : IntKind) : natOf (.int k 8) = some 8 := rfl
@[simp] theorem natOf_l16 (k : IntKind) : natOf (.int k 16) = some 16 := rfl
@[simp] theorem natOf_l24 (k : IntKind) : natOf (.int k 24) = some 24 := rfl
@[simp] theorem natOf_l32 (k : IntKind) : natOf (.int k 32) = some 32 := rfl
theorem sb_inj {a b : List UInt8} (h : sb a = sb b) : a = b := by
  unfold sb at h
  injection h with h1 h2
  exact leNat_inj h1 h2
theorem shl_u64 {m k q : Nat} (hk : k ≤ 64) (hq : q = m * 2 ^ k) (hb : q < 18446744073709551616) : shlA .u64 (m : Int) (k : Int) = some (.int .u64 (q : Int)) := by
  show mkInt .u64 (mulI m (.ofNat (Nat.shiftLeft 1 (Nat.min k 64)))) = _
  have hmin : Nat.min k 64 = k := Nat.min_eq_left hk
  rw [mulI_eq, hmin]
  have : (m : Int) * Int.ofNat (Nat.shiftLeft 1 k) = (q : Int) := by
    have e : Nat.shiftLeft 1 k = 2 ^ k := by show 1 <<< k = _; rw [Nat.shiftLeft_eq, Nat.one_mul]
    rw [e, hq, Int.natCast_mul]; rfl
  rw [this]
  exact mkInt_u64n hb
theorem akAnd_u64 {a b q : Nat} (ha : a < 18446744073709551616) (hb : b < 18446744073709551616) (hq : q = a &&& b) : akAnd.f .u64 (a : Int) (b : Int) = some (.int .u64 (q : Int)) := by
  show mkInt .u64 (Int.ofNat (Nat.land (toU .u64 a) (toU .u64 b))) = _
  rw [toU_u64 ha, toU_u64 hb]
  subst hq
  exact mkInt_u64n (Nat.and_lt_two_pow (n := 64) a hb)
theorem akAnd_hm {w a : Nat} (hw : w < 18446744073709551616) (ha : a = w &&& 9259542123273814144) : akAnd.f .u64 (w : Int) 9259542123273814144 = some (.int .u64 (a : Int)) := akAnd_u64 (b := 9259542123273814144) hw (by decide) ha
theorem hm_bit {i : Nat} (hi : i < 8) : (9259542123273814144 : Nat).testBit (8 * i + 7) = true := by
  have : ∀ i : Fin 8, (9259542123273814144 : Nat).testBit (8 * i.val + 7) = true := by decide +kernel
  exact this ⟨i, hi⟩
theorem and_hm {w : Nat} (h : w &&& 9259542123273814144 = 0) {i : Nat} (hi : i < 8) : w.testBit (8 * i + 7) = false := by
  have h1 := congrArg (fun n => Nat.testBit n (8 * i + 7)) h
  simp only [Nat.testBit_and, hm_bit hi, Bool.and_true, Nat.zero_testBit] at h1
  exact h1
structure HiW (w : Nat) (l : List UInt8) : Prop where
  lt : w < 18446744073709551616
  hi : ∀ (i : Nat) (x : UInt8), i < 8 → l[i]? = some x → x.toNat.testBit 7 = true → w.testBit (8 * i + 7) = true
theorem low_of_bit (x : UInt8) (h : x.toNat.testBit 7 = false) : x.toNat < 128 := by
  have : ∀ q : Fin 256, q.val.testBit 7 = false → q.val < 128 := by decide +kernel
  exact this ⟨x.toNat, x.toNat_lt⟩ h
theorem HiW.low {w : Nat} {l : List UInt8} (h : HiW w l) (hz : ∀ i, i < 8 → w.testBit (8 * i + 7) = false) (i : Nat) (x : UInt8) (hi : i < 8) (hx : l[i]? = some x) : x.toNat < 128 := by
  refine low_of_bit x ?_
  cases e : x.toNat.testBit 7 with
  | false => rfl
  | true => have := h.hi i x hi hx e; rw [hz i hi] at this; cases this
theorem low_at {l : List UInt8} {k : Nat} (h : ∀ (i : Nat) (x : UInt8), i < 8 → (l.drop k)[i]? = some x → x.toNat < 128) (i : Nat) (x : UInt8) (h1 : k ≤ i) (h2 : i < k + 8) (hx : l[i]? = some x) : x.toNat < 128 := by
  refine h (i - k) x (by omega) ?_
  rw [List.getElem?_drop, show k + (i - k) = i by omega]; exact hx
theorem or_bits {a b i : Nat} (h : (a ||| b).testBit i = false) : a.testBit i = false ∧ b.testBit i = false := by
  rw [Nat.testBit_or, Bool.or_eq_false_iff] at h; exact h
theorem or_lt64 {a b : Nat} (ha : a < 18446744073709551616) (hb : b < 18446744073709551616) : a ||| b < 18446744073709551616 := Nat.or_lt_two_pow (n := 64) ha hb
def firstN (c : Nat) : Nat :=
  if c < 128 then 240 else if c < 194 then 241 else if c < 224 then 2 else if c = 224 then 19 else if c < 237 then 3 else if c = 237 then 35 else if c < 240 then 3 else if c = 240 then 52 else if c < 244 then 4 else if c = 244 then 68 else 241
def accLo : Nat → Nat
  | 0 => 128 | 1 => 160 | 2 => 128 | 3 => 144 | 4 => 128 | _ => 0
def accHi : Nat → Nat
  | 0 => 191 | 1 => 191 | 2 => 159 | 3 => 191 | 4 => 143 | _ => 0
def GlobU (H : AH) : Prop := 2 < H.next ∧ (∃ o, H.get 1 = some o ∧ ∀ c, c < 256 → rdCell o c = some (.int .u8 (firstN c : Int))) ∧ ∃ o, H.get 2 = some o ∧ ∀ i, i < 16 → rdCell o (2 * i) = some (.int .u8 (accLo i : Int)) ∧ rdCell o (2 * i + 1) = some (.int .u8 (accHi i : Int))
theorem GlobU.keep {H H2 : AH} {S : Nat → Prop} (h : GlobU H) (hk : Keep S H H2) (hs : ∀ b, b < 3 → ¬ S b) : GlobU H2 := by
  obtain ⟨hn, ⟨o, h1, h2⟩, ⟨o', h3, h4⟩⟩ := h
  exact ⟨Nat.lt_of_lt_of_le hn hk.1, ⟨o, hk.get (by omega) (hs 1 (by omega)) h1, h2⟩, ⟨o', hk.get (by omega) (hs 2 (by omega)) h3, h4⟩⟩
theorem first_cases {c : Nat} (h : 128 ≤ c) (h2 : c < 256) :
    (∃ n i : Nat, akAnd.f .u8 (firstN c : Int) 7 = some (.int .u8 (n : Int)) ∧ shrA .u8 (firstN c : Int) 4 = some (.int .u8 (i : Int)) ∧ i < 16 ∧ lead c = (n, accLo i, accHi i) ∧ (n = 2 ∨ n = 3 ∨ n = 4)) ∨
    (akAnd.f .u8 (firstN c : Int) 7 = some (.int .u8 1) ∧ shrA .u8 (firstN c : Int) 4 = some (.int .u8 15) ∧ (lead c).1 = 0) := by
  have key : ∀ q : Fin 256, 128 ≤ q.val → (194 ≤ q.val ∧ q.val < 245 → ∃ n i : Fin 16, akAnd.f .u8 (firstN q.val : Int) 7 = some (.int .u8 (n.val : Int)) ∧ shrA .u8 (firstN q.val : Int) 4 = some (.int .u8 (i.val : Int)) ∧ lead q.val = (n.val, accLo i.val, accHi i.val) ∧ (n.val = 2 ∨ n.val = 3 ∨ n.val = 4)) := by
    intro q hq ⟨h1, h2⟩
    obtain ⟨q, hq256⟩ := q
    simp only at h1 h2 hq ⊢
    by_cases g1 : q < 224
    · refine ⟨⟨2, by omega⟩, ⟨0, by omega⟩, ?_⟩
      have e : firstN q = 2 := by unfold firstN; rw [if_neg (by omega), if_neg (by omega), if_pos g1]
      rw [e]; exact ⟨by rfl, by rfl, by unfold lead; rw [if_neg (by omega), if_pos g1]; rfl, .inl rfl⟩
    · by_cases g2 : q = 224
      · subst g2; exact ⟨⟨3, by omega⟩, ⟨1, by omega⟩, by rfl, by rfl, by rfl, .inr (.inl rfl)⟩
      · by_cases g3 : q = 237
        · subst g3; exact ⟨⟨3, by omega⟩, ⟨2, by omega⟩, by rfl, by rfl, by rfl, .inr (.inl rfl)⟩
        · by_cases g4 : q < 240
          · refine ⟨⟨3, by omega⟩, ⟨0, by omega⟩, ?_⟩
            have e : firstN q = 3 := by
              unfold firstN; rw [if_neg (by omega), if_neg (by omega), if_neg (by omega), if_neg (by omega)]
              split
              · rfl
              · first | rfl | rw [if_neg g3, if_pos g4]
            rw [e]; exact ⟨by rfl, by rfl, by unfold lead; rw [if_neg (by omega), if_neg (by omega), if_neg g2, if_neg g3, if_pos g4]; rfl, .inr (.inl rfl)⟩
          · by_cases g5 : q = 240
            · subst g5; exact ⟨⟨4, by omega⟩, ⟨3, by omega⟩, by rfl, by rfl, by rfl, .inr (.inr rfl)⟩
            · by_cases g6 : q = 244
              · subst g6; exact ⟨⟨4, by omega⟩, ⟨4, by omega⟩, by rfl, by rfl, by rfl, .inr (.inr rfl)⟩
              · refine ⟨⟨4, by omega⟩, ⟨0, by omega⟩, ?_⟩
                have e : firstN q = 4 := by
                  unfold firstN
                  rw [if_neg (by omega), if_neg (by omega), if_neg (by omega), if_neg (by omega), if_neg (by omega), if_neg (by omega), if_neg (by omega), if_neg g5, if_pos (by omega)]
                rw [e]; exact ⟨by rfl, by rfl, by unfold lead; rw [if_neg (by omega), if_neg (by omega), if_neg g2, if_neg g3, if_neg g4, if_neg g5, if_pos (by omega)]; rfl, .inr (.inr rfl)⟩
  by_cases hb : 194 ≤ c ∧ c < 245
  · obtain ⟨n, i, k1, k2, k3, k4⟩ := key ⟨c, h2⟩ h hb
    exact .inl ⟨n.val, i.val, k1, k2, i.isLt, k3, k4⟩
  · refine .inr ?_
    have e : firstN c = 241 := by
      unfold firstN
      rw [if_neg (by omega)]
      split
      · rfl
      · (repeat' split) <;> first | rfl | (exfalso; omega)
    rw [e]
    refine ⟨by rfl, by rfl, ?_⟩
    unfold lead
    (repeat' split) <;> first | rfl | (exfalso; omega)
section
variable {c : UInt8} {r : List UInt8} {n lo hi : Nat} (h1 : ¬ c.toNat < 128) (hl : lead c.toNat = (n, lo, hi)) (hn : n = 2 ∨ n = 3 ∨ n = 4)
include h1 hl hn
theorem ln_eq (hs : n ≤ r.length + 1) : letterN (c :: r) = if (∀ d, r[0]? = some d → lo ≤ d.toNat ∧ d.toNat ≤ hi) ∧ (3 ≤ n → ∀ d, r[1]? = some d → 128 ≤ d.toNat ∧ d.toNat ≤ 191) ∧ (4 ≤ n → ∀ d, r[2]? = some d → 128 ≤ d.toNat ∧ d.toNat ≤ 191) then n else 0 := by
  unfold letterN
  dsimp only
  rw [if_neg h1, hl, if_neg (by simp only; omega)]
theorem ln_short (hs : r.length + 1 < n) : letterN (c :: r) = 0 := by
  have _ := hn
  unfold letterN
  dsimp only
  rw [if_neg h1, hl, if_pos (.inr hs)]
theorem ln_b0 {d : UInt8} (hs : n ≤ r.length + 1) (hd : r[0]? = some d) (hb : d.toNat < lo ∨ hi < d.toNat) : letterN (c :: r) = 0 := by
  rw [ln_eq h1 hl hn hs, if_neg]
  rintro ⟨g, _⟩
  have := g d hd
  omega
theorem ln_b1 {d : UInt8} (hs : n ≤ r.length + 1) (h3 : 3 ≤ n) (hd : r[1]? = some d) (hb : d.toNat < 128 ∨ 191 < d.toNat) : letterN (c :: r) = 0 := by
  rw [ln_eq h1 hl hn hs, if_neg]
  rintro ⟨_, g, _⟩
  have := g h3 d hd
  omega
theorem ln_b2 {d : UInt8} (hs : n ≤ r.length + 1) (h3 : 4 ≤ n) (hd : r[2]? = some d) (hb : d.toNat < 128 ∨ 191 < d.toNat) : letterN (c :: r) = 0 := by
  rw [ln_eq h1 hl hn hs, if_neg]
  rintro ⟨_, _, g⟩
  have := g h3 d hd
  omega
theorem ln_ok (hs : n ≤ r.length + 1) (g0 : ∀ d, r[0]? = some d → lo ≤ d.toNat ∧ d.toNat ≤ hi) (g1 : 3 ≤ n → ∀ d, r[1]? = some d → 128 ≤ d.toNat ∧ d.toNat ≤ 191) (g2 : 4 ≤ n → ∀ d, r[2]? = some d → 128 ≤ d.toNat ∧ d.toNat ≤ 191) : letterN (c :: r) = n := by
  rw [ln_eq h1 hl hn hs, if_pos ⟨g0, g1, g2⟩]
end
def encA (p : Nat × Nat) : List AV := [.int .u8 (p.1 : Int), .int .u8 (p.2 : Int)]
theorem encA_len (p : Nat × Nat) : (encA p).length = 2 := rfl
theorem cells_encA (p : Nat × Nat) : ∀ v ∈ encA p, isCell v = true := by
  intro v hv
  simp only [encA, List.mem_cons, List.not_mem_nil, or_false] at hv
  rcases hv with rfl | rfl <;> rfl
end
end Go.Xq
namespace Go.Xq
noncomputable section
theorem wid_tab {n : Nat} (hn : n < 18446744073709551616) : (n = 0 ∧ wid n = 0) ∨ (0 < n ∧ n < 256 ∧ wid n = 1) ∨ (256 ≤ n ∧ n < 65536 ∧ wid n = 2) ∨ (65536 ≤ n ∧ n < 16777216 ∧ wid n = 3) ∨ (16777216 ≤ n ∧ n < 4294967296 ∧ wid n = 4) ∨ (4294967296 ≤ n ∧ n < 1099511627776 ∧ wid n = 5) ∨ (1099511627776 ≤ n ∧ n < 281474976710656 ∧ wid n = 6) ∨ (281474976710656 ≤ n ∧ n < 72057594037927936 ∧ wid n = 7) ∨ (72057594037927936 ≤ n ∧ wid n = 8) := by
  unfold wid
  (repeat' split) <;> omega
theorem shr_u64 {m k q : Nat} (hk : k ≤ 64) (hq : q = m / 2 ^ k) : shrA .u64 (m : Int) (k : Int) = some (.int .u64 (q : Int)) := by
  show some (AV.int .u64 (.ofNat (Nat.shiftRight m (Nat.min k 64)))) = _
  have hmin : Nat.min k 64 = k := Nat.min_eq_left hk
  rw [hmin]
  subst hq
  show some (AV.int .u64 (.ofNat (m >>> k))) = _
  rw [Nat.shiftRight_eq_div_pow]; rfl
theorem xor_all {a : Nat} (h : a < 18446744073709551616) : a ^^^ 18446744073709551615 = 18446744073709551615 - a := by
  apply Nat.eq_of_testBit_eq
  intro i
  have e1 : (18446744073709551615 : Nat) = 2 ^ 64 - 1 := by decide
  have e2 : 18446744073709551615 - a = 2 ^ 64 - (a + 1) := by omega
  rw [Nat.testBit_xor, e2, Nat.testBit_two_pow_sub_succ (by omega), e1, Nat.testBit_two_pow_sub_one]
  by_cases hi : i < 64
  · simp [hi]
  · have : a.testBit i = false := Nat.testBit_lt_two_pow (Nat.lt_of_lt_of_le h (by
      have : 2 ^ 64 ≤ 2 ^ i := Nat.pow_le_pow_right (by omega) (by omega)
      omega))
    simp [hi, this]
theorem toU_neg {n : Int} (h1 : -9223372036854775808 ≤ n) (h2 : n < 0) : toU .i64 n = (n + 18446744073709551616).toNat := by
  obtain ⟨m, hm⟩ : ∃ m : Nat, n = Int.negSucc m := by
    cases n with
    | ofNat m => exact absurd h2 (by simp)
    | negSucc m => exact ⟨m, rfl⟩
  subst hm
  rw [toU_eq]
  simp [IntKind.bits]
  omega
theorem toU_pos {n : Int} (h1 : 0 ≤ n) (h2 : n < 18446744073709551616) : toU .i64 n = n.toNat := by
  obtain ⟨m, rfl⟩ := Int.eq_ofNat_of_zero_le h1
  exact toU_i64 (by omega)
theorem xor_pos {n : Int} (h1 : 0 ≤ n) (h2 : n < 9223372036854775808) : akXor.f .i64 n 0 = some (.int .i64 n) := by
  show mkInt .i64 (.ofNat (Nat.xor (toU .i64 n) (toU .i64 0))) = _
  rw [toU_pos h1 (by omega)]
  have : Nat.xor n.toNat (toU .i64 0) = n.toNat := by
    show n.toNat ^^^ 0 = _
    simp
  rw [this, mkInt_i64 (by show _ ≤ ((n.toNat : Nat) : Int); omega) (by show ((n.toNat : Nat) : Int) < _; omega)]
  congr 2
  show ((n.toNat : Nat) : Int) = n
  omega
theorem xor_neg {n : Int} (h1 : -9223372036854775808 ≤ n) (h2 : n < 0) : akXor.f .i64 n (-1) = some (.int .i64 (-(n + 1))) := by
  show mkInt .i64 (.ofNat (Nat.xor (toU .i64 n) (toU .i64 (-1)))) = _
  rw [toU_neg h1 h2]
  have : Nat.xor (n + 18446744073709551616).toNat (toU .i64 (-1)) = (-(n + 1)).toNat := by
    have e : toU .i64 (-1) = 18446744073709551615 := by rfl
    rw [e]
    show (n + 18446744073709551616).toNat ^^^ 18446744073709551615 = _
    rw [xor_all (by omega)]
    omega
  rw [this, mkInt_i64 (by show _ ≤ (((-(n + 1)).toNat : Nat) : Int); omega) (by show (((-(n + 1)).toNat : Nat) : Int) < _; omega)]
  congr 2
  show (((-(n + 1)).toNat : Nat) : Int) = _
  omega
theorem shr63_pos {n : Int} (h1 : 0 ≤ n) (h2 : n < 9223372036854775808) : shrA .i64 n 63 = some (.int .i64 0) := by
  obtain ⟨m, rfl⟩ := Int.eq_ofNat_of_zero_le h1
  show some (AV.int .i64 (.ofNat (Nat.shiftRight m (Nat.min 63 64)))) = _
  have : Nat.shiftRight m (Nat.min 63 64) = 0 := by
    show m >>> 63 = 0
    rw [Nat.shiftRight_eq_div_pow]
    omega
  rw [this]; rfl
theorem shr63_neg {n : Int} (h1 : -9223372036854775808 ≤ n) (h2 : n < 0) : shrA .i64 n 63 = some (.int .i64 (-1)) := by
  obtain ⟨m, hm⟩ : ∃ m : Nat, n = Int.negSucc m := by
    cases n with
    | ofNat m => exact absurd h2 (by simp)
    | negSucc m => exact ⟨m, rfl⟩
  subst hm
  show some (AV.int .i64 ((Int.negSucc m).fdiv (2 ^ (Nat.min 63 64) : Nat))) = _
  congr 2
  show (Int.negSucc m).fdiv ((9223372036854775808 : Nat) : Int) = -1
  rw [Int.fdiv_eq_ediv_of_nonneg _ (by omega)]
  omega
theorem leA_1 (y : UInt8) : leA (.cons (.int .u8 (y.toNat : Int)) .nil) = some (leNat [y]) := by
  have := leA_bytes [y]
  simpa using this
theorem xor_255 (x : UInt8) : x ^^^ 255 = UInt8.ofNat (255 - x.toNat) := by
  have : ∀ q : Fin 256, (UInt8.ofNat q.val) ^^^ 255 = UInt8.ofNat (255 - q.val) := by decide +kernel
  have h := this ⟨x.toNat, x.toNat_lt⟩
  simpa using h
theorem OwnB.push {H : AH} {lo : Nat} {v : AV} {k : List UInt8} (h : OwnB 5 H lo v k) (hlo : lo ≤ H.next) (y : UInt8) (hmax : k.length + 1 ≤ 17179869184) :
    ∃ v' H2, appendA ⟨grownBy 5⟩ 1 (H.new (bb 5 false [y])) v (.sl H.next 0 1 (some 1)) = some (v', H2) ∧ OwnB 5 H2 lo v' (k ++ [y]) ∧ Keep (fun b => blk v = some b) H H2 ∧ ∀ b, blk v' = some b → blk v = some b ∨ H.next ≤ b := by
  have kn : Keep noB H (H.new (bb 5 false [y])) := Keep.new _ _ _
  obtain ⟨v', H2, a1, a2, a3, a4⟩ := (h.keep kn fun _ _ => id).app (l := [y]) (x := .sl H.next 0 1 (some 1)) (by have := kn.1; omega) (.bb' rfl (by simp) (get_new_same _ _)) (by simpa using hmax)
  refine ⟨v', H2, a1, a2, (kn.mono fun _ _ e => e.elim).trans a3, fun b e => ?_⟩
  rcases a4 b e with h | h
  · exact .inl h
  · exact .inr (by simp at h; omega)
theorem OwnB.more {H : AH} {lo : Nat} {v x : AV} {k l : List UInt8} (h : OwnB 5 H lo v k) (hlo : lo ≤ H.next) (hx : RdS H x l) (hmax : k.length + l.length ≤ 17179869184) :
    ∃ v' H2, appendA ⟨grownBy 5⟩ 1 H v x = some (v', H2) ∧ OwnB 5 H2 lo v' (k ++ l) ∧ Keep (fun b => blk v = some b) H H2 ∧ ∀ b, blk v' = some b → blk v = some b ∨ H.next ≤ b := h.app hlo hx hmax
theorem Keep.own {H H2 H3 : AH} {v' : AV} {S : Nat → Prop} (h : Keep S H H2) (h' : Keep (fun b => blk v' = some b) H2 H3) (hv : ∀ b, blk v' = some b → S b ∨ H.next ≤ b) : Keep S H H3 :=
  h.trans' h' fun b hb e => by
    rcases hv b e with h | h
    · exact h
    · omega
end
end Go.Xq
