/- Contracts of calls and rules for code. Conditions: in each theorem. -/
import Derived.Test.YtfgipbjaapkdlaaGreatDoorZ9
namespace Go.Xq
noncomputable section
theorem layA_at {H : AH} {b e off : Nat} {o : Bool} {k l : List UInt8} {v : AV} (hb : H.get b = some (bb e o k)) (hn : off + l.length ≤ k.length) (h : RdS H v l) (hl : l ≠ []) :
    layA H 1 b off l.length v = some (H.set b (bb e o (putL k off l))) := by
  have h0 := copyA_at (cap := none) hb hn h.lengthA h.bytesA (Nat.le_refl _)
  unfold copyA at h0
  rw [h.lengthA, ob_some', onSl_sl] at h0
  have hmin : Nat.min l.length l.length = l.length := Nat.min_self _
  rw [hmin, if_neg hl] at h0
  obtain ⟨j, hj⟩ : ∃ j, l.length = j + 1 := ⟨l.length - 1, by have := List.length_pos_iff.2 hl; omega⟩
  rw [hj, nc_succ, ← hj, ob_some] at h0
  obtain ⟨H', h1, h2⟩ := h0
  injection h2 with h2
  injection h2 with _ h2
  rw [h1, h2]
def OwnC (e : Nat) (H : AH) (lo : Nat) (v : AV) (l : List UInt8) (c : Nat) : Prop :=
  ∃ b, v = .sl b 0 l.length (some c) ∧ lo ≤ b ∧ b < H.next ∧ l.length ≤ c ∧ H.get b = some (bb e false (l ++ List.replicate (c - l.length) 0))
theorem OwnC.rd {e : Nat} {H : AH} {lo c : Nat} {v : AV} {l : List UInt8} (h : OwnC e H lo v l c) : RdS H v l := by
  obtain ⟨b, rfl, _, h2, _, h3⟩ := h
  exact .bb rfl h2 h3
theorem OwnC.keep {e : Nat} {H H2 : AH} {lo c : Nat} {v : AV} {l : List UInt8} {S : Nat → Prop} (h : OwnC e H lo v l c) (hk : Keep S H H2) (hs : ∀ b, blk v = some b → ¬ S b) : OwnC e H2 lo v l c := by
  obtain ⟨b, rfl, h1, h2, h3, h4⟩ := h
  exact ⟨b, rfl, h1, Nat.lt_of_lt_of_le h2 hk.1, h3, hk.get h2 (hs b rfl) h4⟩
theorem OwnC.new (e : Nat) (H : AH) {lo : Nat} (hlo : lo ≤ H.next) (c : Nat) : OwnC e (H.new (bb e false (List.replicate c 0))) lo (.sl H.next 0 0 (some c)) [] c :=
  ⟨H.next, rfl, hlo, by simp, Nat.zero_le _, by simp⟩
theorem OwnC.app {e : Nat} {H : AH} {lo c : Nat} {v x : AV} {l m : List UInt8} (h : OwnC e H lo v l c) (hx : RdS H x m) (hm : m ≠ []) (hc : l.length + m.length ≤ c) (hmax : c ≤ 17179869184) :
    ∃ v' H2, appendA ⟨grownBy e⟩ 1 H v x = some (v', H2) ∧ OwnC e H2 lo v' (l ++ m) c ∧ Keep (fun b => blk v = some b) H H2 ∧ blk v' = blk v ∧ H2.next = H.next := by
  obtain ⟨b, rfl, h1, h2, h3, h4⟩ := h
  have hlay := layA_at (off := l.length) h4 (by simp; omega) hx hm
  have hput : putL (l ++ List.replicate (c - l.length) 0) l.length m = (l ++ m) ++ List.replicate (c - (l ++ m).length) 0 := by
    rw [putL_zeros l m _ rfl (by omega)]
    congr 2
    simp; omega
  rw [hput] at hlay
  refine ⟨.sl b 0 (l.length + m.length) (some c), H.set b (bb e false ((l ++ m) ++ List.replicate (c - (l ++ m).length) 0)), ?_, ⟨b, by simp, h1, by simpa using h2, by simpa using hc, get_set_same _ _ _⟩, Keep.set _ fun _ => rfl, rfl, by simp⟩
  unfold appendA
  rw [hx.lengthA, ob_some', ble_true (by omega), bt_true]
  obtain ⟨j, hj⟩ : ∃ j, m.length = j + 1 := ⟨m.length - 1, by have := List.length_pos_iff.2 hm; omega⟩
  show bt (Nat.ble (l.length + m.length) 17179869184) (nc m.length _ _) none = _
  rw [ble_true (by omega), bt_true, hj, nc_succ, ← hj]
  show ob (some c) (fun room => bt (Nat.ble (l.length + m.length) room) (ob (layA H 1 b (0 + l.length * 1) m.length x) fun H' => some (AV.sl b 0 (l.length + m.length) (some c), H')) _) = _
  rw [ob_some', ble_true hc, bt_true, Nat.zero_add, Nat.mul_one, hlay, ob_some']
theorem OwnC.push {e : Nat} {H : AH} {lo c : Nat} {v : AV} {l : List UInt8} (h : OwnC e H lo v l c) (y : UInt8) (hc : l.length + 1 ≤ c) (hmax : c ≤ 17179869184) :
    ∃ v' H2, appendA ⟨grownBy e⟩ 1 (H.new (bb e false [y])) v (.sl H.next 0 1 (some 1)) = some (v', H2) ∧ OwnC e H2 lo v' (l ++ [y]) c ∧ Keep (fun b => blk v = some b) H H2 ∧ blk v' = blk v := by
  have kn : Keep noB H (H.new (bb e false [y])) := Keep.new _ _ _
  obtain ⟨v', H2, a1, a2, a3, a4, _⟩ := (h.keep kn fun _ _ => id).app (m := [y]) (x := .sl H.next 0 1 (some 1)) (.bb' rfl (by simp) (get_new_same _ _)) (by simp) hc hmax
  exact ⟨v', H2, a1, a2, (kn.mono fun _ _ e => e.elim).trans a3, a4⟩
theorem OwnC.low {e : Nat} {H : AH} {lo c b : Nat} {v : AV} {l : List UInt8} (h : OwnC e H lo v l c) (hb : blk v = some b) : lo ≤ b ∧ b < H.next := by
  obtain ⟨b', rfl, h1, h2, _⟩ := h
  cases hb
  exact ⟨h1, h2⟩
theorem cntN_count : ∀ (l : List UInt8) (c : UInt8), cntN l.length (leNat l) c.toNat = l.count c
  | [], c => rfl
  | x :: l, c => by
    have ih := cntN_count l c
    have h1 : Nat.mod (leNat (x :: l)) 256 = x.toNat := by
      show (x.toNat + 256 * leNat l) % 256 = _
      have := x.toNat_lt
      omega
    have h2 : Nat.div (leNat (x :: l)) 256 = leNat l := by
      show (x.toNat + 256 * leNat l) / 256 = _
      have := x.toNat_lt
      omega
    show (match Nat.beq (Nat.mod (leNat (x :: l)) 256) c.toNat with | true => Nat.succ (cntN l.length (Nat.div (leNat (x :: l)) 256) c.toNat) | false => cntN l.length (Nat.div (leNat (x :: l)) 256) c.toNat) = _
    rw [h1, h2, ih, List.count_cons]
    by_cases hx : x = c
    · subst hx
      rw [Nat.beq_refl]
      simp
    · have hb : Nat.beq x.toNat c.toNat = false := by
        cases e : Nat.beq x.toNat c.toNat with
        | false => rfl
        | true => exact absurd (UInt8.toNat_inj.1 (Nat.eq_of_beq_eq_true e)) hx
      rw [hb]
      simp [hx]
end
end Go.Xq
namespace Go.Xq
namespace Its
def rng : Its → Prop
  | nil => True
  | cons _ n _ s r => (-9223372036854775808 ≤ n ∧ n < 9223372036854775808) ∧ s.rng ∧ r.rng
theorem rng_get : ∀ {l : Its} {i : Nat} {x : It}, l.rng → l.get i = some x → (-9223372036854775808 ≤ x.n ∧ x.n < 9223372036854775808) ∧ x.s.rng
  | nil, i, x, _, h => by simp [get] at h
  | cons k n t s r, 0, x, hr, h => by simp only [get, Option.some.injEq] at h; subst h; exact ⟨hr.1, hr.2.1⟩
  | cons k n t s r, i + 1, x, hr, h => rng_get (l := r) hr.2.2 h
theorem rng_ofL : ∀ {l : List It}, (∀ x ∈ l, (-9223372036854775808 ≤ x.n ∧ x.n < 9223372036854775808) ∧ x.s.rng) → (ofL l).rng
  | [], _ => trivial
  | x :: l, h => ⟨(h x (by simp)).1, (h x (by simp)).2, rng_ofL fun y hy => h y (List.mem_cons_of_mem _ hy)⟩
end Its
theorem itemB_kind {k n : Int} {t : List UInt8} {m : Nat} (h : itemB k n t m = true) : k = 0 ∨ k = 1 ∨ k = 2 ∨ k = 3 ∨ k = 4 ∨ k = 5 ∨ k = 6 ∨ k = 7 := by
  unfold itemB at h
  simp only [Bool.and_eq_true, decide_eq_true_eq] at h
  omega
end Go.Xq
namespace Go.Xq
noncomputable section
def encT (t : List UInt8) : List AV := [sb t]
theorem encT_len (t : List UInt8) : (encT t).length = 1 := rfl
section
variable {α : Type} {enc : α → List AV} {es : Nat}
def SaysE (enc : α → List AV) (es : Nat) (H : AH) (N : Nat) (v : AV) (cs : List α) : Prop :=
  (v = .snil ∧ cs = []) ∨ ∃ b off cap, v = .sl b off cs.length cap ∧ (cs ≠ [] → b < N ∧ ∃ o, H.get b = some o ∧ RdE enc es off cs o)
theorem SaysE.keep {H H2 : AH} {N M : Nat} {S : Nat → Prop} {v : AV} {cs : List α} (h : SaysE enc es H N v cs) (hk : Keep S H H2) (hN : N ≤ H.next) (hS : ∀ b, b < N → ¬ S b) (hM : N ≤ M) : SaysE enc es H2 M v cs := by
  rcases h with h | ⟨b, off, cap, h2, h3⟩
  · exact .inl h
  · refine .inr ⟨b, off, cap, h2, fun hne => ?_⟩
    obtain ⟨h4, o', h5, h6⟩ := h3 hne
    exact ⟨by omega, o', hk.get (by omega) (hS b h4) h5, h6⟩
theorem SaysE.keep0 {H H2 : AH} {N : Nat} {v : AV} {cs : List α} (h : SaysE enc es H N v cs) (hk : Keep noB H H2) (hN : N ≤ H.next) : SaysE enc es H2 N v cs := h.keep hk hN (fun _ _ => id) (Nat.le_refl _)
theorem SaysE.len {H : AH} {N : Nat} {v : AV} {cs : List α} (h : SaysE enc es H N v cs) : onSl v (some (AV.int .i64 0)) (fun _ _ n _ => some (.int .i64 (n : Int))) = some (.int .i64 (cs.length : Int)) := by
  rcases h with ⟨rfl, rfl⟩ | ⟨b, off, cap, rfl, _⟩ <;> rfl
theorem SaysE.cell {H : AH} {N : Nat} {v : AV} {cs : List α} (h : SaysE enc es H N v cs) : isCell v = true := by
  rcases h with ⟨rfl, rfl⟩ | ⟨b, off, cap, rfl, _⟩ <;> rfl
theorem SaysE.at {H : AH} {N : Nat} {v : AV} {cs : List α} (hl : ∀ a, (enc a).length = es) (h : SaysE enc es H N v cs) {i : Nat} {x : α} (hx : cs[i]? = some x) :
    ∃ b off cap o, v = .sl b off cs.length cap ∧ i < cs.length ∧ b < N ∧ H.get b = some o ∧ (∀ (j : Nat) (w : AV), (enc x)[j]? = some w → rdCell o (off + i * es + j) = some w) ∧ rdCells o es (off + i * es) = some (avl (enc x)) := by
  have hi : i < cs.length := by
    rcases Nat.lt_or_ge i cs.length with h | h
    · exact h
    · rw [List.getElem?_eq_none h] at hx; cases hx
  rcases h with ⟨_, rfl⟩ | ⟨b, off, cap, h2, h3⟩
  · simp at hi
  · obtain ⟨h4, o, h5, h6⟩ := h3 (by intro e; subst e; simp at hi)
    exact ⟨b, off, cap, o, h2, hi, h4, h5, h6 i x hx, h6.elem hx (hl x)⟩
end
theorem box_rd {α : Type} {enc : α → List AV} {es : Nat} (hl : ∀ a, (enc a).length = es) {a : α} {o : AObj} {e : Nat} {op : Bool} {z : AV} (h : ElB enc e es op z [a] o) : (∀ (j : Nat) (w : AV), (enc a)[j]? = some w → rdCell o j = some w) ∧ rdCells o es 0 = some (avl (enc a)) := by
  obtain ⟨_, _, h⟩ := h
  refine ⟨fun j w hj => ?_, ?_⟩
  · have := h 0 a rfl j w hj
    simpa using this
  · have := h.elem (k := 0) rfl (hl a)
    simpa using this
structure Xv where
  nm : List UInt8
  v : AV
  u : Bool
  c : isCell v = true
def encX (x : Xv) : List AV := [sb x.nm, x.v, .bool x.u]
theorem encX_len (x : Xv) : (encX x).length = 3 := rfl
def zXv : AV := .cons (.str 0 0) (.cons .snil (.cons (.bool false) .nil))
def zeroXv : Xv := ⟨[], .snil, false, rfl⟩
structure Fv where
  nm : List UInt8
  k : Int
  n : Int
  t : List UInt8
  v : AV
  c : isCell v = true
def encF (x : Fv) : List AV := [sb x.nm, .int .i64 x.k, .int .i64 x.n, sb x.t, x.v]
theorem encF_len (x : Fv) : (encF x).length = 5 := rfl
theorem cells_f (x : Fv) : ∀ v ∈ encF x, isCell v = true := by
  intro v hv
  simp only [encF, List.mem_cons, List.not_mem_nil, or_false] at hv
  rcases hv with rfl | rfl | rfl | rfl | rfl
  · rfl
  · rfl
  · rfl
  · rfl
  · exact x.c
def zFv : AV := .cons (.str 0 0) (.cons (.int .i64 0) (.cons (.int .i64 0) (.cons (.str 0 0) (.cons .snil .nil))))
def zeroFv : Fv := ⟨[], 0, 0, [], .snil, rfl⟩
structure Rv where
  k : Int
  n : Int
  t : List UInt8
  v : AV
  w : AV
  c : isCell v = true
  d : isCell w = true
def encR (x : Rv) : List AV := [.int .i64 x.k, .int .i64 x.n, sb x.t, x.v, x.w]
theorem encR_len (x : Rv) : (encR x).length = 5 := rfl
def zRv : AV := .cons (.int .i64 0) (.cons (.int .i64 0) (.cons (.str 0 0) (.cons .snil (.cons .snil .nil))))
def zeroRv : Rv := ⟨0, 0, [], .snil, .snil, rfl, rfl⟩
def xvA (x : Xv) : AV := .agg (avl (encX x))
def fvA (x : Fv) : AV := .agg (avl (encF x))
def rvA (x : Rv) : AV := .agg (avl (encR x))
structure Fld where
  nm : List UInt8
  it : It
structure Rec9 where
  key : It
  fs : List Fld
structure Ixd where
  nm : List UInt8
  ks : List (List UInt8)
  u : Bool
def AsFs (H : AH) (N : Nat) (cs : List Fv) (l : List Fld) : Prop := cs.length = l.length ∧ ∀ (i : Nat) (c : Fv) (x : Fld), cs[i]? = some c → l[i]? = some x → c.nm = x.nm ∧ c.k = x.it.k ∧ c.n = x.it.n ∧ c.t = x.it.t ∧ SaysI H N c.v x.it.s
theorem AsFs.keep {H H2 : AH} {N M : Nat} {S : Nat → Prop} {cs : List Fv} {l : List Fld} (h : AsFs H N cs l) (hk : Keep S H H2) (hN : N ≤ H.next) (hS : ∀ b, b < N → ¬ S b) (hM : N ≤ M) : AsFs H2 M cs l :=
  ⟨h.1, fun i c x hc hx => let ⟨e0, e1, e2, e3, e4⟩ := h.2 i c x hc hx; ⟨e0, e1, e2, e3, e4.keep hk hN hS hM⟩⟩
def SaysFs (H : AH) (N : Nat) (v : AV) (l : List Fld) : Prop := ∃ cs, SaysE encF 5 H N v cs ∧ AsFs H N cs l
theorem SaysFs.keep {H H2 : AH} {N M : Nat} {S : Nat → Prop} {v : AV} {l : List Fld} (h : SaysFs H N v l) (hk : Keep S H H2) (hN : N ≤ H.next) (hS : ∀ b, b < N → ¬ S b) (hM : N ≤ M) : SaysFs H2 M v l :=
  let ⟨cs, h1, h2⟩ := h; ⟨cs, h1.keep hk hN hS hM, h2.keep hk hN hS hM⟩
theorem SaysFs.keep0 {H H2 : AH} {N : Nat} {v : AV} {l : List Fld} (h : SaysFs H N v l) (hk : Keep noB H H2) (hN : N ≤ H.next) : SaysFs H2 N v l := h.keep hk hN (fun _ _ => id) (Nat.le_refl _)
theorem SaysFs.len {H : AH} {N : Nat} {v : AV} {l : List Fld} (h : SaysFs H N v l) : onSl v (some (AV.int .i64 0)) (fun _ _ n _ => some (.int .i64 (n : Int))) = some (.int .i64 (l.length : Int)) := by
  obtain ⟨cs, h1, h2⟩ := h
  rw [h1.len, h2.1]
theorem SaysFs.at {H : AH} {N : Nat} {v : AV} {l : List Fld} (h : SaysFs H N v l) {i : Nat} {x : Fld} (hx : l[i]? = some x) :
    ∃ b off cap o u, v = .sl b off l.length cap ∧ i < l.length ∧ b < N ∧ H.get b = some o ∧ rdCell o (off + i * 5) = some (sb x.nm) ∧ rdCell o (off + i * 5 + 1) = some (.int .i64 x.it.k) ∧ rdCell o (off + i * 5 + 2) = some (.int .i64 x.it.n) ∧ rdCell o (off + i * 5 + 3) = some (sb x.it.t) ∧ rdCell o (off + i * 5 + 4) = some u ∧ SaysI H N u x.it.s ∧
      rdCells o 4 (off + i * 5 + 1) = some (avl [.int .i64 x.it.k, .int .i64 x.it.n, sb x.it.t, u]) ∧ rdCells o 5 (off + i * 5) = some (avl [sb x.nm, .int .i64 x.it.k, .int .i64 x.it.n, sb x.it.t, u]) := by
  obtain ⟨cs, h1, h2⟩ := h
  have hi : i < cs.length := by
    rw [h2.1]
    rcases Nat.lt_or_ge i l.length with h | h
    · exact h
    · rw [List.getElem?_eq_none h] at hx; cases hx
  have hc : cs[i]? = some (cs[i]'hi) := List.getElem?_eq_getElem _
  generalize cs[i]'hi = c at hc
  obtain ⟨b, off, cap, o, e1, _, e3, e4, e5, e6⟩ := h1.at encF_len hc
  obtain ⟨f0, f1, f2, f3, f4⟩ := h2.2 i c x hc hx
  refine ⟨b, off, cap, o, c.v, by rw [e1, h2.1], by rw [← h2.1]; exact hi, e3, e4, ?_, ?_, ?_, ?_, e5 4 _ rfl, f4, ?_, ?_⟩
  · have := e5 0 _ rfl; rw [f0] at this; exact this
  · have := e5 1 _ rfl; rw [f1] at this; exact this
  · have := e5 2 _ rfl; rw [f2] at this; exact this
  · have := e5 3 _ rfl; rw [f3] at this; exact this
  · rw [← f1, ← f2, ← f3]
    refine rdCells_of [.int .i64 c.k, .int .i64 c.n, sb c.t, c.v] _ fun j w hj => ?_
    rw [show off + i * 5 + 1 + j = off + i * 5 + (j + 1) by omega]
    exact e5 (j + 1) w hj
  · rw [← f0, ← f1, ← f2, ← f3]; exact e6
theorem SaysFs.cell {H : AH} {N : Nat} {v : AV} {l : List Fld} (h : SaysFs H N v l) : isCell v = true := let ⟨_, h1, _⟩ := h; h1.cell
structure RecAt (H : AH) (N : Nat) (r : Rv) (x : Rec9) : Prop where
  k : r.k = x.key.k
  n : r.n = x.key.n
  t : r.t = x.key.t
  s : SaysI H N r.v x.key.s
  f : SaysFs H N r.w x.fs
theorem RecAt.keep {H H2 : AH} {N M : Nat} {S : Nat → Prop} {r : Rv} {x : Rec9} (h : RecAt H N r x) (hk : Keep S H H2) (hN : N ≤ H.next) (hS : ∀ b, b < N → ¬ S b) (hM : N ≤ M) : RecAt H2 M r x :=
  ⟨h.k, h.n, h.t, h.s.keep hk hN hS hM, h.f.keep hk hN hS hM⟩
theorem RecAt.keep0 {H H2 : AH} {N : Nat} {r : Rv} {x : Rec9} (h : RecAt H N r x) (hk : Keep noB H H2) (hN : N ≤ H.next) : RecAt H2 N r x := h.keep hk hN (fun _ _ => id) (Nat.le_refl _)
def CutE (es : Nat) (H : AH) (N : Nat) (v : AV) : Prop := v = .snil ∨ (∃ b off n c, v = .sl b off n (some c) ∧ n ≤ c) ∨ ∃ b off n e sz op z t, v = .sl b off n none ∧ b < N ∧ H.get b = some (.cs e es sz op z t)
theorem CutE.keep {H H2 : AH} {N M es : Nat} {S : Nat → Prop} {v : AV} (h : CutE es H N v) (hk : Keep S H H2) (hN : N ≤ H.next) (hS : ∀ b, b < N → ¬ S b) (hM : N ≤ M) : CutE es H2 M v := by
  rcases h with h | h | ⟨b, off, n, e, sz, op, z, t, h1, h2, h3⟩
  · exact .inl h
  · exact .inr (.inl h)
  · exact .inr (.inr ⟨b, off, n, e, sz, op, z, t, h1, by omega, hk.get (by omega) (hS b h2) h3⟩)
theorem SaysE.cut {α : Type} {enc : α → List AV} {es : Nat} {H : AH} {N n : Nat} {v : AV} {cs : List α} (h : SaysE enc es H N v cs) (hc : CutE es H N v) (hn : n ≤ cs.length) : ∃ v', slA es n v H = some v' ∧ SaysE enc es H N v' (cs.take n) := by
  have hl : (cs.take n).length = n := by simp; omega
  rcases h with ⟨rfl, rfl⟩ | ⟨b, off, cap, rfl, h3⟩
  · have : n = 0 := by simpa using hn
    subst this
    exact ⟨.snil, rfl, .inl ⟨rfl, rfl⟩⟩
  · have key : ∀ room, n ≤ (oc cap room id) → boundsA cs.length cap room none (some n) none = some (0, n, cap) := fun room hr => by
      show bt (Nat.ble n (oc cap room id)) (bt (Nat.ble 0 n) (some (0, n, cap)) none) none = _
      rw [ble_true hr, bt_true, ble_true (by omega), bt_true]
    have e0 : offOf cap off 0 es = off := by
      cases cap with
      | none => show off + 0 * es = _; omega
      | some c =>
        show bt (Nat.beq c 0) off (off + 0 * es) = _
        cases Nat.beq c 0 <;> simp [bt_true, bt_false]
    have hroom : ∃ room, oc cap (roomOf H b off cs.length es) some = some room ∧ n ≤ oc cap room id := by
      rcases hc with e | ⟨b', off', m, c, e, hm⟩ | ⟨b', off', m, e', sz, op, z, t, e, _, hg⟩
      · cases e
      · cases e; exact ⟨c, rfl, by show n ≤ c; omega⟩
      · cases e
        refine ⟨bt op (Nat.max cs.length (Nat.div (Nat.sub sz off) es)) cs.length, ?_, ?_⟩
        · show roomOf H b off cs.length es = _
          unfold roomOf
          rw [hg, ob_some']
          show bt (Nat.beq es es) _ _ = _
          rw [Nat.beq_refl, bt_true]
        · show n ≤ bt op _ _
          cases op with
          | true => rw [bt_true]; exact Nat.le_trans hn (Nat.le_max_left _ _)
          | false => rw [bt_false]; exact hn
    obtain ⟨room, hr1, hr2⟩ := hroom
    refine ⟨.sl b off n (capLess cap 0), ?_, .inr ⟨b, off, capLess cap 0, by rw [hl], fun hne => ?_⟩⟩
    · unfold slA
      rw [onSl_sl, hr1, ob_some', key room hr2, ob_some']
      show some (AV.sl b (offOf cap off 0 es) (n - 0) (capLess cap 0)) = _
      rw [e0]
      rfl
    · obtain ⟨h4, o, h5, h6⟩ := h3 (by intro e; subst e; simp at hne)
      exact ⟨h4, o, h5, h6.take n⟩
structure IxAt (H : AH) (N : Nat) (r : Xv) (x : Ixd) : Prop where
  nm : r.nm = x.nm
  u : r.u = x.u
  k : SaysE encT 1 H N r.v x.ks
  c : CutE 1 H N r.v
theorem IxAt.keep {H H2 : AH} {N M : Nat} {S : Nat → Prop} {r : Xv} {x : Ixd} (h : IxAt H N r x) (hk : Keep S H H2) (hN : N ≤ H.next) (hS : ∀ b, b < N → ¬ S b) (hM : N ≤ M) : IxAt H2 M r x :=
  ⟨h.nm, h.u, h.k.keep hk hN hS hM, h.c.keep hk hN hS hM⟩
theorem IxAt.keep0 {H H2 : AH} {N : Nat} {r : Xv} {x : Ixd} (h : IxAt H N r x) (hk : Keep noB H H2) (hN : N ≤ H.next) : IxAt H2 N r x := h.keep hk hN (fun _ _ => id) (Nat.le_refl _)
def keysTo (ks : List (List UInt8)) (i : Nat) : Prop := ∀ (j : Nat) (x : List UInt8), j < i → ks[j]? = some x → fieldB x = true ∧ ∀ (m : Nat) (y : List UInt8), m < j → ks[m]? = some y → y ≠ x
open Classical in
def ixB (x : Ixd) : Bool := decide (nameB x.nm 30 = true ∧ 1 ≤ x.ks.length ∧ x.ks.length ≤ 8 ∧ keysTo x.ks x.ks.length)
open Classical in
theorem ixB_t {x : Ixd} (h1 : nameB x.nm 30 = true) (h2 : 1 ≤ x.ks.length) (h3 : x.ks.length ≤ 8) (h4 : keysTo x.ks x.ks.length) : ixB x = true := decide_eq_true ⟨h1, h2, h3, h4⟩
open Classical in
theorem ixB_f {x : Ixd} (h : ¬ (nameB x.nm 30 = true ∧ 1 ≤ x.ks.length ∧ x.ks.length ≤ 8 ∧ keysTo x.ks x.ks.length)) : ixB x = false := decide_eq_false h
theorem keysTo_zero (ks : List (List UInt8)) : keysTo ks 0 := fun j x h => absurd h (Nat.not_lt_zero _)
theorem keysTo_succ {ks : List (List UInt8)} {i : Nat} {x : List UInt8} (h : keysTo ks i) (hx : ks[i]? = some x) (h1 : fieldB x = true) (h2 : ∀ (m : Nat) (y : List UInt8), m < i → ks[m]? = some y → y ≠ x) : keysTo ks (i + 1) := by
  intro j y hj hy
  rcases Nat.lt_or_ge j i with h3 | h3
  · exact h j y h3 hy
  · obtain rfl : j = i := by omega
    rw [hx] at hy; cases hy
    exact ⟨h1, h2⟩
theorem keysTo_bad {ks : List (List UInt8)} {i : Nat} {x : List UInt8} (hx : ks[i]? = some x) (h : fieldB x = false ∨ ∃ (m : Nat) (y : List UInt8), m < i ∧ ks[m]? = some y ∧ y = x) : ¬ keysTo ks ks.length := by
  intro hk
  have hi : i < ks.length := by
    rcases Nat.lt_or_ge i ks.length with h | h
    · exact h
    · rw [List.getElem?_eq_none h] at hx; cases hx
  obtain ⟨a, b⟩ := hk i x hi hx
  rcases h with h | ⟨m, y, h1, h2, h3⟩
  · rw [h] at a; cases a
  · exact b m y h1 h2 h3
def namesTo (fs : List Fld) (i : Nat) : Prop := ∀ (j : Nat) (f : Fld), j < i → fs[j]? = some f → fieldB f.nm = true ∧ ∀ (m : Nat) (g : Fld), m + 1 = j → fs[m]? = some g → Op.bytesLess g.nm f.nm = true
theorem namesTo_zero (fs : List Fld) : namesTo fs 0 := fun j x h => absurd h (Nat.not_lt_zero _)
theorem namesTo_succ {fs : List Fld} {i : Nat} {f : Fld} (h : namesTo fs i) (hx : fs[i]? = some f) (h1 : fieldB f.nm = true) (h2 : ∀ (m : Nat) (g : Fld), m + 1 = i → fs[m]? = some g → Op.bytesLess g.nm f.nm = true) : namesTo fs (i + 1) := by
  intro j y hj hy
  rcases Nat.lt_or_ge j i with h3 | h3
  · exact h j y h3 hy
  · obtain rfl : j = i := by omega
    rw [hx] at hy; cases hy
    exact ⟨h1, h2⟩
theorem namesTo_bad {fs : List Fld} {i : Nat} {f : Fld} (hx : fs[i]? = some f) (h : fieldB f.nm = false ∨ ∃ (m : Nat) (g : Fld), m + 1 = i ∧ fs[m]? = some g ∧ Op.bytesLess g.nm f.nm = false) : ¬ namesTo fs fs.length := by
  intro hk
  have hi : i < fs.length := by
    rcases Nat.lt_or_ge i fs.length with h | h
    · exact h
    · rw [List.getElem?_eq_none h] at hx; cases hx
  obtain ⟨a, b⟩ := hk i f hi hx
  rcases h with h | ⟨m, g, h1, h2, h3⟩
  · rw [h] at a; cases a
  · have := b m g h1 h2; rw [h3] at this; cases this
theorem bytesLess_irr : ∀ a : List UInt8, Op.bytesLess a a = false
  | [] => rfl
  | x :: l => by
    have := bytesLess_irr l
    simp [Op.bytesLess, this]
theorem bytesLess_trans : ∀ {a b c : List UInt8}, Op.bytesLess a b = true → Op.bytesLess b c = true → Op.bytesLess a c = true
  | _, [], _, h, _ => by simp [Op.bytesLess] at h
  | _, _ :: _, [], _, h => by simp [Op.bytesLess] at h
  | [], _ :: _, _ :: _, _, _ => rfl
  | x :: a, y :: b, z :: c, h1, h2 => by
    have ih := @bytesLess_trans a b c
    simp only [Op.bytesLess, Bool.or_eq_true, Bool.and_eq_true, decide_eq_true_eq, beq_iff_eq] at h1 h2 ⊢
    rcases h1 with h1 | ⟨h1, h1'⟩
    · rcases h2 with h2 | ⟨h2, h2'⟩
      · exact .inl (UInt8.lt_trans h1 h2)
      · subst h2; exact .inl h1
    · subst h1
      rcases h2 with h2 | ⟨h2, h2'⟩
      · exact .inl h2
      · exact .inr ⟨h2, ih h1' h2'⟩
theorem names_less {fs : List Fld} {n : Nat} (h : namesTo fs n) : ∀ (d i : Nat) (f g : Fld), i + d + 1 < n → fs[i]? = some f → fs[i + d + 1]? = some g → Op.bytesLess f.nm g.nm = true
  | 0, i, f, g, hn, hf, hg => (h (i + 1) g (by omega) hg).2 i f rfl hf
  | d + 1, i, f, g, hn, hf, hg => by
    have hi : i + d + 1 < fs.length := by
      rcases Nat.lt_or_ge (i + (d + 1) + 1) fs.length with h | h
      · omega
      · rw [List.getElem?_eq_none h] at hg; cases hg
    have hm : fs[i + d + 1]? = some (fs[i + d + 1]'hi) := List.getElem?_eq_getElem _
    exact bytesLess_trans (names_less h d i f _ (by omega) hf hm) ((h (i + (d + 1) + 1) g (by omega) hg).2 (i + d + 1) _ (by omega) hm)
def pick (nm : List UInt8) : List Fld → It
  | [] => ⟨0, 0, [], .nil⟩
  | f :: r => if f.nm = nm then f.it else pick nm r
def pairs (fs : List Fld) : List It := fs.flatMap fun f => [⟨6, 0, f.nm, .nil⟩, f.it]
open Classical in
def laidE (r : Rec9) : Nat := if (encode (Its.ofL [r.key])).2 ≠ 0 then (encode (Its.ofL [r.key])).2 else if 32 < r.fs.length ∨ ¬ namesTo r.fs r.fs.length then 192 else (encode (Its.ofL (pairs r.fs))).2
def entryI (x : Ixd) (r : Rec9) : List It := x.ks.map (fun k => pick k r.fs) ++ [r.key]
def entryL (x : Ixd) (r : Rec9) : List UInt8 × Nat := if ixB x = false then ([], 193) else if laidE r ≠ 0 then ([], laidE r) else encode (Its.ofL (entryI x r))
end
end Go.Xq
namespace Go.Xq
noncomputable section
section
variable {α : Type} {enc : α → List AV} {e es : Nat} {op : Bool} {z : AV} {els as : List α} {o : AObj} {H : AH}
theorem frSlice_els (hl : ∀ a, (enc a).length = es) {n : Nat} {z0 : AV} {g : FlK} {T : Tr AV} {b0 : Nat} (hg : g.f T z0 = some (avl (els.flatMap enc))) (hn : n = els.length) :
    ∃ o, frSlice n z0 g ⟨mkCs e es z⟩ T b0 = some (.sl b0 0 n (some n), o) ∧ ElB enc e es false z els o := by
  obtain ⟨o, h1, h2⟩ := ElB.new (e := e) (op := false) (z := z) hl els
  refine ⟨o, ?_, h2⟩
  rw [frSlice_f, hg, ob_some']
  show ob (mkCs e es z false (avl (els.flatMap enc))) _ = _
  rw [h1, ob_some']
theorem SaysE.lenA {N : Nat} {v : AV} (h : SaysE enc es H N v as) : lengthA v = some as.length := by
  rcases h with ⟨rfl, rfl⟩ | ⟨b, off, cap, rfl, _⟩ <;> rfl
theorem SaysE.firstA (hl : ∀ a, (enc a).length = es) {N : Nat} {v : AV} (h : SaysE enc es H N v as) : firstA H es as.length v = some (avl (as.flatMap enc)) := by
  rcases h with ⟨rfl, rfl⟩ | ⟨b, off, cap, rfl, h⟩
  · rfl
  · exact firstA_el hl (fun hne => let ⟨_, o, h1, h2⟩ := h hne; ⟨o, h1, h2⟩) rfl
theorem SaysE.of {b : Nat} (hb : H.get b = some o) (h : ElB enc e es op z as o) {N : Nat} (hN : b < N) {cap : Option Nat} : SaysE enc es H N (.sl b 0 as.length cap) as := .inr ⟨b, 0, cap, rfl, fun _ => ⟨hN, o, hb, h.rd⟩⟩
theorem allCell_flat {l : List α} (hc : ∀ a, ∀ v ∈ enc a, isCell v = true) : allCell (avl (l.flatMap enc)) = true := by
  refine allCell_avl fun v hv => ?_
  obtain ⟨a, _, ha⟩ := List.mem_flatMap.1 hv
  exact hc a v ha
theorem grownCs_els (hl : ∀ a, (enc a).length = es) (hc : ∀ a, ∀ v ∈ enc a, isCell v = true) {s x : AV} {n N : Nat} (hs : Go.Xq.firstA H es n s = some (avl (els.flatMap enc))) (hx : SaysE enc es H N x as) :
    ∃ o', grownCs es ⟨mkCs e es z⟩ H s n as.length x = some o' ∧ ElB enc e es true z (els ++ as) o' := by
  obtain ⟨o', h1, h2⟩ := ElB.new (e := e) (op := true) (z := z) hl (els ++ as)
  refine ⟨o', ?_, h2⟩
  unfold grownCs
  rw [hs, ob_some', hx.firstA hl, ob_some', allCell_flat hc, bt_true, app_avl]
  have : (els ++ as).flatMap enc = els.flatMap enc ++ as.flatMap enc := by simp
  rw [← this]; exact h1
theorem LstAt.appN (hl : ∀ a, (enc a).length = es) (hes : 0 < es) {lo N : Nat} {v x : AV} (h : LstAt enc e es z H lo v els) (hlo : lo ≤ H.next) (hc : ∀ a, ∀ v ∈ enc a, isCell v = true) (hx : SaysE enc es H N x as) (ha : as ≠ []) (hmax : els.length + as.length ≤ 8589934592) :
    ∃ v' H2, appendA ⟨grownCs es ⟨mkCs e es z⟩⟩ es H v x = some (v', H2) ∧ LstAt enc e es z H2 lo v' (els ++ as) ∧ blk v' = some H.next ∧ H2.next = H.next + 1 ∧ Keep (fun b => blk v = some b) H H2 := by
  obtain ⟨m, hm⟩ : ∃ m, as.length = m + 1 := by cases as with | nil => exact absurd rfl ha | cons a r => exact ⟨r.length, rfl⟩
  have hlx := hx.lenA
  rcases h with ⟨rfl, rfl⟩ | ⟨b, o, rfl, h1, h2, h3, h4, h5⟩
  · obtain ⟨o', g1, g2⟩ := grownCs_els (e := e) (z := z) (els := []) (s := .snil) (n := 0) hl hc rfl hx
    refine ⟨.sl H.next 0 as.length none, H.new o', ?_, .inr ⟨H.next, o', by simp, by simpa using ha, hlo, by simp, get_new_same _ _, g2⟩, rfl, by simp, Keep.new _ _ _⟩
    unfold appendA
    rw [hlx, ob_some', ble_true (by omega), bt_true, onSl_snil]
    rw [hm] at g1 ⊢
    show ob (grownCs es ⟨mkCs e es z⟩ H .snil 0 (m + 1) x) (fun o => some (AV.sl H.next 0 (0 + (m + 1)) none, H.new o)) = _
    rw [g1, ob_some', Nat.zero_add]
  · have h5' := h5
    obtain ⟨t, rfl, hr⟩ := h5
    obtain ⟨o', g1, g2⟩ := grownCs_els (e := e) (z := z) (els := els) (s := .sl b 0 els.length none) (n := els.length) hl hc (firstA_el hl (fun _ => ⟨_, h4, hr⟩) rfl) hx
    refine ⟨.sl H.next 0 (els.length + as.length) none, (H.kill b).new o', ?_, .inr ⟨H.next, o', by simp, by simp [ha], hlo, by simp, ?_, g2⟩, rfl, by simp, (Keep.kill (S := fun b' => blk (.sl b 0 els.length none) = some b') fun _ => rfl).trans (Keep.new _ _ _)⟩
    rotate_left
    · have := get_new_same (H.kill b) o'
      simpa using this
    unfold appendA
    rw [hlx, ob_some', ble_true (by omega), bt_true]
    rw [hm] at g1 hmax ⊢
    show bt (Nat.ble (els.length + (m + 1)) 17179869184) (ob (roomOf H b 0 els.length es) fun room => bt (Nat.ble (els.length + (m + 1)) room) _ (ob (H.get b) fun o0 => ob (grownCs es ⟨mkCs e es z⟩ H (.sl b 0 els.length none) els.length (m + 1) x) fun o => bt (alikeB o0 o) (some (AV.sl H.next 0 (els.length + (m + 1)) none, (H.kill b).new o)) none)) none = _
    have hroom : roomOf H b 0 els.length es = some els.length := by
      unfold roomOf
      rw [h4, ob_some']
      show bt (Nat.beq es es) (some (bt true (Nat.max els.length (Nat.div (Nat.sub (els.length * es) 0) es)) els.length)) none = _
      rw [Nat.beq_refl, bt_true, bt_true]
      have : Nat.div (Nat.sub (els.length * es) 0) es = els.length := by
        show (els.length * es - 0) / es = els.length
        rw [Nat.sub_zero, Nat.mul_div_cancel _ hes]
      rw [this]
      show some (max els.length els.length) = _
      simp
    rw [ble_true (by omega), bt_true, hroom, ob_some', not_ble (by omega), bt_false, h4, ob_some', g1, ob_some']
    obtain ⟨t', rfl, _⟩ := g2
    show bt (Nat.beq e e) _ none = _
    rw [Nat.beq_refl, bt_true]
theorem LstAt.says {lo : Nat} {v : AV} (h : LstAt enc e es z H lo v els) : SaysE enc es H H.next v els := by
  rcases h with h | ⟨b, o, rfl, h1, h2, h3, h4, h5⟩
  · exact .inl h
  · exact .inr ⟨b, 0, none, rfl, fun _ => ⟨h3, o, h4, h5.rd⟩⟩
end
theorem saysI_of {H : AH} {N M : Nat} {v : AV} {cs : List Iv} {l : List It} (h : SaysE encI 4 H M v cs) (ha : AsIts H N cs l) (hM : M ≤ N) : SaysI H N v (Its.ofL l) := by
  have hl : (Its.ofL l).len = cs.length := by rw [Its.len_ofL, ha.1]
  rcases h with ⟨rfl, rfl⟩ | ⟨b, off, cap, rfl, h⟩
  · have : l = [] := List.length_eq_zero_iff.1 (by rw [← ha.1]; rfl)
    subst this
    exact .inl ⟨rfl, rfl⟩
  · refine .inr ⟨b, off, cap, by rw [hl], fun hne => ?_⟩
    obtain ⟨h1, o, h2, h3⟩ := h (by intro e; subst e; simp at hl; omega)
    exact ⟨by omega, o, h2, itsAt_of ha h3⟩
end
end Go.Xq
namespace Go.Xq
noncomputable section
theorem WDO.mono {P : Program} {b : Frame} {n : Cx} {ops : Array Oper} {r : List Oper} {T : Tr AV} {D : List ADf} {H : AH} {Q Q' : Out → Prop} (h : WDO P b n ops r T D H Q) (hq : ∀ o, Q o → Q' o) : WDO P b n ops r T D H Q' := by
  obtain ⟨o, h1, h⟩ := h
  exact ⟨o, hq o h1, h⟩
def pickL (nm : List UInt8) (p : It) : List Fld → It
  | [] => p
  | f :: r => pickL nm (if f.nm = nm then f.it else p) r
theorem pickL_snoc (nm : List UInt8) : ∀ (l : List Fld) (p : It) (f : Fld), pickL nm p (l ++ [f]) = if f.nm = nm then f.it else pickL nm p l
  | [], p, f => rfl
  | g :: l, p, f => by
    show pickL nm _ (l ++ [f]) = _
    rw [pickL_snoc nm l]
    rfl
theorem pickL_none (nm : List UInt8) : ∀ (l : List Fld) (p : It), (∀ f ∈ l, f.nm ≠ nm) → pickL nm p l = p
  | [], p, _ => rfl
  | g :: l, p, h => by
    show pickL nm _ l = _
    rw [if_neg (h g (by simp)), pickL_none nm l p fun f hf => h f (List.mem_cons_of_mem _ hf)]
theorem namesTo_tail {f : Fld} {l : List Fld} (h : namesTo (f :: l) (f :: l).length) : namesTo l l.length := by
  intro j g hj hg
  obtain ⟨a, b⟩ := h (j + 1) g (by simpa using hj) (by simpa using hg)
  exact ⟨a, fun m g' hm hg' => b (m + 1) g' (by omega) (by simpa using hg')⟩
theorem names_tail {f : Fld} {l : List Fld} (h : namesTo (f :: l) (f :: l).length) : ∀ g ∈ l, g.nm ≠ f.nm := by
  intro g hg e
  obtain ⟨j, hj⟩ := List.mem_iff_getElem?.1 hg
  have hjl : j < l.length := by
    rcases Nat.lt_or_ge j l.length with h | h
    · exact h
    · rw [List.getElem?_eq_none h] at hj; cases hj
  have := names_less h j 0 f g (by simp; omega) rfl (by simpa using hj)
  rw [e, bytesLess_irr] at this
  cases this
theorem pickL_pick (nm : List UInt8) : ∀ (l : List Fld), namesTo l l.length → pickL nm ⟨0, 0, [], .nil⟩ l = pick nm l
  | [], _ => rfl
  | f :: l, h => by
    show pickL nm _ l = if f.nm = nm then f.it else pick nm l
    by_cases e : f.nm = nm
    · rw [if_pos e, if_pos e]
      exact pickL_none nm l _ fun g hg => by rw [← e]; exact names_tail h g hg
    · rw [if_neg e, if_neg e]
      exact pickL_pick nm l (namesTo_tail h)
def OwnI (H : AH) (lo N : Nat) (v : AV) (l : List It) : Prop := ∃ cs, LstAt encI 27 4 zIv H lo v cs ∧ AsIts H N cs l
theorem AsIts.nil (H : AH) (N : Nat) : AsIts H N [] [] := ⟨rfl, fun i c x hc => by simp at hc⟩
theorem OwnI.nil (H : AH) (lo N : Nat) : OwnI H lo N .snil [] := ⟨[], .inl ⟨rfl, rfl⟩, AsIts.nil H N⟩
theorem OwnI.keep {H H2 : AH} {lo N : Nat} {v : AV} {l : List It} {S : Nat → Prop} (h : OwnI H lo N v l) (hk : Keep S H H2) (hN : N ≤ H.next) (hlo : N ≤ lo) (hS : ∀ b, S b → N ≤ b) (hs : ∀ b, blk v = some b → ¬ S b) : OwnI H2 lo N v l := by
  obtain ⟨cs, h1, h2⟩ := h
  exact ⟨cs, h1.keep hk hs, h2.keep hk hN (fun b hb h => by have := hS b h; omega) (Nat.le_refl _)⟩
theorem OwnI.says {H : AH} {lo N : Nat} {v : AV} {l : List It} (h : OwnI H lo N v l) (hN : N ≤ H.next) : SaysI H H.next v (Its.ofL l) := by
  obtain ⟨cs, h1, h2⟩ := h
  exact saysI_of h1.says (h2.keep (Keep.refl noB H) hN (fun _ _ => id) hN) (Nat.le_refl _)
theorem OwnI.low {H : AH} {lo N b : Nat} {v : AV} {l : List It} (h : OwnI H lo N v l) (hb : blk v = some b) : lo ≤ b ∧ b < H.next := let ⟨_, h1, _⟩ := h; h1.low hb
theorem OwnI.app {H : AH} {lo N : Nat} {v x : AV} {l : List It} {a : Iv} {y : It} (h : OwnI H lo N v l) (hlo : lo ≤ H.next) (hN : N ≤ lo) (hx : One encI 4 H x a) (e1 : a.k = y.k) (e2 : a.n = y.n) (e3 : a.t = y.t) (e4 : SaysI H N a.v y.s) (hmax : l.length < 8589934592) :
    ∃ v' H2, appendA ⟨grownCs 4 ⟨mkCs 27 4 zIv⟩⟩ 4 H v x = some (v', H2) ∧ OwnI H2 lo N v' (l ++ [y]) ∧ blk v' = some H.next ∧ H2.next = H.next + 1 ∧ Keep (fun b => blk v = some b) H H2 := by
  obtain ⟨cs, h1, h2⟩ := h
  obtain ⟨v', H2, a1, a2, a3, a4, a5⟩ := h1.app encI_len (by omega) hlo (cells_iv a) hx (by rw [h2.1]; exact hmax)
  refine ⟨v', H2, a1, ⟨cs ++ [a], a2, (h2.snoc e1 e2 e3 e4).keep a5 (by omega) (fun b hb e => by have := (h1.low e).1; omega) (Nat.le_refl _)⟩, a3, a4, a5⟩
theorem OwnI.appN {H : AH} {lo N M : Nat} {v x : AV} {l ys : List It} {as : List Iv} (h : OwnI H lo N v l) (hlo : lo ≤ H.next) (hN : N ≤ lo) (hx : SaysE encI 4 H M x as) (hne : as ≠ []) (ha : AsIts H N as ys) (hmax : l.length + as.length ≤ 8589934592) :
    ∃ v' H2, appendA ⟨grownCs 4 ⟨mkCs 27 4 zIv⟩⟩ 4 H v x = some (v', H2) ∧ OwnI H2 lo N v' (l ++ ys) ∧ blk v' = some H.next ∧ H2.next = H.next + 1 ∧ Keep (fun b => blk v = some b) H H2 := by
  obtain ⟨cs, h1, h2⟩ := h
  obtain ⟨v', H2, a1, a2, a3, a4, a5⟩ := h1.appN encI_len (by omega) hlo (fun a => cells_iv a) hx hne (by rw [h2.1]; exact hmax)
  refine ⟨v', H2, a1, ⟨cs ++ as, a2, AsIts.keep ?_ a5 (by omega) (fun b hb e => by have := (h1.low e).1; omega) (Nat.le_refl _)⟩, a3, a4, a5⟩
  refine ⟨by simp [h2.1, ha.1], fun i c' x' hc hx => ?_⟩
  rcases Nat.lt_or_ge i cs.length with hi | hi
  · rw [List.getElem?_append_left hi] at hc
    rw [List.getElem?_append_left (by rw [← h2.1]; exact hi)] at hx
    exact h2.2 i c' x' hc hx
  · rw [List.getElem?_append_right hi] at hc
    rw [List.getElem?_append_right (by rw [← h2.1]; exact hi), ← h2.1] at hx
    exact ha.2 _ c' x' hc hx
end
end Go.Xq
namespace Go.Xq
noncomputable section
section
variable {α : Type} {enc : α → List AV} {e es : Nat} {z : AV} {cs : List α} {H H2 : AH} {b : Nat}
def Ax (enc : α → List AV) (e es : Nat) (z : AV) (H : AH) (b : Nat) (cs : List α) : Prop := ∃ o, H.get b = some o ∧ ElB enc e es false z cs o
end
namespace Its
theorem ofL_toL : ∀ l : Its, ofL l.toL = l
  | nil => rfl
  | cons k n t s r => by simp only [toL, ofL, ofL_toL r]
theorem toL_get : ∀ (l : Its) (i : Nat), l.toL[i]? = l.get i
  | nil, i => by simp [toL, get]
  | cons k n t s r, 0 => rfl
  | cons k n t s r, i + 1 => by simp only [toL, get, List.getElem?_cons_succ, toL_get r i]
theorem toL_len : ∀ l : Its, l.toL.length = l.len
  | nil => rfl
  | cons k n t s r => by simp only [toL, len, List.length_cons, toL_len r]
end Its
inductive LentS (H : AH) : Nat → Nat → AV → Its → Prop
  | mk (lo hi : Nat) (cs : List Iv) (l : Its) (mids los : Nat → Nat) (h0 : lo < hi) (hA : Ax encI 27 4 zIv H lo cs) (hlen : cs.length = l.len + 3) (hm0 : mids 0 = lo + 1) (hm1 : mids l.len ≤ hi)
      (hmn : ∀ i, i < l.len → mids i ≤ los i ∧ los i ≤ mids (i + 1))
      (hk : ∀ (i : Nat) (x : It) (c : Iv), l.get i = some x → cs[i]? = some c → c.k = x.k ∧ c.n = x.n ∧ c.t = x.t)
      (hs : ∀ (i : Nat) (x : It) (c : Iv), l.get i = some x → cs[i]? = some c → LentS H (los i) (mids (i + 1)) c.v x.s)
      (hb : ∀ (i : Nat) (c : Iv), l.len ≤ i → cs[i]? = some c → c.k = -7) : LentS H lo hi (.sl lo 0 l.len (some (l.len + 3))) l
structure LentP (H : AH) (l : Its) (i b0 : Nat) (cs : List Iv) (mids los : Nat → Nat) : Prop where
  len : cs.length = l.len + 3
  m0 : mids 0 = b0 + 1
  mn : ∀ j, j < i → j < l.len → mids j ≤ los j ∧ los j ≤ mids (j + 1)
  top : mids (min i l.len) ≤ H.next
  k : ∀ (j : Nat) (x : It) (c : Iv), j < i → l.get j = some x → cs[j]? = some c → c.k = x.k ∧ c.n = x.n ∧ c.t = x.t
  s : ∀ (j : Nat) (x : It) (c : Iv), j < i → l.get j = some x → cs[j]? = some c → LentS H (los j) (mids (j + 1)) c.v x.s
  b : ∀ (j : Nat) (c : Iv), j < i → l.len ≤ j → cs[j]? = some c → c.k = -7
def upd (f : Nat → Nat) (i a : Nat) : Nat → Nat := fun j => if j = i then a else f j
end
end Go.Xq
namespace Go.Xq
noncomputable section
section
variable {α : Type} {sub : α → AV} {its : Nat → Its} {Q : Nat → α → Prop}
structure ChP (sub : α → AV) (its : Nat → Its) (Q : Nat → α → Prop) (H : AH) (n i b0 : Nat) (cs : List α) (mids los : Nat → Nat) : Prop where
  len : cs.length = n + 3
  m0 : mids 0 = b0 + 1
  mn : ∀ j, j < i → j < n → mids j ≤ los j ∧ los j ≤ mids (j + 1)
  top : mids (min i n) ≤ H.next
  s : ∀ (j : Nat) (c : α), j < i → j < n → cs[j]? = some c → LentS H (los j) (mids (j + 1)) (sub c) (its j)
  q : ∀ (j : Nat) (c : α), j < i → cs[j]? = some c → Q j c
end
def behindL : List UInt8 := [98, 101, 104, 105, 110, 100]
def fsIts (fs : List Fld) (j : Nat) : Its := match fs[j]? with | some f => f.it.s | none => .nil
def QF (fs : List Fld) (j : Nat) (c : Fv) : Prop := (∀ f, fs[j]? = some f → c.nm = f.nm ∧ c.k = f.it.k ∧ c.n = f.it.n ∧ c.t = f.it.t) ∧ (fs.length ≤ j → c.nm = behindL)
structure LentF (H : AH) (lo hi : Nat) (w : AV) (fs : List Fld) : Prop where
  v : w = .sl lo 0 fs.length (some (fs.length + 3))
  lt : lo < hi
  ex : ∃ cs mids los, Ax encF 76 5 zFv H lo cs ∧ ChP Fv.v (fsIts fs) (QF fs) H fs.length (fs.length + 3) lo cs mids los ∧ mids fs.length ≤ hi
structure LentR (H : AH) (lo hi : Nat) (r : Rv) (x : Rec9) : Prop where
  k : r.k = x.key.k
  n : r.n = x.key.n
  t : r.t = x.key.t
  ex : ∃ mid a, LentF H lo mid r.w x.fs ∧ mid ≤ a ∧ LentS H a hi r.v x.key.s
end
end Go.Xq
namespace Go.Xq
noncomputable section
def zT : AV := .cons (.str 0 0) .nil
def beh3 : List (List UInt8) := [behindL, behindL, behindL]
structure LentX (H : AH) (lo hi : Nat) (v : AV) (ix : Ixd) : Prop where
  v : v = .sl lo 0 1 (some 4)
  lt : lo < hi
  ex : ∃ cs bk o, Ax encX 24 3 zXv H lo cs ∧ cs.length = 4 ∧ (∃ c, cs[0]? = some c ∧ c.nm = ix.nm ∧ c.u = ix.u ∧ c.v = .sl bk 0 ix.ks.length none) ∧ lo < bk ∧ bk < hi ∧ H.get bk = some o ∧ ElB encT 9 1 true zT (ix.ks ++ beh3) o ∧ ∀ (j : Nat) (c : Xv), 1 ≤ j → cs[j]? = some c → c.nm = behindL
end
end Go.Xq
namespace Go.Xq
def cmpI (x y : Int) : Int := if x < y then -1 else if y < x then 1 else 0
theorem cmpI_cases (x y : Int) : (cmpI x y = 0 ∧ x = y) ∨ (cmpI x y = -1 ∧ x < y) ∨ (cmpI x y = 1 ∧ y < x) := by unfold cmpI; (repeat' split) <;> omega
def SL (x y : List UInt8) : Prop := ∃ p a b r s, x = p ++ a :: r ∧ y = p ++ b :: s ∧ a.toNat < b.toNat
theorem SL.head {a b : UInt8} (r s : List UInt8) (h : a.toNat < b.toNat) : SL (a :: r) (b :: s) := ⟨[], a, b, r, s, rfl, rfl, h⟩
theorem SL.pre {x y : List UInt8} (h : SL x y) (q : List UInt8) : SL (q ++ x) (q ++ y) := by
  obtain ⟨p, a, b, r, s, rfl, rfl, g⟩ := h
  exact ⟨q ++ p, a, b, r, s, by simp, by simp, g⟩
theorem SL.cons {x y : List UInt8} (h : SL x y) (c : UInt8) : SL (c :: x) (c :: y) := h.pre [c]
theorem SL.suf {x y : List UInt8} (h : SL x y) (u v : List UInt8) : SL (x ++ u) (y ++ v) := by
  obtain ⟨p, a, b, r, s, rfl, rfl, g⟩ := h
  exact ⟨p, a, b, r ++ u, s ++ v, by simp, by simp, g⟩
theorem bytesLess_pre : ∀ (p x y : List UInt8), Op.bytesLess (p ++ x) (p ++ y) = Op.bytesLess x y
  | [], x, y => rfl
  | c :: p, x, y => by simp [Op.bytesLess, bytesLess_pre p x y]
theorem SL.less {x y : List UInt8} (h : SL x y) : Op.bytesLess x y = true ∧ Op.bytesLess y x = false ∧ x ≠ y := by
  obtain ⟨p, a, b, r, s, rfl, rfl, g⟩ := h
  have h1 : a < b := UInt8.lt_iff_toNat_lt.2 g
  have h2 : ¬ b < a := fun e => by have := UInt8.lt_iff_toNat_lt.1 e; omega
  have h3 : a ≠ b := fun e => by subst e; omega
  refine ⟨?_, ?_, fun e => h3 ?_⟩
  · rw [bytesLess_pre]; simp [Op.bytesLess, h1]
  · rw [bytesLess_pre]; simp [Op.bytesLess, h2, Ne.symm h3]
  · have := List.append_cancel_left e
    exact (List.cons.inj this).1
theorem fixed_SL : ∀ (w n m : Nat), n < m → m < 256 ^ w → SL (fixedL n w) (fixedL m w)
  | 0, n, m, h1, h2 => by simp at h2; omega
  | w + 1, n, m, h1, h2 => by
    have e1 : n = 256 * (n / 256) + (UInt8.ofNat (n % 256)).toNat := by
      rw [UInt8.toNat_ofNat']; omega
    have e2 : m = 256 * (m / 256) + (UInt8.ofNat (m % 256)).toNat := by
      rw [UInt8.toNat_ofNat']; omega
    have hm : m / 256 < 256 ^ w := by
      rw [Nat.pow_succ] at h2
      exact Nat.div_lt_of_lt_mul (by rw [Nat.mul_comm]; exact h2)
    rw [e1, e2, fixedL_snoc, fixedL_snoc]
    rcases Nat.lt_or_ge (n / 256) (m / 256) with h | h
    · exact (fixed_SL w _ _ h hm).suf _ _
    · have he : n / 256 = m / 256 := by omega
      rw [he]
      refine (SL.head [] [] ?_).pre _
      rw [UInt8.toNat_ofNat', UInt8.toNat_ofNat']; omega
theorem xor255_toNat (x : UInt8) : (x ^^^ 255).toNat = 255 - x.toNat := by
  have h := x.toNat_lt
  rw [xor_255, UInt8.toNat_ofNat']
  omega
theorem SL.flip {x y : List UInt8} (h : SL x y) : SL (y.map (· ^^^ 255)) (x.map (· ^^^ 255)) := by
  obtain ⟨p, a, b, r, s, rfl, rfl, g⟩ := h
  refine ⟨p.map (· ^^^ 255), b ^^^ 255, a ^^^ 255, s.map (· ^^^ 255), r.map (· ^^^ 255), by simp, by simp, ?_⟩
  have h1 := a.toNat_lt
  have h2 := b.toNat_lt
  rw [xor255_toNat, xor255_toNat]; omega
theorem wid_mono {n m : Nat} (hm : m < 18446744073709551616) (h : n ≤ m) : wid n ≤ wid m := by
  have h1 := wid_tab hm
  have h2 := wid_tab (Nat.lt_of_le_of_lt h hm)
  omega
theorem wid_pow {n : Nat} (hn : n < 18446744073709551616) : n < 256 ^ wid n := by
  rcases wid_tab hn with h | h | h | h | h | h | h | h | h <;> (obtain ⟨h1, h2⟩ := h; first | (rw [h2]; omega) | (obtain ⟨h2, h3⟩ := h2; rw [h3]; omega))
theorem int_SL {n m : Int} (h1 : -9223372036854775808 ≤ n) (h : n < m) (h2 : m < 9223372036854775808) : SL (intB n) (intB m) := by
  unfold intB
  have hw1 := wid_le n.toNat
  have hw2 := wid_le m.toNat
  have hw3 := wid_le (-(n + 1)).toNat
  have hw4 := wid_le (-(m + 1)).toNat
  split
  · rw [if_pos (by omega)]
    have hm := wid_mono (by omega) (show n.toNat ≤ m.toNat by omega)
    rcases Nat.lt_or_ge (wid n.toNat) (wid m.toNat) with hl | hl
    · refine SL.head _ _ ?_
      rw [UInt8.toNat_ofNat', UInt8.toNat_ofNat']; omega
    · have he : wid n.toNat = wid m.toNat := by omega
      rw [he]
      refine SL.cons (fixed_SL _ _ _ (by omega) ?_) _
      exact wid_pow (by omega)
  · split
    · refine SL.head _ _ ?_
      rw [UInt8.toNat_ofNat', UInt8.toNat_ofNat']; omega
    · have hm := wid_mono (by omega) (show (-(m + 1)).toNat ≤ (-(n + 1)).toNat by omega)
      rcases Nat.lt_or_ge (wid (-(m + 1)).toNat) (wid (-(n + 1)).toNat) with hl | hl
      · refine SL.head _ _ ?_
        rw [UInt8.toNat_ofNat', UInt8.toNat_ofNat']; omega
      · have he : wid (-(m + 1)).toNat = wid (-(n + 1)).toNat := by omega
        rw [he]
        refine SL.cons (SL.flip (fixed_SL _ _ _ (by omega) ?_)) _
        exact wid_pow (by omega)
theorem float_SL {n m : Int} (hm : m < 9223372036854775808) (hm1 : -9223372036854775808 ≤ m) (h : turned n < turned m) : SL (fixedL (turned n) 8) (fixedL (turned m) 8) :=
  fixed_SL _ _ _ h (turned_lt hm1 (by omega))
theorem turned_inj {n m : Int} (h1 : -9223372036854775808 ≤ n) (h2 : -9223372036854775808 ≤ m) (h : turned n = turned m) : n = m := by
  unfold turned at h; split at h <;> split at h <;> omega
theorem ordB_nil : ordB [] = [0, 1] := rfl
theorem ordB_cons (x : UInt8) (t : List UInt8) : ordB (x :: t) = (if x = 0 then [0, 255] else [x]) ++ ordB t := by simp [ordB]
theorem ord_SL : ∀ (t u : List UInt8), (Lib.compareBytes t u = 0 ∧ t = u) ∨ (Lib.compareBytes t u = -1 ∧ SL (ordB t) (ordB u)) ∨ (Lib.compareBytes t u = 1 ∧ SL (ordB u) (ordB t))
  | [], [] => .inl ⟨rfl, rfl⟩
  | [], y :: u => by
    refine .inr (.inl ⟨rfl, ?_⟩)
    rw [ordB_nil, ordB_cons]
    by_cases hy : y = 0
    · rw [if_pos hy]; exact SL.cons (SL.head _ _ (by decide)) _
    · rw [if_neg hy]
      refine SL.head _ _ ?_
      have : y.toNat ≠ 0 := fun e => hy (UInt8.toNat_inj.1 e)
      show 0 < y.toNat
      omega
  | x :: t, [] => by
    refine .inr (.inr ⟨rfl, ?_⟩)
    rw [ordB_nil, ordB_cons]
    by_cases hy : x = 0
    · rw [if_pos hy]; exact SL.cons (SL.head _ _ (by decide)) _
    · rw [if_neg hy]
      refine SL.head _ _ ?_
      have : x.toNat ≠ 0 := fun e => hy (UInt8.toNat_inj.1 e)
      show 0 < x.toNat
      omega
  | x :: t, y :: u => by
    have hd : ∀ a b : UInt8, a.toNat < b.toNat → ∀ r s, SL (ordB (a :: r)) (ordB (b :: s)) := by
      intro a b hab r s
      have hb : b ≠ 0 := fun e => by subst e; exact absurd hab (Nat.not_lt_zero _)
      rw [ordB_cons, ordB_cons, if_neg hb]
      by_cases ha : a = 0
      · rw [if_pos ha]; subst ha; exact SL.head _ _ hab
      · rw [if_neg ha]; exact SL.head _ _ hab
    unfold Lib.compareBytes
    by_cases h1 : x < y
    · rw [if_pos h1]
      exact .inr (.inl ⟨rfl, hd _ _ (UInt8.lt_iff_toNat_lt.1 h1) _ _⟩)
    · rw [if_neg h1]
      by_cases h2 : y < x
      · rw [if_pos h2]
        exact .inr (.inr ⟨rfl, hd _ _ (UInt8.lt_iff_toNat_lt.1 h2) _ _⟩)
      · rw [if_neg h2]
        have e : x = y := by
          apply UInt8.toNat_inj.1
          rw [UInt8.lt_iff_toNat_lt] at h1 h2; omega
        subst e
        rcases ord_SL t u with ⟨g1, g2⟩ | ⟨g1, g2⟩ | ⟨g1, g2⟩
        · exact .inl ⟨g1, by rw [g2]⟩
        · refine .inr (.inl ⟨g1, ?_⟩); rw [ordB_cons, ordB_cons]; exact g2.pre _
        · refine .inr (.inr ⟨g1, ?_⟩); rw [ordB_cons, ordB_cons]; exact g2.pre _
def cmp1 (k n : Int) (t : List UInt8) (k' n' : Int) (t' : List UInt8) (c : Int) : Int :=
  if cmpI k k' ≠ 0 then cmpI k k' else if k = 3 then cmpI n n' else if k = 4 then cmpI (turned n) (turned n') else if k = 5 ∨ k = 6 then Lib.compareBytes t t' else if k = 7 then c else 0
namespace Its
def cmp : Its → Its → Int
  | nil, nil => 0
  | nil, cons _ _ _ _ _ => -1
  | cons _ _ _ _ _, nil => 1
  | cons k n t s r, cons k' n' t' s' r' => if cmp1 k n t k' n' t' (s.cmp s') ≠ 0 then cmp1 k n t k' n' t' (s.cmp s') else r.cmp r'
end Its
def Bef (x y : List UInt8) : Prop := SL x y ∨ ∃ a r, y = x ++ a :: r ∧ 16 ≤ a.toNat
theorem Bef.ended {x y : List UInt8} (h : Bef x y) : SL (x ++ [0]) (y ++ [0]) := by
  rcases h with h | ⟨a, r, rfl, h⟩
  · exact h.suf _ _
  · rw [List.append_assoc]
    refine SL.pre (SL.head _ _ ?_) _
    show 0 < a.toNat
    omega
theorem Bef.less {x y : List UInt8} (h : Bef x y) : Op.bytesLess x y = true ∧ Op.bytesLess y x = false ∧ x ≠ y := by
  rcases h with h | ⟨a, r, rfl, h⟩
  · exact h.less
  · have e : Op.bytesLess x (x ++ a :: r) = Op.bytesLess (x ++ []) (x ++ a :: r) := by rw [List.append_nil]
    have e2 : Op.bytesLess (x ++ a :: r) x = Op.bytesLess (x ++ a :: r) (x ++ []) := by rw [List.append_nil]
    refine ⟨by rw [e, bytesLess_pre]; rfl, by rw [e2, bytesLess_pre]; rfl, fun g => ?_⟩
    have := congrArg List.length g
    simp at this
theorem head16 {k : Int} (h0 : 0 ≤ k) (h7 : k ≤ 7) : (UInt8.ofNat (16 + k.toNat)).toNat = 16 + k.toNat := by rw [UInt8.toNat_ofNat']; omega
theorem itemB_parts {k n : Int} {t : List UInt8} {m : Nat} (h : itemB k n t m = true) : 0 ≤ k ∧ k ≤ 7 ∧ (k = 3 ∨ k = 4 ∨ n = 0) ∧ (k = 5 ∨ k = 6 ∨ t = []) ∧ (k = 7 ∨ m = 0) := by
  unfold itemB at h
  simp only [Bool.and_eq_true, Bool.or_eq_true, decide_eq_true_eq] at h
  obtain ⟨⟨⟨⟨⟨h1, h2⟩, h3⟩, h4⟩, h5⟩, _⟩ := h
  refine ⟨h1, h2, ?_, ?_, h5⟩
  · rcases h3 with (h3 | h3) | h3
    · exact .inl h3
    · exact .inr (.inl h3)
    · exact .inr (.inr h3)
  · rcases h4 with (h4 | h4) | h4
    · exact .inl h4
    · exact .inr (.inl h4)
    · exact .inr (.inr h4)
theorem len_zero : ∀ {l : Its}, l.len = 0 → l = .nil
  | .nil, _ => rfl
  | .cons _ _ _ _ _, h => by simp [Its.len] at h
theorem enc1_ord {k n k' n' : Int} {t t' : List UInt8} {s s' : Its} (h : itemB k n t s.len = true) (h' : itemB k' n' t' s'.len = true) (hr : -9223372036854775808 ≤ n ∧ n < 9223372036854775808) (hr' : -9223372036854775808 ≤ n' ∧ n' < 9223372036854775808)
    (hs : k = 7 → k' = 7 → (s.cmp s' = 0 ∧ s = s') ∨ (s.cmp s' = -1 ∧ Bef s.enc s'.enc) ∨ (s.cmp s' = 1 ∧ Bef s'.enc s.enc)) :
    (cmp1 k n t k' n' t' (s.cmp s') = 0 ∧ k = k' ∧ n = n' ∧ t = t' ∧ s = s') ∨ (cmp1 k n t k' n' t' (s.cmp s') = -1 ∧ SL (Its.enc1 k n t s.enc) (Its.enc1 k' n' t' s'.enc)) ∨ (cmp1 k n t k' n' t' (s.cmp s') = 1 ∧ SL (Its.enc1 k' n' t' s'.enc) (Its.enc1 k n t s.enc)) := by
  obtain ⟨a1, a2, a3, a4, a5⟩ := itemB_parts h
  obtain ⟨b1, b2, b3, b4, b5⟩ := itemB_parts h'
  unfold cmp1
  rcases cmpI_cases k k' with ⟨e, hk⟩ | ⟨e, hk⟩ | ⟨e, hk⟩
  · rw [if_neg (by simp [e])]
    subst hk
    have hl : k ≠ 7 → s = s' := fun h7 => by rw [len_zero (a5.resolve_left h7), len_zero (b5.resolve_left h7)]
    have ht : k ≠ 5 → k ≠ 6 → t = t' := fun h5 h6 => by
      rw [(a4.resolve_left h5).resolve_left h6, (b4.resolve_left h5).resolve_left h6]
    have hn : k ≠ 3 → k ≠ 4 → n = n' := fun h3 h4 => by
      rw [(a3.resolve_left h3).resolve_left h4, (b3.resolve_left h3).resolve_left h4]
    by_cases k3 : k = 3
    · subst k3
      rw [if_pos rfl]
      rcases cmpI_cases n n' with ⟨g, hg⟩ | ⟨g, hg⟩ | ⟨g, hg⟩
      · exact .inl ⟨g, rfl, hg, ht (by omega) (by omega), hl (by omega)⟩
      · refine .inr (.inl ⟨g, ?_⟩); unfold Its.enc1; rw [if_pos rfl, if_pos rfl]; exact (int_SL hr.1 hg hr'.2).cons _
      · refine .inr (.inr ⟨g, ?_⟩); unfold Its.enc1; rw [if_pos rfl, if_pos rfl]; exact (int_SL hr'.1 hg hr.2).cons _
    rw [if_neg k3]
    by_cases k4 : k = 4
    · subst k4
      rw [if_pos rfl]
      rcases cmpI_cases (turned n) (turned n') with ⟨g, hg⟩ | ⟨g, hg⟩ | ⟨g, hg⟩
      · exact .inl ⟨g, rfl, turned_inj hr.1 hr'.1 (by exact_mod_cast hg), ht (by omega) (by omega), hl (by omega)⟩
      · refine .inr (.inl ⟨g, ?_⟩); unfold Its.enc1; rw [if_neg (by omega), if_pos rfl, if_neg (by omega), if_pos rfl]; exact (float_SL hr'.2 hr'.1 (by exact_mod_cast hg)).cons _
      · refine .inr (.inr ⟨g, ?_⟩); unfold Its.enc1; rw [if_neg (by omega), if_pos rfl, if_neg (by omega), if_pos rfl]; exact (float_SL hr.2 hr.1 (by exact_mod_cast hg)).cons _
    rw [if_neg k4]
    by_cases k5 : k = 5 ∨ k = 6
    · rw [if_pos k5]
      rcases ord_SL t t' with ⟨g, hg⟩ | ⟨g, hg⟩ | ⟨g, hg⟩
      · exact .inl ⟨g, rfl, hn k3 k4, hg, hl (by omega)⟩
      · refine .inr (.inl ⟨g, ?_⟩); unfold Its.enc1; rw [if_neg k3, if_neg k4, if_pos k5, if_neg k3, if_neg k4, if_pos k5]; exact hg.cons _
      · refine .inr (.inr ⟨g, ?_⟩); unfold Its.enc1; rw [if_neg k3, if_neg k4, if_pos k5, if_neg k3, if_neg k4, if_pos k5]; exact hg.cons _
    rw [if_neg k5]
    by_cases k7 : k = 7
    · subst k7
      rw [if_pos rfl]
      rcases hs rfl rfl with ⟨g, hg⟩ | ⟨g, hg⟩ | ⟨g, hg⟩
      · exact .inl ⟨g, rfl, hn k3 k4, ht (by omega) (by omega), hg⟩
      · refine .inr (.inl ⟨g, ?_⟩); unfold Its.enc1; rw [if_neg k3, if_neg k4, if_neg k5, if_pos rfl, if_neg k3, if_neg k4, if_neg k5, if_pos rfl]; exact hg.ended.cons _
      · refine .inr (.inr ⟨g, ?_⟩); unfold Its.enc1; rw [if_neg k3, if_neg k4, if_neg k5, if_pos rfl, if_neg k3, if_neg k4, if_neg k5, if_pos rfl]; exact hg.ended.cons _
    · rw [if_neg k7]
      exact .inl ⟨rfl, rfl, hn k3 k4, ht (by omega) (by omega), hl k7⟩
  · rw [if_pos (by rw [e]; decide)]
    refine .inr (.inl ⟨e, ?_⟩)
    unfold Its.enc1
    refine SL.head _ _ ?_
    rw [head16 a1 a2, head16 b1 b2]; omega
  · rw [if_pos (by rw [e]; decide)]
    refine .inr (.inr ⟨e, ?_⟩)
    unfold Its.enc1
    refine SL.head _ _ ?_
    rw [head16 a1 a2, head16 b1 b2]; omega
theorem enc_head {k n : Int} {t : List UInt8} {s r : Its} (h : itemB k n t s.len = true) : ∃ a q, (Its.cons k n t s r).enc = a :: q ∧ 16 ≤ a.toNat := by
  obtain ⟨a1, a2, _⟩ := itemB_parts h
  refine ⟨UInt8.ofNat (16 + k.toNat), _, rfl, ?_⟩
  rw [head16 a1 a2]; omega
theorem chk_split {k n : Int} {t : List UInt8} {s r : Its} {d : Nat} (h : (Its.cons k n t s r).chk d = 0) : itemB k n t s.len = true ∧ (k = 7 → s.check (d + 1) = 0) ∧ r.chk d = 0 := by
  have h1 := Its.chk_item (i := 0) h rfl
  refine ⟨h1.1, h1.2, ?_⟩
  rw [Its.chk_cons, if_neg (by simp [h1.1])] at h
  split at h
  · split at h
    · exact h
    · rename_i g1 g2; exact absurd (h1.2 g1) g2
  · exact h
theorem check_chk {s : Its} {d : Nat} (h : s.check d = 0) : s.chk d = 0 := by
  unfold Its.check at h; split at h
  · cases h
  · exact h
theorem enc_ord : ∀ (l m : Its) (d : Nat), l.chk d = 0 → m.chk d = 0 → l.rng → m.rng → (l.cmp m = 0 ∧ l = m) ∨ (l.cmp m = -1 ∧ Bef l.enc m.enc) ∨ (l.cmp m = 1 ∧ Bef m.enc l.enc)
  | .nil, .nil, d, _, _, _, _ => .inl ⟨rfl, rfl⟩
  | .nil, .cons k n t s r, d, _, h, _, _ => by
    obtain ⟨a, q, e, g⟩ := enc_head (r := r) (chk_split h).1
    exact .inr (.inl ⟨rfl, .inr ⟨a, q, e, g⟩⟩)
  | .cons k n t s r, .nil, d, h, _, _, _ => by
    obtain ⟨a, q, e, g⟩ := enc_head (r := r) (chk_split h).1
    exact .inr (.inr ⟨rfl, .inr ⟨a, q, e, g⟩⟩)
  | .cons k n t s r, .cons k' n' t' s' r', d, h, h', hr, hr' => by
    obtain ⟨a1, a2, a3⟩ := chk_split h
    obtain ⟨b1, b2, b3⟩ := chk_split h'
    have hs := fun (e : k = 7) (e' : k' = 7) => enc_ord s s' (d + 1) (check_chk (a2 e)) (check_chk (b2 e')) hr.2.1 hr'.2.1
    have hi := enc1_ord a1 b1 hr.1 hr'.1 hs
    have ih := enc_ord r r' d a3 b3 hr.2.2 hr'.2.2
    show ((if cmp1 k n t k' n' t' (s.cmp s') ≠ 0 then cmp1 k n t k' n' t' (s.cmp s') else r.cmp r') = 0 ∧ _) ∨ ((if cmp1 k n t k' n' t' (s.cmp s') ≠ 0 then cmp1 k n t k' n' t' (s.cmp s') else r.cmp r') = -1 ∧ Bef (Its.enc1 k n t s.enc ++ r.enc) (Its.enc1 k' n' t' s'.enc ++ r'.enc)) ∨ ((if cmp1 k n t k' n' t' (s.cmp s') ≠ 0 then cmp1 k n t k' n' t' (s.cmp s') else r.cmp r') = 1 ∧ Bef (Its.enc1 k' n' t' s'.enc ++ r'.enc) (Its.enc1 k n t s.enc ++ r.enc))
    rcases hi with ⟨e, rfl, rfl, rfl, rfl⟩ | ⟨e, g⟩ | ⟨e, g⟩
    · rw [if_neg (by simp [e])]
      rcases ih with ⟨f, rfl⟩ | ⟨f, g⟩ | ⟨f, g⟩
      · exact .inl ⟨f, rfl⟩
      · refine .inr (.inl ⟨f, ?_⟩)
        rcases g with g | ⟨a, q, g, g2⟩
        · exact .inl (g.pre _)
        · exact .inr ⟨a, q, by rw [g, List.append_assoc], g2⟩
      · refine .inr (.inr ⟨f, ?_⟩)
        rcases g with g | ⟨a, q, g, g2⟩
        · exact .inl (g.pre _)
        · exact .inr ⟨a, q, by rw [g, List.append_assoc], g2⟩
    · rw [if_pos (by rw [e]; decide)]
      exact .inr (.inl ⟨e, .inl (g.suf _ _)⟩)
    · rw [if_pos (by rw [e]; decide)]
      exact .inr (.inr ⟨e, .inl (g.suf _ _)⟩)
theorem less_cmp {l m : Its} {d : Nat} (h1 : l.chk d = 0) (h2 : m.chk d = 0) (h3 : l.rng) (h4 : m.rng) : (Op.bytesLess l.enc m.enc = decide (l.cmp m < 0)) ∧ (decide (l.enc = m.enc) = decide (l.cmp m = 0)) := by
  rcases enc_ord l m d h1 h2 h3 h4 with ⟨e, rfl⟩ | ⟨e, g⟩ | ⟨e, g⟩
  · rw [e, bytesLess_irr]; simp
  · obtain ⟨q1, q2, q3⟩ := g.less
    rw [e, q1]; simp [q3]
  · obtain ⟨q1, q2, q3⟩ := g.less
    rw [e, q2]; simp [Ne.symm q3]
end Go.Xq
namespace Go.Xq
noncomputable section
theorem ord_chunk : ∀ t : List UInt8, ∃ c : List UInt8, (∀ x ∈ c, x ≠ 0) ∧ ((t = c ∧ ordB t = c ++ [0, 1]) ∨ ∃ t', t = c ++ 0 :: t' ∧ ordB t = c ++ 0 :: 255 :: ordB t')
  | [] => ⟨[], by simp, .inl ⟨rfl, rfl⟩⟩
  | x :: t => by
    by_cases hx : x = 0
    · subst hx
      exact ⟨[], by simp, .inr ⟨t, rfl, by rw [ordB_cons]; rfl⟩⟩
    · obtain ⟨c, h1, h2⟩ := ord_chunk t
      refine ⟨x :: c, ?_, ?_⟩
      · intro y hy
        rcases List.mem_cons.1 hy with rfl | hy
        · exact hx
        · exact h1 y hy
      · rw [ordB_cons, if_neg hx]
        rcases h2 with ⟨rfl, h2⟩ | ⟨t', rfl, h2⟩
        · exact .inl ⟨rfl, by rw [h2]; rfl⟩
        · exact .inr ⟨t', rfl, by rw [h2]; rfl⟩
theorem idxN_first : ∀ (c r : List UInt8) (i : Nat), (∀ x ∈ c, x ≠ 0) → idxN (c ++ 0 :: r).length (leNat (c ++ 0 :: r)) 0 i = ((i + c.length : Nat) : Int)
  | [], r, i, _ => by
    show idxN (r.length + 1) (leNat ((0 : UInt8) :: r)) 0 i = _
    have e : Nat.mod (leNat ((0 : UInt8) :: r)) 256 = 0 := by
      show (Nat.add (0 : UInt8).toNat (Nat.mul 256 (leNat r))) % 256 = 0
      show (0 + 256 * leNat r) % 256 = 0
      omega
    unfold idxN
    rw [e]
    rfl
  | x :: c, r, i, h => by
    show idxN ((c ++ 0 :: r).length + 1) (leNat (x :: (c ++ 0 :: r))) 0 i = _
    have hx : x.toNat ≠ 0 := fun e => h x (by simp) (UInt8.toNat_inj.1 e)
    have hl := x.toNat_lt
    have e0 : leNat (x :: (c ++ 0 :: r)) = x.toNat + 256 * leNat (c ++ 0 :: r) := rfl
    have e : Nat.mod (leNat (x :: (c ++ 0 :: r))) 256 = x.toNat := by
      show leNat (x :: (c ++ 0 :: r)) % 256 = _
      rw [e0]; omega
    have e2 : Nat.div (leNat (x :: (c ++ 0 :: r))) 256 = leNat (c ++ 0 :: r) := by
      show leNat (x :: (c ++ 0 :: r)) / 256 = _
      rw [e0]; omega
    unfold idxN
    rw [e, e2]
    have : Nat.beq x.toNat 0 = false := by
      cases q : Nat.beq x.toNat 0 with
      | false => rfl
      | true => exact absurd (Nat.eq_of_beq_eq_true q) hx
    rw [this]
    show idxN (c ++ 0 :: r).length (leNat (c ++ 0 :: r)) 0 (i + 1) = _
    rw [idxN_first c r (i + 1) fun y hy => h y (List.mem_cons_of_mem _ hy), List.length_cons]
    congr 1; omega
theorem sub_drop (b : List UInt8) (p : Nat) : sub b p (b.length - p) = b.drop p := by
  unfold sub
  rw [List.take_of_length_le]
  simp
theorem sub_pre {b c r : List UInt8} {p : Nat} (h : b.drop p = c ++ r) : sub b p c.length = c := by
  unfold sub
  rw [h]; simp
theorem drop_at {b c r : List UInt8} {p : Nat} {x : UInt8} (h : b.drop p = c ++ x :: r) : b[p + c.length]? = some x := by
  have : (b.drop p)[c.length]? = some x := by rw [h]; simp
  rwa [List.getElem?_drop] at this
theorem drop_more {b c r : List UInt8} {p : Nat} (h : b.drop p = c ++ r) : b.drop (p + c.length) = r := by
  rw [← List.drop_drop, h]; simp
theorem drop_len {b c : List UInt8} {p : Nat} (h : b.drop p = c) (hp : p ≤ b.length) : b.length = p + c.length := by
  have := congrArg List.length h
  rw [List.length_drop] at this
  omega
end
end Go.Xq
namespace Go.Xq
noncomputable section
theorem int_shape {n : Int} (h1 : -9223372036854775808 ≤ n) (h2 : n < 9223372036854775808) : ∃ (τ hd : UInt8) (m : Nat), ((τ = 0 ∧ 0 ≤ n ∧ n = (m : Int)) ∨ (τ = 255 ∧ n < 0 ∧ n = -((m : Int) + 1))) ∧ m < 9223372036854775808 ∧
    intB n = hd :: (fixedL m (wid m)).map (· ^^^ τ) ∧ (hd ^^^ τ).toNat = 128 + wid m ∧ ((hd.toNat < 128 ∧ τ = 255) ∨ (128 ≤ hd.toNat ∧ τ = 0)) := by
  unfold intB
  by_cases h : 0 ≤ n
  · have hw := wid_le n.toNat
    have e : (UInt8.ofNat (128 + wid n.toNat)).toNat = 128 + wid n.toNat := by rw [UInt8.toNat_ofNat']; omega
    refine ⟨0, UInt8.ofNat (128 + wid n.toNat), n.toNat, .inl ⟨rfl, h, by omega⟩, by omega, ?_, ?_, .inr ⟨by rw [e]; omega, rfl⟩⟩
    · rw [if_pos h]
      congr 1
      have : ∀ x : UInt8, x ^^^ 0 = x := fun x => UInt8.xor_zero
      simp [this]
    · rw [show UInt8.ofNat (128 + wid n.toNat) ^^^ 0 = UInt8.ofNat (128 + wid n.toNat) from UInt8.xor_zero, e]
  · have hw := wid_le (-(n + 1)).toNat
    have e : (UInt8.ofNat (127 - wid (-(n + 1)).toNat)).toNat = 127 - wid (-(n + 1)).toNat := by rw [UInt8.toNat_ofNat']; omega
    refine ⟨255, UInt8.ofNat (127 - wid (-(n + 1)).toNat), (-(n + 1)).toNat, .inr ⟨rfl, by omega, by omega⟩, by omega, ?_, ?_, .inl ⟨by rw [e]; omega, rfl⟩⟩
    · rw [if_neg h]
    · rw [xor255_toNat, e]; omega
theorem xor_m1 {m : Nat} (h : m < 9223372036854775808) : akXor.f .i64 (m : Int) (-1) = some (.int .i64 (-((m : Int) + 1))) := by
  show mkInt .i64 (.ofNat (Nat.xor (toU .i64 (m : Int)) (toU .i64 (-1)))) = _
  rw [toU_pos (by omega) (by omega)]
  have : Nat.xor (m : Int).toNat (toU .i64 (-1)) = 18446744073709551615 - m := by
    have e : toU .i64 (-1) = 18446744073709551615 := by rfl
    rw [e]
    show (m : Int).toNat ^^^ 18446744073709551615 = _
    rw [xor_all (by omega)]
    omega
  rw [this, mkInt_eq]
  obtain ⟨q, hq⟩ : ∃ q : Int, q = Int.ofNat (18446744073709551615 - m) := ⟨_, rfl⟩
  have hq2 : q = 18446744073709551615 - (m : Int) := by
    rw [hq]; show ((18446744073709551615 - m : Nat) : Int) = _; omega
  rw [← hq]
  have e1 : q % (2 ^ 64 : Int) = q := by omega
  have e : IntKind.i64.wrap q = -((m : Int) + 1) := by
    show (if (true && decide (q % (2 ^ 64 : Int) ≥ (2 ^ 63 : Int))) = true then q % (2 ^ 64 : Int) - (2 ^ 64 : Int) else q % (2 ^ 64 : Int)) = _
    rw [e1, if_pos (by simp; omega)]
    omega
  rw [e]
end
end Go.Xq
namespace Go.Xq
noncomputable section
@[simp] theorem slSl_nhm_f (es : Nat) (x g m : Operand) (T : Tr AV) (H : AH) : slSl es x none (some g) (some m) T H = ob (opnd g T) fun gv => ob (natOf gv) fun k => ob (opnd m T) fun mv => ob (natOf mv) fun j => ob (opnd x T) fun v => slD es 0 k j v H := by
  unfold slSl
  simp only [optNat, ob_some']
  cases opnd g T with
  | none => rfl
  | some gv =>
    simp only [ob_some']
    cases hm : natOf gv with
    | none => rfl
    | some k =>
      simp only [ob_some']
      cases opnd m T with
      | none => rfl
      | some mv =>
        simp only [ob_some']
        cases hj : natOf mv with
        | none => rfl
        | some j => rfl
theorem RdS.inj {H : AH} {v : AV} {l k : List UInt8} (h : RdS H v l) (h' : RdS H v k) : l = k := by
  have h1 := h.bytesA
  rw [h'.bytesA] at h1
  simp only [Option.some.injEq, Prod.mk.injEq] at h1
  exact sb_inj (by unfold sb; rw [← h1.1, ← h1.2])
structure Sl8 (H : AH) (v : AV) (l : List UInt8) : Prop where
  rd : RdS H v l
  sl : l ≠ [] → SlOk H v
theorem Sl8.keep {S : Nat → Prop} {H H2 : AH} {v : AV} {l : List UInt8} (h : Sl8 H v l) (hk : Keep S H H2) (hs : ∀ x, blk v = some x → ¬ S x) : Sl8 H2 v l :=
  ⟨h.rd.keep hk hs, fun hl => (h.sl hl).keep h.rd hl hk hs⟩
theorem Sl8.drop {H : AH} {v : AV} {l : List UInt8} (h : Sl8 H v l) (n : Nat) (hn : n ≤ l.length) (hl : l ≠ []) : ∃ v', slC 1 (some n) none v H = some v' ∧ Sl8 H v' (l.drop n) ∧ blk v' = blk v := by
  obtain ⟨v', a1, a2, a3, a4⟩ := slC_gen (lo := n) none (n := l.length) rfl h.rd (h.sl hl) hl hn (Nat.le_refl _)
  rw [sub_drop] at a2
  exact ⟨v', a1, ⟨a2, fun _ => a3⟩, a4⟩
theorem Sl8.whole {H : AH} {v : AV} {l : List UInt8} (h : Sl8 H v l) (hl : l ≠ []) : ∃ v', slD 1 0 l.length l.length v H = some v' ∧ Sl8 H v' l ∧ blk v' = blk v := by
  obtain ⟨v', a1, a2, a3, a4⟩ := slD_gen (lo := 0) (hi := l.length) h.rd (h.sl hl) hl (Nat.zero_le _) (Nat.le_refl _)
  rw [show sub l 0 (l.length - 0) = l from by rw [sub_drop]; rfl] at a2
  exact ⟨v', a1, ⟨a2, fun _ => a3⟩, a4⟩
theorem Sl8.pos {H : AH} {v : AV} {l : List UInt8} (h : Sl8 H v l) (hl : 0 < l.length) : ∃ vb off cap o, v = .sl vb off l.length cap ∧ H.get vb = some o ∧ ∀ (i : Nat) (x : UInt8), l[i]? = some x → rdCell o (off + i) = some (.int .u8 (x.toNat : Int)) := by
  obtain ⟨vb, off, cap, o, e, _, hg, hby⟩ := h.rd.pos hl
  exact ⟨vb, off, cap, o, e, hg, hby⟩
theorem letter_parts {c : UInt8} {r : List UInt8} (h : utf8L (c :: r) = true) (h1 : ¬ c.toNat < 128) : letterN (c :: r) ≠ 0 := fun e => by
  rw [utf8L_bad (by simp) e] at h; cases h
end
end Go.Xq
namespace Go.Xq
noncomputable section
def ItsAtR (H : AH) (R : Nat → Prop) : Its → AObj → Nat → Prop
  | .nil, _, _ => True
  | .cons k n t s r, o, off =>
    rdCell o off = some (.int .i64 k) ∧ rdCell o (off + 1) = some (.int .i64 n) ∧ rdCell o (off + 2) = some (sb t) ∧
      (∃ v, rdCell o (off + 3) = some v ∧ ((v = .snil ∧ s = .nil) ∨ ∃ b off' cap, v = .sl b off' s.len cap ∧ (s.len ≠ 0 → R b ∧ ∃ o', H.get b = some o' ∧ ItsAtR H R s o' off'))) ∧
      ItsAtR H R r o (off + 4)
def SaysR (H : AH) (R : Nat → Prop) (v : AV) (s : Its) : Prop :=
  (v = .snil ∧ s = .nil) ∨ ∃ b off' cap, v = .sl b off' s.len cap ∧ (s.len ≠ 0 → R b ∧ ∃ o', H.get b = some o' ∧ ItsAtR H R s o' off')
theorem ItsAtR.keep : ∀ {l : Its} {H H2 : AH} {R R2 : Nat → Prop} {S : Nat → Prop} {o : AObj} {off : Nat}, ItsAtR H R l o off → Keep S H H2 → (∀ b, R b → b < H.next ∧ ¬ S b ∧ R2 b) → ItsAtR H2 R2 l o off
  | .nil, _, _, _, _, _, _, _, _, _, _ => trivial
  | .cons k n t s r, H, H2, R, R2, S, o, off, ha, hk, hR => by
    refine ⟨ha.1, ha.2.1, ha.2.2.1, ?_, ItsAtR.keep (l := r) ha.2.2.2.2 hk hR⟩
    obtain ⟨v, h1, h2⟩ := ha.2.2.2.1
    refine ⟨v, h1, ?_⟩
    rcases h2 with h2 | ⟨b, off', cap, h2, h3⟩
    · exact .inl h2
    · refine .inr ⟨b, off', cap, h2, fun hne => ?_⟩
      obtain ⟨h4, o', h5, h6⟩ := h3 hne
      obtain ⟨g1, g2, g3⟩ := hR b h4
      exact ⟨g3, o', hk.get g1 g2 h5, ItsAtR.keep (l := s) h6 hk hR⟩
theorem SaysR.keep {H H2 : AH} {R R2 : Nat → Prop} {S : Nat → Prop} {v : AV} {l : Its} (h : SaysR H R v l) (hk : Keep S H H2) (hR : ∀ b, R b → b < H.next ∧ ¬ S b ∧ R2 b) : SaysR H2 R2 v l := by
  rcases h with h | ⟨b, off, cap, h2, h3⟩
  · exact .inl h
  · refine .inr ⟨b, off, cap, h2, fun hne => ?_⟩
    obtain ⟨h4, o', h5, h6⟩ := h3 hne
    obtain ⟨g1, g2, g3⟩ := hR b h4
    exact ⟨g3, o', hk.get g1 g2 h5, h6.keep hk hR⟩
theorem ItsAtR.toI : ∀ {l : Its} {H : AH} {R : Nat → Prop} {N : Nat} {o : AObj} {off : Nat}, ItsAtR H R l o off → (∀ b, R b → b < N) → ItsAt H N l o off
  | .nil, _, _, _, _, _, _, _ => trivial
  | .cons k n t s r, H, R, N, o, off, ha, hR => by
    refine ⟨ha.1, ha.2.1, ha.2.2.1, ?_, ItsAtR.toI (l := r) ha.2.2.2.2 hR⟩
    obtain ⟨v, h1, h2⟩ := ha.2.2.2.1
    refine ⟨v, h1, ?_⟩
    rcases h2 with h2 | ⟨b, off', cap, h2, h3⟩
    · exact .inl h2
    · refine .inr ⟨b, off', cap, h2, fun hne => ?_⟩
      obtain ⟨h4, o', h5, h6⟩ := h3 hne
      exact ⟨hR b h4, o', h5, ItsAtR.toI (l := s) h6 hR⟩
theorem SaysR.toI {H : AH} {R : Nat → Prop} {N : Nat} {v : AV} {l : Its} (h : SaysR H R v l) (hR : ∀ b, R b → b < N) : SaysI H N v l := by
  rcases h with h | ⟨b, off, cap, h2, h3⟩
  · exact .inl h
  · refine .inr ⟨b, off, cap, h2, fun hne => ?_⟩
    obtain ⟨h4, o', h5, h6⟩ := h3 hne
    exact ⟨hR b h4, o', h5, h6.toI hR⟩
theorem SaysR.cell {H : AH} {R : Nat → Prop} {v : AV} {l : Its} (h : SaysR H R v l) : isCell v = true := by
  rcases h with ⟨rfl, rfl⟩ | ⟨b, off, cap, rfl, _⟩ <;> rfl
theorem SaysR.nil (H : AH) (R : Nat → Prop) : SaysR H R .snil .nil := .inl ⟨rfl, rfl⟩
def AsItsR (H : AH) (R : Nat → Prop) (cs : List Iv) (l : List It) : Prop := cs.length = l.length ∧ ∀ (i : Nat) (c : Iv) (x : It), cs[i]? = some c → l[i]? = some x → c.k = x.k ∧ c.n = x.n ∧ c.t = x.t ∧ SaysR H R c.v x.s
theorem AsItsR.keep {H H2 : AH} {R R2 : Nat → Prop} {S : Nat → Prop} {cs : List Iv} {l : List It} (h : AsItsR H R cs l) (hk : Keep S H H2) (hR : ∀ b, R b → b < H.next ∧ ¬ S b ∧ R2 b) : AsItsR H2 R2 cs l :=
  ⟨h.1, fun i c x hc hx => let ⟨e1, e2, e3, e4⟩ := h.2 i c x hc hx; ⟨e1, e2, e3, e4.keep hk hR⟩⟩
theorem AsItsR.snoc {H : AH} {R : Nat → Prop} {cs : List Iv} {l : List It} {c : Iv} {x : It} (h : AsItsR H R cs l) (e1 : c.k = x.k) (e2 : c.n = x.n) (e3 : c.t = x.t) (e4 : SaysR H R c.v x.s) : AsItsR H R (cs ++ [c]) (l ++ [x]) := by
  refine ⟨by simp [h.1], fun i c' x' hc hx => ?_⟩
  rcases Nat.lt_or_ge i cs.length with hi | hi
  · rw [List.getElem?_append_left hi] at hc
    rw [List.getElem?_append_left (by rw [← h.1]; exact hi)] at hx
    exact h.2 i c' x' hc hx
  · rw [List.getElem?_append_right hi] at hc
    rw [List.getElem?_append_right (by rw [← h.1]; exact hi), ← h.1] at hx
    obtain ⟨j, hj⟩ : ∃ j, j = i - cs.length := ⟨_, rfl⟩
    rw [← hj] at hc hx
    cases j with
    | zero => simp at hc hx; subst hc; subst hx; exact ⟨e1, e2, e3, e4⟩
    | succ j => simp at hc
theorem itsAtR_of : ∀ {l : List It} {cs : List Iv} {H : AH} {R : Nat → Prop} {o : AObj} {off : Nat}, AsItsR H R cs l → RdE encI 4 off cs o → ItsAtR H R (Its.ofL l) o off
  | [], _, _, _, _, _, _, _ => trivial
  | x :: l, [], _, _, _, _, h, _ => by have := h.1; simp at this
  | x :: l, c :: cs, H, R, o, off, h, hr => by
    obtain ⟨h1, h2⟩ := h
    obtain ⟨e1, e2, e3, e4⟩ := h2 0 c x rfl rfl
    have g := fun j v (hj : (encI c)[j]? = some v) => hr 0 c rfl j v hj
    refine ⟨?_, ?_, ?_, ⟨c.v, ?_, e4⟩, ?_⟩
    · have := g 0 _ rfl; rw [e1] at this; simpa using this
    · have := g 1 _ rfl; rw [e2] at this; simpa using this
    · have := g 2 _ rfl; rw [e3] at this; simpa using this
    · have := g 3 _ rfl; simpa using this
    · exact itsAtR_of ⟨by simpa using h1, fun i c' x' hc hx => h2 (i + 1) c' x' (by simpa using hc) (by simpa using hx)⟩ hr.tail
def Rv1 (lo : Nat) (H : AH) (v : AV) : Nat → Prop := fun b => lo ≤ b ∧ b < H.next ∧ blk v ≠ some b
def OwnR (H : AH) (lo : Nat) (v : AV) (l : List It) : Prop := ∃ cs, LstAt encI 27 4 zIv H lo v cs ∧ AsItsR H (Rv1 lo H v) cs l
theorem OwnR.nil (H : AH) (lo : Nat) : OwnR H lo .snil [] := ⟨[], .inl ⟨rfl, rfl⟩, rfl, fun i c x hc => by simp at hc⟩
theorem OwnR.keep {H H2 : AH} {lo : Nat} {v : AV} {l : List It} {S : Nat → Prop} (h : OwnR H lo v l) (hk : Keep S H H2) (hS : ∀ b, lo ≤ b → b < H.next → ¬ S b) : OwnR H2 lo v l := by
  obtain ⟨cs, h1, h2⟩ := h
  exact ⟨cs, h1.keep hk fun b e => hS b (h1.low e).1 (h1.low e).2, h2.keep hk fun b hb => ⟨hb.2.1, hS b hb.1 hb.2.1, hb.1, Nat.lt_of_lt_of_le hb.2.1 hk.1, hb.2.2⟩⟩
theorem OwnR.low {H : AH} {lo b : Nat} {v : AV} {l : List It} (h : OwnR H lo v l) (hb : blk v = some b) : lo ≤ b ∧ b < H.next := let ⟨_, h1, _⟩ := h; h1.low hb
theorem OwnR.len {H : AH} {lo : Nat} {v : AV} {l : List It} (h : OwnR H lo v l) : onSl v (some (AV.int .i64 0)) (fun _ _ n _ => some (.int .i64 (n : Int))) = some (.int .i64 (l.length : Int)) := by
  obtain ⟨cs, h1, h2⟩ := h
  rw [h1.len, h2.1]
theorem OwnR.says {H : AH} {lo : Nat} {v : AV} {l : List It} (h : OwnR H lo v l) : SaysR H (fun b => lo ≤ b ∧ b < H.next) v (Its.ofL l) := by
  obtain ⟨cs, h1, h2⟩ := h
  rcases h1 with ⟨rfl, rfl⟩ | h1
  · have : l = [] := List.length_eq_zero_iff.1 (by rw [← h2.1]; rfl)
    subst this
    exact .inl ⟨rfl, rfl⟩
  · obtain ⟨b, o, rfl, _, g1, g2, g3, g4⟩ := h1
    refine .inr ⟨b, 0, none, by rw [Its.len_ofL, h2.1], fun _ => ⟨⟨g1, g2⟩, o, g3, ?_⟩⟩
    exact itsAtR_of (h2.keep (Keep.refl noB H) fun b hb => ⟨hb.2.1, id, hb.1, hb.2.1⟩) g4.rd
theorem OwnR.app {H : AH} {lo : Nat} {v x : AV} {l : List It} {a : Iv} {y : It} (h : OwnR H lo v l) (hlo : lo ≤ H.next) (hx : One encI 4 H x a) (e1 : a.k = y.k) (e2 : a.n = y.n) (e3 : a.t = y.t) (e4 : SaysR H (Rv1 lo H v) a.v y.s) (hmax : l.length < 8589934592) :
    ∃ v' H2, appendA ⟨grownCs 4 ⟨mkCs 27 4 zIv⟩⟩ 4 H v x = some (v', H2) ∧ OwnR H2 lo v' (l ++ [y]) ∧ blk v' = some H.next ∧ H2.next = H.next + 1 ∧ Keep (fun b => blk v = some b) H H2 := by
  obtain ⟨cs, h1, h2⟩ := h
  obtain ⟨v', H2, a1, a2, a3, a4, a5⟩ := h1.app encI_len (by omega) hlo (cells_iv a) hx (by rw [h2.1]; exact hmax)
  refine ⟨v', H2, a1, ⟨cs ++ [a], a2, (h2.snoc e1 e2 e3 e4).keep a5 fun b hb => ⟨hb.2.1, hb.2.2, hb.1, by have := hb.2.1; omega, fun e => ?_⟩⟩, a3, a4, a5⟩
  rw [a3] at e
  cases e
  exact absurd hb.2.1 (Nat.lt_irrefl _)
end
end Go.Xq
