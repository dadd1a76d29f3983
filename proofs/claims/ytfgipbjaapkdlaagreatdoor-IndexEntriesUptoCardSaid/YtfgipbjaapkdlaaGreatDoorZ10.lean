/- Contracts of calls and rules for code. Conditions: in each theorem. -/
import Derived.Test.YtfgipbjaapkdlaaGreatDoorZ9
namespace Go.Xq
noncomputable section
theorem layA_at {H : AH} {b e off : Nat} {o : Bool} {k l : List UInt8} {v : AV} (hb : H.get b = some (bb e o k)) (hn : off + l.length ≤ k.length) (h : RdS H v l) (hl : l ≠ []) :
  layA H 1 b off l.length v = some (H.set b (bb e o (putL k off l))) := by
 have h0 := copyA_at (cap := none) hb hn h.lengthA h.bytesA (Nat.le_refl _)
 unfold copyA at h0
 rw [h.lengthA, ob_some', onSl_sl] at h0
 have hmin : Nat.min l.length l.length = l.length := Nat.min_self _
 rw [hmin, if_neg hl] at h0
 obtain ⟨j, hj⟩ : ∃ j, l.length = j + 1 := ⟨l.length - 1, by have := List.length_pos_iff.2 hl; omega⟩
 rw [hj, nc_succ, ← hj, ob_some] at h0
 obtain ⟨H', h1, h2⟩ := h0
 injection h2 with h2
 injection h2 with _ h2
 rw [h1, h2]
def OwnC (e : Nat) (H : AH) (lo : Nat) (v : AV) (l : List UInt8) (c : Nat) : Prop :=
 ∃ b, v = .sl b 0 l.length (some c) ∧ lo ≤ b ∧ b < H.next ∧ l.length ≤ c ∧ H.get b = some (bb e false (l ++ List.replicate (c - l.length) 0))
theorem OwnC.rd {e : Nat} {H : AH} {lo c : Nat} {v : AV} {l : List UInt8} (h : OwnC e H lo v l c) : RdS H v l := by
 obtain ⟨b, rfl, _, h2, _, h3⟩ := h
 exact .bb rfl h2 h3
theorem OwnC.keep {e : Nat} {H H2 : AH} {lo c : Nat} {v : AV} {l : List UInt8} {S : Nat → Prop} (h : OwnC e H lo v l c) (hk : Keep S H H2) (hs : ∀ b, blk v = some b → ¬ S b) : OwnC e H2 lo v l c := by
 obtain ⟨b, rfl, h1, h2, h3, h4⟩ := h
 exact ⟨b, rfl, h1, Nat.lt_of_lt_of_le h2 hk.1, h3, hk.get h2 (hs b rfl) h4⟩
theorem OwnC.new (e : Nat) (H : AH) {lo : Nat} (hlo : lo ≤ H.next) (c : Nat) : OwnC e (H.new (bb e false (List.replicate c 0))) lo (.sl H.next 0 0 (some c)) [] c :=
 ⟨H.next, rfl, hlo, by simp, Nat.zero_le _, by simp⟩
theorem OwnC.app {e : Nat} {H : AH} {lo c : Nat} {v x : AV} {l m : List UInt8} (h : OwnC e H lo v l c) (hx : RdS H x m) (hm : m ≠ []) (hc : l.length + m.length ≤ c) (hmax : c ≤ 17179869184) :
  ∃ v' H2, appendA ⟨grownBy e⟩ 1 H v x = some (v', H2) ∧ OwnC e H2 lo v' (l ++ m) c ∧ Keep (fun b => blk v = some b) H H2 ∧ blk v' = blk v ∧ H2.next = H.next := by
 obtain ⟨b, rfl, h1, h2, h3, h4⟩ := h
 have hlay := layA_at (off := l.length) h4 (by simp; omega) hx hm
 have hput : putL (l ++ List.replicate (c - l.length) 0) l.length m = (l ++ m) ++ List.replicate (c - (l ++ m).length) 0 := by
  rw [putL_zeros l m _ rfl (by omega)]
  congr 2
  simp; omega
 rw [hput] at hlay
 refine ⟨.sl b 0 (l.length + m.length) (some c), H.set b (bb e false ((l ++ m) ++ List.replicate (c - (l ++ m).length) 0)), ?_, ⟨b, by simp, h1, by simpa using h2, by simpa using hc, get_set_same _ _ _⟩, Keep.set _ fun _ => rfl, rfl, by simp⟩
 unfold appendA
 rw [hx.lengthA, ob_some', ble_true (by omega), bt_true]
 obtain ⟨j, hj⟩ : ∃ j, m.length = j + 1 := ⟨m.length - 1, by have := List.length_pos_iff.2 hm; omega⟩
 show bt (Nat.ble (l.length + m.length) 17179869184) (nc m.length _ _) none = _
 rw [ble_true (by omega), bt_true, hj, nc_succ, ← hj]
 show ob (some c) (fun room => bt (Nat.ble (l.length + m.length) room) (ob (layA H 1 b (0 + l.length * 1) m.length x) fun H' => some (AV.sl b 0 (l.length + m.length) (some c), H')) _) = _
 rw [ob_some', ble_true hc, bt_true, Nat.zero_add, Nat.mul_one, hlay, ob_some']
theorem OwnC.push {e : Nat} {H : AH} {lo c : Nat} {v : AV} {l : List UInt8} (h : OwnC e H lo v l c) (y : UInt8) (hc : l.length + 1 ≤ c) (hmax : c ≤ 17179869184) :
  ∃ v' H2, appendA ⟨grownBy e⟩ 1 (H.new (bb e false [y])) v (.sl H.next 0 1 (some 1)) = some (v', H2) ∧ OwnC e H2 lo v' (l ++ [y]) c ∧ Keep (fun b => blk v = some b) H H2 ∧ blk v' = blk v := by
 have kn : Keep noB H (H.new (bb e false [y])) := Keep.new _ _ _
 obtain ⟨v', H2, a1, a2, a3, a4, _⟩ := (h.keep kn fun _ _ => id).app (m := [y]) (x := .sl H.next 0 1 (some 1)) (.bb' rfl (by simp) (get_new_same _ _)) (by simp) hc hmax
 exact ⟨v', H2, a1, a2, (kn.mono fun _ _ e => e.elim).trans a3, a4⟩
theorem OwnC.low {e : Nat} {H : AH} {lo c b : Nat} {v : AV} {l : List UInt8} (h : OwnC e H lo v l c) (hb : blk v = some b) : lo ≤ b ∧ b < H.next := by
 obtain ⟨b', rfl, h1, h2, _⟩ := h
 cases hb
 exact ⟨h1, h2⟩
theorem cntN_count : ∀ (l : List UInt8) (c : UInt8), cntN l.length (leNat l) c.toNat = l.count c
 | [], c => rfl
 | x :: l, c => by
  have ih := cntN_count l c
  have h1 : Nat.mod (leNat (x :: l)) 256 = x.toNat := by
   show (x.toNat + 256 * leNat l) % 256 = _
   have := x.toNat_lt
   omega
  have h2 : Nat.div (leNat (x :: l)) 256 = leNat l := by
   show (x.toNat + 256 * leNat l) / 256 = _
   have := x.toNat_lt
   omega
  show (match Nat.beq (Nat.mod (leNat (x :: l)) 256) c.toNat with | true => Nat.succ (cntN l.length (Nat.div (leNat (x :: l)) 256) c.toNat) | false => cntN l.length (Nat.div (leNat (x :: l)) 256) c.toNat) = _
  rw [h1, h2, ih, List.count_cons]
  by_cases hx : x = c
  ·subst hx
   rw [Nat.beq_refl]
   simp
  ·have hb : Nat.beq x.toNat c.toNat = false := by
    cases e : Nat.beq x.toNat c.toNat with
    | false => rfl
    | true => exact absurd (UInt8.toNat_inj.1 (Nat.eq_of_beq_eq_true e)) hx
   rw [hb]
   simp [hx]
end
end Go.Xq
namespace Go.Xq
namespace Its
def rng : Its → Prop
 | nil => True
 | cons _ n _ s r => (-9223372036854775808 ≤ n ∧ n < 9223372036854775808) ∧ s.rng ∧ r.rng
theorem rng_get : ∀ {l : Its} {i : Nat} {x : It}, l.rng → l.get i = some x → (-9223372036854775808 ≤ x.n ∧ x.n < 9223372036854775808) ∧ x.s.rng
 | nil, i, x, _, h => by simp [get] at h
 | cons k n t s r, 0, x, hr, h => by simp only [get, Option.some.injEq] at h; subst h; exact ⟨hr.1, hr.2.1⟩
 | cons k n t s r, i + 1, x, hr, h => rng_get (l := r) hr.2.2 h
theorem rng_ofL : ∀ {l : List It}, (∀ x ∈ l, (-9223372036854775808 ≤ x.n ∧ x.n < 9223372036854775808) ∧ x.s.rng) → (ofL l).rng
 | [], _ => trivial
 | x :: l, h => ⟨(h x (by simp)).1, (h x (by simp)).2, rng_ofL fun y hy => h y (List.mem_cons_of_mem _ hy)⟩
end Its
theorem itemB_kind {k n : Int} {t : List UInt8} {m : Nat} (h : itemB k n t m = true) : k = 0 ∨ k = 1 ∨ k = 2 ∨ k = 3 ∨ k = 4 ∨ k = 5 ∨ k = 6 ∨ k = 7 := by
 unfold itemB at h
 simp only [Bool.and_eq_true, decide_eq_true_eq] at h
 omega
end Go.Xq
namespace Go.Xq
noncomputable section
def encT (t : List UInt8) : List AV := [sb t]
theorem encT_len (t : List UInt8) : (encT t).length = 1 := rfl
theorem cells_t (t : List UInt8) : ∀ v ∈ encT t, isCell v = true := by
 intro v hv
 simp only [encT, List.mem_cons, List.not_mem_nil, or_false] at hv
 subst hv; rfl
section
variable {α : Type} {enc : α → List AV} {es : Nat}
def SaysE (enc : α → List AV) (es : Nat) (H : AH) (N : Nat) (v : AV) (cs : List α) : Prop :=
 (v = .snil ∧ cs = []) ∨ ∃ b off cap, v = .sl b off cs.length cap ∧ (cs ≠ [] → b < N ∧ ∃ o, H.get b = some o ∧ RdE enc es off cs o)
theorem SaysE.keep {H H2 : AH} {N M : Nat} {S : Nat → Prop} {v : AV} {cs : List α} (h : SaysE enc es H N v cs) (hk : Keep S H H2) (hN : N ≤ H.next) (hS : ∀ b, b < N → ¬ S b) (hM : N ≤ M) : SaysE enc es H2 M v cs := by
 rcases h with h | ⟨b, off, cap, h2, h3⟩
 ·exact .inl h
 ·refine .inr ⟨b, off, cap, h2, fun hne => ?_⟩
  obtain ⟨h4, o', h5, h6⟩ := h3 hne
  exact ⟨by omega, o', hk.get (by omega) (hS b h4) h5, h6⟩
theorem SaysE.keep0 {H H2 : AH} {N : Nat} {v : AV} {cs : List α} (h : SaysE enc es H N v cs) (hk : Keep noB H H2) (hN : N ≤ H.next) : SaysE enc es H2 N v cs := h.keep hk hN (fun _ _ => id) (Nat.le_refl _)
theorem SaysE.len {H : AH} {N : Nat} {v : AV} {cs : List α} (h : SaysE enc es H N v cs) : onSl v (some (AV.int .i64 0)) (fun _ _ n _ => some (.int .i64 (n : Int))) = some (.int .i64 (cs.length : Int)) := by
 rcases h with ⟨rfl, rfl⟩ | ⟨b, off, cap, rfl, _⟩ <;> rfl
theorem SaysE.cell {H : AH} {N : Nat} {v : AV} {cs : List α} (h : SaysE enc es H N v cs) : isCell v = true := by
 rcases h with ⟨rfl, rfl⟩ | ⟨b, off, cap, rfl, _⟩ <;> rfl
theorem SaysE.at {H : AH} {N : Nat} {v : AV} {cs : List α} (hl : ∀ a, (enc a).length = es) (h : SaysE enc es H N v cs) {i : Nat} {x : α} (hx : cs[i]? = some x) :
  ∃ b off cap o, v = .sl b off cs.length cap ∧ i < cs.length ∧ b < N ∧ H.get b = some o ∧ (∀ (j : Nat) (w : AV), (enc x)[j]? = some w → rdCell o (off + i * es + j) = some w) ∧ rdCells o es (off + i * es) = some (avl (enc x)) := by
 have hi : i < cs.length := by
  rcases Nat.lt_or_ge i cs.length with h | h
  ·exact h
  ·rw [List.getElem?_eq_none h] at hx; cases hx
 rcases h with ⟨_, rfl⟩ | ⟨b, off, cap, h2, h3⟩
 ·simp at hi
 ·obtain ⟨h4, o, h5, h6⟩ := h3 (by intro e; subst e; simp at hi)
  exact ⟨b, off, cap, o, h2, hi, h4, h5, h6 i x hx, h6.elem hx (hl x)⟩
end
theorem box_rd {α : Type} {enc : α → List AV} {es : Nat} (hl : ∀ a, (enc a).length = es) {a : α} {o : AObj} {e : Nat} {op : Bool} {z : AV} (h : ElB enc e es op z [a] o) : (∀ (j : Nat) (w : AV), (enc a)[j]? = some w → rdCell o j = some w) ∧ rdCells o es 0 = some (avl (enc a)) := by
 obtain ⟨_, _, h⟩ := h
 refine ⟨fun j w hj => ?_, ?_⟩
 ·have := h 0 a rfl j w hj
  simpa using this
 ·have := h.elem (k := 0) rfl (hl a)
  simpa using this
structure Xv where
 nm : List UInt8
 v : AV
 u : Bool
 c : isCell v = true
def encX (x : Xv) : List AV := [sb x.nm, x.v, .bool x.u]
theorem encX_len (x : Xv) : (encX x).length = 3 := rfl
theorem cells_x (x : Xv) : ∀ v ∈ encX x, isCell v = true := by
 intro v hv
 simp only [encX, List.mem_cons, List.not_mem_nil, or_false] at hv
 rcases hv with rfl | rfl | rfl
 ·rfl
 ·exact x.c
 ·rfl
def zXv : AV := .cons (.str 0 0) (.cons .snil (.cons (.bool false) .nil))
def zeroXv : Xv := ⟨[], .snil, false, rfl⟩
structure Fv where
 nm : List UInt8
 k : Int
 n : Int
 t : List UInt8
 v : AV
 c : isCell v = true
def encF (x : Fv) : List AV := [sb x.nm, .int .i64 x.k, .int .i64 x.n, sb x.t, x.v]
theorem encF_len (x : Fv) : (encF x).length = 5 := rfl
theorem cells_f (x : Fv) : ∀ v ∈ encF x, isCell v = true := by
 intro v hv
 simp only [encF, List.mem_cons, List.not_mem_nil, or_false] at hv
 rcases hv with rfl | rfl | rfl | rfl | rfl
 ·rfl
 ·rfl
 ·rfl
 ·rfl
 ·exact x.c
def zFv : AV := .cons (.str 0 0) (.cons (.int .i64 0) (.cons (.int .i64 0) (.cons (.str 0 0) (.cons .snil .nil))))
def zeroFv : Fv := ⟨[], 0, 0, [], .snil, rfl⟩
structure Rv where
 k : Int
 n : Int
 t : List UInt8
 v : AV
 w : AV
 c : isCell v = true
 d : isCell w = true
def encR (x : Rv) : List AV := [.int .i64 x.k, .int .i64 x.n, sb x.t, x.v, x.w]
theorem encR_len (x : Rv) : (encR x).length = 5 := rfl
theorem cells_r (x : Rv) : ∀ v ∈ encR x, isCell v = true := by
 intro v hv
 simp only [encR, List.mem_cons, List.not_mem_nil, or_false] at hv
 rcases hv with rfl | rfl | rfl | rfl | rfl
 ·rfl
 ·rfl
 ·rfl
 ·exact x.c
 ·exact x.d
def zRv : AV := .cons (.int .i64 0) (.cons (.int .i64 0) (.cons (.str 0 0) (.cons .snil (.cons .snil .nil))))
def zeroRv : Rv := ⟨0, 0, [], .snil, .snil, rfl, rfl⟩
def xvA (x : Xv) : AV := .agg (avl (encX x))
def fvA (x : Fv) : AV := .agg (avl (encF x))
def rvA (x : Rv) : AV := .agg (avl (encR x))
structure Fld where
 nm : List UInt8
 it : It
structure Rec9 where
 key : It
 fs : List Fld
structure Ixd where
 nm : List UInt8
 ks : List (List UInt8)
 u : Bool
def AsFs (H : AH) (N : Nat) (cs : List Fv) (l : List Fld) : Prop := cs.length = l.length ∧ ∀ (i : Nat) (c : Fv) (x : Fld), cs[i]? = some c → l[i]? = some x → c.nm = x.nm ∧ c.k = x.it.k ∧ c.n = x.it.n ∧ c.t = x.it.t ∧ SaysI H N c.v x.it.s
theorem AsFs.keep {H H2 : AH} {N M : Nat} {S : Nat → Prop} {cs : List Fv} {l : List Fld} (h : AsFs H N cs l) (hk : Keep S H H2) (hN : N ≤ H.next) (hS : ∀ b, b < N → ¬ S b) (hM : N ≤ M) : AsFs H2 M cs l :=
 ⟨h.1, fun i c x hc hx => let ⟨e0, e1, e2, e3, e4⟩ := h.2 i c x hc hx; ⟨e0, e1, e2, e3, e4.keep hk hN hS hM⟩⟩
def SaysFs (H : AH) (N : Nat) (v : AV) (l : List Fld) : Prop := ∃ cs, SaysE encF 5 H N v cs ∧ AsFs H N cs l
theorem SaysFs.keep {H H2 : AH} {N M : Nat} {S : Nat → Prop} {v : AV} {l : List Fld} (h : SaysFs H N v l) (hk : Keep S H H2) (hN : N ≤ H.next) (hS : ∀ b, b < N → ¬ S b) (hM : N ≤ M) : SaysFs H2 M v l :=
 let ⟨cs, h1, h2⟩ := h; ⟨cs, h1.keep hk hN hS hM, h2.keep hk hN hS hM⟩
theorem SaysFs.keep0 {H H2 : AH} {N : Nat} {v : AV} {l : List Fld} (h : SaysFs H N v l) (hk : Keep noB H H2) (hN : N ≤ H.next) : SaysFs H2 N v l := h.keep hk hN (fun _ _ => id) (Nat.le_refl _)
theorem SaysFs.len {H : AH} {N : Nat} {v : AV} {l : List Fld} (h : SaysFs H N v l) : onSl v (some (AV.int .i64 0)) (fun _ _ n _ => some (.int .i64 (n : Int))) = some (.int .i64 (l.length : Int)) := by
 obtain ⟨cs, h1, h2⟩ := h
 rw [h1.len, h2.1]
theorem SaysFs.at {H : AH} {N : Nat} {v : AV} {l : List Fld} (h : SaysFs H N v l) {i : Nat} {x : Fld} (hx : l[i]? = some x) :
  ∃ b off cap o u, v = .sl b off l.length cap ∧ i < l.length ∧ b < N ∧ H.get b = some o ∧ rdCell o (off + i * 5) = some (sb x.nm) ∧ rdCell o (off + i * 5 + 1) = some (.int .i64 x.it.k) ∧ rdCell o (off + i * 5 + 2) = some (.int .i64 x.it.n) ∧ rdCell o (off + i * 5 + 3) = some (sb x.it.t) ∧ rdCell o (off + i * 5 + 4) = some u ∧ SaysI H N u x.it.s ∧
   rdCells o 4 (off + i * 5 + 1) = some (avl [.int .i64 x.it.k, .int .i64 x.it.n, sb x.it.t, u]) ∧ rdCells o 5 (off + i * 5) = some (avl [sb x.nm, .int .i64 x.it.k, .int .i64 x.it.n, sb x.it.t, u]) := by
 obtain ⟨cs, h1, h2⟩ := h
 have hi : i < cs.length := by
  rw [h2.1]
  rcases Nat.lt_or_ge i l.length with h | h
  ·exact h
  ·rw [List.getElem?_eq_none h] at hx; cases hx
 have hc : cs[i]? = some (cs[i]'hi) := List.getElem?_eq_getElem _
 generalize cs[i]'hi = c at hc
 obtain ⟨b, off, cap, o, e1, _, e3, e4, e5, e6⟩ := h1.at encF_len hc
 obtain ⟨f0, f1, f2, f3, f4⟩ := h2.2 i c x hc hx
 refine ⟨b, off, cap, o, c.v, by rw [e1, h2.1], by rw [← h2.1]; exact hi, e3, e4, ?_, ?_, ?_, ?_, e5 4 _ rfl, f4, ?_, ?_⟩
 ·have := e5 0 _ rfl; rw [f0] at this; exact this
 ·have := e5 1 _ rfl; rw [f1] at this; exact this
 ·have := e5 2 _ rfl; rw [f2] at this; exact this
 ·have := e5 3 _ rfl; rw [f3] at this; exact this
 ·rw [← f1, ← f2, ← f3]
  refine rdCells_of [.int .i64 c.k, .int .i64 c.n, sb c.t, c.v] _ fun j w hj => ?_
  rw [show off + i * 5 + 1 + j = off + i * 5 + (j + 1) by omega]
  exact e5 (j + 1) w hj
 ·rw [← f0, ← f1, ← f2, ← f3]; exact e6
theorem SaysFs.cell {H : AH} {N : Nat} {v : AV} {l : List Fld} (h : SaysFs H N v l) : isCell v = true := let ⟨_, h1, _⟩ := h; h1.cell
structure RecAt (H : AH) (N : Nat) (r : Rv) (x : Rec9) : Prop where
 k : r.k = x.key.k
 n : r.n = x.key.n
 t : r.t = x.key.t
 s : SaysI H N r.v x.key.s
 f : SaysFs H N r.w x.fs
theorem RecAt.keep {H H2 : AH} {N M : Nat} {S : Nat → Prop} {r : Rv} {x : Rec9} (h : RecAt H N r x) (hk : Keep S H H2) (hN : N ≤ H.next) (hS : ∀ b, b < N → ¬ S b) (hM : N ≤ M) : RecAt H2 M r x :=
 ⟨h.k, h.n, h.t, h.s.keep hk hN hS hM, h.f.keep hk hN hS hM⟩
theorem RecAt.keep0 {H H2 : AH} {N : Nat} {r : Rv} {x : Rec9} (h : RecAt H N r x) (hk : Keep noB H H2) (hN : N ≤ H.next) : RecAt H2 N r x := h.keep hk hN (fun _ _ => id) (Nat.le_refl _)
def CutE (es : Nat) (H : AH) (N : Nat) (v : AV) : Prop := v = .snil ∨ (∃ b off n c, v = .sl b off n (some c) ∧ n ≤ c) ∨ ∃ b off n e sz op z t, v = .sl b off n none ∧ b < N ∧ H.get b = some (.cs e es sz op z t)
theorem CutE.keep {H H2 : AH} {N M es : Nat} {S : Nat → Prop} {v : AV} (h : CutE es H N v) (hk : Keep S H H2) (hN : N ≤ H.next) (hS : ∀ b, b < N → ¬ S b) (hM : N ≤ M) : CutE es H2 M v := by
 rcases h with h | h | ⟨b, off, n, e, sz, op, z, t, h1, h2, h3⟩
 ·exact .inl h
 ·exact .inr (.inl h)
 ·exact .inr (.inr ⟨b, off, n, e, sz, op, z, t, h1, by omega, hk.get (by omega) (hS b h2) h3⟩)
theorem SaysE.cut {α : Type} {enc : α → List AV} {es : Nat} {H : AH} {N n : Nat} {v : AV} {cs : List α} (h : SaysE enc es H N v cs) (hc : CutE es H N v) (hn : n ≤ cs.length) : ∃ v', slA es n v H = some v' ∧ SaysE enc es H N v' (cs.take n) := by
 have hl : (cs.take n).length = n := by simp; omega
 rcases h with ⟨rfl, rfl⟩ | ⟨b, off, cap, rfl, h3⟩
 ·have : n = 0 := by simpa using hn
  subst this
  exact ⟨.snil, rfl, .inl ⟨rfl, rfl⟩⟩
 ·have key : ∀ room, n ≤ (oc cap room id) → boundsA cs.length cap room none (some n) none = some (0, n, cap) := fun room hr => by
   show bt (Nat.ble n (oc cap room id)) (bt (Nat.ble 0 n) (some (0, n, cap)) none) none = _
   rw [ble_true hr, bt_true, ble_true (by omega), bt_true]
  have e0 : offOf cap off 0 es = off := by
   cases cap with
   | none => show off + 0 * es = _; omega
   | some c =>
    show bt (Nat.beq c 0) off (off + 0 * es) = _
    cases Nat.beq c 0 <;> simp [bt_true, bt_false]
  have hroom : ∃ room, oc cap (roomOf H b off cs.length es) some = some room ∧ n ≤ oc cap room id := by
   rcases hc with e | ⟨b', off', m, c, e, hm⟩ | ⟨b', off', m, e', sz, op, z, t, e, _, hg⟩
   ·cases e
   ·cases e; exact ⟨c, rfl, by show n ≤ c; omega⟩
   ·cases e
    refine ⟨bt op (Nat.max cs.length (Nat.div (Nat.sub sz off) es)) cs.length, ?_, ?_⟩
    ·show roomOf H b off cs.length es = _
     unfold roomOf
     rw [hg, ob_some']
     show bt (Nat.beq es es) _ _ = _
     rw [Nat.beq_refl, bt_true]
    ·show n ≤ bt op _ _
     cases op with
     | true => rw [bt_true]; exact Nat.le_trans hn (Nat.le_max_left _ _)
     | false => rw [bt_false]; exact hn
  obtain ⟨room, hr1, hr2⟩ := hroom
  refine ⟨.sl b off n (capLess cap 0), ?_, .inr ⟨b, off, capLess cap 0, by rw [hl], fun hne => ?_⟩⟩
  ·unfold slA
   rw [onSl_sl, hr1, ob_some', key room hr2, ob_some']
   show some (AV.sl b (offOf cap off 0 es) (n - 0) (capLess cap 0)) = _
   rw [e0]
   rfl
  ·obtain ⟨h4, o, h5, h6⟩ := h3 (by intro e; subst e; simp at hne)
   exact ⟨h4, o, h5, h6.take n⟩
structure IxAt (H : AH) (N : Nat) (r : Xv) (x : Ixd) : Prop where
 nm : r.nm = x.nm
 u : r.u = x.u
 k : SaysE encT 1 H N r.v x.ks
 c : CutE 1 H N r.v
theorem IxAt.keep {H H2 : AH} {N M : Nat} {S : Nat → Prop} {r : Xv} {x : Ixd} (h : IxAt H N r x) (hk : Keep S H H2) (hN : N ≤ H.next) (hS : ∀ b, b < N → ¬ S b) (hM : N ≤ M) : IxAt H2 M r x :=
 ⟨h.nm, h.u, h.k.keep hk hN hS hM, h.c.keep hk hN hS hM⟩
theorem IxAt.keep0 {H H2 : AH} {N : Nat} {r : Xv} {x : Ixd} (h : IxAt H N r x) (hk : Keep noB H H2) (hN : N ≤ H.next) : IxAt H2 N r x := h.keep hk hN (fun _ _ => id) (Nat.le_refl _)
def keysTo (ks : List (List UInt8)) (i : Nat) : Prop := ∀ (j : Nat) (x : List UInt8), j < i → ks[j]? = some x → fieldB x = true ∧ ∀ (m : Nat) (y : List UInt8), m < j → ks[m]? = some y → y ≠ x
open Classical in
def ixB (x : Ixd) : Bool := decide (nameB x.nm 30 = true ∧ 1 ≤ x.ks.length ∧ x.ks.length ≤ 8 ∧ keysTo x.ks x.ks.length)
open Classical in
theorem ixB_t {x : Ixd} (h1 : nameB x.nm 30 = true) (h2 : 1 ≤ x.ks.length) (h3 : x.ks.length ≤ 8) (h4 : keysTo x.ks x.ks.length) : ixB x = true := decide_eq_true ⟨h1, h2, h3, h4⟩
open Classical in
theorem ixB_f {x : Ixd} (h : ¬ (nameB x.nm 30 = true ∧ 1 ≤ x.ks.length ∧ x.ks.length ≤ 8 ∧ keysTo x.ks x.ks.length)) : ixB x = false := decide_eq_false h
theorem keysTo_zero (ks : List (List UInt8)) : keysTo ks 0 := fun j x h => absurd h (Nat.not_lt_zero _)
theorem keysTo_succ {ks : List (List UInt8)} {i : Nat} {x : List UInt8} (h : keysTo ks i) (hx : ks[i]? = some x) (h1 : fieldB x = true) (h2 : ∀ (m : Nat) (y : List UInt8), m < i → ks[m]? = some y → y ≠ x) : keysTo ks (i + 1) := by
 intro j y hj hy
 rcases Nat.lt_or_ge j i with h3 | h3
 ·exact h j y h3 hy
 ·obtain rfl : j = i := by omega
  rw [hx] at hy; cases hy
  exact ⟨h1, h2⟩
theorem keysTo_bad {ks : List (List UInt8)} {i : Nat} {x : List UInt8} (hx : ks[i]? = some x) (h : fieldB x = false ∨ ∃ (m : Nat) (y : List UInt8), m < i ∧ ks[m]? = some y ∧ y = x) : ¬ keysTo ks ks.length := by
 intro hk
 have hi : i < ks.length := by
  rcases Nat.lt_or_ge i ks.length with h | h
  ·exact h
  ·rw [List.getElem?_eq_none h] at hx; cases hx
 obtain ⟨a, b⟩ := hk i x hi hx
 rcases h with h | ⟨m, y, h1, h2, h3⟩
 ·rw [h] at a; cases a
 ·exact b m y h1 h2 h3
def namesTo (fs : List Fld) (i : Nat) : Prop := ∀ (j : Nat) (f : Fld), j < i → fs[j]? = some f → fieldB f.nm = true ∧ ∀ (m : Nat) (g : Fld), m + 1 = j → fs[m]? = some g → Op.bytesLess g.nm f.nm = true
theorem namesTo_zero (fs : List Fld) : namesTo fs 0 := fun j x h => absurd h (Nat.not_lt_zero _)
theorem namesTo_succ {fs : List Fld} {i : Nat} {f : Fld} (h : namesTo fs i) (hx : fs[i]? = some f) (h1 : fieldB f.nm = true) (h2 : ∀ (m : Nat) (g : Fld), m + 1 = i → fs[m]? = some g → Op.bytesLess g.nm f.nm = true) : namesTo fs (i + 1) := by
 intro j y hj hy
 rcases Nat.lt_or_ge j i with h3 | h3
 ·exact h j y h3 hy
 ·obtain rfl : j = i := by omega
  rw [hx] at hy; cases hy
  exact ⟨h1, h2⟩
theorem namesTo_bad {fs : List Fld} {i : Nat} {f : Fld} (hx : fs[i]? = some f) (h : fieldB f.nm = false ∨ ∃ (m : Nat) (g : Fld), m + 1 = i ∧ fs[m]? = some g ∧ Op.bytesLess g.nm f.nm = false) : ¬ namesTo fs fs.length := by
 intro hk
 have hi : i < fs.length := by
  rcases Nat.lt_or_ge i fs.length with h | h
  ·exact h
  ·rw [List.getElem?_eq_none h] at hx; cases hx
 obtain ⟨a, b⟩ := hk i f hi hx
 rcases h with h | ⟨m, g, h1, h2, h3⟩
 ·rw [h] at a; cases a
 ·have := b m g h1 h2; rw [h3] at this; cases this
theorem bytesLess_irr : ∀ a : List UInt8, Op.bytesLess a a = false
 | [] => rfl
 | x :: l => by
  have := bytesLess_irr l
  simp [Op.bytesLess, this]
theorem bytesLess_trans : ∀ {a b c : List UInt8}, Op.bytesLess a b = true → Op.bytesLess b c = true → Op.bytesLess a c = true
 | _, [], _, h, _ => by simp [Op.bytesLess] at h
 | _, _ :: _, [], _, h => by simp [Op.bytesLess] at h
 | [], _ :: _, _ :: _, _, _ => rfl
 | x :: a, y :: b, z :: c, h1, h2 => by
  have ih := @bytesLess_trans a b c
  simp only [Op.bytesLess, Bool.or_eq_true, Bool.and_eq_true, decide_eq_true_eq, beq_iff_eq] at h1 h2 ⊢
  rcases h1 with h1 | ⟨h1, h1'⟩
  ·rcases h2 with h2 | ⟨h2, h2'⟩
   ·exact .inl (UInt8.lt_trans h1 h2)
   ·subst h2; exact .inl h1
  ·subst h1
   rcases h2 with h2 | ⟨h2, h2'⟩
   ·exact .inl h2
   ·exact .inr ⟨h2, ih h1' h2'⟩
theorem names_less {fs : List Fld} {n : Nat} (h : namesTo fs n) : ∀ (d i : Nat) (f g : Fld), i + d + 1 < n → fs[i]? = some f → fs[i + d + 1]? = some g → Op.bytesLess f.nm g.nm = true
 | 0, i, f, g, hn, hf, hg => (h (i + 1) g (by omega) hg).2 i f rfl hf
 | d + 1, i, f, g, hn, hf, hg => by
  have hi : i + d + 1 < fs.length := by
   rcases Nat.lt_or_ge (i + (d + 1) + 1) fs.length with h | h
   ·omega
   ·rw [List.getElem?_eq_none h] at hg; cases hg
  have hm : fs[i + d + 1]? = some (fs[i + d + 1]'hi) := List.getElem?_eq_getElem _
  exact bytesLess_trans (names_less h d i f _ (by omega) hf hm) ((h (i + (d + 1) + 1) g (by omega) hg).2 (i + d + 1) _ (by omega) hm)
def pick (nm : List UInt8) : List Fld → It
 | [] => ⟨0, 0, [], .nil⟩
 | f :: r => if f.nm = nm then f.it else pick nm r
def pairs (fs : List Fld) : List It := fs.flatMap fun f => [⟨6, 0, f.nm, .nil⟩, f.it]
open Classical in
def laidE (r : Rec9) : Nat := if (encode (Its.ofL [r.key])).2 ≠ 0 then (encode (Its.ofL [r.key])).2 else if 32 < r.fs.length ∨ ¬ namesTo r.fs r.fs.length then 192 else (encode (Its.ofL (pairs r.fs))).2
def entryI (x : Ixd) (r : Rec9) : List It := x.ks.map (fun k => pick k r.fs) ++ [r.key]
def entryL (x : Ixd) (r : Rec9) : List UInt8 × Nat := if ixB x = false then ([], 193) else if laidE r ≠ 0 then ([], laidE r) else encode (Its.ofL (entryI x r))
end
end Go.Xq
namespace Go.Xq
noncomputable section
section
variable {α : Type} {enc : α → List AV} {e es : Nat} {op : Bool} {z : AV} {els as : List α} {o : AObj} {H : AH}
theorem frSlice_els (hl : ∀ a, (enc a).length = es) {n : Nat} {z0 : AV} {g : FlK} {T : Tr AV} {b0 : Nat} (hg : g.f T z0 = some (avl (els.flatMap enc))) (hn : n = els.length) :
  ∃ o, frSlice n z0 g ⟨mkCs e es z⟩ T b0 = some (.sl b0 0 n (some n), o) ∧ ElB enc e es false z els o := by
 obtain ⟨o, h1, h2⟩ := ElB.new (e := e) (op := false) (z := z) hl els
 refine ⟨o, ?_, h2⟩
 rw [frSlice_f, hg, ob_some']
 show ob (mkCs e es z false (avl (els.flatMap enc))) _ = _
 rw [h1, ob_some']
theorem SaysE.lenA {N : Nat} {v : AV} (h : SaysE enc es H N v as) : lengthA v = some as.length := by
 rcases h with ⟨rfl, rfl⟩ | ⟨b, off, cap, rfl, _⟩ <;> rfl
theorem SaysE.firstA (hl : ∀ a, (enc a).length = es) {N : Nat} {v : AV} (h : SaysE enc es H N v as) : firstA H es as.length v = some (avl (as.flatMap enc)) := by
 rcases h with ⟨rfl, rfl⟩ | ⟨b, off, cap, rfl, h⟩
 ·rfl
 ·exact firstA_el hl (fun hne => let ⟨_, o, h1, h2⟩ := h hne; ⟨o, h1, h2⟩) rfl
theorem SaysE.of {b : Nat} (hb : H.get b = some o) (h : ElB enc e es op z as o) {N : Nat} (hN : b < N) {cap : Option Nat} : SaysE enc es H N (.sl b 0 as.length cap) as := .inr ⟨b, 0, cap, rfl, fun _ => ⟨hN, o, hb, h.rd⟩⟩
theorem allCell_flat {l : List α} (hc : ∀ a, ∀ v ∈ enc a, isCell v = true) : allCell (avl (l.flatMap enc)) = true := by
 refine allCell_avl fun v hv => ?_
 obtain ⟨a, _, ha⟩ := List.mem_flatMap.1 hv
 exact hc a v ha
theorem grownCs_els (hl : ∀ a, (enc a).length = es) (hc : ∀ a, ∀ v ∈ enc a, isCell v = true) {s x : AV} {n N : Nat} (hs : Go.Xq.firstA H es n s = some (avl (els.flatMap enc))) (hx : SaysE enc es H N x as) :
  ∃ o', grownCs es ⟨mkCs e es z⟩ H s n as.length x = some o' ∧ ElB enc e es true z (els ++ as) o' := by
 obtain ⟨o', h1, h2⟩ := ElB.new (e := e) (op := true) (z := z) hl (els ++ as)
 refine ⟨o', ?_, h2⟩
 unfold grownCs
 rw [hs, ob_some', hx.firstA hl, ob_some', allCell_flat hc, bt_true, app_avl]
 have : (els ++ as).flatMap enc = els.flatMap enc ++ as.flatMap enc := by simp
 rw [← this]; exact h1
theorem LstAt.appN (hl : ∀ a, (enc a).length = es) (hes : 0 < es) {lo N : Nat} {v x : AV} (h : LstAt enc e es z H lo v els) (hlo : lo ≤ H.next) (hc : ∀ a, ∀ v ∈ enc a, isCell v = true) (hx : SaysE enc es H N x as) (ha : as ≠ []) (hmax : els.length + as.length ≤ 8589934592) :
  ∃ v' H2, appendA ⟨grownCs es ⟨mkCs e es z⟩⟩ es H v x = some (v', H2) ∧ LstAt enc e es z H2 lo v' (els ++ as) ∧ blk v' = some H.next ∧ H2.next = H.next + 1 ∧ Keep (fun b => blk v = some b) H H2 := by
 obtain ⟨m, hm⟩ : ∃ m, as.length = m + 1 := by cases as with | nil => exact absurd rfl ha | cons a r => exact ⟨r.length, rfl⟩
 have hlx := hx.lenA
 rcases h with ⟨rfl, rfl⟩ | ⟨b, o, rfl, h1, h2, h3, h4, h5⟩
 ·obtain ⟨o', g1, g2⟩ := grownCs_els (e := e) (z := z) (els := []) (s := .snil) (n := 0) hl hc rfl hx
  refine ⟨.sl H.next 0 as.length none, H.new o', ?_, .inr ⟨H.next, o', by simp, by simpa using ha, hlo, by simp, get_new_same _ _, g2⟩, rfl, by simp, Keep.new _ _ _⟩
  unfold appendA
  rw [hlx, ob_some', ble_true (by omega), bt_true, onSl_snil]
  rw [hm] at g1 ⊢
  show ob (grownCs es ⟨mkCs e es z⟩ H .snil 0 (m + 1) x) (fun o => some (AV.sl H.next 0 (0 + (m + 1)) none, H.new o)) = _
  rw [g1, ob_some', Nat.zero_add]
 ·have h5' := h5
  obtain ⟨t, rfl, hr⟩ := h5
  obtain ⟨o', g1, g2⟩ := grownCs_els (e := e) (z := z) (els := els) (s := .sl b 0 els.length none) (n := els.length) hl hc (firstA_el hl (fun _ => ⟨_, h4, hr⟩) rfl) hx
  refine ⟨.sl H.next 0 (els.length + as.length) none, (H.kill b).new o', ?_, .inr ⟨H.next, o', by simp, by simp [ha], hlo, by simp, ?_, g2⟩, rfl, by simp, (Keep.kill (S := fun b' => blk (.sl b 0 els.length none) = some b') fun _ => rfl).trans (Keep.new _ _ _)⟩
  rotate_left
  ·have := get_new_same (H.kill b) o'
   simpa using this
  unfold appendA
  rw [hlx, ob_some', ble_true (by omega), bt_true]
  rw [hm] at g1 hmax ⊢
  show bt (Nat.ble (els.length + (m + 1)) 17179869184) (ob (roomOf H b 0 els.length es) fun room => bt (Nat.ble (els.length + (m + 1)) room) _ (ob (H.get b) fun o0 => ob (grownCs es ⟨mkCs e es z⟩ H (.sl b 0 els.length none) els.length (m + 1) x) fun o => bt (alikeB o0 o) (some (AV.sl H.next 0 (els.length + (m + 1)) none, (H.kill b).new o)) none)) none = _
  have hroom : roomOf H b 0 els.length es = some els.length := by
   unfold roomOf
   rw [h4, ob_some']
   show bt (Nat.beq es es) (some (bt true (Nat.max els.length (Nat.div (Nat.sub (els.length * es) 0) es)) els.length)) none = _
   rw [Nat.beq_refl, bt_true, bt_true]
   have : Nat.div (Nat.sub (els.length * es) 0) es = els.length := by
    show (els.length * es - 0) / es = els.length
    rw [Nat.sub_zero, Nat.mul_div_cancel _ hes]
   rw [this]
   show some (max els.length els.length) = _
   simp
  rw [ble_true (by omega), bt_true, hroom, ob_some', not_ble (by omega), bt_false, h4, ob_some', g1, ob_some']
  obtain ⟨t', rfl, _⟩ := g2
  show bt (Nat.beq e e) _ none = _
  rw [Nat.beq_refl, bt_true]
theorem app_none {g : GK} {x : AV} {N : Nat} (hx : SaysE enc es H N x []) : appendA g es H .snil x = some (.snil, H) := by
 unfold appendA
 rw [hx.lenA]
 rfl
theorem LstAt.says {lo : Nat} {v : AV} (h : LstAt enc e es z H lo v els) : SaysE enc es H H.next v els := by
 rcases h with h | ⟨b, o, rfl, h1, h2, h3, h4, h5⟩
 ·exact .inl h
 ·exact .inr ⟨b, 0, none, rfl, fun _ => ⟨h3, o, h4, h5.rd⟩⟩
end
theorem saysI_of {H : AH} {N M : Nat} {v : AV} {cs : List Iv} {l : List It} (h : SaysE encI 4 H M v cs) (ha : AsIts H N cs l) (hM : M ≤ N) : SaysI H N v (Its.ofL l) := by
 have hl : (Its.ofL l).len = cs.length := by rw [Its.len_ofL, ha.1]
 rcases h with ⟨rfl, rfl⟩ | ⟨b, off, cap, rfl, h⟩
 ·have : l = [] := List.length_eq_zero_iff.1 (by rw [← ha.1]; rfl)
  subst this
  exact .inl ⟨rfl, rfl⟩
 ·refine .inr ⟨b, off, cap, by rw [hl], fun hne => ?_⟩
  obtain ⟨h1, o, h2, h3⟩ := h (by intro e; subst e; simp at hl; omega)
  exact ⟨by omega, o, h2, itsAt_of ha h3⟩
end
end Go.Xq
namespace Go.Xq
noncomputable section
theorem WDO.mono {P : Program} {b : Frame} {n : Cx} {ops : Array Oper} {r : List Oper} {T : Tr AV} {D : List ADf} {H : AH} {Q Q' : Out → Prop} (h : WDO P b n ops r T D H Q) (hq : ∀ o, Q o → Q' o) : WDO P b n ops r T D H Q' := by
 obtain ⟨o, h1, h⟩ := h
 exact ⟨o, hq o h1, h⟩
def pickL (nm : List UInt8) (p : It) : List Fld → It
 | [] => p
 | f :: r => pickL nm (if f.nm = nm then f.it else p) r
theorem pickL_snoc (nm : List UInt8) : ∀ (l : List Fld) (p : It) (f : Fld), pickL nm p (l ++ [f]) = if f.nm = nm then f.it else pickL nm p l
 | [], p, f => rfl
 | g :: l, p, f => by
  show pickL nm _ (l ++ [f]) = _
  rw [pickL_snoc nm l]
  rfl
theorem pickL_none (nm : List UInt8) : ∀ (l : List Fld) (p : It), (∀ f ∈ l, f.nm ≠ nm) → pickL nm p l = p
 | [], p, _ => rfl
 | g :: l, p, h => by
  show pickL nm _ l = _
  rw [if_neg (h g (by simp)), pickL_none nm l p fun f hf => h f (List.mem_cons_of_mem _ hf)]
theorem namesTo_tail {f : Fld} {l : List Fld} (h : namesTo (f :: l) (f :: l).length) : namesTo l l.length := by
 intro j g hj hg
 obtain ⟨a, b⟩ := h (j + 1) g (by simpa using hj) (by simpa using hg)
 exact ⟨a, fun m g' hm hg' => b (m + 1) g' (by omega) (by simpa using hg')⟩
theorem names_tail {f : Fld} {l : List Fld} (h : namesTo (f :: l) (f :: l).length) : ∀ g ∈ l, g.nm ≠ f.nm := by
 intro g hg e
 obtain ⟨j, hj⟩ := List.mem_iff_getElem?.1 hg
 have hjl : j < l.length := by
  rcases Nat.lt_or_ge j l.length with h | h
  ·exact h
  ·rw [List.getElem?_eq_none h] at hj; cases hj
 have := names_less h j 0 f g (by simp; omega) rfl (by simpa using hj)
 rw [e, bytesLess_irr] at this
 cases this
theorem pickL_pick (nm : List UInt8) : ∀ (l : List Fld), namesTo l l.length → pickL nm ⟨0, 0, [], .nil⟩ l = pick nm l
 | [], _ => rfl
 | f :: l, h => by
  show pickL nm _ l = if f.nm = nm then f.it else pick nm l
  by_cases e : f.nm = nm
  ·rw [if_pos e, if_pos e]
   exact pickL_none nm l _ fun g hg => by rw [← e]; exact names_tail h g hg
  ·rw [if_neg e, if_neg e]
   exact pickL_pick nm l (namesTo_tail h)
def OwnI (H : AH) (lo N : Nat) (v : AV) (l : List It) : Prop := ∃ cs, LstAt encI 27 4 zIv H lo v cs ∧ AsIts H N cs l
theorem AsIts.nil (H : AH) (N : Nat) : AsIts H N [] [] := ⟨rfl, fun i c x hc => by simp at hc⟩
theorem OwnI.nil (H : AH) (lo N : Nat) : OwnI H lo N .snil [] := ⟨[], .inl ⟨rfl, rfl⟩, AsIts.nil H N⟩
theorem OwnI.keep {H H2 : AH} {lo N : Nat} {v : AV} {l : List It} {S : Nat → Prop} (h : OwnI H lo N v l) (hk : Keep S H H2) (hN : N ≤ H.next) (hlo : N ≤ lo) (hS : ∀ b, S b → N ≤ b) (hs : ∀ b, blk v = some b → ¬ S b) : OwnI H2 lo N v l := by
 obtain ⟨cs, h1, h2⟩ := h
 exact ⟨cs, h1.keep hk hs, h2.keep hk hN (fun b hb h => by have := hS b h; omega) (Nat.le_refl _)⟩
theorem OwnI.says {H : AH} {lo N : Nat} {v : AV} {l : List It} (h : OwnI H lo N v l) (hN : N ≤ H.next) : SaysI H H.next v (Its.ofL l) := by
 obtain ⟨cs, h1, h2⟩ := h
 exact saysI_of h1.says (h2.keep (Keep.refl noB H) hN (fun _ _ => id) hN) (Nat.le_refl _)
theorem OwnI.low {H : AH} {lo N b : Nat} {v : AV} {l : List It} (h : OwnI H lo N v l) (hb : blk v = some b) : lo ≤ b ∧ b < H.next := let ⟨_, h1, _⟩ := h; h1.low hb
theorem OwnI.app {H : AH} {lo N : Nat} {v x : AV} {l : List It} {a : Iv} {y : It} (h : OwnI H lo N v l) (hlo : lo ≤ H.next) (hN : N ≤ lo) (hx : One encI 4 H x a) (e1 : a.k = y.k) (e2 : a.n = y.n) (e3 : a.t = y.t) (e4 : SaysI H N a.v y.s) (hmax : l.length < 8589934592) :
  ∃ v' H2, appendA ⟨grownCs 4 ⟨mkCs 27 4 zIv⟩⟩ 4 H v x = some (v', H2) ∧ OwnI H2 lo N v' (l ++ [y]) ∧ blk v' = some H.next ∧ H2.next = H.next + 1 ∧ Keep (fun b => blk v = some b) H H2 := by
 obtain ⟨cs, h1, h2⟩ := h
 obtain ⟨v', H2, a1, a2, a3, a4, a5⟩ := h1.app encI_len (by omega) hlo (cells_iv a) hx (by rw [h2.1]; exact hmax)
 refine ⟨v', H2, a1, ⟨cs ++ [a], a2, (h2.snoc e1 e2 e3 e4).keep a5 (by omega) (fun b hb e => by have := (h1.low e).1; omega) (Nat.le_refl _)⟩, a3, a4, a5⟩
theorem OwnI.appN {H : AH} {lo N M : Nat} {v x : AV} {l ys : List It} {as : List Iv} (h : OwnI H lo N v l) (hlo : lo ≤ H.next) (hN : N ≤ lo) (hx : SaysE encI 4 H M x as) (hne : as ≠ []) (ha : AsIts H N as ys) (hmax : l.length + as.length ≤ 8589934592) :
  ∃ v' H2, appendA ⟨grownCs 4 ⟨mkCs 27 4 zIv⟩⟩ 4 H v x = some (v', H2) ∧ OwnI H2 lo N v' (l ++ ys) ∧ blk v' = some H.next ∧ H2.next = H.next + 1 ∧ Keep (fun b => blk v = some b) H H2 := by
 obtain ⟨cs, h1, h2⟩ := h
 obtain ⟨v', H2, a1, a2, a3, a4, a5⟩ := h1.appN encI_len (by omega) hlo (fun a => cells_iv a) hx hne (by rw [h2.1]; exact hmax)
 refine ⟨v', H2, a1, ⟨cs ++ as, a2, AsIts.keep ?_ a5 (by omega) (fun b hb e => by have := (h1.low e).1; omega) (Nat.le_refl _)⟩, a3, a4, a5⟩
 refine ⟨by simp [h2.1, ha.1], fun i c' x' hc hx => ?_⟩
 rcases Nat.lt_or_ge i cs.length with hi | hi
 ·rw [List.getElem?_append_left hi] at hc
  rw [List.getElem?_append_left (by rw [← h2.1]; exact hi)] at hx
  exact h2.2 i c' x' hc hx
 ·rw [List.getElem?_append_right hi] at hc
  rw [List.getElem?_append_right (by rw [← h2.1]; exact hi), ← h2.1] at hx
  exact ha.2 _ c' x' hc hx
end
end Go.Xq
namespace Go.Xq
noncomputable section
section
variable {α : Type} {enc : α → List AV} {e es : Nat} {z : AV} {cs : List α} {H H2 : AH} {b : Nat}
def Ax (enc : α → List AV) (e es : Nat) (z : AV) (H : AH) (b : Nat) (cs : List α) : Prop := ∃ o, H.get b = some o ∧ ElB enc e es false z cs o
theorem Ax.keep {S : Nat → Prop} (h : Ax enc e es z H b cs) (hk : Keep S H H2) (hb : b < H.next) (hs : ¬ S b) : Ax enc e es z H2 b cs := let ⟨o, h1, h2⟩ := h; ⟨o, hk.get hb hs h1, h2⟩
theorem Ax.get (hl : ∀ a, (enc a).length = es) (h : Ax enc e es z H b cs) {i : Nat} {a : α} (ha : cs[i]? = some a) : ∃ o, H.get b = some o ∧ (∀ (j : Nat) (v : AV), (enc a)[j]? = some v → rdCell o (i * es + j) = some v) ∧ rdCells o es (i * es) = some (avl (enc a)) := by
 obtain ⟨o, h1, h2⟩ := h
 refine ⟨o, h1, fun j v hv => ?_, ?_⟩
 ·have := h2.rd i a ha j v hv
  simpa using this
 ·have := h2.rd.elem ha (hl a)
  simpa using this
theorem Ax.store (hl : ∀ a, (enc a).length = es) (h : Ax enc e es z H b cs) {i : Nat} (hi : i < cs.length) (a : α) (hc : ∀ v ∈ enc a, isCell v = true) :
  ∃ H2, stN es H (.agg (avl (enc a))) (.ptr b (i * es)) = some H2 ∧ H2.next = H.next ∧ Ax enc e es z H2 b (cs.set i a) ∧ Keep (fun x => x = b) H H2 := by
 obtain ⟨o, h1, h2⟩ := h
 obtain ⟨o', s1, s2⟩ := stN_el hl h2 h1 hi hc
 exact ⟨_, s1, by simp, ⟨o', get_set_same _ _ _, s2⟩, Keep.set _ fun _ => rfl⟩
theorem Ax.new (hl : ∀ a, (enc a).length = es) {a : α} (hz : z = avl (enc a)) (H : AH) (n : Nat) : Ax enc e es z (H.new (.cs e es (n * es) false z .e)) H.next (List.replicate n a) := ⟨_, get_new_same _ _, ElB.zeros hl hz n⟩
theorem frMake_cs {E : Env} {e bytes es : Nat} {z : AV} {l c : Operand} {T : Tr AV} {b0 n m : Nat} (hz : mkZero E e m = some (.cs e es (m * es) false z .e)) (h1 : opnd l T = some (.int .i64 (n : Int))) (h2 : opnd c T = some (.int .i64 (m : Int))) (hn : n ≤ m) (hb : bytes * m ≤ 281474976710656)
  (hm : m ≤ 281474976710656) : frMake E e bytes l c T b0 = some (.sl b0 0 n (some m), .cs e es (m * es) false z .e) := by
 unfold frMake
 rw [h1, h2]
 simp only [ob_some', natOf_cast]
 rw [ble_true hn, bt_true, ble_true (a := Nat.mul bytes m) hb, bt_true, ble_true hm, bt_true, hz, ob_some']
theorem slA_some {es n m c b : Nat} {H : AH} (h1 : n ≤ c) : slA es n (.sl b 0 m (some c)) H = some (.sl b 0 n (some c)) := by
 have key : boundsA m (some c) c none (some n) none = some (0, n, some c) := by
  show bt (Nat.ble n c) (bt (Nat.ble 0 n) (some (0, n, some c)) none) none = _
  rw [ble_true h1, bt_true, ble_true (by omega), bt_true]
 have e0 : offOf (some c) 0 0 es = 0 := by
  show bt (Nat.beq c 0) 0 (0 + 0 * es) = _
  cases Nat.beq c 0 <;> simp [bt_true, bt_false]
 unfold slA
 rw [onSl_sl]
 show ob (some c) _ = _
 rw [ob_some', key, ob_some']
 show some (AV.sl b (offOf (some c) 0 0 es) (n - 0) (some (c - 0))) = _
 rw [e0]; rfl
end
namespace Its
theorem ofL_toL : ∀ l : Its, ofL l.toL = l
 | nil => rfl
 | cons k n t s r => by simp only [toL, ofL, ofL_toL r]
theorem toL_get : ∀ (l : Its) (i : Nat), l.toL[i]? = l.get i
 | nil, i => by simp [toL, get]
 | cons k n t s r, 0 => rfl
 | cons k n t s r, i + 1 => by simp only [toL, get, List.getElem?_cons_succ, toL_get r i]
theorem toL_len : ∀ l : Its, l.toL.length = l.len
 | nil => rfl
 | cons k n t s r => by simp only [toL, len, List.length_cons, toL_len r]
end Its
inductive LentS (H : AH) : Nat → Nat → AV → Its → Prop
 | mk (lo hi : Nat) (cs : List Iv) (l : Its) (mids los : Nat → Nat) (h0 : lo < hi) (hA : Ax encI 27 4 zIv H lo cs) (hlen : cs.length = l.len + 3) (hm0 : mids 0 = lo + 1) (hm1 : mids l.len ≤ hi)
   (hmn : ∀ i, i < l.len → mids i ≤ los i ∧ los i ≤ mids (i + 1))
   (hk : ∀ (i : Nat) (x : It) (c : Iv), l.get i = some x → cs[i]? = some c → c.k = x.k ∧ c.n = x.n ∧ c.t = x.t)
   (hs : ∀ (i : Nat) (x : It) (c : Iv), l.get i = some x → cs[i]? = some c → LentS H (los i) (mids (i + 1)) c.v x.s)
   (hb : ∀ (i : Nat) (c : Iv), l.len ≤ i → cs[i]? = some c → c.k = -7) : LentS H lo hi (.sl lo 0 l.len (some (l.len + 3))) l
theorem mids_le {mids los : Nat → Nat} {n : Nat} (h : ∀ i, i < n → mids i ≤ los i ∧ los i ≤ mids (i + 1)) : ∀ (d i : Nat), i + d ≤ n → mids i ≤ mids (i + d)
 | 0, i, _ => Nat.le_refl _
 | d + 1, i, hd => by
  have h1 := mids_le h d i (by omega)
  have h2 := h (i + d) (by omega)
  rw [show i + (d + 1) = i + d + 1 by omega]
  omega
theorem mids_in {mids los : Nat → Nat} {n lo hi i : Nat} (h : ∀ i, i < n → mids i ≤ los i ∧ los i ≤ mids (i + 1)) (h0 : mids 0 = lo + 1) (h1 : mids n ≤ hi) (hi' : i < n) : lo < los i ∧ mids (i + 1) ≤ hi := by
 have a := mids_le h i 0 (by omega)
 have b := mids_le h (n - (i + 1)) (i + 1) (by omega)
 have c := h i hi'
 rw [Nat.zero_add] at a
 rw [show i + 1 + (n - (i + 1)) = n by omega] at b
 omega
theorem LentS.keep {H H2 : AH} {S : Nat → Prop} {lo hi : Nat} {v : AV} {l : Its} (h : LentS H lo hi v l) (hk : Keep S H H2) (hn : hi ≤ H.next) (hs : ∀ b, lo ≤ b → b < hi → ¬ S b) : LentS H2 lo hi v l := by
 induction h with
 | mk lo hi cs l mids los h0 hA hlen hm0 hm1 hmn hk' hs' hb ih =>
  refine .mk lo hi cs l mids los h0 (hA.keep hk (by omega) (hs lo (Nat.le_refl _) h0)) hlen hm0 hm1 hmn hk' (fun i x c hx hc => ?_) hb
  obtain ⟨h1, h2⟩ := mids_in hmn hm0 hm1 (Its.get_lt hx)
  exact ih i x c hx hc (by omega) fun b hb1 hb2 => hs b (by omega) (by omega)
theorem LentS.lt {H : AH} {lo hi : Nat} {v : AV} {l : Its} (h : LentS H lo hi v l) : lo < hi := by cases h; assumption
theorem LentS.cell {H : AH} {lo hi : Nat} {v : AV} {l : Its} (h : LentS H lo hi v l) : isCell v = true := by cases h; rfl
theorem LentS.says {H : AH} {lo hi : Nat} {v : AV} {l : Its} (h : LentS H lo hi v l) {N : Nat} (hN : hi ≤ N) : SaysI H N v l := by
 induction h with
 | mk lo hi cs l mids los h0 hA hlen hm0 hm1 hmn hk' hs' hb ih =>
  obtain ⟨o, g1, g2⟩ := hA
  have : SaysI H N (.sl lo 0 (cs.take l.len).length (some (l.len + 3))) (Its.ofL l.toL) := by
   refine saysI_of (cs := cs.take l.len) (M := N) (.inr ⟨lo, 0, _, rfl, fun _ => ⟨by omega, o, g1, g2.rd.take _⟩⟩) ⟨by rw [Its.toL_len]; simp; omega, fun i c x hc hx => ?_⟩ (Nat.le_refl _)
   rw [Its.toL_get] at hx
   have hi' := Its.get_lt hx
   rw [List.getElem?_take_of_lt hi'] at hc
   obtain ⟨a1, a2, a3⟩ := hk' i x c hx hc
   obtain ⟨h1, h2⟩ := mids_in hmn hm0 hm1 hi'
   exact ⟨a1, a2, a3, ih i x c hx hc (by omega)⟩
  rw [Its.ofL_toL] at this
  have hl : (cs.take l.len).length = l.len := by simp; omega
  rw [hl] at this
  exact this
theorem LentS.wide {H : AH} {lo hi hi2 : Nat} {v : AV} {l : Its} (h : LentS H lo hi v l) (h2 : hi ≤ hi2) : LentS H lo hi2 v l := by
 rcases h with ⟨_, _, cs, _, mids, los, h0, hA, hlen, hm0, hm1, hmn, hk', hs', hb⟩
 exact .mk lo hi2 cs l mids los (by omega) hA hlen hm0 (by omega) hmn hk' hs' hb
theorem LentS.inv {H : AH} {lo hi : Nat} {v : AV} {l : Its} (h : LentS H lo hi v l) : ∃ (cs : List Iv) (mids los : Nat → Nat), v = .sl lo 0 l.len (some (l.len + 3)) ∧ lo < hi ∧ Ax encI 27 4 zIv H lo cs ∧ cs.length = l.len + 3 ∧ mids 0 = lo + 1 ∧ mids l.len ≤ hi ∧
  (∀ i, i < l.len → mids i ≤ los i ∧ los i ≤ mids (i + 1)) ∧ (∀ (i : Nat) (x : It) (c : Iv), l.get i = some x → cs[i]? = some c → c.k = x.k ∧ c.n = x.n ∧ c.t = x.t) ∧
  (∀ (i : Nat) (x : It) (c : Iv), l.get i = some x → cs[i]? = some c → LentS H (los i) (mids (i + 1)) c.v x.s) ∧ ∀ (i : Nat) (c : Iv), l.len ≤ i → cs[i]? = some c → c.k = -7 := by
 rcases h with ⟨_, _, cs, _, mids, los, h0, hA, hlen, hm0, hm1, hmn, hk', hs', hb⟩
 exact ⟨cs, mids, los, rfl, h0, hA, hlen, hm0, hm1, hmn, hk', hs', hb⟩
structure LentP (H : AH) (l : Its) (i b0 : Nat) (cs : List Iv) (mids los : Nat → Nat) : Prop where
 len : cs.length = l.len + 3
 m0 : mids 0 = b0 + 1
 mn : ∀ j, j < i → j < l.len → mids j ≤ los j ∧ los j ≤ mids (j + 1)
 top : mids (min i l.len) ≤ H.next
 k : ∀ (j : Nat) (x : It) (c : Iv), j < i → l.get j = some x → cs[j]? = some c → c.k = x.k ∧ c.n = x.n ∧ c.t = x.t
 s : ∀ (j : Nat) (x : It) (c : Iv), j < i → l.get j = some x → cs[j]? = some c → LentS H (los j) (mids (j + 1)) c.v x.s
 b : ∀ (j : Nat) (c : Iv), j < i → l.len ≤ j → cs[j]? = some c → c.k = -7
theorem LentP.zero {H : AH} {l : Its} {b0 : Nat} {cs : List Iv} (hl : cs.length = l.len + 3) (hb : b0 < H.next) : LentP H l 0 b0 cs (fun _ => b0 + 1) (fun _ => b0 + 1) :=
 ⟨hl, rfl, fun j h => absurd h (Nat.not_lt_zero _), hb, fun j x c h => absurd h (Nat.not_lt_zero _), fun j x c h => absurd h (Nat.not_lt_zero _), fun j c h => absurd h (Nat.not_lt_zero _)⟩
theorem LentP.keep {H H2 : AH} {l : Its} {i b0 : Nat} {cs : List Iv} {mids los : Nat → Nat} {S : Nat → Prop} (h : LentP H l i b0 cs mids los) (hk : Keep S H H2) (hs : ∀ b, b0 < b → b < mids (min i l.len) → ¬ S b) : LentP H2 l i b0 cs mids los := by
 refine ⟨h.len, h.m0, h.mn, Nat.le_trans h.top hk.1, h.k, fun j x c hj hx hc => ?_, h.b⟩
 have hjl := Its.get_lt hx
 have e : min i l.len ≤ l.len := Nat.min_le_right _ _
 have e2 : j < min i l.len := by omega
 obtain ⟨h1, h2⟩ := mids_in (n := min i l.len) (fun q hq => h.mn q (by omega) (by omega)) h.m0 (Nat.le_refl _) e2
 have ht := h.top
 exact (h.s j x c hj hx hc).keep hk (by omega) fun b hb1 hb2 => hs b (by omega) (by omega)
def upd (f : Nat → Nat) (i a : Nat) : Nat → Nat := fun j => if j = i then a else f j
theorem upd_same (f : Nat → Nat) (i a : Nat) : upd f i a i = a := if_pos rfl
theorem upd_ne {f : Nat → Nat} {i a j : Nat} (h : j ≠ i) : upd f i a j = f j := if_neg h
theorem LentP.item {H : AH} {l : Its} {i b0 a e : Nat} {cs : List Iv} {mids los : Nat → Nat} {x : It} {c : Iv} (h : LentP H l i b0 cs mids los) (hx : l.get i = some x) (hc : c.k = x.k ∧ c.n = x.n ∧ c.t = x.t) (hs : LentS H a e c.v x.s) (ha : mids i ≤ a) (he : e ≤ H.next) :
  LentP H l (i + 1) b0 (cs.set i c) (upd mids (i + 1) e) (upd los i a) := by
 have hil := Its.get_lt hx
 have hlt := hs.lt
 refine ⟨by rw [List.length_set]; exact h.len, by rw [upd_ne (by omega)]; exact h.m0, fun j hj hjl => ?_, ?_, fun j y d hj hy hd => ?_, fun j y d hj hy hd => ?_, fun j d hj hjl hd => by omega⟩
 ·rcases Nat.lt_or_ge j i with h1 | h1
  ·rw [upd_ne (by omega), upd_ne (by omega), upd_ne (by omega)]
   exact h.mn j h1 hjl
  ·obtain rfl : j = i := by omega
   rw [upd_ne (by omega), upd_same, upd_same]
   omega
 ·rw [Nat.min_eq_left (by omega), upd_same]; exact he
 ·rcases Nat.lt_or_ge j i with h1 | h1
  ·rw [List.getElem?_set_ne (by omega)] at hd
   exact h.k j y d h1 hy hd
  ·obtain rfl : j = i := by omega
   rw [List.getElem?_set_self (by have := h.len; omega)] at hd
   rw [hx] at hy
   cases hy; cases hd
   exact hc
 ·rcases Nat.lt_or_ge j i with h1 | h1
  ·rw [List.getElem?_set_ne (by omega)] at hd
   rw [upd_ne (by omega), upd_ne (by omega)]
   exact h.s j y d h1 hy hd
  ·obtain rfl : j = i := by omega
   rw [List.getElem?_set_self (by have := h.len; omega)] at hd
   rw [hx] at hy
   cases hy; cases hd
   rw [upd_same, upd_same]
   exact hs
theorem LentP.behind {H : AH} {l : Its} {i b0 : Nat} {cs : List Iv} {mids los : Nat → Nat} {c : Iv} (h : LentP H l i b0 cs mids los) (hi : l.len ≤ i) (hil : i < cs.length) (hc : c.k = -7) : LentP H l (i + 1) b0 (cs.set i c) mids los := by
 refine ⟨by rw [List.length_set]; exact h.len, h.m0, fun j hj hjl => h.mn j (by omega) hjl, ?_, fun j y d hj hy hd => ?_, fun j y d hj hy hd => ?_, fun j d hj hjl hd => ?_⟩
 ·have := h.top
  rw [Nat.min_eq_right hi] at this
  rw [Nat.min_eq_right (by omega)]; exact this
 ·have := Its.get_lt hy
  rw [List.getElem?_set_ne (by omega)] at hd
  exact h.k j y d (by omega) hy hd
 ·have := Its.get_lt hy
  rw [List.getElem?_set_ne (by omega)] at hd
  exact h.s j y d (by omega) hy hd
 ·rcases Nat.lt_or_ge j i with h1 | h1
  ·rw [List.getElem?_set_ne (by omega)] at hd
   exact h.b j d h1 hjl hd
  ·obtain rfl : j = i := by omega
   rw [List.getElem?_set_self hil] at hd
   cases hd; exact hc
theorem LentP.done {H : AH} {l : Its} {b0 : Nat} {cs : List Iv} {mids los : Nat → Nat} (h : LentP H l (l.len + 3) b0 cs mids los) (hA : Ax encI 27 4 zIv H b0 cs) (hb : b0 < H.next) : LentS H b0 H.next (.sl b0 0 l.len (some (l.len + 3))) l := by
 have ht := h.top
 rw [Nat.min_eq_right (by omega)] at ht
 refine .mk b0 H.next cs l mids los hb hA h.len h.m0 ht (fun j hj => h.mn j (by omega) hj) (fun j x c hx hc => h.k j x c (by have := Its.get_lt hx; omega) hx hc) (fun j x c hx hc => h.s j x c (by have := Its.get_lt hx; omega) hx hc) fun j c hj hc => h.b j c ?_ hj hc
 have := h.len
 rcases Nat.lt_or_ge j cs.length with h | h
 ·omega
 ·rw [List.getElem?_eq_none h] at hc; cases hc
end
end Go.Xq
namespace Go.Xq
noncomputable section
section
variable {α : Type} {sub : α → AV} {its : Nat → Its} {Q : Nat → α → Prop}
structure ChP (sub : α → AV) (its : Nat → Its) (Q : Nat → α → Prop) (H : AH) (n i b0 : Nat) (cs : List α) (mids los : Nat → Nat) : Prop where
 len : cs.length = n + 3
 m0 : mids 0 = b0 + 1
 mn : ∀ j, j < i → j < n → mids j ≤ los j ∧ los j ≤ mids (j + 1)
 top : mids (min i n) ≤ H.next
 s : ∀ (j : Nat) (c : α), j < i → j < n → cs[j]? = some c → LentS H (los j) (mids (j + 1)) (sub c) (its j)
 q : ∀ (j : Nat) (c : α), j < i → cs[j]? = some c → Q j c
theorem ChP.zero {H : AH} {n b0 : Nat} {cs : List α} (hl : cs.length = n + 3) (hb : b0 < H.next) : ChP sub its Q H n 0 b0 cs (fun _ => b0 + 1) (fun _ => b0 + 1) :=
 ⟨hl, rfl, fun j h => absurd h (Nat.not_lt_zero _), hb, fun j c h => absurd h (Nat.not_lt_zero _), fun j c h => absurd h (Nat.not_lt_zero _)⟩
theorem ChP.keep {H H2 : AH} {n i b0 : Nat} {cs : List α} {mids los : Nat → Nat} {S : Nat → Prop} (h : ChP sub its Q H n i b0 cs mids los) (hk : Keep S H H2) (hs : ∀ b, b0 < b → b < mids (min i n) → ¬ S b) : ChP sub its Q H2 n i b0 cs mids los := by
 refine ⟨h.len, h.m0, h.mn, Nat.le_trans h.top hk.1, fun j c hj hjl hc => ?_, h.q⟩
 have e : min i n ≤ n := Nat.min_le_right _ _
 have e2 : j < min i n := by omega
 obtain ⟨h1, h2⟩ := mids_in (n := min i n) (fun q hq => h.mn q (by omega) (by omega)) h.m0 (Nat.le_refl _) e2
 have ht := h.top
 exact (h.s j c hj hjl hc).keep hk (by omega) fun b hb1 hb2 => hs b (by omega) (by omega)
theorem ChP.item {H : AH} {n i b0 a e : Nat} {cs : List α} {mids los : Nat → Nat} {c : α} (h : ChP sub its Q H n i b0 cs mids los) (hi : i < n) (hc : Q i c) (hs : LentS H a e (sub c) (its i)) (ha : mids i ≤ a) (he : e ≤ H.next) :
  ChP sub its Q H n (i + 1) b0 (cs.set i c) (upd mids (i + 1) e) (upd los i a) := by
 have hlt := hs.lt
 have hl := h.len
 refine ⟨by rw [List.length_set]; exact h.len, by rw [upd_ne (by omega)]; exact h.m0, fun j hj hjl => ?_, ?_, fun j d hj hjl hd => ?_, fun j d hj hd => ?_⟩
 ·rcases Nat.lt_or_ge j i with h1 | h1
  ·rw [upd_ne (by omega), upd_ne (by omega), upd_ne (by omega)]
   exact h.mn j h1 hjl
  ·obtain rfl : j = i := by omega
   rw [upd_ne (by omega), upd_same, upd_same]
   omega
 ·rw [Nat.min_eq_left (by omega), upd_same]; exact he
 ·rcases Nat.lt_or_ge j i with h1 | h1
  ·rw [List.getElem?_set_ne (by omega)] at hd
   rw [upd_ne (by omega), upd_ne (by omega)]
   exact h.s j d h1 hjl hd
  ·obtain rfl : j = i := by omega
   rw [List.getElem?_set_self (by omega)] at hd
   cases hd
   rw [upd_same, upd_same]
   exact hs
 ·rcases Nat.lt_or_ge j i with h1 | h1
  ·rw [List.getElem?_set_ne (by omega)] at hd
   exact h.q j d h1 hd
  ·obtain rfl : j = i := by omega
   rw [List.getElem?_set_self (by omega)] at hd
   cases hd; exact hc
theorem ChP.behind {H : AH} {n i b0 : Nat} {cs : List α} {mids los : Nat → Nat} {c : α} (h : ChP sub its Q H n i b0 cs mids los) (hi : n ≤ i) (hil : i < cs.length) (hc : Q i c) : ChP sub its Q H n (i + 1) b0 (cs.set i c) mids los := by
 refine ⟨by rw [List.length_set]; exact h.len, h.m0, fun j hj hjl => h.mn j (by omega) hjl, ?_, fun j d hj hjl hd => ?_, fun j d hj hd => ?_⟩
 ·have := h.top
  rw [Nat.min_eq_right hi] at this
  rw [Nat.min_eq_right (by omega)]; exact this
 ·rw [List.getElem?_set_ne (by omega)] at hd
  exact h.s j d (by omega) hjl hd
 ·rcases Nat.lt_or_ge j i with h1 | h1
  ·rw [List.getElem?_set_ne (by omega)] at hd
   exact h.q j d h1 hd
  ·obtain rfl : j = i := by omega
   rw [List.getElem?_set_self hil] at hd
   cases hd; exact hc
end
def behindL : List UInt8 := [98, 101, 104, 105, 110, 100]
def fsIts (fs : List Fld) (j : Nat) : Its := match fs[j]? with | some f => f.it.s | none => .nil
theorem fsIts_at {fs : List Fld} {j : Nat} {f : Fld} (h : fs[j]? = some f) : fsIts fs j = f.it.s := by unfold fsIts; rw [h]
def QF (fs : List Fld) (j : Nat) (c : Fv) : Prop := (∀ f, fs[j]? = some f → c.nm = f.nm ∧ c.k = f.it.k ∧ c.n = f.it.n ∧ c.t = f.it.t) ∧ (fs.length ≤ j → c.nm = behindL)
structure LentF (H : AH) (lo hi : Nat) (w : AV) (fs : List Fld) : Prop where
 v : w = .sl lo 0 fs.length (some (fs.length + 3))
 lt : lo < hi
 ex : ∃ cs mids los, Ax encF 76 5 zFv H lo cs ∧ ChP Fv.v (fsIts fs) (QF fs) H fs.length (fs.length + 3) lo cs mids los ∧ mids fs.length ≤ hi
theorem LentF.keep {H H2 : AH} {S : Nat → Prop} {lo hi : Nat} {w : AV} {fs : List Fld} (h : LentF H lo hi w fs) (hk : Keep S H H2) (hn : hi ≤ H.next) (hs : ∀ b, lo ≤ b → b < hi → ¬ S b) : LentF H2 lo hi w fs := by
 obtain ⟨cs, mids, los, h1, h2, h3⟩ := h.ex
 have hlt := h.lt
 refine ⟨h.v, h.lt, cs, mids, los, h1.keep hk (by omega) (hs lo (Nat.le_refl _) hlt), h2.keep hk fun b hb1 hb2 => ?_, h3⟩
 rw [Nat.min_eq_right (by omega)] at hb2
 exact hs b (by omega) (by omega)
theorem LentF.says {H : AH} {lo hi N : Nat} {w : AV} {fs : List Fld} (h : LentF H lo hi w fs) (hN : hi ≤ N) : SaysFs H N w fs := by
 obtain ⟨cs, mids, los, ⟨o, g1, g2⟩, h2, h3⟩ := h.ex
 have hlt := h.lt
 have hl := h2.len
 have htl : (cs.take fs.length).length = fs.length := by simp; omega
 refine ⟨cs.take fs.length, .inr ⟨lo, 0, some (fs.length + 3), by rw [htl]; exact h.v, fun _ => ⟨by omega, o, g1, g2.rd.take _⟩⟩, htl, fun i c f hc hf => ?_⟩
 have hi' : i < fs.length := by
  rcases Nat.lt_or_ge i fs.length with h | h
  ·exact h
  ·rw [List.getElem?_eq_none h] at hf; cases hf
 rw [List.getElem?_take_of_lt hi'] at hc
 obtain ⟨q1, q2, q3, q4⟩ := (h2.q i c (by omega) hc).1 f hf
 obtain ⟨a, b⟩ := mids_in (fun q hq => h2.mn q (by omega) (by omega)) h2.m0 h3 hi'
 have hs := h2.s i c (by omega) hi' hc
 rw [fsIts_at hf] at hs
 exact ⟨q1, q2, q3, q4, hs.says (by omega)⟩
structure LentR (H : AH) (lo hi : Nat) (r : Rv) (x : Rec9) : Prop where
 k : r.k = x.key.k
 n : r.n = x.key.n
 t : r.t = x.key.t
 ex : ∃ mid a, LentF H lo mid r.w x.fs ∧ mid ≤ a ∧ LentS H a hi r.v x.key.s
theorem LentR.lt {H : AH} {lo hi : Nat} {r : Rv} {x : Rec9} (h : LentR H lo hi r x) : lo < hi := by
 obtain ⟨mid, a, h1, h2, h3⟩ := h.ex
 have := h1.lt
 have := h3.lt
 omega
theorem LentR.keep {H H2 : AH} {S : Nat → Prop} {lo hi : Nat} {r : Rv} {x : Rec9} (h : LentR H lo hi r x) (hk : Keep S H H2) (hn : hi ≤ H.next) (hs : ∀ b, lo ≤ b → b < hi → ¬ S b) : LentR H2 lo hi r x := by
 obtain ⟨mid, a, h1, h2, h3⟩ := h.ex
 have := h1.lt
 have := h3.lt
 exact ⟨h.k, h.n, h.t, mid, a, h1.keep hk (by omega) fun b hb1 hb2 => hs b (by omega) (by omega), h2, h3.keep hk (by omega) fun b hb1 hb2 => hs b (by omega) (by omega)⟩
theorem LentR.at {H : AH} {lo hi N : Nat} {r : Rv} {x : Rec9} (h : LentR H lo hi r x) (hN : hi ≤ N) : RecAt H N r x := by
 obtain ⟨mid, a, h1, h2, h3⟩ := h.ex
 have := h1.lt
 have := h3.lt
 exact ⟨h.k, h.n, h.t, h3.says hN, h1.says (by omega)⟩
end
end Go.Xq
namespace Go.Xq
noncomputable section
theorem slA_none {es n m b e sz : Nat} {op : Bool} {z : AV} {t : Tr AV} {H : AH} (hg : H.get b = some (.cs e es sz op z t)) (h1 : n ≤ m ∨ (op = true ∧ n ≤ sz / es)) : slA es n (.sl b 0 m none) H = some (.sl b 0 n none) := by
 have hroom : roomOf H b 0 m es = some (bt op (Nat.max m (Nat.div (Nat.sub sz 0) es)) m) := by
  unfold roomOf
  rw [hg, ob_some']
  show bt (Nat.beq es es) _ _ = _
  rw [Nat.beq_refl, bt_true]
 have hle : n ≤ bt op (Nat.max m (Nat.div (Nat.sub sz 0) es)) m := by
  have e1 : Nat.div (Nat.sub sz 0) es = sz / es := rfl
  rw [e1]
  rcases h1 with h1 | ⟨rfl, h1⟩
  ·cases op with
   | true => rw [bt_true]; exact Nat.le_trans h1 (Nat.le_max_left _ _)
   | false => rw [bt_false]; exact h1
  ·rw [bt_true]; exact Nat.le_trans h1 (Nat.le_max_right _ _)
 unfold slA
 rw [onSl_sl]
 show ob (roomOf H b 0 m es) _ = _
 rw [hroom, ob_some']
 generalize bt op (Nat.max m (Nat.div (Nat.sub sz 0) es)) m = room at hle
 have key : boundsA m none room none (some n) none = some (0, n, none) := by
  show bt (Nat.ble n room) (bt (Nat.ble 0 n) (some (0, n, none)) none) none = _
  rw [ble_true hle, bt_true, ble_true (by omega), bt_true]
 rw [key, ob_some']
 show some (AV.sl b (0 + 0 * es) (n - 0) none) = _
 rw [Nat.zero_mul]; rfl
def zT : AV := .cons (.str 0 0) .nil
def beh3 : List (List UInt8) := [behindL, behindL, behindL]
structure LentX (H : AH) (lo hi : Nat) (v : AV) (ix : Ixd) : Prop where
 v : v = .sl lo 0 1 (some 4)
 lt : lo < hi
 ex : ∃ cs bk o, Ax encX 24 3 zXv H lo cs ∧ cs.length = 4 ∧ (∃ c, cs[0]? = some c ∧ c.nm = ix.nm ∧ c.u = ix.u ∧ c.v = .sl bk 0 ix.ks.length none) ∧ lo < bk ∧ bk < hi ∧ H.get bk = some o ∧ ElB encT 9 1 true zT (ix.ks ++ beh3) o ∧ ∀ (j : Nat) (c : Xv), 1 ≤ j → cs[j]? = some c → c.nm = behindL
theorem LentX.keep {H H2 : AH} {S : Nat → Prop} {lo hi : Nat} {v : AV} {ix : Ixd} (h : LentX H lo hi v ix) (hk : Keep S H H2) (hn : hi ≤ H.next) (hs : ∀ b, lo ≤ b → b < hi → ¬ S b) : LentX H2 lo hi v ix := by
 obtain ⟨cs, bk, o, h1, h2, h3, h4, h5, h6, h7, h8⟩ := h.ex
 have := h.lt
 exact ⟨h.v, h.lt, cs, bk, o, h1.keep hk (by omega) (hs lo (Nat.le_refl _) this), h2, h3, h4, h5, hk.get (by omega) (hs bk (by omega) h5) h6, h7, h8⟩
theorem LentX.one {H : AH} {lo hi N : Nat} {v : AV} {ix : Ixd} (h : LentX H lo hi v ix) (hN : hi ≤ N) : ∃ rx o, H.get lo = some o ∧ rdCells o 3 0 = some (avl (encX rx)) ∧ IxAt H N rx ix := by
 obtain ⟨cs, bk, o, h1, h2, ⟨c, h3, h3', h3'', h3'''⟩, h4, h5, h6, h7, h8⟩ := h.ex
 obtain ⟨o1, g1, g2, g3⟩ := h1.get encX_len h3
 refine ⟨c, o1, g1, by simpa using g3, h3', h3'', ?_, ?_⟩
 ·refine .inr ⟨bk, 0, none, h3''', fun _ => ⟨by omega, o, h6, ?_⟩⟩
  have := h7.rd.of_prefix
  exact this
 ·obtain ⟨t, ht⟩ := h7.opn
  rw [ht] at h6
  exact .inr (.inr ⟨bk, 0, _, _, _, _, _, _, h3''', by omega, h6⟩)
end
end Go.Xq
