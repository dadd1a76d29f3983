/- A part of the proof of this seat's statement. Conditions: in each theorem. -/
import Derived.Test.YtnodjhgmghkikaaGreatXq
namespace Go.Xq
def Q4.num : Q4 → Nat
  | .a => 0 | .b => 1 | .c => 2 | .d => 3
def dec : List Q4 → Nat
  | [] => 0
  | q :: p => 4 * dec p + q.num + 1
theorem num_q4 (i : Nat) (h : i < 4) : (q4 i).num = i := by
  match i, h with
  | 0, _ | 1, _ | 2, _ | 3, _ => rfl
theorem dec_bitsF : ∀ (f i : Nat), i ≤ f → dec (bitsF f i) = i
  | 0, i, h => by have : i = 0 := by omega
                  subst this; rfl
  | f + 1, 0, _ => rfl
  | f + 1, j + 1, h => by
    show 4 * dec (bitsF f (j / 4)) + (q4 (j % 4)).num + 1 = j + 1
    rw [dec_bitsF f (j / 4) (by omega), num_q4 _ (Nat.mod_lt _ (by decide))]
    omega
theorem dec_bits (i : Nat) : dec (bits i) = i := dec_bitsF i i (Nat.le_refl _)
theorem bits_inj {i j : Nat} (h : bits i = bits j) : i = j := by rw [← dec_bits i, h, dec_bits]
theorem bits_ne {i j : Nat} (h : i ≠ j) : bits i ≠ bits j := fun e => h (bits_inj e)
namespace Tr
variable {α : Type}
@[simp] theorem get_nil_e : get [] (.e : Tr α) = none := rfl
@[simp] theorem get_nil_n (v : Option α) (a b c d) : get [] (.n v a b c d) = v := rfl
@[simp] theorem get_cons_e (q p) : get (q :: p) (.e : Tr α) = none := rfl
@[simp] theorem get_cons_a (p) (v : Option α) (a b c d) : get (.a :: p) (.n v a b c d) = get p a := rfl
@[simp] theorem get_cons_b (p) (v : Option α) (a b c d) : get (.b :: p) (.n v a b c d) = get p b := rfl
@[simp] theorem get_cons_c (p) (v : Option α) (a b c d) : get (.c :: p) (.n v a b c d) = get p c := rfl
@[simp] theorem get_cons_d (p) (v : Option α) (a b c d) : get (.d :: p) (.n v a b c d) = get p d := rfl
@[simp] theorem get_e (p : List Q4) : get p (.e : Tr α) = none := by cases p <;> rfl
@[simp] theorem put_nil_e (x : Option α) : put x [] .e = .n x .e .e .e .e := rfl
@[simp] theorem put_nil_n (x v : Option α) (a b c d) : put x [] (.n v a b c d) = .n x a b c d := rfl
@[simp] theorem put_a_e (x : Option α) (p) : put x (.a :: p) .e = .n none (put x p .e) .e .e .e := rfl
@[simp] theorem put_b_e (x : Option α) (p) : put x (.b :: p) .e = .n none .e (put x p .e) .e .e := rfl
@[simp] theorem put_c_e (x : Option α) (p) : put x (.c :: p) .e = .n none .e .e (put x p .e) .e := rfl
@[simp] theorem put_d_e (x : Option α) (p) : put x (.d :: p) .e = .n none .e .e .e (put x p .e) := rfl
@[simp] theorem put_a_n (x v : Option α) (p a b c d) : put x (.a :: p) (.n v a b c d) = .n v (put x p a) b c d := rfl
@[simp] theorem put_b_n (x v : Option α) (p a b c d) : put x (.b :: p) (.n v a b c d) = .n v a (put x p b) c d := rfl
@[simp] theorem put_c_n (x v : Option α) (p a b c d) : put x (.c :: p) (.n v a b c d) = .n v a b (put x p c) d := rfl
@[simp] theorem put_d_n (x v : Option α) (p a b c d) : put x (.d :: p) (.n v a b c d) = .n v a b c (put x p d) := rfl
theorem get_put_same (x : Option α) : ∀ (p : List Q4) (t : Tr α), get p (put x p t) = x
  | [], .e => rfl
  | [], .n .. => rfl
  | q :: p, .e => by cases q <;> simp [get_put_same x p]
  | q :: p, .n .. => by cases q <;> simp [get_put_same x p]
theorem get_put_ne (x : Option α) : ∀ (p q : List Q4) (t : Tr α), p ≠ q → get q (put x p t) = get q t
  | [], [], _, h => absurd rfl h
  | [], r :: q, .e, _ => by cases r <;> simp
  | [], r :: q, .n .., _ => by cases r <;> simp
  | s :: p, [], .e, _ => by cases s <;> simp
  | s :: p, [], .n .., _ => by cases s <;> simp
  | s :: p, r :: q, .e, h => by
    cases s <;> cases r <;> simp <;> (rw [get_put_ne x p q .e (fun e => h (by rw [e]))]; simp)
  | s :: p, r :: q, .n .., h => by
    cases s <;> cases r <;> simp <;> exact get_put_ne x p q _ (fun e => h (by rw [e]))
theorem get_tab : ∀ (p : List Q4) (d : Nat) (g : Nat → Option α) (x : α), get p (tab d g) = some x → g (dec p) = some x
  | p, 0, g, x, h => by simp [tab] at h
  | [], d + 1, g, x, h => by simpa [tab, dec] using h
  | q :: p, d + 1, g, x, h => by
    cases q <;> simp only [tab, get_cons_a, get_cons_b, get_cons_c, get_cons_d] at h <;>
      (have := get_tab p d _ x h; simp only [dec, Q4.num]; exact this)
end Tr
section
variable {α β : Type}
@[simp] theorem ob_none' (f : α → Option β) : ob none f = none := rfl
@[simp] theorem ob_some' (a : α) (f : α → Option β) : ob (some a) f = f a := rfl
theorem ob_some {x : Option α} {f : α → Option β} {r : β} : ob x f = some r ↔ ∃ a, x = some a ∧ f a = some r := by cases x <;> simp
@[simp] theorem bt_true (x y : β) : bt true x y = x := rfl
@[simp] theorem bt_false (x y : β) : bt false x y = y := rfl
theorem bt_some {b : Bool} {x : Option β} {r : β} : bt b x none = some r ↔ b = true ∧ x = some r := by cases b <;> simp
theorem bt_eq (b : Bool) (x y : β) : bt b x y = if b = true then x else y := by cases b <;> rfl
@[simp] theorem oc_none (z : β) (f : α → β) : oc none z f = z := rfl
@[simp] theorem oc_some (a : α) (z : β) (f : α → β) : oc (some a) z f = f a := rfl
@[simp] theorem nc_zero (z : β) (f : Nat → β) : nc 0 z f = z := rfl
@[simp] theorem nc_succ (n : Nat) (z : β) (f : Nat → β) : nc (n + 1) z f = f n := rfl
@[simp] theorem ic_ofNat (n : Nat) (f g : Nat → β) : ic (.ofNat n) f g = f n := rfl
@[simp] theorem ic_neg (n : Nat) (f g : Nat → β) : ic (.negSucc n) f g = g n := rfl
theorem onInt_some {v : AV} {f : IntKind → Int → Option β} {r : β} : onInt v f = some r ↔ ∃ k n, v = .int k n ∧ f k n = some r :=
  ⟨fun h => by cases v <;> first | exact ⟨_, _, rfl, h⟩ | (simp [onInt] at h; done), by rintro ⟨_, _, rfl, h⟩; exact h⟩
theorem onPtr_some {v : AV} {f : Nat → Nat → Option β} {r : β} : onPtr v f = some r ↔ ∃ b o, v = .ptr b o ∧ f b o = some r :=
  ⟨fun h => by cases v <;> first | exact ⟨_, _, rfl, h⟩ | (simp [onPtr] at h; done), by rintro ⟨_, _, rfl, h⟩; exact h⟩
theorem onSl_some {v : AV} {z : Option β} {f : Nat → Nat → Nat → Option Nat → Option β} {r : β} :
    onSl v z f = some r ↔ (v = .snil ∧ z = some r) ∨ ∃ b o l c, v = .sl b o l c ∧ f b o l c = some r :=
  ⟨fun h => by cases v <;> first | exact .inl ⟨rfl, h⟩ | exact .inr ⟨_, _, _, _, rfl, h⟩ | (simp [onSl] at h; done), by rintro (⟨rfl, h⟩ | ⟨_, _, _, _, rfl, h⟩) <;> exact h⟩
theorem onBool_some {v : AV} {f : Bool → Option β} {r : β} : onBool v f = some r ↔ ∃ b, v = .bool b ∧ f b = some r :=
  ⟨fun h => by cases v <;> first | exact ⟨_, rfl, h⟩ | (simp [onBool] at h; done), by rintro ⟨_, rfl, h⟩; exact h⟩
theorem onStr_some {v : AV} {f : Nat → Nat → Option β} {r : β} : onStr v f = some r ↔ ∃ l n, v = .str l n ∧ f l n = some r :=
  ⟨fun h => by cases v <;> first | exact ⟨_, _, rfl, h⟩ | (simp [onStr] at h; done), by rintro ⟨_, _, rfl, h⟩; exact h⟩
theorem onFn_some {v : AV} {f : Fn → AV → AV → Option β} {r : β} : onFn v f = some r ↔ ∃ q a c, v = .fn q a c ∧ f q a c = some r :=
  ⟨fun h => by cases v <;> first | exact ⟨_, _, _, rfl, h⟩ | (simp [onFn] at h; done), by rintro ⟨_, _, _, rfl, h⟩; exact h⟩
theorem onAgg_some {v : AV} {f : AV → Option β} {r : β} : onAgg v f = some r ↔ ∃ l, v = .agg l ∧ f l = some r :=
  ⟨fun h => by cases v <;> first | exact ⟨_, rfl, h⟩ | (simp [onAgg] at h; done), by rintro ⟨_, rfl, h⟩; exact h⟩
theorem onTup_some {v : AV} {f : AV → Option β} {r : β} : onTup v f = some r ↔ ∃ l, v = .tup l ∧ f l = some r :=
  ⟨fun h => by cases v <;> first | exact ⟨_, rfl, h⟩ | (simp [onTup] at h; done), by rintro ⟨_, rfl, h⟩; exact h⟩
theorem onIfc_some {v : AV} {z : Option β} {f : Nat → AV → Option β} {r : β} :
    onIfc v z f = some r ↔ (v = .inil ∧ z = some r) ∨ ∃ t w, v = .ifc t w ∧ f t w = some r :=
  ⟨fun h => by cases v <;> first | exact .inl ⟨rfl, h⟩ | exact .inr ⟨_, _, rfl, h⟩ | (simp [onIfc] at h; done), by rintro (⟨rfl, h⟩ | ⟨_, _, rfl, h⟩) <;> exact h⟩
theorem onMap_some {v : AV} {z : Option β} {f : Nat → Option β} {r : β} :
    onMap v z f = some r ↔ (v = .mnil ∧ z = some r) ∨ ∃ t, v = .mp t ∧ f t = some r :=
  ⟨fun h => by cases v <;> first | exact .inl ⟨rfl, h⟩ | exact .inr ⟨_, rfl, h⟩ | (simp [onMap] at h; done), by rintro (⟨rfl, h⟩ | ⟨_, rfl, h⟩) <;> exact h⟩
theorem onCons_some {v : AV} {z : Option β} {f : AV → AV → Option β} {r : β} :
    onCons v z f = some r ↔ (v = .nil ∧ z = some r) ∨ ∃ h t, v = .cons h t ∧ f h t = some r :=
  ⟨fun h => by cases v <;> first | exact .inl ⟨rfl, h⟩ | exact .inr ⟨_, _, rfl, h⟩ | (simp [onCons] at h; done), by rintro (⟨rfl, h⟩ | ⟨_, _, rfl, h⟩) <;> exact h⟩
theorem onObj_some {o : AObj} {f : Nat → Nat → Bool → Nat → Option β} {g : Nat → Nat → Nat → Bool → AV → Tr AV → Option β} {r : β} :
    onObj o f g = some r ↔ (∃ e s p n, o = .bys e s p n ∧ f e s p n = some r) ∨ ∃ e a s p z t, o = .cs e a s p z t ∧ g e a s p z t = some r :=
  ⟨fun h => by cases o <;> first | exact .inl ⟨_, _, _, _, rfl, h⟩ | exact .inr ⟨_, _, _, _, _, _, rfl, h⟩ | (simp [onObj] at h; done),
   by rintro (⟨_, _, _, _, rfl, h⟩ | ⟨_, _, _, _, _, _, rfl, h⟩) <;> exact h⟩
theorem onObj3_some {o : AObj} {f : Nat → Nat → Bool → Nat → Option β} {g : Nat → Nat → Nat → Bool → AV → Tr AV → Option β} {h : (Nat → Option AV) → Option β} {r : β} :
    onObj3 o f g h = some r ↔ (∃ e s p n, o = .bys e s p n ∧ f e s p n = some r) ∨ (∃ e a s p z t, o = .cs e a s p z t ∧ g e a s p z t = some r) ∨ ∃ x q, o = .ro x q ∧ h q = some r :=
  ⟨fun h => by cases o <;> first | exact .inl ⟨_, _, _, _, rfl, h⟩ | exact .inr (.inl ⟨_, _, _, _, _, _, rfl, h⟩) | exact .inr (.inr ⟨_, _, rfl, h⟩) | (simp [onObj3] at h; done),
   by rintro (⟨_, _, _, _, rfl, h⟩ | ⟨_, _, _, _, _, _, rfl, h⟩ | ⟨_, _, rfl, h⟩) <;> exact h⟩
theorem onMp_some {o : AObj} {f : List MEnt → Nat → Option β} {r : β} : onMp o f = some r ↔ ∃ es c, o = .mp es c ∧ f es c = some r :=
  ⟨fun h => by cases o <;> first | exact ⟨_, _, rfl, h⟩ | (simp [onMp] at h; done), by rintro ⟨_, _, rfl, h⟩; exact h⟩
end
theorem kIx_inj {k l : IntKind} (h : kIx k = kIx l) : k = l := by cases k <;> cases l <;> first | rfl | (simp [kIx, kc] at h)
theorem kEq_iff {k l : IntKind} : kEq k l = true ↔ k = l := by
  constructor
  · intro h; exact kIx_inj (Nat.eq_of_beq_eq_true h)
  · rintro rfl; exact Nat.beq_refl _
theorem eqI_iff {x y : Int} : eqI x y = true ↔ x = y := by
  cases x <;> cases y <;> simp [eqI, ic] <;> omega
theorem ltI_iff {x y : Int} : ltI x y = true ↔ x < y := by
  cases x <;> cases y <;> simp [ltI, ic, Nat.blt_eq] <;> omega
theorem bEq_iff {a b : Bool} : bEq a b = true ↔ a = b := by cases a <;> cases b <;> simp [bEq]
theorem bEq_eq (a b : Bool) : bEq a b = (a == b) := by cases a <;> cases b <;> rfl
theorem optBeq_iff {a b : Option Nat} : optBeq a b = true ↔ a = b := by cases a <;> cases b <;> simp [optBeq]
theorem AV.beq_eq : ∀ {a b : AV}, AV.beq a b = true → a = b := by
  intro a
  induction a with
  | nil | inil | pnil | snil | mnil | fnil => intro b h; cases b <;> simp_all [AV.beq]
  | tup x ih => intro b h; cases b <;> simp [AV.beq] at h; rw [ih h]
  | agg x ih => intro b h; cases b <;> simp [AV.beq] at h; rw [ih h]
  | ifc t x ih => intro b h; cases b <;> simp [AV.beq] at h; rw [h.1, ih h.2]
  | mp r => intro b h; cases b <;> simp [AV.beq] at h; rw [h]
  | fn f x y ih1 ih2 => intro b h; cases b <;> simp [AV.beq, fnBeq] at h; rw [h.1, ih1 h.2.1, ih2 h.2.2]
  | cons x y ih1 ih2 => intro b h; cases b <;> simp [AV.beq] at h; rw [ih1 h.1, ih2 h.2]
  | str l n => intro b h; cases b <;> simp [AV.beq] at h; rw [h.1, h.2]
  | bool x => intro b h; cases b <;> simp [AV.beq, bEq_iff] at h; rw [h]
  | sl x y z c => intro b h; cases b <;> simp [AV.beq, optBeq_iff] at h; rw [h.1.1, h.1.2, h.2.1, h.2.2]
  | ptr x y => intro b h; cases b <;> simp [AV.beq] at h; rw [h.1, h.2]
  | int k n => intro b h; cases b <;> simp [AV.beq, kEq_iff, eqI_iff] at h; rw [h.1, h.2]
structure BI where
  blk : Nat
  base : Nat
  sz : Nat
  es : Nat
abbrev Ren := Nat → Option BI
inductive FR (m : Ren) : Fn → Fn → Prop
  | same (f : Fn) (h : ∀ l, f ≠ .yield l) : FR m f f
  | yield (l : Nat) (i : BI) (h : m l = some i) : FR m (.yield l) (.yield i.blk)
mutual
inductive VR (m : Ren) : AV → Value → Prop
  | bool (b : Bool) : VR m (.bool b) (.bool b)
  | int (k : IntKind) (n : Int) : VR m (.int k n) (.int k n)
  | str (s : ByteArray) : VR m (.str s.data.toList.length (leNat s.data.toList)) (.string s)
  | pnil : VR m .pnil (.pointer none)
  | ptr (b off : Nat) (i : BI) (h : m b = some i) : VR m (.ptr b off) (.pointer (some ⟨i.blk, i.base + off, none⟩))
  | snil : VR m .snil (.slice none 0 0)
  | sl (b off len c : Nat) (i : BI) (h : m b = some i) : VR m (.sl b off len (some c)) (.slice (some ⟨i.blk, i.base + off, none⟩) len c)
  | slo (b off len c : Nat) (i : BI) (h : m b = some i) (he : 0 < i.es) (hc : i.base + off + c * i.es = i.sz) (hl : len ≤ c) :
      VR m (.sl b off len none) (.slice (some ⟨i.blk, i.base + off, none⟩) len c)
  | sle (b off : Nat) (a : Addr) (i : BI) (h : m b = some i) (he : 0 < i.es) (hc : i.base + off = i.sz) : VR m (.sl b off 0 none) (.slice (some a) 0 0)
  | slz (b off : Nat) (a : Addr) : VR m (.sl b off 0 (some 0)) (.slice (some a) 0 0)
  | mnil : VR m .mnil (.map none)
  | mp (r : Nat) (i : BI) (h : m r = some i) : VR m (.mp r) (.map (some i.blk))
  | fnil : VR m .fnil .nilFunc
  | fn (f g : Fn) (a c : AV) (va vc : List Value) (hf : FR m f g) (ha : VL m a va) (hc : VL m c vc) : VR m (.fn f a c) (.func g va.toArray vc.toArray)
  | inil : VR m .inil .nilIface
  | ifc (t : Nat) (v : AV) (w : Value) (h : VR m v w) : VR m (.ifc t v) (.iface t w)
  | agg (l : AV) (vs : List Value) (h : VL m l vs) : VR m (.agg l) (.agg vs.toArray)
  | tup (l : AV) (vs : List Value) (h : VL m l vs) : VR m (.tup l) (.tuple vs.toArray)
inductive VL (m : Ren) : AV → List Value → Prop
  | nil : VL m .nil []
  | cons (a : AV) (v : Value) (l : AV) (vs : List Value) (h : VR m a v) (hl : VL m l vs) : VL m (.cons a l) (v :: vs)
end
def Le (m m2 : Ren) : Prop := ∀ b i, m b = some i → m2 b = some i
theorem Le.refl (m : Ren) : Le m m := fun _ _ h => h
theorem FR.mono {m m2 : Ren} (hm : Le m m2) {f g : Fn} (h : FR m f g) : FR m2 f g := by
  cases h with
  | same f h => exact .same f h
  | yield l i h => exact .yield l i (hm _ _ h)
mutual
theorem VR.mono {m m2 : Ren} (hm : Le m m2) : ∀ {a v}, VR m a v → VR m2 a v
  | _, _, .bool b => .bool b
  | _, _, .int k n => .int k n
  | _, _, .str s => .str s
  | _, _, .pnil => .pnil
  | _, _, .ptr b off i h => .ptr b off i (hm _ _ h)
  | _, _, .snil => .snil
  | _, _, .sl b off len c i h => .sl b off len c i (hm _ _ h)
  | _, _, .slo b off len c i h he hc hl => .slo b off len c i (hm _ _ h) he hc hl
  | _, _, .sle b off a i h he hc => .sle b off a i (hm _ _ h) he hc
  | _, _, .slz b off a => .slz b off a
  | _, _, .mnil => .mnil
  | _, _, .mp r i h => .mp r i (hm _ _ h)
  | _, _, .fnil => .fnil
  | _, _, .fn f g a c va vc hf ha hc => .fn f g a c va vc (hf.mono hm) (VL.mono hm ha) (VL.mono hm hc)
  | _, _, .inil => .inil
  | _, _, .ifc t v w h => .ifc t v w (VR.mono hm h)
  | _, _, .agg l vs h => .agg l vs (VL.mono hm h)
  | _, _, .tup l vs h => .tup l vs (VL.mono hm h)
theorem VL.mono {m m2 : Ren} (hm : Le m m2) : ∀ {a v}, VL m a v → VL m2 a v
  | _, _, .nil => .nil
  | _, _, .cons a v l vs h hl => .cons a v l vs (VR.mono hm h) (VL.mono hm hl)
end
section
variable {m : Ren}
theorem VL.len : ∀ {l vs}, VL m l vs → l.len = vs.length
  | _, _, .nil => rfl
  | _, _, .cons _ _ _ _ _ hl => by simp [AV.len, hl.len]
theorem VL.app : ∀ {l vs k ws}, VL m l vs → VL m k ws → VL m (l.app k) (vs ++ ws)
  | _, _, _, _, .nil, h => h
  | _, _, _, _, .cons a v l vs h hl, h' => .cons a v _ _ h (hl.app h')
theorem VL.nth : ∀ {i l vs a}, VL m l vs → AV.nth i l = some a → ∃ v, vs[i]? = some v ∧ VR m a v
  | 0, _, _, _, .nil, h => by simp [AV.nth, onCons] at h
  | _ + 1, _, _, _, .nil, h => by simp [AV.nth, onCons] at h
  | 0, _, _, _, .cons a v l vs hv hl, h => by
    simp [AV.nth, onCons] at h; subst h; exact ⟨v, rfl, hv⟩
  | i + 1, _, _, _, .cons a v l vs hv hl, h => by
    simp [AV.nth, onCons] at h
    obtain ⟨w, hw, hr⟩ := hl.nth (i := i) h
    exact ⟨w, by simpa using hw, hr⟩
theorem VL.drop : ∀ {n l vs}, VL m l vs → VL m (l.drop n) (vs.drop n)
  | 0, _, _, h => h
  | _ + 1, _, _, .nil => .nil
  | n + 1, _, _, .cons _ _ _ _ _ hl => hl.drop (n := n)
theorem VL.take : ∀ {n l vs}, VL m l vs → VL m (l.take n) (vs.take n)
  | 0, _, _, _ => .nil
  | _ + 1, _, _, .nil => .nil
  | n + 1, _, _, .cons a v _ _ h hl => .cons a v _ _ h (hl.take (n := n))
def lover0 : List Value → List Value → List Value
  | v :: vs, _ :: t => v :: lover0 vs t
  | _, l => l
def lover : Nat → List Value → List Value → List Value
  | 0, l, vs => lover0 vs l
  | n + 1, h :: t, vs => h :: lover n t vs
  | _ + 1, [], _ => []
theorem VL.over0 : ∀ {vs ws l k}, VL m k ws → VL m l vs → VL m (AV.over0 k l) (lover0 ws vs)
  | _, _, _, _, .nil, h => by simpa [AV.over0, lover0] using h
  | _, _, _, _, .cons a v k ws hv hk, .nil => by simpa [AV.over0, lover0] using VL.nil
  | _, _, _, _, .cons a v k ws hv hk, .cons b u l vs hu hl => by
    simpa [AV.over0, lover0] using VL.cons a v _ _ hv (VL.over0 hk hl)
theorem VL.over : ∀ {n vs ws l k}, VL m l vs → VL m k ws → VL m (AV.over n l k) (lover n vs ws)
  | 0, _, _, _, _, h, h' => by simpa [AV.over, lover] using VL.over0 h' h
  | _ + 1, _, _, _, _, .nil, _ => by simpa [AV.over, lover] using VL.nil
  | n + 1, _, _, _, _, .cons a v l vs hv hl, h' => by simpa [AV.over, lover] using VL.cons a v _ _ hv (VL.over (n := n) hl h')
theorem VR.cells {a : AV} {v : Value} (h : VR m a v) (hn : ∀ l, a ≠ .tup l) : VL m (cellsA a) v.cells.toList := by
  cases h with
  | agg l vs h => simpa [cellsA, Value.cells] using h
  | tup l vs h => exact absurd rfl (hn l)
  | ptr b off i h => exact .cons _ _ _ _ (.ptr b off i h) .nil
  | sl b off len c i h => exact .cons _ _ _ _ (.sl b off len c i h) .nil
  | slo b off len c i h he hc hl => exact .cons _ _ _ _ (.slo b off len c i h he hc hl) .nil
  | mp r i h => exact .cons _ _ _ _ (.mp r i h) .nil
  | fn f g a c va vc hf ha hc => exact .cons _ _ _ _ (.fn f g a c va vc hf ha hc) .nil
  | ifc t v w h => exact .cons _ _ _ _ (.ifc t v w h) .nil
  | bool b => exact .cons _ _ _ _ (.bool b) .nil
  | int k n => exact .cons _ _ _ _ (.int k n) .nil
  | str s => exact .cons _ _ _ _ (.str s) .nil
  | pnil => exact .cons _ _ _ _ .pnil .nil
  | snil => exact .cons _ _ _ _ .snil .nil
  | sle b off a i h he hc => exact .cons _ _ _ _ (.sle b off a i h he hc) .nil
  | slz b off a => exact .cons _ _ _ _ (.slz b off a) .nil
  | mnil => exact .cons _ _ _ _ .mnil .nil
  | fnil => exact .cons _ _ _ _ .fnil .nil
  | inil => exact .cons _ _ _ _ .inil .nil
end
end Go.Xq
