/- Contracts of calls and rules for code. Conditions: in each theorem. -/
import Derived.Test.YtfgipbjaapkdlaaGreatDoorZ4
import Derived.KernelRfl
namespace Go.Xq
noncomputable section
def bitN (r : Nat) : Nat := if r % 2 = 1 then (r / 2) ^^^ 2197175160 else r / 2
def regN : List UInt8 → Nat → Nat
  | [], r => r
  | x :: l, r => regN l (halfN (halfN (r ^^^ x.toNat)))
end
end Go.Xq
namespace Go.Xq
noncomputable section
section
variable {H : AH} {e : Nat} {x : AV} {k l : List UInt8}
theorem appB_zero' (hx : RdS H x []) {b off len : Nat} (hmax : len ≤ 17179869184) : appendA ⟨grownBy e⟩ 1 H (.sl b off len none) x = some (.sl b off len none, H) := by
  unfold appendA
  rw [hx.lengthA, ob_some']
  show bt (Nat.ble 0 17179869184) (appSl _ 1 H x 0 b off len none) none = _
  rw [ble_true (by omega), bt_true]
  show bt (Nat.ble (len + 0) 17179869184) (bt (oc (none : Option Nat) true fun c => Nat.ble len c) (some (AV.sl b off len none, H)) none) none = _
  rw [ble_true (by omega), bt_true]; rfl
theorem appB_szero (hx : RdS H x []) : appendA ⟨grownBy e⟩ 1 H .snil x = some (.snil, H) := by
  unfold appendA
  rw [hx.lengthA, ob_some']
  rfl
theorem appB_move {b n : Nat} (hn : n = k.length) (hb : b < H.next) (hg : H.get b = some (bb e true k)) (hx : RdS H x l) (hl : l ≠ []) (hmax : n + l.length ≤ 17179869184) :
    appendA ⟨grownBy e⟩ 1 H (.sl b 0 n none) x = some (.sl H.next 0 (n + l.length) none, (H.kill b).new (bb e true (k ++ l))) := by
  unfold appendA
  rw [hx.lengthA, ob_some', ble_true (by omega), bt_true]
  obtain ⟨m, hm⟩ : ∃ m, l.length = m + 1 := ⟨l.length - 1, by have := List.length_pos_iff.2 hl; omega⟩
  have hgr := grownBy_bb (e := e) (H := H) (s := .sl b 0 n none) (x := x) (k := k) (l := l) (n := n) (m := l.length) (.bb' hn hb hg) hx hn rfl
  rw [hm] at hgr ⊢
  show bt (Nat.ble (n + (m + 1)) 17179869184) (ob (roomOf H b 0 n 1) fun room => bt (Nat.ble (n + (m + 1)) room) _ (ob (H.get b) fun o0 => ob (grownBy e H (.sl b 0 n none) n (m + 1) x) fun o => bt (alikeB o0 o) (some (AV.sl H.next 0 (n + (m + 1)) none, (H.kill b).new o)) none)) none = _
  have hroom : roomOf H b 0 n 1 = some n := by
    unfold roomOf
    rw [hg, ob_some']
    show bt (Nat.beq 1 1) (some (bt true (Nat.max n (Nat.sub k.length 0)) n)) none = _
    rw [Nat.beq_refl, bt_true, bt_true]
    have : Nat.sub k.length 0 = n := by
      show k.length - 0 = n
      rw [Nat.sub_zero, hn]
    rw [this]
    show some (max n n) = _
    simp
  rw [ble_true (by omega), bt_true, hroom, ob_some', not_ble (by omega), bt_false, hg, ob_some', hgr, ob_some']
  show bt (Nat.beq e e) _ none = _
  rw [Nat.beq_refl, bt_true]
def OwnB (e : Nat) (H : AH) (lo : Nat) (v : AV) (l : List UInt8) : Prop :=
  (v = .snil ∧ l = []) ∨ ∃ b, v = .sl b 0 l.length none ∧ l ≠ [] ∧ lo ≤ b ∧ b < H.next ∧ H.get b = some (bb e true l)
theorem OwnB.rd {lo : Nat} {v : AV} (h : OwnB e H lo v l) : RdS H v l := by
  rcases h with h | ⟨b, rfl, _, _, h3, h4⟩
  · exact .inl h
  · exact .bb' rfl h3 h4
theorem OwnB.cell {lo : Nat} {v : AV} (h : OwnB e H lo v l) : isCell v = true := by
  rcases h with ⟨rfl, _⟩ | ⟨b, rfl, _⟩ <;> rfl
theorem OwnB.low {lo b : Nat} {v : AV} (h : OwnB e H lo v l) (hb : blk v = some b) : lo ≤ b ∧ b < H.next := by
  rcases h with ⟨rfl, _⟩ | ⟨b', rfl, _, h2, h3, _⟩
  · cases hb
  · cases hb; exact ⟨h2, h3⟩
theorem OwnB.keep {S : Nat → Prop} {H2 : AH} {lo : Nat} {v : AV} (h : OwnB e H lo v l) (hk : Keep S H H2) (hs : ∀ b, blk v = some b → ¬ S b) : OwnB e H2 lo v l := by
  rcases h with h | ⟨b, rfl, h1, h2, h3, h4⟩
  · exact .inl h
  · exact .inr ⟨b, rfl, h1, h2, Nat.lt_of_lt_of_le h3 hk.1, hk.get h3 (hs b rfl) h4⟩
theorem OwnB.app {lo : Nat} {v : AV} (h : OwnB e H lo v k) (hlo : lo ≤ H.next) (hx : RdS H x l) (hmax : k.length + l.length ≤ 17179869184) :
    ∃ v' H2, appendA ⟨grownBy e⟩ 1 H v x = some (v', H2) ∧ OwnB e H2 lo v' (k ++ l) ∧ Keep (fun b => blk v = some b) H H2 ∧ ∀ b, blk v' = some b → blk v = some b ∨ H.next ≤ b := by
  by_cases hl : l = []
  · subst hl
    rw [List.append_nil]
    rcases h with ⟨rfl, rfl⟩ | ⟨b, rfl, h1, h2, h3, h4⟩
    · exact ⟨_, _, appB_szero hx, .inl ⟨rfl, rfl⟩, Keep.refl _ _, fun b e => .inl e⟩
    · exact ⟨_, _, appB_zero' hx (by simpa using hmax), .inr ⟨b, rfl, h1, h2, h3, h4⟩, Keep.refl _ _, fun b e => .inl e⟩
  · rcases h with ⟨rfl, rfl⟩ | ⟨b, rfl, h1, h2, h3, h4⟩
    · exact ⟨_, _, appB_snil hx hl (by simpa using hmax), .inr ⟨H.next, by simp, by simpa using hl, hlo, by simp, get_new_same _ _⟩, Keep.new _ _ _, fun b e => .inr (by cases e; exact Nat.le_refl _)⟩
    · refine ⟨_, _, appB_move rfl h3 h4 hx hl hmax, .inr ⟨H.next, by simp, by simp [hl], hlo, by simp, ?_⟩, (Keep.kill (S := fun b' => blk (.sl b 0 k.length none) = some b') fun _ => rfl).trans (Keep.new _ _ _), fun b e => .inr (by cases e; exact Nat.le_refl _)⟩
      have := get_new_same (H.kill b) (bb e true (k ++ l))
      simpa using this
end
end
end Go.Xq
namespace Go.Xq
noncomputable section
def isPg (n : Nat) : Bool := Nat.beq n 512 || (Nat.beq n 1024 || (Nat.beq n 2048 || (Nat.beq n 4096 || (Nat.beq n 8192 || (Nat.beq n 16384 || (Nat.beq n 32768 || Nat.beq n 65536))))))
def pgTest (n : Nat) : Bool := bt (Nat.ble 512 n) (bt (Nat.beq (Nat.land n (Nat.sub n 1)) 0) (isPg n) (bt (isPg n) false true)) true
def pgAll : Nat → Nat → Bool
  | 0, a => pgTest a
  | k + 1, a => bt (pgAll k a) (pgAll k (Nat.add a (Nat.pow 2 k))) false
end
end Go.Xq
namespace Go.Xq
noncomputable section
def fixedL (n w : Nat) : List UInt8 := (List.range w).map fun i => UInt8.ofNat (n / 256 ^ (w - 1 - i))
theorem fixedL_len (n w : Nat) : (fixedL n w).length = w := by simp [fixedL]
theorem fixedL_get (n w : Nat) {i : Nat} (hi : i < w) : (fixedL n w)[i]? = some (UInt8.ofNat (n / 256 ^ (w - 1 - i))) := by
  simp [fixedL, List.getElem?_range hi]
def readL (l : List UInt8) : Nat := l.foldl (fun n x => 256 * n + x.toNat) 0
theorem readL_snoc (l : List UInt8) (x : UInt8) : readL (l ++ [x]) = 256 * readL l + x.toNat := by simp [readL, List.foldl_append]
theorem readL_lt : ∀ (j : Nat) (l : List UInt8), l.length = j → readL l < 256 ^ j
  | 0, l, h => by
    rw [List.length_eq_zero_iff] at h
    subst h
    decide
  | j + 1, l, h => by
    have hl : l ≠ [] := by intro e; subst e; simp at h
    obtain ⟨k, x, rfl⟩ : ∃ k x, l = k ++ [x] := ⟨l.dropLast, l.getLast hl, (List.dropLast_concat_getLast hl).symm⟩
    have := readL_lt j k (by simpa using h)
    have hx := x.toNat_lt
    rw [readL_snoc, Nat.pow_succ]
    omega
def sub (b : List UInt8) (at_ w : Nat) : List UInt8 := (b.drop at_).take w
theorem sub_len {b : List UInt8} {at_ w : Nat} (h : at_ + w ≤ b.length) : (sub b at_ w).length = w := by simp [sub]; omega
theorem sub_succ {b : List UInt8} {at_ j : Nat} {x : UInt8} (h : b[at_ + j]? = some x) : sub b at_ (j + 1) = sub b at_ j ++ [x] := by
  unfold sub
  rw [List.take_add_one, List.getElem?_drop, h]; rfl
def putL (k : List UInt8) (off : Nat) (l : List UInt8) : List UInt8 := k.take off ++ l ++ k.drop (off + l.length)
theorem putL_len {k l : List UInt8} {off : Nat} (h : off + l.length ≤ k.length) : (putL k off l).length = k.length := by simp [putL]; omega
theorem putL_zeros (pre l : List UInt8) (n : Nat) {off : Nat} (h : off = pre.length) (hl : l.length ≤ n) : putL (pre ++ List.replicate n 0) off l = (pre ++ l) ++ List.replicate (n - l.length) 0 := by
  subst h
  unfold putL
  rw [List.take_left, List.drop_append]
  have e : pre.drop (pre.length + l.length) = [] := List.drop_of_length_le (by omega)
  rw [e, List.nil_append, List.drop_replicate]
  congr 2
  omega
def u64 (n : Int) : Nat := (n % 18446744073709551616).toNat
def i64 (n : Nat) : Int := if n < 9223372036854775808 then (n : Int) else (n : Int) - 18446744073709551616
theorem u64_lt (n : Int) : u64 n < 18446744073709551616 := by unfold u64; omega
structure Mt where
  engine : Int
  page : Int
  txn : Int
  root : Int
  count : Int
  free : Int
  listed : Int
  high : Int
def isPgI (n : Int) : Bool := decide (0 ≤ n) && isPg n.toNat
def okM (m : Mt) : Prop :=
  (m.engine = 1 ∨ m.engine = 2) ∧ isPgI m.page = true ∧ (0 ≤ m.txn ∧ m.txn ≤ 1099511627776) ∧ (2 ≤ m.high ∧ m.high ≤ 65536) ∧ (m.root = 0 ∨ 2 ≤ m.root ∧ m.root < m.high) ∧ (m.free = 0 ∨ 2 ≤ m.free ∧ m.free < m.high) ∧ ¬ (m.root = m.free ∧ m.root ≠ 0) ∧
  (0 ≤ m.count ∧ m.count ≤ 256) ∧ (m.count = 0 ↔ m.root = 0) ∧ (0 ≤ m.listed ∧ m.listed ≤ m.high - 2) ∧ (m.listed = 0 ∨ m.free ≠ 0)
def byteI (n : Int) : UInt8 := UInt8.ofNat (n % 256).toNat
def numsM (m : Mt) : List Int := [m.page, m.txn, m.root, m.count, m.free, m.listed, m.high]
def headM (m : Mt) : List UInt8 := [1, byteI m.engine, 0, 0, 69, 83, 80, 76] ++ fixedL (u64 m.page) 4 ++ fixedL (u64 m.txn) 8 ++ fixedL (u64 m.root) 4 ++ fixedL (u64 m.count) 4 ++ fixedL (u64 m.free) 4 ++ fixedL (u64 m.listed) 4 ++ fixedL (u64 m.high) 4
def sumL (l : List UInt8) : Nat := sumN l.length (leNat l)
def bodyM (m : Mt) : List UInt8 := headM m ++ List.replicate (m.page.toNat - 44) 0
def encM (m : Mt) : List UInt8 := bodyM m ++ fixedL (sumL (bodyM m)) 4
def fldsM (b : List UInt8) : Mt :=
  ⟨((b[1]?.getD 0).toNat : Int), i64 (readL (sub b 8 4)), i64 (readL (sub b 12 8)), i64 (readL (sub b 20 4)), i64 (readL (sub b 24 4)), i64 (readL (sub b 28 4)), i64 (readL (sub b 32 4)), i64 (readL (sub b 36 4))⟩
def saysM (b : List UInt8) : Prop := 512 ≤ b.length ∧ okM (fldsM b) ∧ encM (fldsM b) = b
def zeroM : Mt := ⟨0, 0, 0, 0, 0, 0, 0, 0⟩
structure Dl where
  engine : Int
  page : Int
  frm : Int
  to : Int
  pages : List (Int × List UInt8)
  meta_ : List UInt8
def risesP (page high : Int) : Int → List (Int × List UInt8) → Prop
  | _, [] => True
  | last, p :: r => last < p.1 ∧ p.1 < high ∧ (p.2.length : Int) = page ∧ risesP page high p.1 r
def okD (d : Dl) : Prop :=
  saysM d.meta_ ∧ isPgI d.page = true ∧ (fldsM d.meta_).engine = d.engine ∧ (fldsM d.meta_).page = d.page ∧ (fldsM d.meta_).txn = d.to ∧ 0 ≤ d.frm ∧ d.frm ≤ d.to ∧ ¬ (0 < d.frm ∧ d.frm = d.to ∧ d.pages ≠ []) ∧ risesP d.page (fldsM d.meta_).high 1 d.pages
def headD (d : Dl) : List UInt8 := [69, 83, 80, 68, byteI d.engine, 0, 0, 0] ++ fixedL (u64 d.page) 4 ++ fixedL (u64 d.frm) 8 ++ fixedL (u64 d.to) 8 ++ fixedL d.pages.length 4 ++ d.meta_
def bodyD (d : Dl) : List UInt8 := headD d ++ d.pages.flatMap fun p => fixedL (u64 p.1) 4 ++ p.2
def encD (d : Dl) : List UInt8 := bodyD d ++ fixedL (sumL (bodyD d)) 4
end
end Go.Xq
namespace Go.Xq
noncomputable section
section
variable {α : Type} {enc : α → List AV} {es : Nat}
def RdLs (enc : α → List AV) (es : Nat) (H : AH) (v : AV) (cs : List α) : Prop :=
  (v = .snil ∧ cs = []) ∨ ∃ b off cap, v = .sl b off cs.length cap ∧ (cs ≠ [] → b < H.next ∧ ∃ o, H.get b = some o ∧ RdE enc es off cs o)
end
def encP (p : Int × AV) : List AV := [.int .i64 p.1, p.2]
structure SaysP (H : AH) (v : AV) (cs : List (Int × AV)) (ps : List (Int × List UInt8)) : Prop where
  rd : RdLs encP 2 H v cs
  len : cs.length = ps.length
  at_ : ∀ (i : Nat) (c : Int × AV) (p : Int × List UInt8), cs[i]? = some c → ps[i]? = some p → c.1 = p.1 ∧ RdS H c.2 p.2
def dlA (d : Dl) (pv mv : AV) : AV := .agg (avl [.int .i64 d.engine, .int .i64 d.page, .int .i64 d.frm, .int .i64 d.to, pv, mv])
structure SaysD (H : AH) (a : AV) (d : Dl) (pv mv : AV) (cs : List (Int × AV)) : Prop where
  eq : a = dlA d pv mv
  pages : SaysP H pv cs d.pages
  meta_ : RdS H mv d.meta_
end
end Go.Xq
namespace Go.Xq
noncomputable section
theorem mkInt_u64n {n : Nat} (h : n < 18446744073709551616) : mkInt .u64 (n : Int) = some (.int .u64 (n : Int)) := by rw [mkInt_u64]; congr 2; omega
theorem toU_u64 {n : Nat} (h : n < 18446744073709551616) : toU .u64 (n : Int) = n := Nat.mod_eq_of_lt h
theorem toU_i64 {n : Nat} (h : n < 18446744073709551616) : toU .i64 (n : Int) = n := Nat.mod_eq_of_lt h
theorem akOr_u64 {a b q : Nat} (ha : a < 18446744073709551616) (hb : b < 18446744073709551616) (hq : q = a ||| b) : akOr.f .u64 (a : Int) (b : Int) = some (.int .u64 (q : Int)) := by
  show mkInt .u64 (Int.ofNat (Nat.lor (toU .u64 a) (toU .u64 b))) = _
  rw [toU_u64 ha, toU_u64 hb]
  subst hq
  exact mkInt_u64n (Nat.or_lt_two_pow (n := 64) ha hb)
theorem shrA_u64 {m q : Nat} (hq : q = m / 256) : shrA .u64 (m : Int) 8 = some (.int .u64 (q : Int)) := by
  show some (AV.int .u64 (.ofNat (Nat.shiftRight m (Nat.min 8 64)))) = _
  subst hq
  show some (AV.int .u64 (.ofNat (m >>> 8))) = _
  rw [Nat.shiftRight_eq_div_pow]; rfl
theorem shlA_u64 {m q : Nat} (hm : m < 72057594037927936) (hq : q = m * 256) : shlA .u64 (m : Int) 8 = some (.int .u64 (q : Int)) := by
  show mkInt .u64 (mulI m (.ofNat (Nat.shiftLeft 1 (Nat.min 8 64)))) = _
  rw [mulI_eq]
  have : (m : Int) * Int.ofNat (Nat.shiftLeft 1 (Nat.min 8 64)) = (q : Int) := by
    show (m : Int) * 256 = _
    omega
  rw [this]
  exact mkInt_u64n (by omega)
theorem or_add {a b : Nat} (hb : b < 256) : a * 256 ||| b = 256 * a + b := by
  have := Nat.two_pow_add_eq_or_of_lt (i := 8) (b := b) hb a
  rw [Nat.mul_comm a 256]
  exact this.symm
end
end Go.Xq
namespace Go.Xq
noncomputable section
@[simp] theorem binShl_f (x y : Operand) (T : Tr AV) (H : AH) : binShl x y T H = ob (opnd x T) fun a => ob (opnd y T) fun b => onInt a fun k m => onInt b fun _ n => shlA k m n := rfl
@[simp] theorem binShr_f (x y : Operand) (T : Tr AV) (H : AH) : binShr x y T H = ob (opnd x T) fun a => ob (opnd y T) fun b => onInt a fun k m => onInt b fun _ n => shrA k m n := rfl
@[simp] theorem ixAgg_f (n es : Nat) (k : PK) (x i : Operand) (T : Tr AV) (H : AH) : ixAgg n es k x i T H = ob (opnd x T) fun v => ob (opnd i T) fun i => onAgg v fun cs => ob (natOf i) fun j => bt (Nat.blt j n) (k.f (Nat.mul j es) cs) none := rfl
@[simp] theorem ixArr_f (n es : Nat) (x i : Operand) (T : Tr AV) (H : AH) : ixArr n es x i T H = ob (opnd x T) fun v => ob (opnd i T) fun i => onPtr v fun b off => ob (natOf i) fun j => bt (Nat.blt j n) (some (.ptr b (Nat.add off (Nat.mul j es)))) none := rfl
def slC (es : Nat) (lo hi : Option Nat) (v : AV) (H : AH) : Option AV := onSl v (ob (boundsA 0 (some 0) 0 lo hi none) fun _ => some .snil) fun b off len cap =>
    ob (oc cap (roomOf H b off len es) some) fun room => ob (boundsA len cap room lo hi none) fun r =>
    some (.sl b (offOf r.2.2 off r.1 es) (Nat.sub r.2.1 r.1) (capLess r.2.2 r.1))
@[simp] theorem slSl_lo_f (es : Nat) (x h : Operand) (T : Tr AV) (H : AH) : slSl es x (some h) none none T H = ob (opnd h T) fun hv => ob (natOf hv) fun n => ob (opnd x T) fun v => slC es (some n) none v H := by
  unfold slSl
  simp only [optNat, ob_some']
  cases opnd h T with
  | none => rfl
  | some hv =>
    rw [ob_some', ob_some']
    cases natOf hv with
    | none => rfl
    | some n => rfl
@[simp] theorem slSl_lh_f (es : Nat) (x h g : Operand) (T : Tr AV) (H : AH) : slSl es x (some h) (some g) none T H = ob (opnd h T) fun hv => ob (natOf hv) fun n => ob (opnd g T) fun gv => ob (natOf gv) fun m => ob (opnd x T) fun v => slC es (some n) (some m) v H := by
  unfold slSl
  simp only [optNat, ob_some']
  cases opnd h T with
  | none => rfl
  | some hv =>
    rw [ob_some', ob_some']
    cases natOf hv with
    | none => rfl
    | some n =>
      rw [ob_some', ob_some']
      cases opnd g T with
      | none => rfl
      | some gv =>
        rw [ob_some', ob_some']
        cases hm : natOf gv with
        | none => simp only [ob_some', hm]; rfl
        | some m => simp only [ob_some', hm]; rfl
def SlOk (H : AH) (v : AV) : Prop := v = .snil ∨ (∃ b off len c, v = .sl b off len (some c) ∧ len ≤ c) ∨ ∃ b off len e k, v = .sl b off len none ∧ H.get b = some (bb e true k)
theorem SlOk.keep {S : Nat → Prop} {H H2 : AH} {v : AV} {l : List UInt8} (h : SlOk H v) (hr : RdS H v l) (hl : l ≠ []) (hk : Keep S H H2) (hs : ∀ b, blk v = some b → ¬ S b) : SlOk H2 v := by
  rcases h with h | h | ⟨b, off, len, e, k, rfl, h⟩
  · exact .inl h
  · exact .inr (.inl h)
  · rcases hr with ⟨e1, _⟩ | ⟨b', off', cap, e1, h2⟩
    · cases e1
    · cases e1
      exact .inr (.inr ⟨_, _, _, e, k, rfl, hk.get (h2 hl).1 (hs _ rfl) h⟩)
theorem bytes_sub {o : AObj} {off lo n : Nat} {l : List UInt8} (h : BytesAt o off l) : BytesAt o (off + lo) (sub l lo n) := by
  intro i b hb
  have hi := get_lt hb
  have hi2 : i < n := by simp [sub] at hi; omega
  have : l[lo + i]? = some b := by
    unfold sub at hb
    rw [List.getElem?_take_of_lt hi2, List.getElem?_drop] at hb
    exact hb
  have := h (lo + i) b this
  rwa [← Nat.add_assoc] at this
theorem slC_lh {H : AH} {v : AV} {l : List UInt8} {lo hi : Nat} (h : RdS H v l) (hs : SlOk H v) (h1 : lo < hi) (h2 : hi ≤ l.length) : ∃ v', slC 1 (some lo) (some hi) v H = some v' ∧ RdS H v' (sub l lo (hi - lo)) := by
  have hl : l ≠ [] := by intro e; subst e; simp at h2; omega
  have hsl := sub_len (b := l) (at_ := lo) (w := hi - lo) (by omega)
  rcases h with ⟨_, e⟩ | ⟨b, off, cap, rfl, h⟩
  · exact absurd e hl
  · obtain ⟨g1, o, g2, g3⟩ := h hl
    have key : ∀ room, hi ≤ (oc cap room id) → boundsA l.length cap room (some lo) (some hi) none = some (lo, hi, cap) := fun room hr => by
      show bt (Nat.ble hi (oc cap room id)) (bt (Nat.ble lo hi) (some (lo, hi, cap)) none) none = _
      rw [ble_true hr, bt_true, ble_true (by omega), bt_true]
    cases cap with
    | some c =>
      have hc : l.length ≤ c := by
        rcases hs with e | ⟨b', off', len, c', e, hc⟩ | ⟨b', off', len, e', k, e, _⟩
        · cases e
        · cases e; exact hc
        · cases e
      refine ⟨.sl b (offOf (some c) off lo 1) (hi - lo) (some (c - lo)), ?_, .sl (by rw [hsl]) fun _ => ⟨g1, o, g2, ?_⟩⟩
      · unfold slC
        rw [onSl_sl, oc_some, ob_some', key c (by show hi ≤ c; omega), ob_some']
        rfl
      · have : offOf (some c) off lo 1 = off + lo := by
          show bt (Nat.beq c lo) off (off + lo * 1) = _
          have : Nat.beq c lo = false := by
            cases e : Nat.beq c lo with
            | false => rfl
            | true => have := Nat.eq_of_beq_eq_true e; omega
          rw [this, bt_false, Nat.mul_one]
        rw [this]
        exact bytes_sub g3
    | none =>
      obtain ⟨e, k, hg⟩ : ∃ e k, H.get b = some (bb e true k) := by
        rcases hs with e | ⟨b', off', len, c', e, hc⟩ | ⟨b', off', len, e', k, e, hg⟩
        · cases e
        · cases e
        · cases e; exact ⟨_, _, hg⟩
      refine ⟨.sl b (offOf none off lo 1) (hi - lo) none, ?_, .sl (by rw [hsl]) fun _ => ⟨g1, o, g2, ?_⟩⟩
      · unfold slC
        rw [onSl_sl]
        have hroom : roomOf H b off l.length 1 = some (max l.length (k.length - off)) := by
          unfold roomOf
          rw [hg, ob_some']
          rfl
        show ob (roomOf H b off l.length 1) _ = _
        rw [hroom, ob_some', key _ (by show hi ≤ max l.length (k.length - off); omega), ob_some']
        rfl
      · have : offOf none off lo 1 = off + lo := by show off + lo * 1 = _; rw [Nat.mul_one]
        rw [this]
        exact bytes_sub g3
@[simp] theorem slC_lo {b off len m n : Nat} {H : AH} (hn : n ≤ len) (h2 : len ≤ m) (h3 : n < m) : slC 1 (some n) none (.sl b off len (some m)) H = some (.sl b (off + n) (len - n) (some (m - n))) := by
  unfold slC
  rw [onSl_sl, oc_some, ob_some']
  have : boundsA len (some m) m (some n) none none = some (n, len, some m) := by
    show bt (Nat.ble len m) (bt (Nat.ble n len) (some (n, len, some m)) none) none = _
    rw [ble_true h2, bt_true, ble_true hn, bt_true]
  rw [this, ob_some']
  have e : offOf (some m) off n 1 = off + n := by
    show bt (Nat.beq m n) off (off + n * 1) = _
    have : Nat.beq m n = false := by
      cases e : Nat.beq m n with
      | false => rfl
      | true => have := Nat.eq_of_beq_eq_true e; omega
    rw [this, bt_false, Nat.mul_one]
  show some (AV.sl b (offOf (some m) off n 1) (len - n) (some (m - n))) = _
  rw [e]
end
end Go.Xq
namespace Go.Xq
noncomputable section
theorem mkInt_cv (n : Int) : mkInt .u64 n = some (.int .u64 ((u64 n : Nat) : Int)) := by
  rw [mkInt_u64]; congr 2; unfold u64; omega
def itN : Nat → Nat → Nat
  | 0, r => r
  | i + 1, r => bitN (itN i r)
end
end Go.Xq
