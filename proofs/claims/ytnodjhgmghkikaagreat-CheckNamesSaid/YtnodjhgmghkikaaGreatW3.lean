/- A part of the proof of this seat's statement. Conditions: in each theorem. -/
import Derived.Test.YtnodjhgmghkikaaGreatW2
import Derived.IntWalk
import Derived.Laws.Strings
namespace Go.Xq
theorem addI_eq (x y : Int) : addI x y = x + y := by cases x <;> cases y <;> rfl
theorem mulI_eq (x y : Int) : mulI x y = x * y := by cases x <;> cases y <;> rfl
theorem subI_eq (x y : Int) : subI x y = x - y := by
  cases x with
  | negSucc a => rfl
  | ofNat a => cases y with
    | negSucc b => rfl
    | ofNat b =>
      simp only [subI, ic_ofNat, bt_eq, Nat.ble_eq]
      split
      · rename_i h; show ((a - b : Nat) : Int) = (a : Int) - (b : Int); omega
      · rfl
theorem mkInt_eq (k : IntKind) (n : Int) : mkInt k n = some (.int k (k.wrap n)) := by
  cases n with
  | ofNat m =>
    cases k <;> simp only [mkInt, ic_ofNat, kc, slowInt]
    · simp only [bt_eq, Nat.blt_eq]
      split
      · rename_i h; rw [IntWalk.i64_in _ (by constructor <;> (show _ ≤ _; simp only [Int.ofNat_eq_natCast]; omega))]
      · rfl
    all_goals congr 2
  | negSucc m =>
    simp only [mkInt, ic_neg, bt_eq, Nat.beq_eq, slowInt]
    split
    · rename_i hk
      have hk : k = .i64 := kIx_inj (l := .i64) hk
      subst hk
      simp only [Nat.blt_eq]
      split
      · rename_i h; rw [IntWalk.i64_in _ (by constructor <;> omega)]
      · rfl
    · rfl
theorem toU_eq (k : IntKind) (n : Int) : toU k n = (n % (2 ^ k.bits : Nat)).toNat := by
  cases n with
  | ofNat m => cases k <;> rfl
  | negSucc m => rfl
theorem ofInt_toNat (k : IntKind) (n : Int) : (BitVec.ofInt k.bits n).toNat = toU k n := by rw [toU_eq, BitVec.toNat_ofInt]
theorem ibin_ok {P : Program} {w : World} {op : BinOp} {g : AK} (h : ibinK op = some g) {k : IntKind} {x y : Int} {v : AV} (hk : g.f k x y = some v) (t : TypeId) :
    ∃ u, (binOp op t (.int k x) (.int k y)).run P w = .ok u w ∧ ∀ m, VR m v u := by
  cases op <;> simp only [ibinK, Option.some.injEq, reduceCtorEq] at h <;> subst h <;> simp only [mkInt_eq, Option.some.injEq, quoA, remA] at hk
  case add => subst hk; exact ⟨_, by simp [binOp, Op.intArith, ← addI_eq], fun m => .int _ _⟩
  case sub => subst hk; exact ⟨_, by simp [binOp, Op.intArith, ← subI_eq], fun m => .int _ _⟩
  case mul => subst hk; exact ⟨_, by simp [binOp, Op.intArith, ← mulI_eq], fun m => .int _ _⟩
  case quo =>
    simp only [bt_eq, eqI_iff] at hk
    split at hk
    · cases hk
    · rename_i hy; cases hk; exact ⟨_, by simp [binOp, Op.intDiv, hy], fun m => .int _ _⟩
  case rem =>
    simp only [bt_eq, eqI_iff] at hk
    split at hk
    · cases hk
    · rename_i hy; cases hk; exact ⟨_, by simp [binOp, Op.intDiv, hy], fun m => .int _ _⟩
  case and => subst hk; exact ⟨_, by simp only [binOp, Op.intBits, ne_eq, not_true_eq_false, if_false, Sem.run_pure, BitVec.toNat_and, ofInt_toNat]; rfl, fun m => .int _ _⟩
  case or => subst hk; exact ⟨_, by simp only [binOp, Op.intBits, ne_eq, not_true_eq_false, if_false, Sem.run_pure, BitVec.toNat_or, ofInt_toNat]; rfl, fun m => .int _ _⟩
  case xor => subst hk; exact ⟨_, by simp only [binOp, Op.intBits, ne_eq, not_true_eq_false, if_false, Sem.run_pure, BitVec.toNat_xor, ofInt_toNat]; rfl, fun m => .int _ _⟩
  case eql =>
    subst hk
    refine ⟨_, by simp only [binOp, Op.intCmp, ne_eq, not_true_eq_false, if_false, Sem.run_pure]; rfl, fun m => ?_⟩
    have : (x == y) = eqI x y := by rw [Bool.eq_iff_iff, eqI_iff, beq_iff_eq]
    rw [this]; exact .bool _
  case neq =>
    subst hk
    refine ⟨_, by simp only [binOp, Op.intCmp, ne_eq, not_true_eq_false, if_false, Sem.run_pure]; rfl, fun m => ?_⟩
    have : (x != y) = bt (eqI x y) false true := by
      rw [Bool.eq_iff_iff, bne_iff_ne, ne_eq, ← eqI_iff]; cases eqI x y <;> simp
    rw [this]; exact .bool _
  case lss =>
    subst hk
    refine ⟨_, by simp only [binOp, Op.intCmp, ne_eq, not_true_eq_false, if_false, Sem.run_pure]; rfl, fun m => ?_⟩
    have : decide (x < y) = ltI x y := by rw [Bool.eq_iff_iff, ltI_iff, decide_eq_true_eq]
    rw [this]; exact .bool _
  case leq =>
    subst hk
    refine ⟨_, by simp only [binOp, Op.intCmp, ne_eq, not_true_eq_false, if_false, Sem.run_pure]; rfl, fun m => ?_⟩
    have : decide (x ≤ y) = bt (ltI y x) false true := by
      rw [Bool.eq_iff_iff, decide_eq_true_eq, ← Int.not_lt, ← ltI_iff]; cases ltI y x <;> simp
    rw [this]; exact .bool _
  case gtr =>
    subst hk
    refine ⟨_, by simp only [binOp, Op.intCmp, ne_eq, not_true_eq_false, if_false, Sem.run_pure]; rfl, fun m => ?_⟩
    have : decide (x > y) = ltI y x := by rw [Bool.eq_iff_iff, ltI_iff, decide_eq_true_eq]
    rw [this]; exact .bool _
  case geq =>
    subst hk
    refine ⟨_, by simp only [binOp, Op.intCmp, ne_eq, not_true_eq_false, if_false, Sem.run_pure]; rfl, fun m => ?_⟩
    have : decide (x ≥ y) = bt (ltI x y) false true := by
      rw [Bool.eq_iff_iff, decide_eq_true_eq, ge_iff_le, ← Int.not_lt, ← ltI_iff]; cases ltI x y <;> simp
    rw [this]; exact .bool _
section
variable {P : Program} {E : Env} {o : Oper}
theorem run_eqGuard_int {w : World} (op : BinOp) (t : TypeId) (x y : Operand) (k l : IntKind) (a b : Int) : (eqGuard op t x y (.int k a) (.int l b)).run P w = .ok () w := by
  cases op <;> rfl
theorem run_eqGuard_str {w : World} (op : BinOp) (t : TypeId) (x y : Operand) (a b : ByteArray) : (eqGuard op t x y (.string a) (.string b)).run P w = .ok () w := by
  cases op <;> rfl
theorem look_binInt {op : BinOp} {t : Nat} {x y : Operand} {u : Nat} {g : AK} (h : ibinK op = some g) (ho : o.op = .binOp op t x y u) : LookOk P ⟨binInt g x y⟩ o := by
  intro m H w T ρ v hr he hk
  simp only [binInt, ob_some, onInt_some, bt_some] at hk
  obtain ⟨a, h1, b, h2, k, p, rfl, l, q, rfl, hkl, h3⟩ := hk
  have := kEq_iff.1 hkl; subst this
  have e1 := (he x _ h1).int_inv
  have e2 := (he y _ h2).int_inv
  obtain ⟨u, hu, hv⟩ := ibin_ok (P := P) (w := w) h h3 t
  refine ⟨u, ?_, hv m⟩
  simp only [execOp, ho, e1, e2]
  apply run_v
  simp [run_eqGuard_int, Result.andThen, hu]
theorem look_binShl {t : Nat} {x y : Operand} {u : Nat} (ho : o.op = .binOp .shl t x y u) : LookOk P ⟨binShl x y⟩ o := by
  intro m H w T ρ v hr he hk
  simp only [binShl, ob_some, onInt_some] at hk
  obtain ⟨a, h1, b, h2, k, p, rfl, l, q, rfl, h3⟩ := hk
  have e1 := (he x _ h1).int_inv
  have e2 := (he y _ h2).int_inv
  cases q with
  | negSucc q => simp [shlA] at h3
  | ofNat q =>
    simp only [shlA, ic_ofNat, mkInt_eq, Option.some.injEq] at h3
    subst h3
    refine ⟨_, ?_, .int _ _⟩
    simp only [execOp, ho, e1, e2]
    apply run_v
    have hq : ¬ ((Int.ofNat q) < 0) := by simp
    simp only [run_eqGuard_int, Sem.run_bind, Result.andThen, binOp, Op.shift, hq, if_false, Sem.run_pure]
    congr 3
    rw [mulI_eq]
    congr 1
    symm
    show ((1 <<< (min q k.bits) : Nat) : Int) = _
    rw [Nat.shiftLeft_eq, Nat.one_mul]; simp
theorem look_binShr {t : Nat} {x y : Operand} {u : Nat} (ho : o.op = .binOp .shr t x y u) : LookOk P ⟨binShr x y⟩ o := by
  intro m H w T ρ v hr he hk
  simp only [binShr, ob_some, onInt_some] at hk
  obtain ⟨a, h1, b, h2, k, p, rfl, l, q, rfl, h3⟩ := hk
  have e1 := (he x _ h1).int_inv
  have e2 := (he y _ h2).int_inv
  cases q with
  | negSucc q => simp [shrA] at h3
  | ofNat q =>
    have hq : ¬ ((Int.ofNat q) < 0) := by simp
    cases p with
    | ofNat p =>
      simp only [shrA, ic_ofNat, Option.some.injEq] at h3
      subst h3
      refine ⟨_, ?_, .int _ _⟩
      simp only [execOp, ho, e1, e2]
      apply run_v
      simp only [run_eqGuard_int, Sem.run_bind, Result.andThen, binOp, Op.shift, hq, if_false, Sem.run_pure]
      congr 2
      show _ = ((p >>> (min q k.bits) : Nat) : Int)
      rw [Nat.shiftRight_eq_div_pow, Int.ofNat_fdiv]
      simp
    | negSucc p =>
      simp only [shrA, ic_ofNat, ic_neg, Option.some.injEq] at h3
      subst h3
      refine ⟨_, ?_, .int _ _⟩
      simp only [execOp, ho, e1, e2]
      apply run_v
      simp only [run_eqGuard_int, Sem.run_bind, Result.andThen, binOp, Op.shift, hq, if_false, Sem.run_pure]
      congr 2
theorem lessN_ok : ∀ (l k : List UInt8) (f : Nat), l.length < f → lessN f l.length (leNat l) k.length (leNat k) = Op.bytesLess l k
  | _, _, 0, h => absurd h (by omega)
  | l, [], f + 1, _ => by cases l <;> simp [lessN, Op.bytesLess]
  | [], b :: k, f + 1, _ => by simp [lessN, Op.bytesLess]
  | a :: l, b :: k, f + 1, h => by
    have ha := a.toNat_lt
    have hb := b.toNat_lt
    have m1 : Nat.mod (leNat (a :: l)) 256 = a.toNat := by show (a.toNat + 256 * leNat l) % 256 = _; omega
    have m2 : Nat.mod (leNat (b :: k)) 256 = b.toNat := by show (b.toNat + 256 * leNat k) % 256 = _; omega
    have d1 : Nat.div (leNat (a :: l)) 256 = leNat l := by show (a.toNat + 256 * leNat l) / 256 = _; omega
    have d2 : Nat.div (leNat (b :: k)) 256 = leNat k := by show (b.toNat + 256 * leNat k) / 256 = _; omega
    simp only [List.length_cons] at h
    simp only [lessN, List.length_cons, nc_succ, m1, m2, d1, d2, lessN_ok l k f (by omega), bt_eq, Nat.blt_eq, Nat.beq_eq, Op.bytesLess]
    by_cases h1 : a.toNat < b.toNat
    · have : a < b := UInt8.lt_iff_toNat_lt.2 h1
      simp [h1, this]
    · have h1' : ¬ a < b := fun e => h1 (UInt8.lt_iff_toNat_lt.1 e)
      by_cases h2 : a.toNat = b.toNat
      · have : a = b := UInt8.toNat_inj.1 h2
        subst this; simp
      · have : ¬ a = b := fun e => h2 (e ▸ rfl)
        simp [h1, h1', h2, this]
theorem sEq_ok (l k : List UInt8) : sEq l.length (leNat l) k.length (leNat k) = (l == k) := by
  rw [Bool.eq_iff_iff, beq_iff_eq]
  simp only [sEq, bt_eq]
  split
  · rename_i h
    rw [Nat.beq_eq] at h ⊢
    exact ⟨fun e => leNat_inj h e, fun e => by rw [e]⟩
  · rename_i h
    simp only [Nat.beq_eq, Bool.false_eq_true, false_iff] at h ⊢
    exact fun e => h (by rw [e])
theorem look_binStr {op : BinOp} {t : Nat} {x y : Operand} {u : Nat} {g : SK} (h : sbinK op = some g) (ho : o.op = .binOp op t x y u) : LookOk P ⟨binStr g x y⟩ o := by
  intro m H w T ρ v hr he hk
  simp only [binStr, ob_some, onStr_some] at hk
  obtain ⟨a, h1, b, h2, k, p, rfl, l, q, rfl, h3⟩ := hk
  obtain ⟨s, e1, rfl, rfl⟩ := (he x _ h1).str_inv
  obtain ⟨r, e2, rfl, rfl⟩ := (he y _ h2).str_inv
  have hlt := lessN_ok s.data.toList r.data.toList (s.data.toList.length + 1) (by omega)
  have hlt' : lessN (Nat.succ s.data.toList.length) s.data.toList.length (leNat s.data.toList) r.data.toList.length (leNat r.data.toList) = Op.bytesLess s.data.toList r.data.toList := hlt
  have heq := sEq_ok s.data.toList r.data.toList
  have main : ∃ u, (binOp op t (.string s) (.string r)).run P w = .ok u w ∧ VR m v u := by
    cases op <;> simp only [sbinK, Option.some.injEq, reduceCtorEq] at h <;> subst h <;> simp only [addS, bt_some, Option.some.injEq, hlt', heq] at h3
    case add =>
      obtain ⟨h3, rfl⟩ := h3
      have hs : s.size = s.data.toList.length := by rw [Array.length_toList]; rfl
      have hr' : r.size = r.data.toList.length := by rw [Array.length_toList]; rfl
      have h3' : s.data.toList.length + r.data.toList.length < 9223372036854775808 := by simpa [Nat.blt_eq] using h3
      refine ⟨.string (s ++ r), ?_, ?_⟩
      · have : ¬ ((s.size + r.size : Nat) : Int) > IntKind.i64.max := by
          rw [hs, hr']; simp only [IntKind.max, IntKind.signed, IntKind.bits]; simp; omega
        simp only [binOp, Op.stringOp, this, if_false, Sem.run_pure]
      · have e : (s ++ r).data.toList = s.data.toList ++ r.data.toList := by simp
        have := VR.str (m := m) (s ++ r)
        rw [e, leNat_append, List.length_append] at this
        have e3 : Nat.add (leNat s.data.toList) (Nat.shiftLeft (leNat r.data.toList) (Nat.mul 8 s.data.toList.length)) = leNat s.data.toList + 256 ^ s.data.toList.length * leNat r.data.toList := by
          show _ + (leNat r.data.toList) <<< (8 * s.data.toList.length) = _
          rw [Nat.shiftLeft_eq, Nat.pow_mul, Nat.mul_comm]
        rw [e3]; exact this
    all_goals subst h3
    case eql => exact ⟨_, by simp [binOp, Op.stringOp, ByteArray.toList_eq], .bool _⟩
    case neq =>
      refine ⟨_, by simp only [binOp, Op.stringOp, ByteArray.toList_eq, Sem.run_pure]; rfl, ?_⟩
      have : (!(s.data.toList == r.data.toList)) = bt (s.data.toList == r.data.toList) false true := by cases s.data.toList == r.data.toList <;> rfl
      rw [this]; exact .bool _
    case lss => exact ⟨_, by simp only [binOp, Op.stringOp, ByteArray.toList_eq, Sem.run_pure], .bool _⟩
    case leq =>
      refine ⟨_, by simp only [binOp, Op.stringOp, ByteArray.toList_eq, Sem.run_pure]; rfl, ?_⟩
      cases Op.bytesLess s.data.toList r.data.toList <;> exact .bool _
    case gtr =>
      refine ⟨_, by simp only [binOp, Op.stringOp, ByteArray.toList_eq, Sem.run_pure]; rfl, ?_⟩
      cases Op.bytesLess s.data.toList r.data.toList
      · cases (s.data.toList == r.data.toList) <;> exact .bool _
      · exact .bool _
    case geq =>
      refine ⟨_, by simp only [binOp, Op.stringOp, ByteArray.toList_eq, Sem.run_pure]; rfl, ?_⟩
      cases Op.bytesLess s.data.toList r.data.toList <;> exact .bool _
  obtain ⟨u', hu, hv⟩ := main
  refine ⟨u', ?_, hv⟩
  simp only [execOp, ho, e1, e2]
  apply run_v
  simp [run_eqGuard_str, Result.andThen, hu]
theorem look_unOp {op : UnOp} {t : Nat} {x : Operand} {g : UK} (h : unK op = some g) (ho : o.op = .unOp op t x) : LookOk P ⟨fun T _ => ob (opnd x T) fun v => g.f v⟩ o := by
  intro m H w T ρ v hr he hk
  simp only [ob_some] at hk
  obtain ⟨a, h1, h2⟩ := hk
  have ha := he x _ h1
  cases op <;> simp only [unK, Option.some.injEq, reduceCtorEq] at h <;> subst h
  case not =>
    simp only [onBool_some, Option.some.injEq] at h2
    obtain ⟨b, rfl, rfl⟩ := h2
    have e := ha.bool_inv
    refine ⟨.bool (!b), ?_, ?_⟩
    · simp only [execOp, ho, e]; apply run_v; rfl
    · cases b <;> exact .bool _
  case neg =>
    simp only [onInt_some, mkInt_eq, Option.some.injEq] at h2
    obtain ⟨k, n, rfl, rfl⟩ := h2
    have e := ha.int_inv
    refine ⟨_, ?_, .int _ _⟩
    simp only [execOp, ho, e]; apply run_v
    simp [Op.unary, Op.intArith, subI_eq]
  case xor =>
    simp only [onInt_some, mkInt_eq, Option.some.injEq] at h2
    obtain ⟨k, n, rfl, rfl⟩ := h2
    have e := ha.int_inv
    refine ⟨_, ?_, .int _ _⟩
    simp only [execOp, ho, e]; apply run_v
    simp only [Op.unary, Op.intBits, BitVec.toNat_xor, ofInt_toNat, Sem.run_pure]; rfl
theorem look_cvInt (hE : TyOk P E) {s d : Nat} {x : Operand} {k l : IntKind} {ts td : TI} (h1 : tyOf E s = some ts) (h2 : tyOf E d = some td) (hs : ts.d = .int l) (hd : td.d = .int k) (ho : o.op = .convert s d x) :
    LookOk P ⟨cvInt k x⟩ o := by
  intro m H w T ρ v hr he hk
  simp only [cvInt, ob_some, onInt_some, mkInt_eq, Option.some.injEq] at hk
  obtain ⟨a, g1, j, n, rfl, rfl⟩ := hk
  have e := (he x _ g1).int_inv
  refine ⟨_, ?_, .int _ _⟩
  simp only [execOp, ho, e]; apply run_v
  simp [convert, run_underlying hE h1, run_underlying hE h2, Result.andThen, hs, hd, Conv.intToInt]
theorem look_cvSS (hE : TyOk P E) {s d : Nat} {x : Operand} {ts td : TI} (h1 : tyOf E s = some ts) (h2 : tyOf E d = some td) (hs : ts.d = .string) (hd : td.d = .string) (ho : o.op = .convert s d x) :
    LookOk P ⟨cvSS x⟩ o := by
  intro m H w T ρ v hr he hk
  simp only [cvSS, ob_some, onStr_some, Option.some.injEq] at hk
  obtain ⟨a, g1, l, n, rfl, rfl⟩ := hk
  obtain ⟨q, e, rfl, rfl⟩ := (he x _ g1).str_inv
  refine ⟨.string q, ?_, .str q⟩
  simp only [execOp, ho, e]; apply run_v
  simp [convert, run_underlying hE h1, run_underlying hE h2, Result.andThen, hs, hd]
end
end Go.Xq
namespace Go.Xq
section
variable {P : Program} {E : Env} (hE : TyOk P E) {o : Oper}
include hE
theorem partK_ok {t : Nat} {k : PK} (h : partK E t = some k) {m : Ren} {w : World} {off : Nat} {l a : AV} {vs : List Value} (hl : VL m l vs) (hk : k.f off l = some a) :
    ∃ v, (part t vs.toArray off).run P w = .ok v w ∧ VR m a v := by
  simp only [partK, ob_some] at h
  obtain ⟨ti, ht, h⟩ := h
  split at h
  · rename_i hd
    cases h
    simp only [partN, Option.some.injEq] at hk
    subst hk
    refine ⟨.agg (vs.toArray.extract off (off + ti.size)), ?_, ?_⟩
    · simp [part, run_isAgg hE ht, Result.andThen, hd, run_sizeOf hE ht]
    · have e : vs.toArray.extract off (off + ti.size) = ((vs.drop off).take ti.size).toArray := by
        apply Array.toList_inj.1
        simp
      rw [e]
      exact .agg _ _ (VL.take (VL.drop hl))
  · rename_i hd
    cases h
    obtain ⟨v, hv, hr⟩ := hl.nth (show AV.nth off l = some a from hk)
    refine ⟨v, ?_, hr⟩
    simp [part, run_isAgg hE ht, Result.andThen, hd, hv]
omit hE in
theorem fields_of {t f : Nat} {ti : TI} {fd : Field} (_ : tyOf E t = some ti) (hf : fieldOf ti.d f = some fd) : ∃ fs, ti.d = .struct fs ∧ fs[f]? = some fd := by
  unfold fieldOf at hf
  split at hf
  · rename_i fs hd; exact ⟨fs, hd, by simpa using hf⟩
  · cases hf
theorem look_fVal {s : Nat} {x : Operand} {f : Nat} {ti : TI} {fd : Field} {k : PK} (h1 : tyOf E s = some ti) (h2 : fieldOf ti.d f = some fd) (h3 : partK E fd.type = some k) (ho : o.op = .field s x f) :
    LookOk P ⟨fVal k fd.offset x⟩ o := by
  intro m H w T ρ v hr he hk
  simp only [fVal, ob_some, onAgg_some] at hk
  obtain ⟨a, g1, l, rfl, g2⟩ := hk
  obtain ⟨vs, hvl, e⟩ := (he x _ g1).agg_inv
  obtain ⟨u, hu, hv⟩ := partK_ok (w := w) hE h3 hvl g2
  obtain ⟨fs, hd, hfs⟩ := fields_of h1 h2
  refine ⟨u, ?_, hv⟩
  simp only [execOp, ho, e]; apply run_v
  simp [Instr.field, run_underlying hE h1, Result.andThen, hd, hfs, asAgg, hu]
theorem fieldPlace_ok {fd : Field} {tf : TI} {n : Nat} (h : tyOf E fd.type = some tf) (hn : tf.size = n + 1) {w : World} (b off : Nat) :
    (fieldPlace ⟨b, off, none⟩ fd).run P w = .ok ⟨b, off + fd.offset, none⟩ w := by
  simp [fieldPlace, run_sizeOf hE h, Result.andThen, hn, add_mk]
theorem look_fAddr {s : Nat} {x : Operand} {f : Nat} {ti tf : TI} {fd : Field} {n : Nat} (h1 : tyOf E s = some ti) (h2 : fieldOf ti.d f = some fd) (h3 : tyOf E fd.type = some tf) (hn : tf.size = n + 1)
    (ho : o.op = .fieldAddr s x f) : LookOk P ⟨fAddr x fd.offset⟩ o := by
  intro m H w T ρ v hr he hk
  simp only [fAddr, ob_some, onPtr_some, Option.some.injEq] at hk
  obtain ⟨a, g1, b, off, rfl, rfl⟩ := hk
  obtain ⟨i, hi, e⟩ := (he x _ g1).ptr_inv
  obtain ⟨fs, hd, hfs⟩ := fields_of h1 h2
  refine ⟨_, ?_, .ptr b _ i hi⟩
  simp only [execOp, ho, e]; apply run_v
  simp [Instr.fieldAt, run_underlying hE h1, Result.andThen, hd, hfs, Instr.sureAddr, fieldPlace_ok hE h3 hn, Nat.add_assoc]
omit hE in
theorem natOf_inv {m : Ren} {a : AV} {n : Nat} {v : Value} (h : natOf a = some n) (hv : VR m a v) : ∃ k, v = .int k (n : Int) := by
  simp only [natOf, onInt_some] at h
  obtain ⟨k, i, rfl, h⟩ := h
  cases i with
  | negSucc j => simp at h
  | ofNat j => rw [ic_ofNat] at h; cases h; exact ⟨k, hv.int_inv⟩
theorem look_ixSl {t e : Nat} {x i : Operand} {ti te : TI} (h1 : tyOf E t = some ti) (h2 : ti.d = .slice e) (h3 : tyOf E e = some te) (ho : o.op = .indexAddr t x i) : LookOk P ⟨ixSl te.size x i⟩ o := by
  intro m H w T ρ v hr he hk
  simp only [ixSl, ob_some, onSl_some, bt_some, Option.some.injEq, reduceCtorEq, and_false, false_or] at hk
  obtain ⟨a, g1, j, g2, b, off, len, c, rfl, n, g3, g4, rfl⟩ := hk
  obtain ⟨ad, c', e1, _, hc⟩ := (he x _ g1).sl_inv
  obtain ⟨k, e2⟩ := natOf_inv g3 (he i _ g2)
  have hlt : n < len := by simpa [Nat.blt_eq] using g4
  rcases hc with ⟨q, hq, rfl, _⟩ | ⟨h0, _, _⟩
  · refine ⟨_, ?_, .ptr b _ q hq⟩
    simp only [execOp, ho, e1, e2]; apply run_v
    simp [Instr.indexAt, asIntOf, run_underlying hE h1, Result.andThen, h2, hlt, run_sizeOf hE h3, add_mk, Nat.add_assoc]
  · omega
theorem look_ixArr {t e n : Nat} {x i : Operand} {ti te : TI} (h1 : tyOf E t = some ti) (h2 : ti.d = .array n e) (h3 : tyOf E e = some te) (ho : o.op = .indexAddr t x i) : LookOk P ⟨ixArr n te.size x i⟩ o := by
  intro m H w T ρ v hr he hk
  simp only [ixArr, ob_some, onPtr_some, bt_some, Option.some.injEq] at hk
  obtain ⟨a, g1, j, g2, b, off, rfl, k, g3, g4, rfl⟩ := hk
  obtain ⟨q, hq, e1⟩ := (he x _ g1).ptr_inv
  obtain ⟨kk, e2⟩ := natOf_inv g3 (he i _ g2)
  have hlt : k < n := by simpa [Nat.blt_eq] using g4
  refine ⟨_, ?_, .ptr b _ q hq⟩
  simp only [execOp, ho, e1, e2]; apply run_v
  simp [Instr.indexAt, asIntOf, run_underlying hE h1, Result.andThen, h2, Instr.sureAddr, hlt, run_sizeOf hE h3, add_mk, Nat.add_assoc]
theorem look_ixAgg {t e n : Nat} {x i : Operand} {ti te : TI} {k : PK} (h1 : tyOf E t = some ti) (h2 : ti.d = .array n e) (h3 : tyOf E e = some te) (h4 : partK E e = some k) (ho : o.op = .index t x i) :
    LookOk P ⟨ixAgg n te.size k x i⟩ o := by
  intro m H w T ρ v hr he hk
  simp only [ixAgg, ob_some, onAgg_some, bt_some] at hk
  obtain ⟨a, g1, j, g2, l, rfl, q, g3, g4, g5⟩ := hk
  obtain ⟨vs, hvl, e1⟩ := (he x _ g1).agg_inv
  obtain ⟨kk, e2⟩ := natOf_inv g3 (he i _ g2)
  have hlt : q < n := by simpa [Nat.blt_eq] using g4
  obtain ⟨u, hu, hv⟩ := partK_ok (w := w) hE h4 hvl g5
  refine ⟨u, ?_, hv⟩
  simp only [execOp, ho, e1, e2]; apply run_v
  have hu' : (part e vs.toArray (q * te.size)).run P w = .ok u w := hu
  simp [Instr.index, asIntOf, run_underlying hE h1, Result.andThen, h2, hlt, run_sizeOf hE h3, hu']
theorem look_ixStr {t : Nat} {x i : Operand} {ti : TI} (h1 : tyOf E t = some ti) (h2 : ti.d = .string) (ho : o.op = .index t x i) : LookOk P ⟨ixStr x i⟩ o := by
  intro m H w T ρ v hr he hk
  simp only [ixStr, ob_some, onStr_some, bt_some, Option.some.injEq] at hk
  obtain ⟨a, g1, j, g2, l, n, rfl, q, g3, g4, rfl⟩ := hk
  obtain ⟨s, e1, rfl, rfl⟩ := (he x _ g1).str_inv
  obtain ⟨kk, e2⟩ := natOf_inv g3 (he i _ g2)
  have hlt : q < s.data.toList.length := by simpa [Nat.blt_eq] using g4
  have hlt2 : q < s.size := by rw [Array.length_toList] at hlt; exact hlt
  have hb : s[q]? = some s.data.toList[q] := by
    rw [getElem?_pos s q hlt2]; congr 1
  refine ⟨.int .u8 (s.data.toList[q]).toNat, ?_, ?_⟩
  · simp only [execOp, ho, e1, e2]; apply run_v
    simp [Instr.index, asIntOf, run_underlying hE h1, Result.andThen, h2, hb]
  · rw [byteAt_leNat (List.getElem?_eq_getElem hlt)]; exact .int _ _
omit hE in
theorem look_ex {x : Operand} {i : Nat} (ho : o.op = .extract x i) : LookOk P ⟨exA x i⟩ o := by
  intro m H w T ρ v hr he hk
  simp only [exA, ob_some, onTup_some] at hk
  obtain ⟨a, g1, l, rfl, g2⟩ := hk
  obtain ⟨vs, hvl, e⟩ := (he x _ g1).tup_inv
  obtain ⟨u, hu, hv⟩ := hvl.nth g2
  refine ⟨u, ?_, hv⟩
  simp only [execOp, ho, e]; apply run_v
  simp [Instr.extract, hu]
theorem look_makeIface {t : Nat} {x : Operand} {ti : TI} (h1 : tyOf E t = some ti) (h2 : isIfaceD ti.d = false) (ho : o.op = .makeInterface t x) : LookOk P ⟨fun T _ => ob (opnd x T) fun v => some (.ifc t v)⟩ o := by
  intro m H w T ρ v hr he hk
  simp only [ob_some, Option.some.injEq] at hk
  obtain ⟨a, g1, rfl⟩ := hk
  refine ⟨_, ?_, .ifc t a _ (he x a g1)⟩
  simp only [execOp, ho]; apply run_v
  simp only [Instr.makeInterface, Sem.run_bind, run_underlying hE h1, Result.andThen]
  cases hd : ti.d <;> first | rfl | (rw [hd] at h2; simp [isIfaceD] at h2)
omit hE in
theorem look_makeFn {f : Fn} {a c : Array Operand} (hf : ∀ l, f ≠ .yield l) (ho : o.op = .makeFunc f a c) : LookOk P ⟨makeFn f (opnds a.toList) (opnds c.toList)⟩ o := by
  intro m H w T ρ v hr he hk
  simp only [makeFn, ob_some, Option.some.injEq] at hk
  obtain ⟨x, g1, y, g2, rfl⟩ := hk
  have := VR.fn f f x y _ _ (.same f hf) (opnds_ok he g1) (opnds_ok he g2)
  refine ⟨_, ?_, this⟩
  simp only [execOp, ho]; apply run_v
  simp only [Instr.makeFunc, Sem.run_pure]
  congr 2 <;> (apply Array.toList_inj.1; simp)
omit hE in
theorem optNat_inv {m : Ren} {T : Tr AV} {ρ : Operand → Value} (he : ER m T ρ) {x : Option Operand} {r : Option Nat} (h : optNat T x = some r) :
    (x = none ∧ r = none) ∨ ∃ y n k, x = some y ∧ r = some n ∧ ρ y = .int k (n : Int) := by
  cases x with
  | none => cases h; exact .inl ⟨rfl, rfl⟩
  | some y =>
    simp only [optNat, ob_some, Option.some.injEq] at h
    obtain ⟨v, h1, n, h2, rfl⟩ := h
    obtain ⟨k, hk⟩ := natOf_inv h2 (he y v h1)
    exact .inr ⟨y, n, k, rfl, rfl, hk⟩
omit hE in
theorem run_sliceBound {w : World} {k : IntKind} {n y : Nat} {c : BoundsCode} (h : n ≤ y) : (Instr.sliceBound (.int k (n : Int)) y c).run P w = .ok n w := by
    simp [Instr.sliceBound, asIntOf, h]
omit hE in
theorem run_bounds {m : Ren} {T : Tr AV} {ρ : Operand → Value} (he : ER m T ρ) {w : World} {isS : Bool} {lo hi mx : Option Operand} {rlo rhi rmx : Option Nat} {len c' room l h : Nat} {cp mm : Option Nat}
    (h1 : optNat T lo = some rlo) (h2 : optNat T hi = some rhi) (h3 : optNat T mx = some rmx) (hx : hasHi hi mx = true) (hb : boundsA len cp room rlo rhi rmx = some (l, h, mm))
    (hroom : room ≤ c') (hcap : ∀ k, cp = some k → c' = k) :
    ∃ m', (Instr.sliceBounds isS len c' (lo.map ρ) (hi.map ρ) (mx.map ρ)).run P w = .ok (l, h, m') w ∧ l ≤ h ∧ h ≤ m' ∧ m' ≤ c' ∧ (∀ k, mm = some k → m' = k) ∧ (mm = none → m' = c' ∧ cp = none) := by
  simp only [boundsA, ob_some, bt_some, Option.some.injEq, Prod.mk.injEq, Nat.ble_eq] at hb
  obtain ⟨q, hq, hb1, hb2, rfl, rfl, rfl⟩ := hb
  rcases optNat_inv he h3 with ⟨rfl, rfl⟩ | ⟨y3, n3, k3, rfl, rfl, hy3⟩
  · simp at hq
    subst hq
    have hh : oc rhi len id ≤ c' := by
      cases cp with
      | none => exact Nat.le_trans hb1 hroom
      | some k => rw [hcap k rfl]; exact hb1
    refine ⟨c', ?_, hb2, hh, Nat.le_refl _, hcap, fun e => ⟨rfl, e⟩⟩
    rcases optNat_inv he h2 with ⟨rfl, rfl⟩ | ⟨y2, n2, k2, rfl, rfl, hy2⟩ <;> rcases optNat_inv he h1 with ⟨rfl, rfl⟩ | ⟨y1, n1, k1, rfl, rfl, hy1⟩ <;>
      simp only [oc_none, oc_some, id] at hh hb2 ⊢
    · simp [Instr.sliceBounds]
    · simp [Instr.sliceBounds, Result.andThen, hy1, run_sliceBound hb2]
    · simp [Instr.sliceBounds, Result.andThen, hy2, run_sliceBound hh]
    · simp [Instr.sliceBounds, Result.andThen, hy1, hy2, run_sliceBound hh, run_sliceBound hb2]
  · simp only [oc_some, bt_some, Option.some.injEq, Nat.ble_eq] at hq
    obtain ⟨hn, rfl⟩ := hq
    have hn' : n3 ≤ c' := by omega
    simp only [oc_some, id] at hb1
    refine ⟨n3, ?_, hb2, hb1, hn', by simp, by simp⟩
    rcases optNat_inv he h2 with ⟨rfl, rfl⟩ | ⟨y2, n2, k2, rfl, rfl, hy2⟩
    · simp [hasHi] at hx
    · rcases optNat_inv he h1 with ⟨rfl, rfl⟩ | ⟨y1, n1, k1, rfl, rfl, hy1⟩ <;> simp only [oc_none, oc_some, id] at hb1 hb2 ⊢
      · simp [Instr.sliceBounds, Result.andThen, hy2, hy3, run_sliceBound hb1, run_sliceBound hn']
      · simp [Instr.sliceBounds, Result.andThen, hy1, hy2, hy3, run_sliceBound hb1, run_sliceBound hb2, run_sliceBound hn']
end
end Go.Xq
namespace Go.Xq
section
variable {P : Program} {E : Env} (hE : TyOk P E) {o : Oper}
theorem look_slStr (hE : TyOk P E) {t : Nat} {x : Operand} {lo hi : Option Operand} {ti : TI} (h1 : tyOf E t = some ti) (h2 : ti.d = .string) (ho : o.op = .slice t x lo hi none) : LookOk P ⟨slStr x lo hi⟩ o := by
  intro m H w T ρ v hr he hk
  simp only [slStr, ob_some, onStr_some, Option.some.injEq] at hk
  obtain ⟨rlo, g1, rhi, g2, a, g3, l, n, rfl, ⟨l0, h0, m0⟩, g4, rfl⟩ := hk
  obtain ⟨s, e1, rfl, rfl⟩ := (he x _ g3).str_inv
  have hsz : s.size = s.data.toList.length := by rw [Array.length_toList]; rfl
  obtain ⟨m', hrun, hl, hh, hc, _, _⟩ := run_bounds (P := P) he (w := w) (isS := false) (mx := none) (rmx := none) g1 g2 rfl (by simp [hasHi]) g4 (Nat.le_refl _) (fun k hk => by cases hk; rfl)
  refine ⟨.string (s.extract l0 h0), ?_, ?_⟩
  · simp only [execOp, ho, e1]; apply run_v
    simp only [Instr.sliceAt, Sem.run_bind, run_underlying hE h1, Result.andThen, h2, Instr.slice]
    rw [← hsz] at hrun
    simp only [Option.map_none, Option.isSome_none] at hrun ⊢
    simp only [Bool.false_eq_true, if_false, Sem.run_bind, hrun, Result.andThen, Sem.run_pure]
  · have hd : (s.extract l0 h0).data.toList = (s.data.toList.drop l0).take (h0 - l0) := by
      simp [ByteArray.data_extract, List.extract_eq_take_drop]
    have := VR.str (m := m) (s.extract l0 h0)
    have hlen : ((s.data.toList.drop l0).take (h0 - l0)).length = h0 - l0 := by simp at hc ⊢; omega
    rw [hd, hlen] at this
    have e : cutN (leNat s.data.toList) l0 (Nat.sub h0 l0) = leNat ((s.data.toList.drop l0).take (h0 - l0)) := by
      have hb := bytesN_ext (n := cutN (leNat s.data.toList) l0 (h0 - l0)) hlen (fun k hk => by
        have hk2 : l0 + k < s.data.toList.length := by omega
        refine ⟨s.data.toList[l0 + k], ?_, ?_⟩
        · rw [List.getElem?_take_of_lt hk, List.getElem?_drop, List.getElem?_eq_getElem hk2]
        · rw [byteAt_cut _ _ _ _ hk, byteAt_leNat (List.getElem?_eq_getElem hk2)])
      rw [hb, leNat_bytesN _ _ (cutN_lt _ _ _)]; rfl
    rw [e]; exact this
theorem room_ok {m : Ren} {H : AH} {w : World} (hr : Rel m H w) {b off len c' es room : Nat} {i : BI} (hi : m b = some i) (hc : i.base + off + c' * i.es = i.sz) (hl : len ≤ c')
    (h : roomOf H b off len es = some room) : i.es = es ∧ room ≤ c' := by
  simp only [roomOf, ob_some, onObj_some, bt_some, Nat.beq_eq] at h
  obtain ⟨o, hg, h⟩ := h
  obtain ⟨x, hx, hor⟩ := hr.live b o hg i hi
  rcases h with ⟨e, s, p, n, rfl, h1, h2⟩ | ⟨e, a, s, p, z, t, rfl, h1, h2⟩
  · cases hor with | bys c fr e size opn n i hcs hes hs hf h =>
    refine ⟨by omega, ?_⟩
    rw [hes] at hc
    cases p
    · cases h2; exact hl
    · cases h2
      exact Nat.max_le.2 ⟨hl, by show s - off ≤ c'; omega⟩
  · cases hor with | cs c fr e es' size opn z t i hcs hes hs hf h =>
    subst h1
    refine ⟨hes, ?_⟩
    cases p
    · cases h2; exact hl
    · cases h2
      refine Nat.max_le.2 ⟨hl, ?_⟩
      show (s - off) / es ≤ c'
      apply Nat.div_le_of_le_mul
      rw [← hes, Nat.mul_comm]; omega
theorem room_end {m : Ren} {H : AH} {w : World} (hr : Rel m H w) {b off es room : Nat} {i : BI} (hi : m b = some i) (hc : i.base + off = i.sz)
    (h : roomOf H b off 0 es = some room) : room = 0 := by
  simp only [roomOf, ob_some, onObj_some, bt_some, Nat.beq_eq] at h
  obtain ⟨o, hg, h⟩ := h
  obtain ⟨x, hx, hor⟩ := hr.live b o hg i hi
  rcases h with ⟨e, s, p, n, rfl, h1, h2⟩ | ⟨e, a, s, p, z, t, rfl, h1, h2⟩
  · cases hor with | bys c fr e size opn n i hcs hes hs hf h =>
    have : s - off = 0 := by omega
    cases p
    · cases h2; rfl
    · cases h2; show Nat.max 0 (s - off) = 0; rw [this]; rfl
  · cases hor with | cs c fr e es' size opn z t i hcs hes hs hf h =>
    have : s - off = 0 := by omega
    cases p
    · cases h2; rfl
    · cases h2; show Nat.max 0 ((s - off) / es) = 0; rw [this]; simp
theorem addr_if (m' l b off n : Nat) : (if m' = l then (⟨b, off, none⟩ : Addr) else (⟨b, off, none⟩ : Addr).add n) = ⟨b, if m' = l then off else off + n, none⟩ := by
  split
  · rfl
  · rw [add_mk]
include hE
theorem look_slSl {t e : Nat} {x : Operand} {lo hi mx : Option Operand} {ti te : TI} (h1 : tyOf E t = some ti) (h2 : ti.d = .slice e) (h3 : tyOf E e = some te) (hx : hasHi hi mx = true)
    (ho : o.op = .slice t x lo hi mx) : LookOk P ⟨slSl te.size x lo hi mx⟩ o := by
  intro m H w T ρ v hr he hk
  simp only [slSl, ob_some] at hk
  obtain ⟨rlo, g1, rhi, g2, rmx, g3, a, g4, hk⟩ := hk
  rw [onSl_some] at hk
  have frame : ∀ {len c' l h m' : Nat} {base : Option Addr}, ρ x = .slice base len c' → (Instr.sliceBounds true len c' (lo.map ρ) (hi.map ρ) (mx.map ρ)).run P w = .ok (l, h, m') w →
      (execOp ρ o).run P w = .ok (.value (.slice (if m' = l then base else base.map (·.add (l * te.size))) (h - l) (m' - l))) w := by
    intro len c' l h m' base e1 hrun
    simp only [execOp, ho, e1]; apply run_v
    simp only [Instr.sliceAt, Sem.run_bind, run_underlying hE h1, Result.andThen, h2, Instr.slice, hrun, run_sizeOf hE h3, Sem.run_pure]
  rcases hk with ⟨rfl, hk⟩ | ⟨b, off, len, cap, rfl, hk⟩
  · simp only [ob_some, Option.some.injEq] at hk
    obtain ⟨⟨l, h, mm⟩, g5, rfl⟩ := hk
    have e1 := (he x _ g4).snil_inv
    obtain ⟨m', hrun, hl, hh, hc, _, _⟩ := run_bounds (P := P) he (w := w) (isS := true) g1 g2 g3 hx g5 (Nat.le_refl _) (fun k hk => by cases hk; rfl)
    have : l = 0 ∧ h = 0 ∧ m' = 0 := by omega
    obtain ⟨rfl, rfl, rfl⟩ := this
    exact ⟨_, frame e1 hrun, by simpa using VR.snil⟩
  · simp only [ob_some, Option.some.injEq] at hk
    obtain ⟨room, g6, ⟨l, h, mm⟩, g5, rfl⟩ := hk
    obtain ⟨ad, c', e1, hcap, hcase⟩ := (he x _ g4).sl_inv
    have hroom : room ≤ c' ∧ (cap = none → ∀ i, m b = some i → 0 < i.es → i.base + off + c' * i.es = i.sz → len ≤ c' → i.es = te.size) := by
      cases cap with
      | some k => simp at g6; subst g6; rw [hcap _ rfl]; exact ⟨Nat.le_refl _, by simp⟩
      | none =>
        simp only [oc_none] at g6
        rcases hcase with ⟨i, hi', _, hq⟩ | ⟨rfl, rfl, hq⟩
        · obtain ⟨q1, q2, q3⟩ := hq rfl
          have := room_ok hr hi' q2 q3 g6
          refine ⟨this.2, fun _ j hj _ _ _ => ?_⟩
          rw [hi'] at hj; cases hj; exact this.1
        · obtain ⟨i, q1, q2, q3⟩ := hq rfl
          have := room_end hr q1 q3 g6
          refine ⟨by omega, fun _ j hj _ p2 p3 => ?_⟩
          exact (room_ok hr hj p2 p3 g6).1
    obtain ⟨m', hrun, hl, hh, hc, hm1, hm2⟩ := run_bounds (P := P) he (w := w) (isS := true) g1 g2 g3 hx g5 hroom.1 (fun k hk => hcap k hk)
    refine ⟨_, frame e1 hrun, ?_⟩
    rcases hcase with ⟨i, hi', rfl, hq⟩ | ⟨rfl, rfl, hq⟩
    · cases mm with
      | some k =>
        have := hm1 k rfl; subst this
        have e2 : (if m' = l then some (⟨i.blk, i.base + off, none⟩ : Addr) else (some (⟨i.blk, i.base + off, none⟩ : Addr)).map (·.add (l * te.size))) = some ⟨i.blk, i.base + offOf (some m') off l te.size, none⟩ := by
          simp only [offOf, oc_some, bt_eq, Nat.beq_eq]
          split
          · rfl
          · simp [add_mk, Nat.add_assoc]
        rw [e2]
        exact .sl _ _ _ _ i hi'
      | none =>
        obtain ⟨rfl, hcp⟩ := hm2 rfl
        obtain ⟨q1, q2, q3⟩ := hq hcp
        have hes := hroom.2 hcp i hi' q1 q2 q3
        simp only [capLess, oc_none, offOf]
        by_cases e : m' = l
        · subst e
          rw [if_pos rfl, Nat.sub_self]
          have : h - m' = 0 := by omega
          rw [show Nat.sub h m' = 0 from this, this]
          exact .sle _ _ _ i hi' q1 (by rw [← hes]; show i.base + (off + m' * i.es) = i.sz; omega)
        · rw [if_neg e]
          simp only [Option.map_some, add_mk]
          have := VR.slo (m := m) b (off + l * te.size) (h - l) (m' - l) i hi' q1 (by
            rw [← hes, Nat.sub_mul]
            have : l * i.es ≤ m' * i.es := Nat.mul_le_mul_right _ (by omega)
            omega) (by omega)
          rw [Nat.add_assoc]; exact this
    · have : l = 0 ∧ h = 0 ∧ m' = 0 := by omega
      obtain ⟨rfl, rfl, rfl⟩ := this
      cases mm with
      | some k => have := hm1 k rfl; subst this; exact .slz _ _ _
      | none =>
        obtain ⟨_, hcp⟩ := hm2 rfl
        obtain ⟨i, q1, q2, q3⟩ := hq hcp
        exact .sle _ _ _ i q1 q2 (by simpa [offOf] using q3)
theorem look_slArr {t e n : Nat} {x : Operand} {lo hi mx : Option Operand} {ti te : TI} (h1 : tyOf E t = some ti) (h2 : ti.d = .array n e) (h3 : tyOf E e = some te) (hx : hasHi hi mx = true)
    (ho : o.op = .slice t x lo hi mx) : LookOk P ⟨slArr n te.size x lo hi mx⟩ o := by
  intro m H w T ρ v hr he hk
  simp only [slArr, ob_some, onPtr_some, Option.some.injEq] at hk
  obtain ⟨rlo, g1, rhi, g2, rmx, g3, a, g4, b, off, rfl, ⟨l, h, mm⟩, g5, rfl⟩ := hk
  obtain ⟨i, hi', e1⟩ := (he x _ g4).ptr_inv
  obtain ⟨m', hrun, hl, hh, hc, hm1, hm2⟩ := run_bounds (P := P) he (w := w) (isS := false) g1 g2 g3 hx g5 (Nat.le_refl _) (fun k hk => by cases hk; rfl)
  cases mm with
  | none => have := (hm2 rfl).2; cases this
  | some k =>
    have := hm1 k rfl; subst this
    refine ⟨.slice (some ⟨i.blk, i.base + offOf (some m') off l te.size, none⟩) (h - l) (m' - l), ?_, .sl _ _ _ _ i hi'⟩
    simp only [execOp, ho, e1]; apply run_v
    simp only [Instr.sliceAt, Sem.run_bind, run_underlying hE h1, Result.andThen, h2, Instr.sureAddr, hrun, run_sizeOf hE h3, Sem.run_pure, addr_if, offOf, oc_some, bt_eq, Nat.beq_eq]
    congr 4
    split <;> simp [Nat.add_assoc]
end
end Go.Xq
