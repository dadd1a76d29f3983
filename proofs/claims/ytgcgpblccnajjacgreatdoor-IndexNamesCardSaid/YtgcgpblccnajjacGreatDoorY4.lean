/- A part of the proof that what the evaluator answers is what the machine does. Its conditions stand in each theorem. -/
import Derived.Test.YtgcgpblccnajjacGreatDoorY3
import Derived.IntWalk
import Derived.Laws.Strings
namespace Go.Xq

/-! ### Integers -/
theorem addI_eq (x y : Int) : addI x y = x + y := by cases x <;> cases y <;> rfl
theorem mulI_eq (x y : Int) : mulI x y = x * y := by cases x <;> cases y <;> rfl
theorem subI_eq (x y : Int) : subI x y = x - y := by
  cases x with
  | negSucc a => rfl
  | ofNat a => cases y with
    | negSucc b => rfl
    | ofNat b =>
      simp only [subI, ic_ofNat, bt_eq, Nat.ble_eq]
      split
      · rename_i h; show ((a - b : Nat) : Int) = (a : Int) - (b : Int); omega
      · rfl
theorem mkInt_eq (k : IntKind) (n : Int) : mkInt k n = some (.int k (k.wrap n)) := by
  cases n with
  | ofNat m =>
    cases k <;> simp only [mkInt, ic_ofNat, kc, slowInt]
    · simp only [bt_eq, Nat.blt_eq]
      split
      · rename_i h; rw [IntWalk.i64_in _ (by constructor <;> (show _ ≤ _; simp only [Int.ofNat_eq_natCast]; omega))]
      · rfl
    all_goals congr 2
  | negSucc m =>
    simp only [mkInt, ic_neg, bt_eq, Nat.beq_eq, slowInt]
    split
    · rename_i hk
      have hk : k = .i64 := kIx_inj (l := .i64) hk
      subst hk
      simp only [Nat.blt_eq]
      split
      · rename_i h; rw [IntWalk.i64_in _ (by constructor <;> omega)]
      · rfl
    · rfl
theorem toU_eq (k : IntKind) (n : Int) : toU k n = (n % (2 ^ k.bits : Nat)).toNat := by
  cases n with
  | ofNat m => cases k <;> rfl
  | negSucc m => rfl
theorem ofInt_toNat (k : IntKind) (n : Int) : (BitVec.ofInt k.bits n).toNat = toU k n := by rw [toU_eq, BitVec.toNat_ofInt]

theorem ibin_ok {P : Program} {w : World} {op : BinOp} {g : AK} (h : ibinK op = some g) {k : IntKind} {x y : Int} {v : AV} (hk : g.f k x y = some v) (t : TypeId) :
    ∃ u, (binOp op t (.int k x) (.int k y)).run P w = .ok u w ∧ ∀ m, VR m v u := by
  cases op <;> simp only [ibinK, Option.some.injEq, reduceCtorEq] at h <;> subst h <;> simp only [mkInt_eq, Option.some.injEq, quoA, remA] at hk
  case add => subst hk; exact ⟨_, by simp [binOp, Op.intArith, ← addI_eq], fun m => .int _ _⟩
  case sub => subst hk; exact ⟨_, by simp [binOp, Op.intArith, ← subI_eq], fun m => .int _ _⟩
  case mul => subst hk; exact ⟨_, by simp [binOp, Op.intArith, ← mulI_eq], fun m => .int _ _⟩
  case quo =>
    simp only [bt_eq, eqI_iff] at hk
    split at hk
    · cases hk
    · rename_i hy; cases hk; exact ⟨_, by simp [binOp, Op.intDiv, hy], fun m => .int _ _⟩
  case rem =>
    simp only [bt_eq, eqI_iff] at hk
    split at hk
    · cases hk
    · rename_i hy; cases hk; exact ⟨_, by simp [binOp, Op.intDiv, hy], fun m => .int _ _⟩
  case and => subst hk; exact ⟨_, by simp only [binOp, Op.intBits, ne_eq, not_true_eq_false, if_false, Sem.run_pure, BitVec.toNat_and, ofInt_toNat]; rfl, fun m => .int _ _⟩
  case or => subst hk; exact ⟨_, by simp only [binOp, Op.intBits, ne_eq, not_true_eq_false, if_false, Sem.run_pure, BitVec.toNat_or, ofInt_toNat]; rfl, fun m => .int _ _⟩
  case xor => subst hk; exact ⟨_, by simp only [binOp, Op.intBits, ne_eq, not_true_eq_false, if_false, Sem.run_pure, BitVec.toNat_xor, ofInt_toNat]; rfl, fun m => .int _ _⟩
  case eql =>
    subst hk
    refine ⟨_, by simp only [binOp, Op.intCmp, ne_eq, not_true_eq_false, if_false, Sem.run_pure]; rfl, fun m => ?_⟩
    have : (x == y) = eqI x y := by rw [Bool.eq_iff_iff, eqI_iff, beq_iff_eq]
    rw [this]; exact .bool _
  case neq =>
    subst hk
    refine ⟨_, by simp only [binOp, Op.intCmp, ne_eq, not_true_eq_false, if_false, Sem.run_pure]; rfl, fun m => ?_⟩
    have : (x != y) = bt (eqI x y) false true := by
      rw [Bool.eq_iff_iff, bne_iff_ne, ne_eq, ← eqI_iff]; cases eqI x y <;> simp
    rw [this]; exact .bool _
  case lss =>
    subst hk
    refine ⟨_, by simp only [binOp, Op.intCmp, ne_eq, not_true_eq_false, if_false, Sem.run_pure]; rfl, fun m => ?_⟩
    have : decide (x < y) = ltI x y := by rw [Bool.eq_iff_iff, ltI_iff, decide_eq_true_eq]
    rw [this]; exact .bool _
  case leq =>
    subst hk
    refine ⟨_, by simp only [binOp, Op.intCmp, ne_eq, not_true_eq_false, if_false, Sem.run_pure]; rfl, fun m => ?_⟩
    have : decide (x ≤ y) = bt (ltI y x) false true := by
      rw [Bool.eq_iff_iff, decide_eq_true_eq, ← Int.not_lt, ← ltI_iff]; cases ltI y x <;> simp
    rw [this]; exact .bool _
  case gtr =>
    subst hk
    refine ⟨_, by simp only [binOp, Op.intCmp, ne_eq, not_true_eq_false, if_false, Sem.run_pure]; rfl, fun m => ?_⟩
    have : decide (x > y) = ltI y x := by rw [Bool.eq_iff_iff, ltI_iff, decide_eq_true_eq]
    rw [this]; exact .bool _
  case geq =>
    subst hk
    refine ⟨_, by simp only [binOp, Op.intCmp, ne_eq, not_true_eq_false, if_false, Sem.run_pure]; rfl, fun m => ?_⟩
    have : decide (x ≥ y) = bt (ltI x y) false true := by
      rw [Bool.eq_iff_iff, decide_eq_true_eq, ge_iff_le, ← Int.not_lt, ← ltI_iff]; cases ltI x y <;> simp
    rw [this]; exact .bool _

section
variable {P : Program} {E : Env} {o : Oper}
theorem run_eqGuard_int {w : World} (op : BinOp) (t : TypeId) (x y : Operand) (k l : IntKind) (a b : Int) : (eqGuard op t x y (.int k a) (.int l b)).run P w = .ok () w := by
  cases op <;> rfl
theorem run_eqGuard_str {w : World} (op : BinOp) (t : TypeId) (x y : Operand) (a b : ByteArray) : (eqGuard op t x y (.string a) (.string b)).run P w = .ok () w := by
  cases op <;> rfl
theorem look_binInt {op : BinOp} {t : Nat} {x y : Operand} {u : Nat} {g : AK} (h : ibinK op = some g) (ho : o.op = .binOp op t x y u) : LookOk P ⟨binInt g x y⟩ o := by
  intro m H w T ρ v hr he hk
  simp only [binInt, ob_some, onInt_some, bt_some] at hk
  obtain ⟨a, h1, b, h2, k, p, rfl, l, q, rfl, hkl, h3⟩ := hk
  have := kEq_iff.1 hkl; subst this
  have e1 := (he x _ h1).int_inv
  have e2 := (he y _ h2).int_inv
  obtain ⟨u, hu, hv⟩ := ibin_ok (P := P) (w := w) h h3 t
  refine ⟨u, ?_, hv m⟩
  simp only [execOp, ho, e1, e2]
  apply run_v
  simp [run_eqGuard_int, Result.andThen, hu]
theorem look_binShl {t : Nat} {x y : Operand} {u : Nat} (ho : o.op = .binOp .shl t x y u) : LookOk P ⟨binShl x y⟩ o := by
  intro m H w T ρ v hr he hk
  simp only [binShl, ob_some, onInt_some] at hk
  obtain ⟨a, h1, b, h2, k, p, rfl, l, q, rfl, h3⟩ := hk
  have e1 := (he x _ h1).int_inv
  have e2 := (he y _ h2).int_inv
  cases q with
  | negSucc q => simp [shlA] at h3
  | ofNat q =>
    simp only [shlA, ic_ofNat, mkInt_eq, Option.some.injEq] at h3
    subst h3
    refine ⟨_, ?_, .int _ _⟩
    simp only [execOp, ho, e1, e2]
    apply run_v
    have hq : ¬ ((Int.ofNat q) < 0) := by simp
    simp only [run_eqGuard_int, Sem.run_bind, Result.andThen, binOp, Op.shift, hq, if_false, Sem.run_pure]
    congr 3
    rw [mulI_eq]
    congr 1
    symm
    show ((1 <<< (min q k.bits) : Nat) : Int) = _
    rw [Nat.shiftLeft_eq, Nat.one_mul]; simp
theorem look_binShr {t : Nat} {x y : Operand} {u : Nat} (ho : o.op = .binOp .shr t x y u) : LookOk P ⟨binShr x y⟩ o := by
  intro m H w T ρ v hr he hk
  simp only [binShr, ob_some, onInt_some] at hk
  obtain ⟨a, h1, b, h2, k, p, rfl, l, q, rfl, h3⟩ := hk
  have e1 := (he x _ h1).int_inv
  have e2 := (he y _ h2).int_inv
  cases q with
  | negSucc q => simp [shrA] at h3
  | ofNat q =>
    have hq : ¬ ((Int.ofNat q) < 0) := by simp
    cases p with
    | ofNat p =>
      simp only [shrA, ic_ofNat, Option.some.injEq] at h3
      subst h3
      refine ⟨_, ?_, .int _ _⟩
      simp only [execOp, ho, e1, e2]
      apply run_v
      simp only [run_eqGuard_int, Sem.run_bind, Result.andThen, binOp, Op.shift, hq, if_false, Sem.run_pure]
      congr 2
      show _ = ((p >>> (min q k.bits) : Nat) : Int)
      rw [Nat.shiftRight_eq_div_pow, Int.ofNat_fdiv]
      simp
    | negSucc p =>
      simp only [shrA, ic_ofNat, ic_neg, Option.some.injEq] at h3
      subst h3
      refine ⟨_, ?_, .int _ _⟩
      simp only [execOp, ho, e1, e2]
      apply run_v
      simp only [run_eqGuard_int, Sem.run_bind, Result.andThen, binOp, Op.shift, hq, if_false, Sem.run_pure]
      congr 2
theorem lessN_ok : ∀ (l k : List UInt8) (f : Nat), l.length < f → lessN f l.length (leNat l) k.length (leNat k) = Op.bytesLess l k
  | _, _, 0, h => absurd h (by omega)
  | l, [], f + 1, _ => by cases l <;> simp [lessN, Op.bytesLess]
  | [], b :: k, f + 1, _ => by simp [lessN, Op.bytesLess]
  | a :: l, b :: k, f + 1, h => by
    have ha := a.toNat_lt
    have hb := b.toNat_lt
    have m1 : Nat.mod (leNat (a :: l)) 256 = a.toNat := by show (a.toNat + 256 * leNat l) % 256 = _; omega
    have m2 : Nat.mod (leNat (b :: k)) 256 = b.toNat := by show (b.toNat + 256 * leNat k) % 256 = _; omega
    have d1 : Nat.div (leNat (a :: l)) 256 = leNat l := by show (a.toNat + 256 * leNat l) / 256 = _; omega
    have d2 : Nat.div (leNat (b :: k)) 256 = leNat k := by show (b.toNat + 256 * leNat k) / 256 = _; omega
    simp only [List.length_cons] at h
    simp only [lessN, List.length_cons, nc_succ, m1, m2, d1, d2, lessN_ok l k f (by omega), bt_eq, Nat.blt_eq, Nat.beq_eq, Op.bytesLess]
    by_cases h1 : a.toNat < b.toNat
    · have : a < b := UInt8.lt_iff_toNat_lt.2 h1
      simp [h1, this]
    · have h1' : ¬ a < b := fun e => h1 (UInt8.lt_iff_toNat_lt.1 e)
      by_cases h2 : a.toNat = b.toNat
      · have : a = b := UInt8.toNat_inj.1 h2
        subst this; simp
      · have : ¬ a = b := fun e => h2 (e ▸ rfl)
        simp [h1, h1', h2, this]
theorem sEq_ok (l k : List UInt8) : sEq l.length (leNat l) k.length (leNat k) = (l == k) := by
  rw [Bool.eq_iff_iff, beq_iff_eq]
  simp only [sEq, bt_eq]
  split
  · rename_i h
    rw [Nat.beq_eq] at h ⊢
    exact ⟨fun e => leNat_inj h e, fun e => by rw [e]⟩
  · rename_i h
    simp only [Nat.beq_eq, Bool.false_eq_true, false_iff] at h ⊢
    exact fun e => h (by rw [e])
theorem look_binStr {op : BinOp} {t : Nat} {x y : Operand} {u : Nat} {g : SK} (h : sbinK op = some g) (ho : o.op = .binOp op t x y u) : LookOk P ⟨binStr g x y⟩ o := by
  intro m H w T ρ v hr he hk
  simp only [binStr, ob_some, onStr_some] at hk
  obtain ⟨a, h1, b, h2, k, p, rfl, l, q, rfl, h3⟩ := hk
  obtain ⟨s, e1, rfl, rfl⟩ := (he x _ h1).str_inv
  obtain ⟨r, e2, rfl, rfl⟩ := (he y _ h2).str_inv
  have hlt := lessN_ok s.data.toList r.data.toList (s.data.toList.length + 1) (by omega)
  have hlt' : lessN (Nat.succ s.data.toList.length) s.data.toList.length (leNat s.data.toList) r.data.toList.length (leNat r.data.toList) = Op.bytesLess s.data.toList r.data.toList := hlt
  have heq := sEq_ok s.data.toList r.data.toList
  have main : ∃ u, (binOp op t (.string s) (.string r)).run P w = .ok u w ∧ VR m v u := by
    cases op <;> simp only [sbinK, Option.some.injEq, reduceCtorEq] at h <;> subst h <;> simp only [addS, bt_some, Option.some.injEq, hlt', heq] at h3
    case add =>
      obtain ⟨h3, rfl⟩ := h3
      have hs : s.size = s.data.toList.length := by rw [Array.length_toList]; rfl
      have hr' : r.size = r.data.toList.length := by rw [Array.length_toList]; rfl
      have h3' : s.data.toList.length + r.data.toList.length < 9223372036854775808 := by simpa [Nat.blt_eq] using h3
      refine ⟨.string (s ++ r), ?_, ?_⟩
      · have : ¬ ((s.size + r.size : Nat) : Int) > IntKind.i64.max := by
          rw [hs, hr']; simp only [IntKind.max, IntKind.signed, IntKind.bits]; simp; omega
        simp only [binOp, Op.stringOp, this, if_false, Sem.run_pure]
      · have e : (s ++ r).data.toList = s.data.toList ++ r.data.toList := by simp
        have := VR.str (m := m) (s ++ r)
        rw [e, leNat_append, List.length_append] at this
        have e3 : Nat.add (leNat s.data.toList) (Nat.shiftLeft (leNat r.data.toList) (Nat.mul 8 s.data.toList.length)) = leNat s.data.toList + 256 ^ s.data.toList.length * leNat r.data.toList := by
          show _ + (leNat r.data.toList) <<< (8 * s.data.toList.length) = _
          rw [Nat.shiftLeft_eq, Nat.pow_mul, Nat.mul_comm]
        rw [e3]; exact this
    all_goals subst h3
    case eql => exact ⟨_, by simp [binOp, Op.stringOp, ByteArray.toList_eq], .bool _⟩
    case neq =>
      refine ⟨_, by simp only [binOp, Op.stringOp, ByteArray.toList_eq, Sem.run_pure]; rfl, ?_⟩
      have : (!(s.data.toList == r.data.toList)) = bt (s.data.toList == r.data.toList) false true := by cases s.data.toList == r.data.toList <;> rfl
      rw [this]; exact .bool _
    case lss => exact ⟨_, by simp only [binOp, Op.stringOp, ByteArray.toList_eq, Sem.run_pure], .bool _⟩
    case leq =>
      refine ⟨_, by simp only [binOp, Op.stringOp, ByteArray.toList_eq, Sem.run_pure]; rfl, ?_⟩
      cases Op.bytesLess s.data.toList r.data.toList <;> exact .bool _
    case gtr =>
      refine ⟨_, by simp only [binOp, Op.stringOp, ByteArray.toList_eq, Sem.run_pure]; rfl, ?_⟩
      cases Op.bytesLess s.data.toList r.data.toList
      · cases (s.data.toList == r.data.toList) <;> exact .bool _
      · exact .bool _
    case geq =>
      refine ⟨_, by simp only [binOp, Op.stringOp, ByteArray.toList_eq, Sem.run_pure]; rfl, ?_⟩
      cases Op.bytesLess s.data.toList r.data.toList <;> exact .bool _
  obtain ⟨u', hu, hv⟩ := main
  refine ⟨u', ?_, hv⟩
  simp only [execOp, ho, e1, e2]
  apply run_v
  simp [run_eqGuard_str, Result.andThen, hu]
theorem look_unOp {op : UnOp} {t : Nat} {x : Operand} {g : UK} (h : unK op = some g) (ho : o.op = .unOp op t x) : LookOk P ⟨fun T _ => ob (opnd x T) fun v => g.f v⟩ o := by
  intro m H w T ρ v hr he hk
  simp only [ob_some] at hk
  obtain ⟨a, h1, h2⟩ := hk
  have ha := he x _ h1
  cases op <;> simp only [unK, Option.some.injEq, reduceCtorEq] at h <;> subst h
  case not =>
    simp only [onBool_some, Option.some.injEq] at h2
    obtain ⟨b, rfl, rfl⟩ := h2
    have e := ha.bool_inv
    refine ⟨.bool (!b), ?_, ?_⟩
    · simp only [execOp, ho, e]; apply run_v; rfl
    · cases b <;> exact .bool _
  case neg =>
    simp only [onInt_some, mkInt_eq, Option.some.injEq] at h2
    obtain ⟨k, n, rfl, rfl⟩ := h2
    have e := ha.int_inv
    refine ⟨_, ?_, .int _ _⟩
    simp only [execOp, ho, e]; apply run_v
    simp [Op.unary, Op.intArith, subI_eq]
  case xor =>
    simp only [onInt_some, mkInt_eq, Option.some.injEq] at h2
    obtain ⟨k, n, rfl, rfl⟩ := h2
    have e := ha.int_inv
    refine ⟨_, ?_, .int _ _⟩
    simp only [execOp, ho, e]; apply run_v
    simp only [Op.unary, Op.intBits, BitVec.toNat_xor, ofInt_toNat, Sem.run_pure]; rfl
theorem look_cvInt (hE : TyOk P E) {s d : Nat} {x : Operand} {k l : IntKind} {ts td : TI} (h1 : tyOf E s = some ts) (h2 : tyOf E d = some td) (hs : ts.d = .int l) (hd : td.d = .int k) (ho : o.op = .convert s d x) :
    LookOk P ⟨cvInt k x⟩ o := by
  intro m H w T ρ v hr he hk
  simp only [cvInt, ob_some, onInt_some, mkInt_eq, Option.some.injEq] at hk
  obtain ⟨a, g1, j, n, rfl, rfl⟩ := hk
  have e := (he x _ g1).int_inv
  refine ⟨_, ?_, .int _ _⟩
  simp only [execOp, ho, e]; apply run_v
  simp [convert, run_underlying hE h1, run_underlying hE h2, Result.andThen, hs, hd, Conv.intToInt]
theorem look_cvSS (hE : TyOk P E) {s d : Nat} {x : Operand} {ts td : TI} (h1 : tyOf E s = some ts) (h2 : tyOf E d = some td) (hs : ts.d = .string) (hd : td.d = .string) (ho : o.op = .convert s d x) :
    LookOk P ⟨cvSS x⟩ o := by
  intro m H w T ρ v hr he hk
  simp only [cvSS, ob_some, onStr_some, Option.some.injEq] at hk
  obtain ⟨a, g1, l, n, rfl, rfl⟩ := hk
  obtain ⟨q, e, rfl, rfl⟩ := (he x _ g1).str_inv
  refine ⟨.string q, ?_, .str q⟩
  simp only [execOp, ho, e]; apply run_v
  simp [convert, run_underlying hE h1, run_underlying hE h2, Result.andThen, hs, hd]
end
end Go.Xq
