/- A part of the proof of this seat's statement. Conditions: in each theorem. -/
import Derived.Test.YtnodjhgmghkikaaGreatW28
namespace Go.Xq
variable [Dealing]
noncomputable section
omit [Dealing] in
def lkMove (x : Operand) : LK := ⟨fun T _ => opnd x T⟩
omit [Dealing] in
def lkUn (g : UK) (x : Operand) : LK := ⟨fun T _ => ob (opnd x T) fun v => g.f v⟩
omit [Dealing] in
def lkIfc (t : Nat) (x : Operand) : LK := ⟨fun T _ => ob (opnd x T) fun v => some (.ifc t v)⟩
omit [Dealing] in
def ukNot : UK := ⟨fun v => onBool v fun b => some (.bool (bt b false true))⟩
omit [Dealing] in
def ukNeg : UK := ⟨fun v => onInt v fun k n => mkInt k (subI 0 n)⟩
omit [Dealing] in
def ukXor : UK := ⟨fun v => onInt v fun k n => mkInt k (.ofNat (Nat.xor (toU k (if k.signed then -1 else k.max)) (toU k n)))⟩
omit [Dealing] in
def akAdd : AK := ⟨fun k x y => mkInt k (addI x y)⟩
omit [Dealing] in
def akSub : AK := ⟨fun k x y => mkInt k (subI x y)⟩
omit [Dealing] in
def akMul : AK := ⟨fun k x y => mkInt k (mulI x y)⟩
omit [Dealing] in
def akAnd : AK := ⟨fun k x y => mkInt k (Int.ofNat (Nat.land (toU k x) (toU k y)))⟩
omit [Dealing] in
def akOr : AK := ⟨fun k x y => mkInt k (Int.ofNat (Nat.lor (toU k x) (toU k y)))⟩
omit [Dealing] in
def akXor : AK := ⟨fun k x y => mkInt k (Int.ofNat (Nat.xor (toU k x) (toU k y)))⟩
omit [Dealing] in
def akEql : AK := ⟨fun _ x y => some (.bool (eqI x y))⟩
omit [Dealing] in
def akNeq : AK := ⟨fun _ x y => some (.bool (bt (eqI x y) false true))⟩
omit [Dealing] in
def akLss : AK := ⟨fun _ x y => some (.bool (ltI x y))⟩
omit [Dealing] in
def akLeq : AK := ⟨fun _ x y => some (.bool (bt (ltI y x) false true))⟩
omit [Dealing] in
def akGtr : AK := ⟨fun _ x y => some (.bool (ltI y x))⟩
omit [Dealing] in
def akGeq : AK := ⟨fun _ x y => some (.bool (bt (ltI x y) false true))⟩
omit [Dealing] in
def skEql : SK := ⟨fun a x b y => some (.bool (sEq a x b y))⟩
omit [Dealing] in
def skNeq : SK := ⟨fun a x b y => some (.bool (bt (sEq a x b y) false true))⟩
omit [Dealing] in
def skLss : SK := ⟨fun a x b y => some (.bool (lessN (Nat.succ a) a x b y))⟩
omit [Dealing] in
def skLeq : SK := ⟨fun a x b y => some (.bool (bt (lessN (Nat.succ a) a x b y) true (sEq a x b y)))⟩
omit [Dealing] in
def skGtr : SK := ⟨fun a x b y => some (.bool (bt (lessN (Nat.succ a) a x b y) false (bt (sEq a x b y) false true)))⟩
omit [Dealing] in
def skGeq : SK := ⟨fun a x b y => some (.bool (bt (lessN (Nat.succ a) a x b y) false true))⟩
omit [Dealing] in
def flEnd : FlK := ⟨fun _ cells => some cells⟩
omit [Dealing] in
def frMap : FrK := ⟨fun _ b0 => some (.mp b0, .mp [] 0)⟩
omit [Dealing] in
theorem eqI_dec (x y : Int) : eqI x y = decide (x = y) := by
  by_cases h : x = y
  · rw [decide_eq_true h]; exact eqI_iff.2 h
  · rw [decide_eq_false h]
    cases e : eqI x y with
    | false => rfl
    | true => exact absurd (eqI_iff.1 e) h
omit [Dealing] in
theorem ltI_dec (x y : Int) : ltI x y = decide (x < y) := by
  by_cases h : x < y
  · rw [decide_eq_true h]; exact ltI_iff.2 h
  · rw [decide_eq_false h]
    cases e : ltI x y with
    | false => rfl
    | true => exact absurd (ltI_iff.1 e) h
omit [Dealing] in
theorem bt_not (b : Bool) : bt b false true = !b := by cases b <;> rfl
omit [Dealing] in
theorem mkInt_i64 {n : Int} (h1 : -9223372036854775808 ≤ n) (h2 : n < 9223372036854775808) : mkInt .i64 n = some (.int .i64 n) := by
  rw [mkInt_eq, IntWalk.i64_in _ ⟨h1, by omega⟩]
omit [Dealing] in
theorem mkInt_u8 (n : Int) : mkInt .u8 n = some (.int .u8 (n % 256)) := by rw [mkInt_eq, IntKind.wrap_u8]
section
variable {β : Type}
omit [Dealing] in
@[simp] theorem onInt_int (k : IntKind) (n : Int) (f : IntKind → Int → Option β) : onInt (.int k n) f = f k n := rfl
omit [Dealing] in
@[simp] theorem onPtr_ptr (b o : Nat) (f : Nat → Nat → Option β) : onPtr (.ptr b o) f = f b o := rfl
omit [Dealing] in
@[simp] theorem onSl_sl (b o l : Nat) (c : Option Nat) (z : Option β) (f : Nat → Nat → Nat → Option Nat → Option β) : onSl (.sl b o l c) z f = f b o l c := rfl
omit [Dealing] in
@[simp] theorem onSl_snil (z : Option β) (f : Nat → Nat → Nat → Option Nat → Option β) : onSl .snil z f = z := rfl
omit [Dealing] in
@[simp] theorem onBool_bool (b : Bool) (f : Bool → Option β) : onBool (.bool b) f = f b := rfl
omit [Dealing] in
@[simp] theorem onStr_str (l n : Nat) (f : Nat → Nat → Option β) : onStr (.str l n) f = f l n := rfl
omit [Dealing] in
@[simp] theorem onFn_fn (q : Fn) (a c : AV) (f : Fn → AV → AV → Option β) : onFn (.fn q a c) f = f q a c := rfl
omit [Dealing] in
@[simp] theorem onAgg_agg (l : AV) (f : AV → Option β) : onAgg (.agg l) f = f l := rfl
omit [Dealing] in
@[simp] theorem onTup_tup (l : AV) (f : AV → Option β) : onTup (.tup l) f = f l := rfl
omit [Dealing] in
@[simp] theorem onIfc_ifc (t : Nat) (w : AV) (z : Option β) (f : Nat → AV → Option β) : onIfc (.ifc t w) z f = f t w := rfl
omit [Dealing] in
@[simp] theorem onIfc_inil (z : Option β) (f : Nat → AV → Option β) : onIfc .inil z f = z := rfl
omit [Dealing] in
@[simp] theorem onMap_mp (r : Nat) (z : Option β) (f : Nat → Option β) : onMap (.mp r) z f = f r := rfl
omit [Dealing] in
@[simp] theorem onMap_mnil (z : Option β) (f : Nat → Option β) : onMap .mnil z f = z := rfl
omit [Dealing] in
@[simp] theorem onCons_cons (h t : AV) (z : Option β) (f : AV → AV → Option β) : onCons (.cons h t) z f = f h t := rfl
omit [Dealing] in
@[simp] theorem onCons_nil (z : Option β) (f : AV → AV → Option β) : onCons .nil z f = z := rfl
end
omit [Dealing] in
@[simp] theorem kEq_same (k : IntKind) : kEq k k = true := kEq_iff.2 rfl
omit [Dealing] in
@[simp] theorem tget_cons (i j : Nat) (v : AV) (l : List (Nat × AV)) : tget i ((j, v) :: l) = if i = j then some v else tget i l := by
  simp only [tget]
  by_cases h : i = j
  · subst h; simp
  · have : Nat.beq i j = false := by
      cases e : Nat.beq i j with
      | false => rfl
      | true => exact absurd (Nat.eq_of_beq_eq_true e) h
    simp [this, h]
omit [Dealing] in
@[simp] theorem tget_nil (i : Nat) : tget i [] = none := rfl
omit [Dealing] in
@[simp] theorem opnd_tmp (i : Nat) (l : List (Nat × AV)) : opnd (.tmp i) (tl l) = tget i l := opnd_tl i l
omit [Dealing] in
@[simp] theorem opnd_const (v : Value) (T : Tr AV) : opnd (.const v) T = ofV v := by
  simp only [opnd, opndK]
  cases ofV v <;> rfl
omit [Dealing] in
@[simp] theorem opnd_func (f : Nat) (T : Tr AV) : opnd (.func f) T = some (.fn (.func f) .nil .nil) := rfl
omit [Dealing] in
@[simp] theorem ofV_int (k : IntKind) (n : Int) : ofV (.int k n) = some (.int k n) := rfl
omit [Dealing] in
@[simp] theorem ofV_bool (b : Bool) : ofV (.bool b) = some (.bool b) := rfl
omit [Dealing] in
@[simp] theorem ofV_snil : ofV (.slice none 0 0) = some .snil := rfl
omit [Dealing] in
@[simp] theorem ofV_pnil : ofV (.pointer none) = some .pnil := rfl
omit [Dealing] in
@[simp] theorem ofV_mnil : ofV (.map none) = some .mnil := rfl
omit [Dealing] in
@[simp] theorem ofV_inil : ofV .nilIface = some .inil := rfl
omit [Dealing] in
@[simp] theorem ofV_fnil : ofV .nilFunc = some .fnil := rfl
omit [Dealing] in
@[simp] theorem opnds_nil (T : Tr AV) : (opnds []).f T = some .nil := rfl
omit [Dealing] in
@[simp] theorem opnds_cons (x : Operand) (r : List Operand) (T : Tr AV) : (opnds (x :: r)).f T = ob (opnd x T) fun v => ob ((opnds r).f T) fun l => some (.cons v l) := rfl
omit [Dealing] in
@[simp] theorem putA_some (l : List (Nat × AV)) (d : Nat) (v : AV) : putA (tl l) (some d) v = tl ((d, v) :: l) := rfl
omit [Dealing] in
@[simp] theorem putA_no (T : Tr AV) (v : AV) : putA T none v = T := rfl
omit [Dealing] in
@[simp] theorem wantA_none (T : Tr AV) : wantA none T = some true := rfl
omit [Dealing] in
@[simp] theorem wantA_some (d : Nat) (w : Bool) (l : List (Nat × AV)) : wantA (some (d, w)) (tl l) = ob (tget d l) fun v => some (oc (onBool v some) false fun b => bEq b w) := by
  simp only [wantA, oc_some, wantG, get_tl]
omit [Dealing] in
def resL : List Nat → List (Nat × AV) → List (Nat × AV)
  | [], _ => []
  | t :: r, l => oc (tget t l) (resL r l) fun v => (t, v) :: resL r l
omit [Dealing] in
@[simp] theorem resT_tl : ∀ (ts : List Nat) (l : List (Nat × AV)), resT ts (tl l) = tl (resL ts l)
  | [], _ => rfl
  | t :: r, l => by
    simp only [resT, get_tl, resL, resT_tl r l]
    cases tget t l <;> rfl
omit [Dealing] in
@[simp] theorem resL_nil (l : List (Nat × AV)) : resL [] l = [] := rfl
omit [Dealing] in
@[simp] theorem resL_cons (t : Nat) (r : List Nat) (l : List (Nat × AV)) : resL (t :: r) l = oc (tget t l) (resL r l) fun v => (t, v) :: resL r l := rfl
omit [Dealing] in
@[simp] theorem runLk_nil (T : Tr AV) (H : AH) : runLk [] T H = some T := rfl
omit [Dealing] in
def lk1 : Option Bool → Option AV → Option Nat → Tr AV → Option (Tr AV)
  | some true, some v, d, T => some (putA T d v)
  | some false, _, d, T => some (putA T d undefA)
  | _, _, _, _ => none
omit [Dealing] in
def nxLk (r : List Lk) (H : AH) : Option (Tr AV) → Option (Tr AV)
  | some T => runLk r T H
  | none => none
omit [Dealing] in
@[simp] theorem lk1_true (v : AV) (d : Option Nat) (T : Tr AV) : lk1 (some true) (some v) d T = some (putA T d v) := rfl
omit [Dealing] in
@[simp] theorem lk1_false (v : Option AV) (d : Option Nat) (T : Tr AV) : lk1 (some false) v d T = some (putA T d undefA) := by cases v <;> rfl
omit [Dealing] in
@[simp] theorem nxLk_some (r : List Lk) (H : AH) (T : Tr AV) : nxLk r H (some T) = runLk r T H := rfl
omit [Dealing] in
@[simp] theorem runLk_cons (k : LK) (d : Option Nat) (g : Option (Nat × Bool)) (r : List Lk) (T : Tr AV) (H : AH) : runLk (⟨k, d, g⟩ :: r) T H = nxLk r H (lk1 (wantA g T) (k.f T H) d T) := by
  show (ob (wantA g T) fun w => ob (lkv ⟨k, d, g⟩ w T H) fun v => runLk r (putA T d v) H) = _
  cases hw : wantA g T with
  | none => cases h : k.f T H <;> rfl
  | some w =>
    rw [ob_some']
    cases w with
    | true =>
      show (ob (k.f T H) fun v => runLk r (putA T d v) H) = _
      cases h : k.f T H with
      | none => rfl
      | some v => rfl
    | false => rw [lk1_false]; rfl
omit [Dealing] in
@[simp] theorem runDk_nil (T : Tr AV) (H : AH) : runDk [] T H = some T := rfl
omit [Dealing] in
@[simp] theorem runDk_cons (ts : List Nat) (k : LK) (d : Option Nat) (g : Option (Nat × Bool)) (r : List Dk) (T : Tr AV) (H : AH) :
    runDk (⟨ts, k, d, g⟩ :: r) T H = ob (wantA g T) fun w => ob (bt w (k.f (resT ts T) H) (some undefA)) fun v => runDk r (putA T d v) H := rfl
omit [Dealing] in
@[simp] theorem lkMove_f (x : Operand) (T : Tr AV) (H : AH) : (lkMove x).f T H = opnd x T := rfl
omit [Dealing] in
@[simp] theorem lkUn_f (g : UK) (x : Operand) (T : Tr AV) (H : AH) : (lkUn g x).f T H = ob (opnd x T) fun v => g.f v := rfl
omit [Dealing] in
@[simp] theorem lkIfc_f (t : Nat) (x : Operand) (T : Tr AV) (H : AH) : (lkIfc t x).f T H = ob (opnd x T) fun v => some (.ifc t v) := rfl
omit [Dealing] in
@[simp] theorem ukNot_f (b : Bool) : ukNot.f (.bool b) = some (.bool (!b)) := by simp [ukNot, bt_not]
omit [Dealing] in
@[simp] theorem ldA_f (k : VK) (a : Operand) (T : Tr AV) (H : AH) : ldA k a T H = ob (opnd a T) fun p => k.f H p := rfl
omit [Dealing] in
@[simp] theorem ld1_ptr (H : AH) (b off : Nat) : ld1 H (.ptr b off) = ob (H.get b) fun o => rdCell o off := rfl
omit [Dealing] in
@[simp] theorem ldN_ptr (n : Nat) (H : AH) (b off : Nat) : ldN n H (.ptr b off) = ob (H.get b) fun o => ob (rdCells o n off) fun l => some (.agg l) := rfl
omit [Dealing] in
@[simp] theorem fAddr_f (x : Operand) (off : Nat) (T : Tr AV) (H : AH) : fAddr x off T H = ob (opnd x T) fun v => onPtr v fun b o => some (.ptr b (o + off)) := rfl
omit [Dealing] in
@[simp] theorem fVal_f (k : PK) (off : Nat) (x : Operand) (T : Tr AV) (H : AH) : fVal k off x T H = ob (opnd x T) fun v => onAgg v fun cs => k.f off cs := rfl
omit [Dealing] in
@[simp] theorem nilChk_f (E : Env) (x : Operand) (T : Tr AV) (H : AH) : nilChk E x T H = ob (opnd x T) fun v => nilPtr E v := rfl
omit [Dealing] in
@[simp] theorem nilPtr_ptr (E : Env) (b o : Nat) : nilPtr E (.ptr b o) = some (.ptr b o) := rfl
omit [Dealing] in
@[simp] theorem nilPtr_func (E : Env) (f : Nat) (a c : AV) : nilPtr E (.fn (.func f) a c) = some (.fn (.func f) a c) := rfl
omit [Dealing] in
@[simp] theorem nilPtr_yield (E : Env) (l : Nat) (a c : AV) : nilPtr E (.fn (.yield l) a c) = some (.fn (.yield l) a c) := rfl
omit [Dealing] in
@[simp] theorem nilPtr_ifc (E : Env) (t : Nat) (v : AV) : nilPtr E (.ifc t v) = some (.ifc t v) := rfl
omit [Dealing] in
@[simp] theorem binInt_f (g : AK) (x y : Operand) (T : Tr AV) (H : AH) : binInt g x y T H = ob (opnd x T) fun a => ob (opnd y T) fun b => onInt a fun k m => onInt b fun l n => bt (kEq k l) (g.f k m n) none := rfl
omit [Dealing] in
@[simp] theorem akAdd_i64 {x y : Int} (h1 : -9223372036854775808 ≤ x + y) (h2 : x + y < 9223372036854775808) : akAdd.f .i64 x y = some (.int .i64 (x + y)) := by
  show mkInt .i64 (addI x y) = _; rw [addI_eq, mkInt_i64 h1 h2]
omit [Dealing] in
@[simp] theorem akSub_i64 {x y : Int} (h1 : -9223372036854775808 ≤ x - y) (h2 : x - y < 9223372036854775808) : akSub.f .i64 x y = some (.int .i64 (x - y)) := by
  show mkInt .i64 (subI x y) = _; rw [subI_eq, mkInt_i64 h1 h2]
omit [Dealing] in
@[simp] theorem akAdd_u8 (x y : Int) : akAdd.f .u8 x y = some (.int .u8 ((x + y) % 256)) := by show mkInt .u8 (addI x y) = _; rw [addI_eq, mkInt_u8]
omit [Dealing] in
@[simp] theorem akSub_u8 (x y : Int) : akSub.f .u8 x y = some (.int .u8 ((x - y) % 256)) := by show mkInt .u8 (subI x y) = _; rw [subI_eq, mkInt_u8]
omit [Dealing] in
@[simp] theorem akEql_f (k : IntKind) (x y : Int) : akEql.f k x y = some (.bool (decide (x = y))) := by show some (AV.bool (eqI x y)) = _; rw [eqI_dec]
omit [Dealing] in
@[simp] theorem akNeq_f (k : IntKind) (x y : Int) : akNeq.f k x y = some (.bool (!decide (x = y))) := by show some (AV.bool (bt (eqI x y) false true)) = _; rw [eqI_dec, bt_not]
omit [Dealing] in
@[simp] theorem akLss_f (k : IntKind) (x y : Int) : akLss.f k x y = some (.bool (decide (x < y))) := by show some (AV.bool (ltI x y)) = _; rw [ltI_dec]
omit [Dealing] in
@[simp] theorem akGtr_f (k : IntKind) (x y : Int) : akGtr.f k x y = some (.bool (decide (y < x))) := by show some (AV.bool (ltI y x)) = _; rw [ltI_dec]
omit [Dealing] in
@[simp] theorem akLeq_f (k : IntKind) (x y : Int) : akLeq.f k x y = some (.bool (!decide (y < x))) := by show some (AV.bool (bt (ltI y x) false true)) = _; rw [ltI_dec, bt_not]
omit [Dealing] in
@[simp] theorem akGeq_f (k : IntKind) (x y : Int) : akGeq.f k x y = some (.bool (!decide (x < y))) := by show some (AV.bool (bt (ltI x y) false true)) = _; rw [ltI_dec, bt_not]
omit [Dealing] in
@[simp] theorem cvInt_f (k : IntKind) (x : Operand) (T : Tr AV) (H : AH) : cvInt k x T H = ob (opnd x T) fun v => onInt v fun _ n => mkInt k n := rfl
omit [Dealing] in
@[simp] theorem natOf_cast (k : IntKind) (n : Nat) : natOf (.int k (n : Int)) = some n := rfl
omit [Dealing] in
@[simp] theorem natOf_lit (k : IntKind) (n : Nat) : natOf (.int k (OfNat.ofNat n : Int)) = some (OfNat.ofNat n) := rfl
omit [Dealing] in
@[simp] theorem natOf_zero (k : IntKind) : natOf (.int k 0) = some 0 := rfl
omit [Dealing] in
@[simp] theorem natOf_one (k : IntKind) : natOf (.int k 1) = some 1 := rfl
omit [Dealing] in
@[simp] theorem natOf_add (k : IntKind) (a b : Nat) : natOf (.int k ((a : Int) + (b : Int))) = some (a + b) := rfl
omit [Dealing] in
@[simp] theorem natOf_addL (k : IntKind) (a n : Nat) : natOf (.int k ((a : Int) + no_index (OfNat.ofNat n : Int))) = some (a + OfNat.ofNat n) := rfl
omit [Dealing] in
@[simp] theorem natOf_add1 (k : IntKind) (a : Nat) : natOf (.int k ((a : Int) + 1)) = some (a + 1) := rfl
omit [Dealing] in
@[simp] theorem pickA_f (c a b : Operand) (T : Tr AV) (H : AH) : pickA c a b T H = ob (opnd c T) fun v => onBool v fun t => bt t (opnd a T) (opnd b T) := rfl
omit [Dealing] in
@[simp] theorem lenSl_f (x : Operand) (T : Tr AV) (H : AH) : lenSl x T H = ob (opnd x T) fun v => onSl v (some (.int .i64 0)) fun _ _ n _ => some (.int .i64 (n : Int)) := rfl
omit [Dealing] in
@[simp] theorem lenStr_f (x : Operand) (T : Tr AV) (H : AH) : lenStr x T H = ob (opnd x T) fun v => onStr v fun n _ => some (.int .i64 (n : Int)) := rfl
omit [Dealing] in
@[simp] theorem exA_f (x : Operand) (i : Nat) (T : Tr AV) (H : AH) : exA x i T H = ob (opnd x T) fun v => onTup v fun vs => AV.nth i vs := rfl
omit [Dealing] in
@[simp] theorem nth_zero (h t : AV) : AV.nth 0 (.cons h t) = some h := rfl
omit [Dealing] in
@[simp] theorem nth_succ (i : Nat) (h t : AV) : AV.nth (i + 1) (.cons h t) = AV.nth i t := rfl
omit [Dealing] in
@[simp] theorem ixSl_f (es : Nat) (x i : Operand) (T : Tr AV) (H : AH) : ixSl es x i T H = ob (opnd x T) fun v => ob (opnd i T) fun i => onSl v none fun b off len _ => ob (natOf i) fun j => bt (Nat.blt j len) (some (.ptr b (off + j * es))) none := rfl
omit [Dealing] in
@[simp] theorem blt_true {a b : Nat} (h : a < b) : Nat.blt a b = true := by simpa [Nat.blt_eq] using h
omit [Dealing] in
@[simp] theorem ble_true {a b : Nat} (h : a ≤ b) : Nat.ble a b = true := Nat.ble_eq_true_of_le h
omit [Dealing] in
@[simp] theorem deferA_nil (R : Rec) (H : AH) : deferA R [] H = some H := rfl
omit [Dealing] in
def re1 (t : Nat) : ReK := ⟨fun T _ => ob (opnd (.tmp t) T) fun v => ob (some .nil) fun l => some (.cons v l)⟩
omit [Dealing] in
def reNil : ReK := ⟨fun _ _ => some .nil⟩
omit [Dealing] in
def reTmp (t : Nat) (k : ReK) : ReK := ⟨fun T H => ob (opnd (.tmp t) T) fun v => ob (k.f T H) fun l => some (.cons v l)⟩
omit [Dealing] in
def reCell (ld : VK) (a : Nat) (k : ReK) : ReK := ⟨fun T H => ob (opnd (.tmp a) T) fun p => ob (ld.f H p) fun v => ob (k.f T H) fun l => some (.cons v l)⟩
omit [Dealing] in
@[simp] theorem reNil_f (T : Tr AV) (H : AH) : reNil.f T H = some .nil := rfl
omit [Dealing] in
@[simp] theorem reTmp_f (t : Nat) (k : ReK) (T : Tr AV) (H : AH) : (reTmp t k).f T H = ob (opnd (.tmp t) T) fun v => ob (k.f T H) fun l => some (.cons v l) := rfl
omit [Dealing] in
@[simp] theorem reCell_f (ld : VK) (a : Nat) (k : ReK) (T : Tr AV) (H : AH) : (reCell ld a k).f T H = ob (opnd (.tmp a) T) fun p => ob (ld.f H p) fun v => ob (k.f T H) fun l => some (.cons v l) := rfl
omit [Dealing] in
@[simp] theorem argsT_cons (v r : AV) (i : Nat) (l : List (Nat × AV)) : argsT (.cons v r) i (tl l) = argsT r (i + 1) (tl ((i, v) :: l)) := rfl
omit [Dealing] in
@[simp] theorem argsT_nil (i : Nat) (T : Tr AV) : argsT .nil i T = T := rfl
end
end Go.Xq
namespace Go.Xq
variable [Dealing]
noncomputable section
section
variable {P : Program} {E : Env} {b : Frame} {n : Cx} {T T2 : Tr AV} {D D2 : List ADf} {H H2 : AH} {Q Q' : Out → Prop} {its its2 : List Item}
end
omit [Dealing] in
def bb (e : Nat) (o : Bool) (l : List UInt8) : AObj := .bys e l.length o (leNat l)
omit [Dealing] in
def sb (l : List UInt8) : AV := .str l.length (leNat l)
omit [Dealing] in
theorem sEq_sb (a b : List UInt8) : sEq a.length (leNat a) b.length (leNat b) = decide (a = b) := by
  unfold sEq
  by_cases hl : a.length = b.length
  · rw [hl, Nat.beq_refl, bt_true]
    by_cases h : a = b
    · subst h; simp
    · rw [decide_eq_false h]
      cases e : Nat.beq (leNat a) (leNat b) with
      | false => rfl
      | true => exact absurd (leNat_inj hl (Nat.eq_of_beq_eq_true e)) h
  · have : Nat.beq a.length b.length = false := by
      cases e : Nat.beq a.length b.length with
      | false => rfl
      | true => exact absurd (Nat.eq_of_beq_eq_true e) hl
    rw [this, bt_false]
    exact (decide_eq_false fun e => hl (by rw [e])).symm
end
end Go.Xq
namespace Go.Xq
variable [Dealing]
noncomputable section
section
variable {P : Program} {E : Env} (hE : TyOk P E) {o : Oper}
include hE
end
end
end Go.Xq
namespace Go.Xq
variable [Dealing]
noncomputable section
def AR (P : Program) (l : Nat) (args : AV) (H : AH) (Q : AV → AH → Prop) : Prop :=
  ∀ m w vs i, Rel m H w → VL m args vs → m l = some i → ∃ f tmps a b, (Instr.yield i.blk vs.toArray).run P w = .ok (.round i.blk f tmps a b) w ∧ XR P i.blk f tmps a b w fun v' w' => ∃ v H2, Q v H2 ∧ Post m H w v H2 v' w'
section
variable {P : Program} {E : Env} {b : Frame} {n : Cx} {T T2 : Tr AV} {D D2 : List ADf} {H H2 : AH} {Q Q' : Out → Prop} {its its2 : List Item}
omit [Dealing] in
def EndR (l : Nat) (T : Tr AV) (D : List ADf) (Q : Out → Prop) (H : AH) : Prop :=
  ∃ q, H.get l = some (.loop q) ∧ q.state ≠ .busy ∧ match q.pending with
    | none => Q (.nor T D (H.set l (.loop { q with state := .exhausted })))
    | some c => match c with
      | .ret => Q (.ret T D (H.set l (.loop { q with state := .exhausted })))
      | .exit id => Q (.ext id T D (H.set l (.loop { q with state := .exhausted })))
      | _ => False
omit [Dealing] in
def RndP (l : Nat) (Q : AV → AH → Prop) (jump : Option Code) (D : List ADf) (H : AH) : Prop :=
  D = [] ∧ ∃ q, H.get l = some (.loop q) ∧ Q (.bool jump.isNone) (H.set l (.loop { q with state := if jump.isNone then .ready else .done, pending := jump }))
omit [Dealing] in
def RoundP (l : Nat) (Q : AV → AH → Prop) : Out → Prop
  | .nor _ D H => RndP l Q none D H
  | .ret _ D H => RndP l Q (some .ret) D H
  | .ext id _ D H => RndP l Q (some (.exit id)) D H
  | .bad => False
end
end
end Go.Xq
namespace Go.Xq
noncomputable section
def avl : List AV → AV
  | [] => .nil
  | v :: r => .cons v (avl r)
@[simp] theorem avl_nil : avl [] = .nil := rfl
@[simp] theorem avl_cons (v : AV) (r : List AV) : avl (v :: r) = .cons v (avl r) := rfl
@[simp] theorem len_avl : ∀ l : List AV, AV.len (avl l) = l.length
  | [] => rfl
  | v :: r => by show Nat.succ (AV.len (avl r)) = _; rw [len_avl r]; rfl
section
variable {α : Type} {enc : α → List AV} {e es off : Nat} {op : Bool} {z : AV} {els : List α} {o : AObj}
def RdE (enc : α → List AV) (es off : Nat) (els : List α) (o : AObj) : Prop :=
  ∀ k a, els[k]? = some a → ∀ j v, (enc a)[j]? = some v → rdCell o (off + k * es + j) = some v
def ElB (enc : α → List AV) (e es : Nat) (op : Bool) (z : AV) (els : List α) (o : AObj) : Prop :=
  ∃ t, o = .cs e es (els.length * es) op z t ∧ RdE enc es 0 els o
end
def BytesAt (o : AObj) (off : Nat) (l : List UInt8) : Prop := ∀ i b, l[i]? = some b → rdCell o (off + i) = some (.int .u8 (b.toNat : Int))
def RdS (H : AH) (v : AV) (l : List UInt8) : Prop :=
  (v = .snil ∧ l = []) ∨ ∃ b off cap, v = .sl b off l.length cap ∧ (l ≠ [] → b < H.next ∧ ∃ o, H.get b = some o ∧ BytesAt o off l)
end
end Go.Xq
namespace Go.Xq
variable [Dealing]
noncomputable section
def DC (P : Program) (kind : CallKind) (f : Nat) (args : AV) (H : AH) (Q : AV → AH → Prop) : Prop :=
  ∃ v H2, Q v H2 ∧ AC P kind f args H fun v' H' => v' = v ∧ H' = H2
def WD (P : Program) (b : Frame) (n : Cx) (its : List Item) (T : Tr AV) (D : List ADf) (H : AH) (Q : Out → Prop) : Prop :=
  ∃ o, Q o ∧ WP P b n its T D H fun o' => o' = o
def WDO (P : Program) (b : Frame) (n : Cx) (ops : Array Oper) (r : List Oper) (T : Tr AV) (D : List ADf) (H : AH) (Q : Out → Prop) : Prop :=
  ∃ o, Q o ∧ WPO P b n ops r T D H fun o' => o' = o
section
variable {P : Program} {E : Env} {b : Frame} {n : Cx} {T T2 : Tr AV} {D D2 : List ADf} {H H2 : AH} {Q Q' : Out → Prop} {its its2 : List Item}
omit [Dealing] in
def rec0 : Rec := { call := fun _ _ _ => none, dcall := fun _ _ _ => none, round := fun _ _ _ => none }
end
end
end Go.Xq
namespace Go.Xq
variable [Dealing]
noncomputable section
omit [Dealing] in
structure DI where
  ts : List Nat
  act : Kd
  dst : Option Nat
  g : Option (Nat × Bool)
  lo : Nat
  cnt : Nat
  pu : Bool
  hv : Bool
omit [Dealing] in
def diOf (x : RO) : DI := ⟨looksA x, x.sp.act, x.sp.dst, x.sp.g, x.lo, Nat.add (Nat.sub x.hi x.lo) 1, pureK x.o.op, x.heavy⟩
omit [Dealing] in
def disOf (E : Env) (n : Nat) (ops : List Oper) : Option (List DI) := ob (analyse E n ops) fun a => some (a.ord.map diOf)
omit [Dealing] in
def atAll (p : AH → Prop) : Nat → Nat → List AH → Prop
  | 0, 0, _ => True
  | 0, _ + 1, [] => False
  | 0, c + 1, h :: r => p h ∧ atAll p 0 c r
  | _ + 1, _, [] => False
  | lo + 1, c, _ :: r => atAll p lo c r
omit [Dealing] in
def plainB : AObj → Prop
  | .bys .. | .cs .. => True
  | _ => False
omit [Dealing] in
def diAct (R : Rec) (x : DI) (T : Tr AV) (H : AH) (hs : List AH) (chk : List AH → Prop) (rest : Tr AV → AH → List AH → (List AH → Prop) → Prop) : Kd → Prop
  | .look k => oc (k.f (resT x.ts T) H) False fun v => rest (putA T x.dst v) H hs (bt x.pu chk (fun l => chk l ∧ atAll (fun h => k.f (resT x.ts T) h = some v) x.lo x.cnt l))
  | .heavy k => ∃ v H2, k.f R (resT x.ts T) H = some (v, H2) ∧ H.next ≤ H2.next ∧ rest (putA T x.dst v) H2 (H :: hs) chk
  | .fresh k => oc (k.f (resT x.ts T) H.next) False fun p => rest (putA T x.dst p.1) (H.new p.2) hs (fun l => chk l ∧ plainB p.2 ∧ atAll (fun h => h.get H.next = some p.2) x.lo x.cnt l)
  | _ => False
omit [Dealing] in
def DiRun (R : Rec) (K : Tr AV → AH → Prop) : List DI → Tr AV → AH → List AH → (List AH → Prop) → Prop
  | [], T, H, hs, chk => chk ((H :: hs).reverse) ∧ K T H
  | x :: r, T, H, hs, chk => oc (wantA x.g T) False fun w => bt w (diAct R x T H hs chk (fun T H hs chk => DiRun R K r T H hs chk) x.act)
      (DiRun R K r (putA T x.dst undefA) H (bt x.hv (H :: hs) hs) chk)
def specR (P : Program) (S : Nat → AV → AH → AV → AH → Prop) : Rec :=
  { call := fun g l H => open Classical in if h : DC P .normal g l H (S g l H) then some (h.choose, h.choose_spec.choose) else none, dcall := fun _ _ _ => none, round := fun _ _ _ => none }
section
variable {P : Program} {E : Env} {b : Frame} {n : Cx} {T : Tr AV} {D : List ADf} {H : AH} {Q : Out → Prop}
end
end
end Go.Xq
namespace Go.Xq
noncomputable section
def Keep (S : Nat → Prop) (H H2 : AH) : Prop := H.next ≤ H2.next ∧ ∀ b, b < H.next → ¬ S b → H2.get b = H.get b
def noB : Nat → Prop := fun _ => False
@[simp] theorem get_new_same (H : AH) (o : AObj) : (H.new o).get H.next = some o := by rw [AH.get_new, if_pos rfl]
@[simp] theorem get_set_same (H : AH) (b : Nat) (o : AObj) : (H.set b o).get b = some o := by rw [AH.get_set, if_pos rfl]
def blk : AV → Option Nat
  | .sl b _ _ _ => some b
  | _ => none
section
variable {H : AH} {e : Nat} {s x : AV} {k l : List UInt8}
end
section
variable {α : Type} {enc : α → List AV} {e es : Nat} {op : Bool} {z : AV} {els : List α} {o : AObj} {H : AH}
variable {bx ox cx : Nat} {ccap : Option Nat} {a : α}
def One (enc : α → List AV) (es : Nat) (H : AH) (x : AV) (a : α) : Prop := ∃ b off cap o, x = .sl b off 1 cap ∧ H.get b = some o ∧ RdE enc es off [a] o
end
end
end Go.Xq
namespace Go.Xq
noncomputable section
@[simp] theorem binEq_f (k : EK) (neg : Bool) (x y : Operand) (T : Tr AV) (H : AH) : binEq k neg x y T H = ob (opnd x T) fun a => ob (opnd y T) fun b => ob (k.f H a b) fun r => some (.bool (bt neg (bt r false true) r)) := rfl
@[simp] theorem binStr_f (g : SK) (x y : Operand) (T : Tr AV) (H : AH) : binStr g x y T H = ob (opnd x T) fun a => ob (opnd y T) fun b => onStr a fun k m => onStr b fun l n => g.f k m l n := rfl
@[simp] theorem eqBool_f (H : AH) (a b : Bool) : eqBool H (.bool a) (.bool b) = some (a == b) := by cases a <;> cases b <;> rfl
@[simp] theorem ofV_str (a : Array UInt8) : ofV (.string ⟨a⟩) = some (sb a.toList) := rfl
@[simp] theorem onStr_sb {β : Type} (l : List UInt8) (f : Nat → Nat → Option β) : onStr (sb l) f = f l.length (leNat l) := rfl
@[simp] theorem skEql_f (a b : List UInt8) : skEql.f a.length (leNat a) b.length (leNat b) = some (.bool (decide (a = b))) := by show some (AV.bool (sEq _ _ _ _)) = _; rw [sEq_sb]
@[simp] theorem skNeq_f (a b : List UInt8) : skNeq.f a.length (leNat a) b.length (leNat b) = some (.bool (!decide (a = b))) := by show some (AV.bool (bt (sEq _ _ _ _) false true)) = _; rw [sEq_sb, bt_not]
@[simp] theorem cvStr_f (x : Operand) (T : Tr AV) (H : AH) : cvStr x T H = ob (opnd x T) fun v => onSl v (some (.str 0 0)) fun b off len _ => ob (bytesSl H b off len) fun r => some (.str r.1 r.2) := rfl
@[simp] theorem quoA_i64 {x y : Int} (h0 : 0 ≤ x) (h1 : x < 9223372036854775808) (hy : 0 < y) : quoA .i64 x y = some (.int .i64 (x / y)) := by
  unfold quoA
  have : eqI y 0 = false := by rw [eqI_dec, decide_eq_false (by omega)]
  have h2 : x / y ≤ x := Int.ediv_le_self y h0
  have h3 : 0 ≤ x / y := Int.ediv_nonneg h0 (by omega)
  rw [this, bt_false, Int.tdiv_eq_ediv_of_nonneg h0, mkInt_i64 (by omega) (by omega)]
@[simp] theorem mkInt_u8' (n : Int) : mkInt .u8 n = some (.int .u8 (n % 256)) := mkInt_u8 n
@[simp] theorem buildA_f (z : AV) (k : FlK) (T : Tr AV) (H : AH) : buildA z k T H = ob (k.f T z) fun l => some (.agg l) := rfl
@[simp] theorem flEnd_f (T : Tr AV) (z : AV) : flEnd.f T z = some z := rfl
@[simp] theorem fill1_f (x : Operand) (off size : Nat) (nx : FlK) (T : Tr AV) (cells : AV) : fill1 x off size nx T cells =
    ob (opnd x T) fun v => bt (Nat.beq (AV.len (cellsA v)) size) (bt (Nat.ble (Nat.add off size) (AV.len cells)) (nx.f T (AV.over off cells (cellsA v))) none) none := rfl
@[simp] theorem cellsA_int (k : IntKind) (n : Int) : cellsA (.int k n) = .cons (.int k n) .nil := rfl
@[simp] theorem cellsA_bool (b : Bool) : cellsA (.bool b) = .cons (.bool b) .nil := rfl
@[simp] theorem cellsA_sb (l : List UInt8) : cellsA (sb l) = .cons (sb l) .nil := rfl
@[simp] theorem cellsA_snil : cellsA .snil = .cons .snil .nil := rfl
@[simp] theorem cellsA_sl (b o n : Nat) (c : Option Nat) : cellsA (.sl b o n c) = .cons (.sl b o n c) .nil := rfl
@[simp] theorem cellsA_agg (l : AV) : cellsA (.agg l) = l := rfl
@[simp] theorem AVlen_cons (a b : AV) : AV.len (.cons a b) = AV.len b + 1 := rfl
@[simp] theorem AVlen_nil : AV.len .nil = 0 := rfl
@[simp] theorem AVover_zero (l vs : AV) : AV.over 0 l vs = AV.over0 vs l := rfl
@[simp] theorem AVover0_cons (v vs h t : AV) : AV.over0 (.cons v vs) (.cons h t) = .cons v (AV.over0 vs t) := rfl
@[simp] theorem AVover0_nil (l : AV) : AV.over0 .nil l = l := by cases l <;> rfl
@[simp] theorem AVover_succ (n : Nat) (h t vs : AV) : AV.over (n + 1) (.cons h t) vs = .cons h (AV.over n t vs) := rfl
@[simp] theorem frBox_f (k : BK) (x : Operand) (T : Tr AV) (b0 : Nat) : frBox k x T b0 = ob (opnd x T) fun v => ob (k.f false (cellsA v)) fun b => some (.ptr b0 0, b) := rfl
@[simp] theorem frAlloc_f (b : AObj) (T : Tr AV) (b0 : Nat) : frAlloc b T b0 = some (.ptr b0 0, b) := rfl
@[simp] theorem frSlice_f (n : Nat) (z : AV) (g : FlK) (k : BK) (T : Tr AV) (b0 : Nat) : frSlice n z g k T b0 = ob (g.f T z) fun l => ob (k.f false l) fun b => some (.sl b0 0 n (some n), b) := rfl
@[simp] theorem zerosA_zero (z : AV) : zerosA z 0 = .nil := rfl
@[simp] theorem zerosA_succ (z : AV) (n : Nat) : zerosA z (n + 1) = AV.app z (zerosA z n) := rfl
@[simp] theorem AVapp_cons (h t r : AV) : AV.app (.cons h t) r = .cons h (AV.app t r) := rfl
@[simp] theorem AVapp_nil (r : AV) : AV.app .nil r = r := by cases r <;> rfl
@[simp] theorem hvStore_f (k : WK) (a x : Operand) (R : Rec) (T : Tr AV) (H : AH) : hvStore k a x R T H = ob (opnd a T) fun a => ob (opnd x T) fun v => ob (k.f H v a) fun H' => some (undefA, H') := rfl
@[simp] theorem hvAppend_f (g : GK) (es : Nat) (s x : Operand) (R : Rec) (T : Tr AV) (H : AH) : hvAppend g es s x R T H = ob (opnd s T) fun s => ob (opnd x T) fun x => appendA g es H s x := rfl
@[simp] theorem hvCopy_f (es : Nat) (d s : Operand) (R : Rec) (T : Tr AV) (H : AH) : hvCopy es d s R T H = ob (opnd d T) fun d => ob (opnd s T) fun s => copyA H es d s := rfl
section
variable {α : Type} {enc : α → List AV} {e es : Nat} {op : Bool} {z : AV} {els : List α} {o : AObj} {H : AH}
end
@[simp] theorem makeFn_f (f : Fn) (a c : LsK) (T : Tr AV) (H : AH) : makeFn f a c T H = ob (a.f T) fun a => ob (c.f T) fun c => some (.fn f a c) := rfl
@[simp] theorem bOut_nor (id : Nat) (T : Tr AV) (D : List ADf) (H : AH) : bOut id (.nor T D H) = .nor T D H := rfl
@[simp] theorem bOut_ret (id : Nat) (T : Tr AV) (D : List ADf) (H : AH) : bOut id (.ret T D H) = .ret T D H := rfl
@[simp] theorem bOut_ext (id : Nat) (T : Tr AV) (D : List ADf) (H : AH) : bOut id (.ext id T D H) = .nor T D H := by
  show bt (Nat.beq id id) _ _ = _
  rw [Nat.beq_refl, bt_true]
@[simp] theorem bEq_f (a b : Bool) : bEq a b = (a == b) := by cases a <;> cases b <;> rfl
def slA (es n : Nat) (v : AV) (H : AH) : Option AV := onSl v (ob (boundsA 0 (some 0) 0 none (some n) none) fun _ => some .snil) fun b off len cap =>
    ob (oc cap (roomOf H b off len es) some) fun room => ob (boundsA len cap room none (some n) none) fun r =>
    some (.sl b (offOf r.2.2 off r.1 es) (Nat.sub r.2.1 r.1) (capLess r.2.2 r.1))
@[simp] theorem slSl_f (es : Nat) (x h : Operand) (T : Tr AV) (H : AH) : slSl es x none (some h) none T H = ob (opnd h T) fun hv => ob (natOf hv) fun n => ob (opnd x T) fun v => slA es n v H := by
  unfold slSl
  simp only [optNat, ob_some']
  cases opnd h T with
  | none => rfl
  | some hv =>
    rw [ob_some', ob_some']
    cases natOf hv with
    | none => rfl
    | some n => rfl
@[simp] theorem slA_sl {es b off len m n : Nat} {H : AH} (hn : n ≤ m) : slA es n (.sl b off len (some m)) H = some (.sl b off n (some m)) := by
  unfold slA
  simp only [onSl_sl, oc_some, ob_some']
  have : boundsA len (some m) m none (some n) none = some (0, n, some m) := by
    show bt (Nat.ble n m) (bt (Nat.ble 0 n) (some (0, n, some m)) none) none = _
    rw [ble_true hn, bt_true, ble_true (Nat.zero_le _), bt_true]
  rw [this, ob_some']
  show some (AV.sl b (bt (Nat.beq m 0) off (off + 0 * es)) (n - 0) (some (m - 0))) = _
  rw [Nat.zero_mul, Nat.add_zero, Nat.sub_zero, Nat.sub_zero]
  cases Nat.beq m 0 <;> rfl
end
end Go.Xq
namespace Go.Xq
open Go.Conc
structure MOk (m : Ren) (nx : Nat) (w : World) : Prop where
  inj : ∀ b b' i i', m b = some i → m b' = some i' → i.blk = i'.blk → b = b'
  bnd : ∀ b i, m b = some i → b < nx ∧ i.blk < w.heap.size
  glob : ∀ g, g < ngl → ∃ i, m g = some i ∧ i.blk = g ∧ i.base = 0
structure Blk where
  b : Nat
  x : Obj
  f : Nat → Option AV
def LayOk (m : Ren) (w : World) : List Blk → Prop
  | [] => True
  | q :: l => (∃ i, m q.b = some i ∧ w.heap[i.blk]? = some q.x ∧ OR m q.x (.ro q.x q.f) i) ∧ LayOk m w l
noncomputable def layH (nx : Nat) (l : List Blk) : AH := ahOf nx (l.map fun q => (q.b, .ro q.x q.f))
section
variable {m : Ren} {nx : Nat} {w w2 : World}
theorem MOk.size (h : MOk m nx w) (hs : w.heap.size ≤ w2.heap.size) : MOk m nx w2 := ⟨h.inj, fun b i hb => ⟨(h.bnd b i hb).1, Nat.lt_of_lt_of_le (h.bnd b i hb).2 hs⟩, h.glob⟩
theorem MOk.le_ext (h : MOk m nx w) (i : BI) : Le m (m.ext nx i) := fun b j hb => by
  rw [Ren.ext_ne _ _ (by have := (h.bnd b j hb).1; omega)]
  exact hb
theorem MOk.ext (h : MOk m nx w) {w1 : World} (hs : w.heap.size ≤ w1.heap.size) (o : Obj) (sz es : Nat) : MOk (m.ext nx ⟨w1.heap.size, 0, sz, es⟩) (nx + 1) { w1 with heap := w1.heap.push o } := by
  refine ⟨fun b b' i i' h1 h2 e => ?_, fun b i hb => ?_, fun g hg => ?_⟩
  · by_cases e1 : b = nx
    · by_cases e2 : b' = nx
      · rw [e1, e2]
      · subst e1
        rw [Ren.ext_same] at h1; cases h1
        rw [Ren.ext_ne _ _ e2] at h2
        have := (h.bnd _ _ h2).2
        simp only at e; omega
    · rw [Ren.ext_ne _ _ e1] at h1
      by_cases e2 : b' = nx
      · subst e2
        rw [Ren.ext_same] at h2; cases h2
        have := (h.bnd _ _ h1).2
        simp only at e; omega
      · rw [Ren.ext_ne _ _ e2] at h2
        exact h.inj b b' i i' h1 h2 e
  · by_cases e1 : b = nx
    · subst e1
      rw [Ren.ext_same] at hb; cases hb
      exact ⟨by omega, by simp⟩
    · rw [Ren.ext_ne _ _ e1] at hb
      have := h.bnd b i hb
      exact ⟨by omega, by simp; omega⟩
  · obtain ⟨i, h1, h2⟩ := h.glob g hg
    exact ⟨i, h.le_ext _ g i h1, h2⟩
theorem LayOk.mem : ∀ {l : List Blk}, LayOk m w l → ∀ q ∈ l, ∃ i, m q.b = some i ∧ w.heap[i.blk]? = some q.x ∧ OR m q.x (.ro q.x q.f) i
  | [], _, q, hq => by cases hq
  | p :: l, h, q, hq => by
    rcases List.mem_cons.1 hq with rfl | hq
    · exact h.1
    · exact LayOk.mem h.2 q hq
theorem layH_mem {l : List Blk} {b : Nat} {o : AObj} (h : (layH nx l).get b = some o) : ∃ q ∈ l, b = q.b ∧ o = .ro q.x q.f := by
  have := ahOf_mem _ _ _ _ h
  obtain ⟨q, h1, h2⟩ := List.mem_map.1 this
  simp only [Prod.mk.injEq] at h2
  exact ⟨q, h1, h2.1.symm, h2.2.symm⟩
theorem layH_ro (l : List Blk) : ∀ b o, (layH nx l).get b = some o → ∃ x f, o = .ro x f := fun b o h => by
  obtain ⟨q, _, _, rfl⟩ := layH_mem h
  exact ⟨_, _, rfl⟩
theorem rel_lay (hm : MOk m nx w) {l : List Blk} (h : LayOk m w l) : Rel m (layH nx l) w := by
  refine ⟨fun b o hb i hi => ?_, fun b b' o o' i i' _ _ h1 h2 e => hm.inj b b' i i' h1 h2 e, fun b i hb => ?_, hm.glob⟩
  · obtain ⟨q, h1, rfl, rfl⟩ := layH_mem hb
    obtain ⟨j, e1, e2, e3⟩ := h.mem q h1
    rw [hi] at e1; cases e1
    exact ⟨_, e2, e3⟩
  · rw [show (layH nx l).next = nx from ahOf_next _ _]
    exact hm.bnd b i hb
def oneF (v : AV) : Nat → Option AV := fun k => if k = 0 then some v else none
theorem or_one {x : Value} {e : TypeId} {fr : Nat × Nat} {v : AV} {i : BI} (hb : i.base = 0) (h : VR m v x) : OR m (.cells #[x] e fr) (.ro (.cells #[x] e fr) (oneF v)) i :=
  .ro _ _ _ _ _ fun k u hk => by
    unfold oneF at hk
    split at hk
    · rename_i e; subst e; cases hk
      exact ⟨x, by rw [hb]; rfl, h⟩
    · cases hk
def vOf (m : Ren) : AV → Option Value
  | .int k x => some (.int k x)
  | .bool b => some (.bool b)
  | .ptr b off => (m b).map fun i => .pointer (some ⟨i.blk, i.base + off, none⟩)
  | .sl b off len (some cap) => if cap = 0 then none else (m b).map fun i => .slice (some ⟨i.blk, i.base + off, none⟩) len cap
  | .snil => some (.slice none 0 0)
  | _ => none
theorem vr_val {a : AV} {v x : Value} (h : VR m a v) (hx : vOf m a = some x) : v = x := by
  unfold vOf at hx
  split at hx
  · cases hx; exact h.int_inv
  · cases hx; exact h.bool_inv
  · obtain ⟨i, h1, rfl⟩ := h.ptr_inv
    rw [h1] at hx; cases hx; rfl
  · split at hx
    · cases hx
    · rename_i hc
      obtain ⟨a, c', rfl, h1, h2⟩ := h.sl_inv
      have e := h1 _ rfl
      subst e
      rcases h2 with ⟨i, g1, rfl, _⟩ | ⟨_, g2, _⟩
      · rw [g1] at hx; cases hx; rfl
      · exact absurd g2 hc
  · cases hx; exact h.snil_inv
  · cases hx
theorem vr_of {a : AV} {x : Value} (hx : vOf m a = some x) : VR m a x := by
  unfold vOf at hx
  split at hx
  · cases hx; exact .int _ _
  · cases hx; exact .bool _
  · rename_i b off
    cases h1 : m b with
    | none => rw [h1] at hx; cases hx
    | some i => rw [h1] at hx; cases hx; exact .ptr _ _ i h1
  · rename_i b off len cap
    split at hx
    · cases hx
    · cases h1 : m b with
      | none => rw [h1] at hx; cases hx
      | some i => rw [h1] at hx; cases hx; exact .sl _ _ _ _ i h1
  · cases hx; exact .snil
  · cases hx
theorem frR_re {n : Nat} {m m2 : Ren} {la lb : List (Nat × AV)} {a : Act} (hf : FrR ⟨n, none, none⟩ m (tl la) [] a) (h : ∀ p ∈ lb, ∃ v x, tget p.1 la = some v ∧ vOf m v = some x ∧ vOf m2 p.2 = some x) : FrR ⟨n, none, none⟩ m2 (tl lb) [] a := by
  refine frR_of hf.t.size (by have := hf.d; generalize a.defers = d at this; cases this; rfl) fun p hp => ?_
  obtain ⟨v, x, h1, h2, h3⟩ := h p hp
  have := hf.t.at_ p.1 v (by rw [get_tl]; exact h1)
  rw [show a.eval (.tmp p.1) = a.tmps.getD p.1 undef from rfl, vr_val this h2]
  exact vr_of h3
theorem frR_val {n : Nat} {m : Ren} {la : List (Nat × AV)} {a : Act} (hf : FrR ⟨n, none, none⟩ m (tl la) [] a) {t : Nat} {v : AV} {x : Value} (h : tget t la = some v) (hx : vOf m v = some x) : a.eval (.tmp t) = x :=
  vr_val (hf.t.at_ t v (by rw [get_tl]; exact h)) hx
theorem FrR.putL {n : Nat} {m : Ren} {la : List (Nat × AV)} {a : Act} (hf : FrR ⟨n, none, none⟩ m (tl la) [] a) {d : Nat} {v : AV} {x : Value} (hd : Nat.blt d n = true) (hv : VR m v x) : FrR ⟨n, none, none⟩ m (tl ((d, v) :: la)) [] (a.put (some d) x) :=
  hf.put (dst := some d) hd hv
theorem frR_dfr {n : Cx} {m : Ren} {T : Tr AV} {a : Act} (hf : FrR n m T [] a) : a.defers = [] := by have := hf.d; generalize a.defers = d at this; cases this; rfl
end
end Go.Xq
namespace Go.Xq
open Go.Conc
section
variable {m : Ren} {H : AH} {w w2 : World}
theorem St.lies_new (hr : Rel m H w) (hl : Lies w w2) {o : AObj} {x : Obj} {i : BI} (h1 : w.heap.size ≤ i.blk) (hx : w2.heap[i.blk]? = some x) (ho : OR (m.ext H.next i) x o i) : St m H w (m.ext H.next i) (H.new o) w2 := by
  have hle : Le m (m.ext H.next i) := hr.le (Ext.ext _ _ _)
  refine ⟨⟨fun b q hb j hj => ?_, fun b b' q q' j j' hb hb' hj hj' e => ?_, fun b j hj => ?_, fun g hg => ?_⟩, Ext.ext _ _ _, by simp, hl.os, hl.output, hl.size, fun k hk _ => hl.all k hk, fun b j hj hb => ?_⟩
  · rw [AH.get_new] at hb
    by_cases e : b = H.next
    · subst e
      rw [if_pos rfl] at hb; cases hb
      rw [Ren.ext_same] at hj; cases hj
      exact ⟨x, hx, ho⟩
    · rw [if_neg e] at hb
      rw [Ren.ext_ne _ _ e] at hj
      obtain ⟨y, e1, e2⟩ := hr.live b q hb j hj
      exact ⟨y, hl.some e1, e2.mono hle⟩
  · rw [AH.get_new] at hb hb'
    by_cases e1 : b = H.next
    · by_cases e2 : b' = H.next
      · rw [e1, e2]
      · subst e1
        rw [Ren.ext_same] at hj; cases hj
        rw [Ren.ext_ne _ _ e2] at hj'
        have := (hr.bnd _ _ hj').2; omega
    · rw [Ren.ext_ne _ _ e1] at hj
      by_cases e2 : b' = H.next
      · subst e2
        rw [Ren.ext_same] at hj'; cases hj'
        have := (hr.bnd _ _ hj).2; omega
      · rw [Ren.ext_ne _ _ e2] at hj'
        rw [if_neg e1] at hb; rw [if_neg e2] at hb'
        exact hr.inj b b' q q' j j' hb hb' hj hj' e
  · by_cases e : b = H.next
    · subst e
      rw [Ren.ext_same] at hj; cases hj
      exact ⟨by simp, (Array.getElem?_eq_some_iff.1 hx).1⟩
    · rw [Ren.ext_ne _ _ e] at hj
      have := hr.bnd b j hj
      exact ⟨by simp; omega, Nat.lt_of_lt_of_le this.2 hl.size⟩
  · obtain ⟨j, e1, e2⟩ := hr.glob g hg
    exact ⟨j, hle g j e1, e2⟩
  · by_cases e : b = H.next
    · subst e
      rw [Ren.ext_same] at hj; cases hj
      exact .inl h1
    · rw [Ren.ext_ne _ _ e] at hj
      rw [AH.get_new, if_neg e] at hb
      exact .inr ⟨b, j, hj, hb, rfl⟩
end
end Go.Xq
