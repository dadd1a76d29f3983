/- Contracts of calls and rules for code. Conditions: in each theorem. -/
import Derived.Test.YtfgipbjaapkdlaaGreatDoorZ2
namespace Go.Xq
noncomputable section
def Keep (S : Nat → Prop) (H H2 : AH) : Prop := H.next ≤ H2.next ∧ ∀ b, b < H.next → ¬ S b → H2.get b = H.get b
def noB : Nat → Prop := fun _ => False
theorem Keep.refl (S : Nat → Prop) (H : AH) : Keep S H H := ⟨Nat.le_refl _, fun _ _ _ => rfl⟩
theorem Keep.trans {S : Nat → Prop} {H H2 H3 : AH} (h : Keep S H H2) (h' : Keep S H2 H3) : Keep S H H3 :=
  ⟨Nat.le_trans h.1 h'.1, fun b hb hs => by rw [h'.2 b (Nat.lt_of_lt_of_le hb h.1) hs, h.2 b hb hs]⟩
theorem Keep.trans' {S S2 : Nat → Prop} {H H2 H3 : AH} (h : Keep S H H2) (h' : Keep S2 H2 H3) (hs : ∀ b, b < H.next → S2 b → S b) : Keep S H H3 :=
  ⟨Nat.le_trans h.1 h'.1, fun b hb hn => by rw [h'.2 b (Nat.lt_of_lt_of_le hb h.1) (fun h2 => hn (hs b hb h2)), h.2 b hb hn]⟩
theorem Keep.mono {S S2 : Nat → Prop} {H H2 : AH} (h : Keep S H H2) (hs : ∀ b, b < H.next → S b → S2 b) : Keep S2 H H2 := ⟨h.1, fun b hb hn => h.2 b hb fun h2 => hn (hs b hb h2)⟩
theorem Keep.new (S : Nat → Prop) (H : AH) (o : AObj) : Keep S H (H.new o) := ⟨by simp, fun b hb _ => by rw [AH.get_new, if_neg (by omega)]⟩
theorem Keep.set {S : Nat → Prop} {H : AH} {b : Nat} (o : AObj) (hs : b < H.next → S b) : Keep S H (H.set b o) :=
  ⟨by simp, fun c hc hn => by
    have : c ≠ b := fun e => by subst e; exact hn (hs hc)
    rw [AH.get_set, if_neg this]⟩
theorem Keep.kill {S : Nat → Prop} {H : AH} {b : Nat} (hs : b < H.next → S b) : Keep S H (H.kill b) :=
  ⟨by simp, fun c hc hn => by
    have : c ≠ b := fun e => by subst e; exact hn (hs hc)
    rw [AH.get_kill, if_neg this]⟩
theorem Keep.get {S : Nat → Prop} {H H2 : AH} (h : Keep S H H2) {b : Nat} {o : AObj} (hb : b < H.next) (hn : ¬ S b) (hg : H.get b = some o) : H2.get b = some o := by rw [h.2 b hb hn]; exact hg
@[simp] theorem get_new_same (H : AH) (o : AObj) : (H.new o).get H.next = some o := by rw [AH.get_new, if_pos rfl]
@[simp] theorem get_set_same (H : AH) (b : Nat) (o : AObj) : (H.set b o).get b = some o := by rw [AH.get_set, if_pos rfl]
def blk : AV → Option Nat
  | .sl b _ _ _ => some b
  | _ => none
theorem RdS.keep {S : Nat → Prop} {H H2 : AH} {v : AV} {l : List UInt8} (h : RdS H v l) (hk : Keep S H H2) (hs : ∀ b, blk v = some b → ¬ S b) : RdS H2 v l := by
  rcases h with h | ⟨b, off, cap, rfl, h⟩
  · exact .inl h
  · refine .inr ⟨b, off, cap, rfl, fun hn => ?_⟩
    obtain ⟨h1, o, h2, h3⟩ := h hn
    exact ⟨Nat.lt_of_lt_of_le h1 hk.1, o, hk.get h1 (hs b rfl) h2, h3⟩
theorem RdS.sl {H : AH} {b off n : Nat} {cap : Option Nat} {l : List UInt8} (hn : n = l.length) (h : l ≠ [] → b < H.next ∧ ∃ o, H.get b = some o ∧ BytesAt o off l) : RdS H (.sl b off n cap) l := by
  subst hn; exact .inr ⟨b, off, cap, rfl, h⟩
theorem RdS.bb {H : AH} {b e n : Nat} {o : Bool} {cap : Option Nat} {l r : List UInt8} (hn : n = l.length) (hb : b < H.next) (h : H.get b = some (bb e o (l ++ r))) : RdS H (.sl b 0 n cap) l :=
  .sl hn fun _ => ⟨hb, _, h, (bytesAt_bb e o (l ++ r)).pre⟩
theorem RdS.bb' {H : AH} {b e n : Nat} {o : Bool} {cap : Option Nat} {l : List UInt8} (hn : n = l.length) (hb : b < H.next) (h : H.get b = some (Xq.bb e o l)) : RdS H (.sl b 0 n cap) l :=
  .sl hn fun _ => ⟨hb, _, h, bytesAt_bb e o l⟩
theorem cellsA_cell {v : AV} (h : isCell v = true) : cellsA v = .cons v .nil := by
  cases v <;> first | rfl | (simp [isCell] at h)
section
variable {H : AH} {e : Nat} {s x : AV} {k l : List UInt8}
theorem shift_bytes (n len : Nat) : Nat.shiftLeft n (Nat.mul 8 len) = 256 ^ len * n := by
  show n <<< (8 * len) = _
  rw [Nat.shiftLeft_eq, show (256 : Nat) = 2 ^ 8 from rfl, ← Nat.pow_mul, Nat.mul_comm]
theorem grownBy_bb (hs : RdS H s k) (hx : RdS H x l) {n m : Nat} (hn : n = k.length) (hm : m = l.length) : grownBy e H s n m x = some (bb e true (k ++ l)) := by
  subst hn hm
  unfold grownBy
  rw [hs.bytesA, hx.bytesA, ob_some', ob_some']
  show some (AObj.bys e (k.length + l.length) true (leNat k + Nat.shiftLeft (leNat l) (Nat.mul 8 k.length))) = _
  rw [shift_bytes, ← leNat_append]
  simp [bb]
theorem appB_snil (hx : RdS H x l) (hl : l ≠ []) (hmax : l.length ≤ 17179869184) : appendA ⟨grownBy e⟩ 1 H .snil x = some (.sl H.next 0 l.length none, H.new (bb e true l)) := by
  unfold appendA
  rw [hx.lengthA, ob_some', ble_true hmax, bt_true]
  cases h : l.length with
  | zero => exact absurd (List.length_eq_zero_iff.1 h) hl
  | succ n =>
    show ob (grownBy e H .snil 0 (n + 1) x) (fun o => some (AV.sl H.next 0 (0 + (n + 1)) none, H.new o)) = _
    rw [grownBy_bb (k := []) (n := 0) (m := n + 1) (.inl ⟨rfl, rfl⟩) hx rfl h.symm, ob_some']
    simp
end
section
variable {α : Type} {enc : α → List AV} {e es : Nat} {op : Bool} {z : AV} {els : List α} {o : AObj} {H : AH}
theorem allCell_avl : ∀ {l : List AV}, (∀ v ∈ l, isCell v = true) → allCell (avl l) = true
  | [], _ => rfl
  | v :: r, h => by
    show bt (isCell v) (allCell (avl r)) false = true
    rw [h v (by simp), bt_true, allCell_avl fun u hu => h u (List.mem_cons_of_mem _ hu)]
theorem firstA_el (hl : ∀ a, (enc a).length = es) {b off n : Nat} {cap : Option Nat} (hb : els ≠ [] → ∃ o, H.get b = some o ∧ RdE enc es off els o) (hn : n = els.length) : firstA H es n (.sl b off n cap) = some (avl (els.flatMap enc)) := by
  subst hn
  cases h : els with
  | nil => rfl
  | cons a r =>
    obtain ⟨o, h1, h2⟩ := hb (by rw [h]; simp)
    rw [← h]
    have e1 : els.length = r.length + 1 := by rw [h]; rfl
    rw [e1]
    show ob (H.get b) (fun o => rdCells o ((r.length + 1) * es) off) = _
    rw [h1, ob_some', ← e1, h2.all hl]
variable {bx ox cx : Nat} {ccap : Option Nat} {a : α}
def One (enc : α → List AV) (es : Nat) (H : AH) (x : AV) (a : α) : Prop := ∃ b off cap o, x = .sl b off 1 cap ∧ H.get b = some o ∧ RdE enc es off [a] o
theorem One.first (hl : ∀ a, (enc a).length = es) {x : AV} (h : One enc es H x a) : firstA H es 1 x = some (avl (enc a)) := by
  obtain ⟨b, off, cap, o, rfl, h1, h2⟩ := h
  have := firstA_el (n := 1) (cap := cap) (els := [a]) hl (fun _ => ⟨o, h1, h2⟩) rfl
  simpa using this
theorem One.len {x : AV} (h : One enc es H x a) : lengthA x = some 1 := by obtain ⟨b, off, cap, o, rfl, _⟩ := h; rfl
theorem grownCs_el (hl : ∀ a, (enc a).length = es) (hc : ∀ v ∈ enc a, isCell v = true) {s x : AV} {n : Nat} (hs : firstA H es n s = some (avl (els.flatMap enc))) (hx : One enc es H x a) :
    ∃ o', grownCs es ⟨mkCs e es z⟩ H s n 1 x = some o' ∧ ElB enc e es true z (els ++ [a]) o' := by
  obtain ⟨o', h1, h2⟩ := ElB.new (e := e) (op := true) (z := z) hl (els ++ [a])
  refine ⟨o', ?_, h2⟩
  unfold grownCs
  rw [hs, ob_some', hx.first hl, ob_some', allCell_avl hc, bt_true, app_avl]
  have : (els ++ [a]).flatMap enc = els.flatMap enc ++ enc a := by simp
  rw [← this]; exact h1
theorem appE_snil (hl : ∀ a, (enc a).length = es) (hc : ∀ v ∈ enc a, isCell v = true) {x : AV} (hx : One enc es H x a) :
    ∃ o', appendA ⟨grownCs es ⟨mkCs e es z⟩⟩ es H .snil x = some (.sl H.next 0 1 none, H.new o') ∧ ElB enc e es true z [a] o' := by
  obtain ⟨o', h1, h2⟩ := grownCs_el (e := e) (z := z) (els := []) (s := .snil) (n := 0) hl hc rfl hx
  refine ⟨o', ?_, h2⟩
  unfold appendA
  rw [hx.len, ob_some', ble_true (by omega), bt_true]
  show ob (grownCs es ⟨mkCs e es z⟩ H .snil 0 1 x) (fun o => some (AV.sl H.next 0 (0 + 1) none, H.new o)) = _
  rw [h1, ob_some']
theorem not_ble {a b : Nat} (h : b < a) : Nat.ble a b = false := by
  cases h' : Nat.ble a b with
  | false => rfl
  | true => have := Nat.le_of_ble_eq_true h'; omega
theorem appE_move (hl : ∀ a, (enc a).length = es) (hes : 0 < es) (hc : ∀ v ∈ enc a, isCell v = true) {x : AV} (hx : One enc es H x a) {b n : Nat} (hn : n = els.length) (hb : H.get b = some o) (ho : ElB enc e es true z els o) (hmax : n + 1 ≤ 17179869184) :
    ∃ o', appendA ⟨grownCs es ⟨mkCs e es z⟩⟩ es H (.sl b 0 n none) x = some (.sl H.next 0 (n + 1) none, (H.kill b).new o') ∧ ElB enc e es true z (els ++ [a]) o' := by
  obtain ⟨t, rfl, hr⟩ := ho
  obtain ⟨o', h1, h2⟩ := grownCs_el (e := e) (z := z) (els := els) (s := .sl b 0 n none) (n := n) hl hc (firstA_el hl (fun _ => ⟨_, hb, hr⟩) hn) hx
  refine ⟨o', ?_, h2⟩
  unfold appendA
  rw [hx.len, ob_some', ble_true (by omega), bt_true]
  show bt (Nat.ble (n + 1) 17179869184) (ob (roomOf H b 0 n es) fun room => bt (Nat.ble (n + 1) room) _ (ob (H.get b) fun o0 => ob (grownCs es ⟨mkCs e es z⟩ H (.sl b 0 n none) n 1 x) fun o => bt (alikeB o0 o) (some (AV.sl H.next 0 (n + 1) none, (H.kill b).new o)) none)) none = _
  have hroom : roomOf H b 0 n es = some n := by
    unfold roomOf
    rw [hb, ob_some']
    show bt (Nat.beq es es) (some (bt true (Nat.max n (Nat.div (Nat.sub (els.length * es) 0) es)) n)) none = _
    rw [Nat.beq_refl, bt_true, bt_true]
    have : Nat.div (Nat.sub (els.length * es) 0) es = n := by
      show (els.length * es - 0) / es = n
      rw [Nat.sub_zero, Nat.mul_div_cancel _ hes, hn]
    rw [this]
    show some (max n n) = _
    simp
  rw [ble_true (by omega), bt_true, hroom, ob_some', not_ble (by omega), bt_false, hb, ob_some', h1, ob_some']
  obtain ⟨t', rfl, _⟩ := h2
  show bt (Nat.beq e e) _ none = _
  rw [Nat.beq_refl, bt_true]
theorem appE_full (hl : ∀ a, (enc a).length = es) (hc : ∀ v ∈ enc a, isCell v = true) {x : AV} (hx : One enc es H x a) {b n off : Nat} (hn : n = els.length) (hb : els ≠ [] → ∃ o, H.get b = some o ∧ RdE enc es off els o) (hmax : n + 1 ≤ 17179869184) :
    ∃ o', appendA ⟨grownCs es ⟨mkCs e es z⟩⟩ es H (.sl b off n (some n)) x = some (.sl H.next 0 (n + 1) none, H.new o') ∧ ElB enc e es true z (els ++ [a]) o' := by
  obtain ⟨o', h1, h2⟩ := grownCs_el (e := e) (z := z) (els := els) (s := .sl b off n (some n)) (n := n) hl hc (firstA_el hl hb hn) hx
  refine ⟨o', ?_, h2⟩
  unfold appendA
  rw [hx.len, ob_some', ble_true (by omega), bt_true]
  show bt (Nat.ble (n + 1) 17179869184) (ob (some n) fun room => bt (Nat.ble (n + 1) room) _ (ob (grownCs es ⟨mkCs e es z⟩ H (.sl b off n (some n)) n 1 x) fun o => some (AV.sl H.next 0 (n + 1) none, H.new o))) none = _
  rw [ble_true (by omega), bt_true, ob_some', not_ble (by omega), bt_false, h1, ob_some']
end
end
end Go.Xq
namespace Go.Xq
noncomputable section
@[simp] theorem binEq_f (k : EK) (neg : Bool) (x y : Operand) (T : Tr AV) (H : AH) : binEq k neg x y T H = ob (opnd x T) fun a => ob (opnd y T) fun b => ob (k.f H a b) fun r => some (.bool (bt neg (bt r false true) r)) := rfl
@[simp] theorem binStr_f (g : SK) (x y : Operand) (T : Tr AV) (H : AH) : binStr g x y T H = ob (opnd x T) fun a => ob (opnd y T) fun b => onStr a fun k m => onStr b fun l n => g.f k m l n := rfl
@[simp] theorem eqBool_f (H : AH) (a b : Bool) : eqBool H (.bool a) (.bool b) = some (a == b) := by cases a <;> cases b <;> rfl
@[simp] theorem ofV_str (a : Array UInt8) : ofV (.string ⟨a⟩) = some (sb a.toList) := rfl
@[simp] theorem onStr_sb {β : Type} (l : List UInt8) (f : Nat → Nat → Option β) : onStr (sb l) f = f l.length (leNat l) := rfl
@[simp] theorem skEql_f (a b : List UInt8) : skEql.f a.length (leNat a) b.length (leNat b) = some (.bool (decide (a = b))) := by show some (AV.bool (sEq _ _ _ _)) = _; rw [sEq_sb]
@[simp] theorem skNeq_f (a b : List UInt8) : skNeq.f a.length (leNat a) b.length (leNat b) = some (.bool (!decide (a = b))) := by show some (AV.bool (bt (sEq _ _ _ _) false true)) = _; rw [sEq_sb, bt_not]
@[simp] theorem cvStr_f (x : Operand) (T : Tr AV) (H : AH) : cvStr x T H = ob (opnd x T) fun v => onSl v (some (.str 0 0)) fun b off len _ => ob (bytesSl H b off len) fun r => some (.str r.1 r.2) := rfl
@[simp] theorem quoA_i64 {x y : Int} (h0 : 0 ≤ x) (h1 : x < 9223372036854775808) (hy : 0 < y) : quoA .i64 x y = some (.int .i64 (x / y)) := by
  unfold quoA
  have : eqI y 0 = false := by rw [eqI_dec, decide_eq_false (by omega)]
  have h2 : x / y ≤ x := Int.ediv_le_self y h0
  have h3 : 0 ≤ x / y := Int.ediv_nonneg h0 (by omega)
  rw [this, bt_false, Int.tdiv_eq_ediv_of_nonneg h0, mkInt_i64 (by omega) (by omega)]
@[simp] theorem mkInt_u8' (n : Int) : mkInt .u8 n = some (.int .u8 (n % 256)) := mkInt_u8 n
theorem u8_of (n : Nat) : ((UInt8.ofNat n).toNat : Int) = (n : Int) % 256 := by simp
@[simp] theorem buildA_f (z : AV) (k : FlK) (T : Tr AV) (H : AH) : buildA z k T H = ob (k.f T z) fun l => some (.agg l) := rfl
@[simp] theorem flEnd_f (T : Tr AV) (z : AV) : flEnd.f T z = some z := rfl
@[simp] theorem fill1_f (x : Operand) (off size : Nat) (nx : FlK) (T : Tr AV) (cells : AV) : fill1 x off size nx T cells =
    ob (opnd x T) fun v => bt (Nat.beq (AV.len (cellsA v)) size) (bt (Nat.ble (Nat.add off size) (AV.len cells)) (nx.f T (AV.over off cells (cellsA v))) none) none := rfl
@[simp] theorem cellsA_int (k : IntKind) (n : Int) : cellsA (.int k n) = .cons (.int k n) .nil := rfl
@[simp] theorem cellsA_bool (b : Bool) : cellsA (.bool b) = .cons (.bool b) .nil := rfl
@[simp] theorem cellsA_sb (l : List UInt8) : cellsA (sb l) = .cons (sb l) .nil := rfl
@[simp] theorem cellsA_snil : cellsA .snil = .cons .snil .nil := rfl
@[simp] theorem cellsA_sl (b o n : Nat) (c : Option Nat) : cellsA (.sl b o n c) = .cons (.sl b o n c) .nil := rfl
@[simp] theorem cellsA_agg (l : AV) : cellsA (.agg l) = l := rfl
@[simp] theorem AVlen_cons (a b : AV) : AV.len (.cons a b) = AV.len b + 1 := rfl
@[simp] theorem AVlen_nil : AV.len .nil = 0 := rfl
@[simp] theorem AVover_zero (l vs : AV) : AV.over 0 l vs = AV.over0 vs l := rfl
@[simp] theorem AVover0_cons (v vs h t : AV) : AV.over0 (.cons v vs) (.cons h t) = .cons v (AV.over0 vs t) := rfl
@[simp] theorem AVover0_nil (l : AV) : AV.over0 .nil l = l := by cases l <;> rfl
@[simp] theorem AVover_succ (n : Nat) (h t vs : AV) : AV.over (n + 1) (.cons h t) vs = .cons h (AV.over n t vs) := rfl
@[simp] theorem frBox_f (k : BK) (x : Operand) (T : Tr AV) (b0 : Nat) : frBox k x T b0 = ob (opnd x T) fun v => ob (k.f false (cellsA v)) fun b => some (.ptr b0 0, b) := rfl
@[simp] theorem frAlloc_f (b : AObj) (T : Tr AV) (b0 : Nat) : frAlloc b T b0 = some (.ptr b0 0, b) := rfl
@[simp] theorem frSlice_f (n : Nat) (z : AV) (g : FlK) (k : BK) (T : Tr AV) (b0 : Nat) : frSlice n z g k T b0 = ob (g.f T z) fun l => ob (k.f false l) fun b => some (.sl b0 0 n (some n), b) := rfl
@[simp] theorem zerosA_zero (z : AV) : zerosA z 0 = .nil := rfl
@[simp] theorem zerosA_succ (z : AV) (n : Nat) : zerosA z (n + 1) = AV.app z (zerosA z n) := rfl
@[simp] theorem AVapp_cons (h t r : AV) : AV.app (.cons h t) r = .cons h (AV.app t r) := rfl
@[simp] theorem AVapp_nil (r : AV) : AV.app .nil r = r := by cases r <;> rfl
theorem frMake_u8 {E : Env} {e bytes : Nat} {l c : Operand} {T : Tr AV} {b0 n m : Nat} (hz : mkZero E e m = some (.bys e m false 0)) (h1 : opnd l T = some (.int .i64 (n : Int))) (h2 : opnd c T = some (.int .i64 (m : Int))) (hn : n ≤ m) (hb : bytes * m ≤ 281474976710656)
    (hm : m ≤ 281474976710656) : frMake E e bytes l c T b0 = some (.sl b0 0 n (some m), bb e false (List.replicate m 0)) := by
  unfold frMake
  rw [h1, h2]
  simp only [ob_some', natOf_cast]
  rw [ble_true hn, bt_true, ble_true (a := Nat.mul bytes m) hb, bt_true, ble_true hm, bt_true, hz, ob_some', zero_bb]
@[simp] theorem hvStore_f (k : WK) (a x : Operand) (R : Rec) (T : Tr AV) (H : AH) : hvStore k a x R T H = ob (opnd a T) fun a => ob (opnd x T) fun v => ob (k.f H v a) fun H' => some (undefA, H') := rfl
@[simp] theorem hvAppend_f (g : GK) (es : Nat) (s x : Operand) (R : Rec) (T : Tr AV) (H : AH) : hvAppend g es s x R T H = ob (opnd s T) fun s => ob (opnd x T) fun x => appendA g es H s x := rfl
@[simp] theorem hvCopy_f (es : Nat) (d s : Operand) (R : Rec) (T : Tr AV) (H : AH) : hvCopy es d s R T H = ob (opnd d T) fun d => ob (opnd s T) fun s => copyA H es d s := rfl
theorem st1'_bb {H : AH} {b e i : Nat} {o : Bool} {l : List UInt8} (x : UInt8) (hb : H.get b = some (bb e o l)) (hi : i < l.length) : st1' H (.int .u8 (x.toNat : Int)) (.ptr b i) = some (H.set b (bb e o (l.set i x))) := by
  show bt (aggB (.int .u8 (x.toNat : Int))) _ (ob (H.get b) fun o => ob (wrCell o i (.int .u8 (x.toNat : Int))) fun o' => some (H.set b o')) = _
  rw [show aggB (.int .u8 (x.toNat : Int)) = false from rfl, bt_false, hb, ob_some', wr_bb hi, ob_some']
section
variable {α : Type} {enc : α → List AV} {e es : Nat} {op : Bool} {z : AV} {els : List α} {o : AObj} {H : AH}
theorem stN_el (hl : ∀ a, (enc a).length = es) (ho : ElB enc e es op z els o) {b i : Nat} {a : α} (hb : H.get b = some o) (hi : i < els.length) (hc : ∀ v ∈ enc a, isCell v = true) :
    ∃ o', stN es H (.agg (avl (enc a))) (.ptr b (i * es)) = some (H.set b o') ∧ ElB enc e es op z (els.set i a) o' := by
  obtain ⟨o', h1, h2⟩ := ho.set hl hi hc
  refine ⟨o', ?_, h2⟩
  show ob (H.get b) (fun o => bt (Nat.beq (AV.len (avl (enc a))) es) (ob (wrCells (avl (enc a)) o (i * es)) fun o' => some (H.set b o')) none) = _
  rw [hb, ob_some', len_avl, hl, Nat.beq_refl, bt_true, h1, ob_some']
theorem st1_el (hl : ∀ a, (enc a).length = es) (ho : ElB enc e es op z els o) {b i f : Nat} {a a' : α} {v : AV} (hb : H.get b = some o) (hi : els[i]? = some a) (hf : f < es) (ha : enc a' = (enc a).set f v) (hv : isCell v = true) :
    ∃ o', st1' H v (.ptr b (i * es + f)) = some (H.set b o') ∧ ElB enc e es op z (els.set i a') o' := by
  obtain ⟨o', h1, h2⟩ := ho.setF hl hi hf ha hv
  refine ⟨o', ?_, h2⟩
  show bt (aggB v) _ (ob (H.get b) fun o => ob (wrCell o (i * es + f) v) fun o' => some (H.set b o')) = _
  rw [show aggB v = false by cases v <;> first | rfl | (simp [isCell] at hv), bt_false, hb, ob_some', h1, ob_some']
end
@[simp] theorem makeFn_f (f : Fn) (a c : LsK) (T : Tr AV) (H : AH) : makeFn f a c T H = ob (a.f T) fun a => ob (c.f T) fun c => some (.fn f a c) := rfl
@[simp] theorem bOut_nor (id : Nat) (T : Tr AV) (D : List ADf) (H : AH) : bOut id (.nor T D H) = .nor T D H := rfl
@[simp] theorem bOut_ret (id : Nat) (T : Tr AV) (D : List ADf) (H : AH) : bOut id (.ret T D H) = .ret T D H := rfl
@[simp] theorem bOut_ext (id : Nat) (T : Tr AV) (D : List ADf) (H : AH) : bOut id (.ext id T D H) = .nor T D H := by
  show bt (Nat.beq id id) _ _ = _
  rw [Nat.beq_refl, bt_true]
theorem RdS.pos {H : AH} {v : AV} {l : List UInt8} (h : RdS H v l) (hl : 0 < l.length) : ∃ b off cap o, v = .sl b off l.length cap ∧ b < H.next ∧ H.get b = some o ∧ BytesAt o off l := by
  rcases h with ⟨rfl, rfl⟩ | ⟨b, off, cap, rfl, h⟩
  · simp at hl
  · obtain ⟨h1, o, h2, h3⟩ := h (by intro e; rw [e] at hl; simp at hl)
    exact ⟨b, off, cap, o, rfl, h1, h2, h3⟩
@[simp] theorem bEq_f (a b : Bool) : bEq a b = (a == b) := by cases a <;> cases b <;> rfl
theorem frBox_el {α : Type} {enc : α → List AV} {e es : Nat} {z : AV} (hl : ∀ a, (enc a).length = es) {x : Operand} {T : Tr AV} {b0 : Nat} {a : α} (hx : opnd x T = some (.agg (avl (enc a)))) :
    ∃ o, frBox ⟨mkCs e es z⟩ x T b0 = some (.ptr b0 0, o) ∧ ElB enc e es false z [a] o := by
  obtain ⟨o, h1, h2⟩ := ElB.new (e := e) (op := false) (z := z) hl [a]
  refine ⟨o, ?_, h2⟩
  have : [a].flatMap enc = enc a := by simp
  rw [this] at h1
  rw [frBox_f, hx, ob_some', cellsA_agg]
  show ob (mkCs e es z false (avl (enc a))) _ = _
  rw [h1, ob_some']
theorem ElB.cell {α : Type} {enc : α → List AV} {e es : Nat} {op : Bool} {z : AV} {els : List α} {o : AObj} (h : ElB enc e es op z els o) {k : Nat} {a : α} (ha : els[k]? = some a) {j : Nat} {v : AV} (hv : (enc a)[j]? = some v) : rdCell o (k * es + j) = some v := by
  have := h.rd k a ha j v hv
  rwa [Nat.zero_add] at this
def slA (es n : Nat) (v : AV) (H : AH) : Option AV := onSl v (ob (boundsA 0 (some 0) 0 none (some n) none) fun _ => some .snil) fun b off len cap =>
    ob (oc cap (roomOf H b off len es) some) fun room => ob (boundsA len cap room none (some n) none) fun r =>
    some (.sl b (offOf r.2.2 off r.1 es) (Nat.sub r.2.1 r.1) (capLess r.2.2 r.1))
@[simp] theorem slSl_f (es : Nat) (x h : Operand) (T : Tr AV) (H : AH) : slSl es x none (some h) none T H = ob (opnd h T) fun hv => ob (natOf hv) fun n => ob (opnd x T) fun v => slA es n v H := by
  unfold slSl
  simp only [optNat, ob_some']
  cases opnd h T with
  | none => rfl
  | some hv =>
    rw [ob_some', ob_some']
    cases natOf hv with
    | none => rfl
    | some n => rfl
@[simp] theorem slA_sl {es b off len m n : Nat} {H : AH} (hn : n ≤ m) : slA es n (.sl b off len (some m)) H = some (.sl b off n (some m)) := by
  unfold slA
  simp only [onSl_sl, oc_some, ob_some']
  have : boundsA len (some m) m none (some n) none = some (0, n, some m) := by
    show bt (Nat.ble n m) (bt (Nat.ble 0 n) (some (0, n, some m)) none) none = _
    rw [ble_true hn, bt_true, ble_true (Nat.zero_le _), bt_true]
  rw [this, ob_some']
  show some (AV.sl b (bt (Nat.beq m 0) off (off + 0 * es)) (n - 0) (some (m - 0))) = _
  rw [Nat.zero_mul, Nat.add_zero, Nat.sub_zero, Nat.sub_zero]
  cases Nat.beq m 0 <;> rfl
end
end Go.Xq
namespace Go.Xq
noncomputable section
section
variable {P : Program} {E : Env} {b : Frame} {n : Cx} {T T2 : Tr AV} {D D2 : List ADf} {H H2 : AH} {Q Q' : Out → Prop} {its its2 : List Item}
theorem WDO.looks1 (hE : TyOk P E) (hX : ExtOk P E) (j : Nat) {ops : Array Oper} {r : List Oper} {ls : List Lk} (hk : lksOf E n.n ops.toList (r.take j) = some ls) (ho : runLk ls T H = some T2) (h : WDO P b n ops (r.drop j) T2 D H Q) : WDO P b n ops r T D H Q :=
  WDO.looks hE hX j hk (by rw [ho]; exact h)
theorem WPO.looks1 (hE : TyOk P E) (hX : ExtOk P E) (j : Nat) {ops : Array Oper} {r : List Oper} {ls : List Lk} (hk : lksOf E n.n ops.toList (r.take j) = some ls) (ho : runLk ls T H = some T2) (h : WPO P b n ops (r.drop j) T2 D H Q) : WPO P b n ops r T D H Q :=
  WPO.looks hE hX j hk ho h
theorem WDO.fresh1 (hE : TyOk P E) {ops : Array Oper} {o : Oper} {r : List Oper} {k : FrK} {v : AV} {x : AObj} (hk : freshK E o.op = some k) (hg : o.guard = none) (hd : dstOk n.n o.dst = true)
    (ho : k.f T H.next = some (v, x)) (h : WDO P b n ops r (putA T o.dst v) D (H.new x) Q) : WDO P b n ops (o :: r) T D H Q :=
  WDO.fresh hE hk hg hd (by rw [ho]; exact h)
theorem WPO.fresh1 (hE : TyOk P E) {ops : Array Oper} {o : Oper} {r : List Oper} {k : FrK} {v : AV} {x : AObj} (hk : freshK E o.op = some k) (hg : o.guard = none) (hd : dstOk n.n o.dst = true)
    (ho : k.f T H.next = some (v, x)) (h : WPO P b n ops r (putA T o.dst v) D (H.new x) Q) : WPO P b n ops (o :: r) T D H Q :=
  WPO.fresh hE hk hg hd ho h
theorem WDO.heavy1 (hE : TyOk P E) (hX : ExtOk P E) {ops : Array Oper} {o : Oper} {r : List Oper} {k : HvK} {v : AV} (hk : heavyK E o.op = some k) (hg : o.guard = none) (hd : dstOk n.n o.dst = true)
    (ho : k.f rec0 T H = some (v, H2)) (h : WDO P b n ops r (putA T o.dst v) D H2 Q) : WDO P b n ops (o :: r) T D H Q :=
  WDO.heavy hE hX hk hg hd ⟨v, H2, ho, h⟩
theorem WD.seqR {id : Nat} {ops : Array Oper} {d : Code} (h : WDO P b n ops ops.toList T D H fun o => match o with
      | .nor T2 D2 H2 => WD P b n [.code d] T2 D2 H2 Q
      | o => Q o) : WD P b n [.code (.seq (.region id ops false) d)] T D H Q := WD.seq (WD.region h)
theorem WP.seqR {id : Nat} {ops : Array Oper} {d : Code} (h : WPO P b n ops ops.toList T D H fun o => match o with
      | .nor T2 D2 H2 => WP P b n [.code d] T2 D2 H2 Q
      | o => Q o) : WP P b n [.code (.seq (.region id ops false) d)] T D H Q := WP.seq (WP.region h)
theorem WDO.nilS {ops : Array Oper} {d : Code} (h : WD P b n [.code d] T D H Q) : WDO P b n ops [] T D H fun o => match o with
      | .nor T2 D2 H2 => WD P b n [.code d] T2 D2 H2 Q
      | o => Q o := WDO.nil h
theorem WPO.nilS {ops : Array Oper} {d : Code} (h : WP P b n [.code d] T D H Q) : WPO P b n ops [] T D H fun o => match o with
      | .nor T2 D2 H2 => WP P b n [.code d] T2 D2 H2 Q
      | o => Q o := WPO.nil h
theorem WD.loopS {σ : Type} {c : Code} (cs : σ → List (Nat × AV)) (I : σ → AH → Prop) (μ : σ → Nat) {l : List (Nat × AV)} (s0 : σ) (h0 : I s0 H) (hl : lsub (cs s0) l)
    (hstep : ∀ s H, I s H → WD P b n [.code c] (tl (cs s)) [] H fun o => match o with
      | .nor T2 D2 H2 => D2 = [] ∧ ∃ s' l', T2 = tl l' ∧ lsub (cs s') l' ∧ I s' H2 ∧ μ s' < μ s
      | o => Q o) : WD P b n [.code (.loop c)] (tl l) [] H Q := by
  refine WD.loop (fun k T D H => D = [] ∧ ∃ s l', T = tl l' ∧ lsub (cs s) l' ∧ I s H ∧ μ s = k) (k := μ s0) ⟨rfl, s0, l, rfl, hl, h0, rfl⟩ ?_
  rintro k T D H ⟨rfl, s, l', rfl, hl', hI, rfl⟩
  refine (WD.keep (hstep s H hI) hl').mono fun o ho => ?_
  cases o with
  | nor T2 D2 H2 =>
    obtain ⟨rfl, s', l2, rfl, h1, h2, h3⟩ := ho
    exact ⟨_, h3, rfl, s', l2, rfl, h1, h2, rfl⟩
  | bad => exact ho
  | ext => exact ho
  | ret => exact ho
theorem endR (re : ReK) {Q : AV → AH → Prop} {l : AV} (h : re.f T H = some l) (hq : Q (resultA l) H) : OutP P re Q (.ret T [] H) := endP_nil h hq
@[simp] theorem lsub_nil (l : List (Nat × AV)) : lsub [] l = True := rfl
@[simp] theorem lsub_cons (p : Nat × AV) (l k : List (Nat × AV)) : lsub (p :: l) k = (tget p.1 k = some p.2 ∧ lsub l k) := rfl
end
end
end Go.Xq
namespace Go.Xq
noncomputable section
section
variable {P : Program} {E : Env} {b : Frame} {n : Cx} {T T2 : Tr AV} {D D2 : List ADf} {H H2 : AH} {Q Q' : Out → Prop} {its its2 : List Item}
theorem WD.forS {i j ic ii t : Nat} {opsc opsi : Array Oper} {body rest : Code} {σ : Type} (cs : σ → List (Nat × AV)) (I : σ → AH → Prop) (μ : σ → Nat) {l : List (Nat × AV)} (s0 : σ) (h0 : I s0 H) (hl : lsub (cs s0) l)
    (hc : ∀ s H, I s H → WDO P b n opsc opsc.toList (tl (cs s)) [] H fun o => ∃ (c : Bool) (l' : List (Nat × AV)), o = .nor (tl l') [] H ∧ tget t l' = some (.bool c) ∧
      (c = false → WD P b n [.code rest] (tl l') [] H Q) ∧
      (c = true → WD P b n [.code body] (tl l') [] H fun o => match o with
        | .nor T2 D2 H2 => WDO P b n opsi opsi.toList T2 D2 H2 fun o => match o with
          | .nor T3 D3 H3 => D3 = [] ∧ ∃ s' l'', T3 = tl l'' ∧ lsub (cs s') l'' ∧ I s' H3 ∧ μ s' < μ s
          | _ => False
        | .ret T2 D2 H2 => Q (.ret T2 D2 H2)
        | _ => False)) :
    WD P b n [.code (.seq (.block i (.loop (.seq (.seq (.region ic opsc false) (.cond (.tmp t) .skip (.exit i))) (.seq (.block j body) (.region ii opsi false))))) rest)] (tl l) [] H Q := by
  refine WD.seq (WD.block (WD.loopS cs I μ s0 h0 hl fun s H hI => ?_))
  refine WD.seq (WD.seq ((WD.region (hc s H hI)).mono fun o ho => ?_))
  obtain ⟨c, l', rfl, h2, h3, h4⟩ := ho
  refine WD.cond (t := c) (by rw [opnd_tl]; exact h2) (fun hc => WD.skip (.inl rfl) ?_) (fun hc => WD.exit ?_)
  · refine WD.seq (WD.block ((h4 hc).mono fun o ho => ?_))
    cases o with
    | bad => exact ho.elim
    | ext => exact ho.elim
    | ret => exact ho
    | nor T2 D2 H2 =>
      refine (WD.region ho).mono fun o ho => ?_
      cases o with
      | nor T3 D3 H3 => exact ho
      | bad => exact ho.elim
      | ext => exact ho.elim
      | ret => exact ho.elim
  · show (match bOut i (.ext i (tl l') [] H) with
      | .nor T2 D2 H2 => WD P b n [.code rest] T2 D2 H2 Q
      | o => Q o)
    rw [bOut_ext]
    exact h3 hc
theorem WD.forE {i j ic ii t : Nat} {opsc opsi : Array Oper} {body : Code} {σ : Type} (cs : σ → List (Nat × AV)) (I : σ → AH → Prop) (μ : σ → Nat) {l : List (Nat × AV)} (s0 : σ) (h0 : I s0 H) (hl : lsub (cs s0) l)
    (hc : ∀ s H, I s H → WDO P b n opsc opsc.toList (tl (cs s)) [] H fun o => ∃ (c : Bool) (l' : List (Nat × AV)), o = .nor (tl l') [] H ∧ tget t l' = some (.bool c) ∧
      (c = false → Q (.nor (tl l') [] H)) ∧
      (c = true → WD P b n [.code body] (tl l') [] H fun o => match o with
        | .nor T2 D2 H2 => WDO P b n opsi opsi.toList T2 D2 H2 fun o => match o with
          | .nor T3 D3 H3 => D3 = [] ∧ ∃ s' l'', T3 = tl l'' ∧ lsub (cs s') l'' ∧ I s' H3 ∧ μ s' < μ s
          | _ => False
        | .ret T2 D2 H2 => Q (.ret T2 D2 H2)
        | _ => False)) :
    WD P b n [.code (.block i (.loop (.seq (.seq (.region ic opsc false) (.cond (.tmp t) .skip (.exit i))) (.seq (.block j body) (.region ii opsi false)))))] (tl l) [] H Q := by
  refine WD.block (WD.loopS cs I μ s0 h0 hl fun s H hI => ?_)
  refine WD.seq (WD.seq ((WD.region (hc s H hI)).mono fun o ho => ?_))
  obtain ⟨c, l', rfl, h2, h3, h4⟩ := ho
  refine WD.cond (t := c) (by rw [opnd_tl]; exact h2) (fun hc => WD.skip (.inl rfl) ?_) (fun hc => WD.exit ?_)
  · refine WD.seq (WD.block ((h4 hc).mono fun o ho => ?_))
    cases o with
    | bad => exact ho.elim
    | ext => exact ho.elim
    | ret => exact ho
    | nor T2 D2 H2 =>
      refine (WD.region ho).mono fun o ho => ?_
      cases o with
      | nor T3 D3 H3 => exact ho
      | bad => exact ho.elim
      | ext => exact ho.elim
      | ret => exact ho.elim
  · show Q (bOut i (.ext i (tl l') [] H))
    rw [bOut_ext]
    exact h3 hc
end
end
end Go.Xq
