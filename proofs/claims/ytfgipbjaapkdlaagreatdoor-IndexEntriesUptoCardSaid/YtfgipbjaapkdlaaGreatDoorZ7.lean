/- Contracts of calls and rules for code. Conditions: in each theorem. -/
import Derived.Test.YtfgipbjaapkdlaaGreatDoorZ6
namespace Go.Xq
noncomputable section
structure OldS (H0 : AH) (v : AV) (l : List UInt8) : Prop where
 rd : RdS H0 v l
 cut : SlOk H0 v
 low : ∀ b, blk v = some b → b < H0.next
end
end Go.Xq
namespace Go.Xq
noncomputable section
def slD (es lo hi mx : Nat) (v : AV) (H : AH) : Option AV := onSl v (ob (boundsA 0 (some 0) 0 (some lo) (some hi) (some mx)) fun _ => some .snil) fun b off len cap =>
  ob (oc cap (roomOf H b off len es) some) fun room => ob (boundsA len cap room (some lo) (some hi) (some mx)) fun r =>
  some (.sl b (offOf r.2.2 off r.1 es) (Nat.sub r.2.1 r.1) (capLess r.2.2 r.1))
@[simp] theorem slSl_lhm_f (es : Nat) (x h g m : Operand) (T : Tr AV) (H : AH) : slSl es x (some h) (some g) (some m) T H = ob (opnd h T) fun hv => ob (natOf hv) fun n => ob (opnd g T) fun gv => ob (natOf gv) fun k => ob (opnd m T) fun mv => ob (natOf mv) fun j => ob (opnd x T) fun v => slD es n k j v H := by
 unfold slSl
 simp only [optNat]
 cases opnd h T with
 | none => rfl
 | some hv =>
  simp only [ob_some']
  cases hn : natOf hv with
  | none => rfl
  | some n =>
   simp only [ob_some']
   cases opnd g T with
   | none => rfl
   | some gv =>
    simp only [ob_some']
    cases hm : natOf gv with
    | none => rfl
    | some k =>
     simp only [ob_some']
     cases opnd m T with
     | none => rfl
     | some mv =>
      simp only [ob_some']
      cases hj : natOf mv with
      | none => rfl
      | some j => rfl
@[simp] theorem mmK_f (gt : Bool) (x : Operand) (r : List Operand) (T : Tr AV) (H : AH) : mmK gt x r T H = ob (opnd x T) fun v => ob ((opnds r).f T) fun l => mmA gt l v := rfl
def encN (n : Int) : List AV := [.int .i64 n]
def zN : AV := .cons (.int .i64 0) .nil
abbrev NBox (H : AH) (b : Nat) (n : Int) : Prop := Bx encN 3 1 zN H b n
end
end Go.Xq
namespace Go.Xq
noncomputable section
def pageN (b : List UInt8) : Nat := readL (sub b 8 4)
def manyN (b : List UInt8) : Nat := readL (sub b 28 4)
def atN (b : List UInt8) (i : Nat) : Nat := 32 + pageN b + i * (4 + pageN b)
def pageAt (b : List UInt8) (i : Nat) : Int × List UInt8 := (((readL (sub b (atN b i) 4) : Nat) : Int), sub b (atN b i + 4) (pageN b))
def pagesOf (b : List UInt8) (k : Nat) : List (Int × List UInt8) := (List.range k).map (pageAt b)
def fldsD (b : List UInt8) : Dl := ⟨((b[4]?.getD 0).toNat : Int), (pageN b : Int), i64 (readL (sub b 12 8)), i64 (readL (sub b 20 8)), pagesOf b (manyN b), sub b 32 (pageN b)⟩
def shapeD (b : List UInt8) : Prop := 36 ≤ b.length ∧ isPgI (pageN b : Int) = true ∧ b.length = 36 + pageN b + manyN b * (4 + pageN b)
def saysD (b : List UInt8) : Prop := shapeD b ∧ okD (fldsD b) ∧ encD (fldsD b) = b
def frontD (l : List UInt8) : List UInt8 := [69, 83, 80, 68, l[4]?.getD 0, 0, 0, 0]
end
end Go.Xq
namespace Go.Xq
noncomputable section
structure BackD (d : Dl) : Prop where
 shape : shapeD (encD d)
 flds : fldsD (encD d) = d
def xorL (l : List UInt8) (p : Nat) (t : List UInt8) : List UInt8 := l.mapIdx fun k x => if p ≤ k then x ^^^ (t[k - p]?.getD 0) else x
theorem xor_zero8 (x : UInt8) : x ^^^ 0 = x := by simp
end
end Go.Xq
namespace Go.Xq
noncomputable section
section
variable {P : Program} {b : Frame} {n : Cx} {D : List ADf} {H : AH} {Q : Out → Prop}
theorem WPO.keep {ops : Array Oper} {r : List Oper} {l k : List (Nat × AV)} (h : WPO P b n ops r (tl l) D H Q) (hs : lsub l k) : WPO P b n ops r (tl k) D H Q := fun i hi => WP.keep (h i hi) hs
theorem WDO.keep {ops : Array Oper} {r : List Oper} {l k : List (Nat × AV)} (h : WDO P b n ops r (tl l) D H Q) (hs : lsub l k) : WDO P b n ops r (tl k) D H Q := by
 obtain ⟨o, h1, h2⟩ := h
 exact ⟨o, h1, WPO.keep h2 hs⟩
end
end
end Go.Xq
namespace Go.Xq
noncomputable section
theorem toU_u8 (x : UInt8) : toU .u8 (x.toNat : Int) = x.toNat := Nat.mod_eq_of_lt x.toNat_lt
theorem akXor_u8 (x y : UInt8) : akXor.f .u8 (x.toNat : Int) (y.toNat : Int) = some (.int .u8 ((x ^^^ y).toNat : Int)) := by
 show mkInt .u8 (Int.ofNat (Nat.xor (toU .u8 x.toNat) (toU .u8 y.toNat))) = _
 rw [toU_u8, toU_u8, mkInt_u8]
 have h : (x ^^^ y).toNat = Nat.xor x.toNat y.toNat := UInt8.toNat_xor x y
 have h2 := (x ^^^ y).toNat_lt
 rw [h] at h2 ⊢
 congr 2
 show ((Nat.xor x.toNat y.toNat : Nat) : Int) % 256 = _
 omega
theorem u8_zero (x : UInt8) : (x.toNat : Int) = 0 ↔ x = 0 := by
 constructor
 ·intro h
  apply UInt8.toNat_inj.1
  show x.toNat = 0
  omega
 ·rintro rfl; rfl
section
variable {P : Program} {b : Frame} {n : Cx} {H : AH} {Q : Out → Prop}
end
end
end Go.Xq
