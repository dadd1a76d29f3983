/- An evaluator of programs over heaps that may hold less than the machine's; it is proved right in the texts that follow. No condition. -/
import Derived.AtR
import Derived.OrdersIn
import Derived.RangeFuncLeaves
namespace Go.Xq
noncomputable section
inductive Q4 where
  | a | b | c | d
inductive Tr (α : Type) where
  | e : Tr α
  | n (v : Option α) (a b c d : Tr α) : Tr α
def q4 (i : Nat) : Q4 :=
  match i with
  | 0 => .a
  | 1 => .b
  | 2 => .c
  | _ => .d
def bitsF : Nat → Nat → List Q4
  | 0, _ => []
  | _ + 1, 0 => []
  | f + 1, i + 1 => q4 (Nat.mod i 4) :: bitsF f (Nat.div i 4)
def bits (i : Nat) : List Q4 := bitsF i i
def ob {α β : Type} (x : Option α) (f : α → Option β) : Option β := Option.rec (motive := fun _ => Option β) none f x
def bt {β : Type} (b : Bool) (x y : β) : β := Bool.rec (motive := fun _ => β) y x b
def oc {α β : Type} (x : Option α) (z : β) (f : α → β) : β := Option.rec (motive := fun _ => β) z f x
def nc {β : Type} (n : Nat) (z : β) (f : Nat → β) : β := Nat.rec (motive := fun _ => β) z (fun m _ => f m) n
def ic {β : Type} (n : Int) (f g : Nat → β) : β := Int.rec (motive := fun _ => β) f g n
def kc {β : Type} (k : IntKind) (a b c d e f g h : β) : β := IntKind.rec (motive := fun _ => β) a b c d e f g h k
namespace Tr
def get {α : Type} (p : List Q4) : Tr α → Option α :=
  List.rec (motive := fun _ => Tr α → Option α) (fun t => Tr.rec (motive := fun _ => Option α) none (fun v _ _ _ _ _ _ _ _ => v) t)
    (fun q _ ih t => Tr.rec (motive := fun _ => Option α) none (fun _ a b c d _ _ _ _ => ih (Q4.rec (motive := fun _ => Tr α) a b c d q)) t) p
def put {α : Type} (x : Option α) (p : List Q4) : Tr α → Tr α :=
  List.rec (motive := fun _ => Tr α → Tr α) (fun t => Tr.rec (motive := fun _ => Tr α) (.n x .e .e .e .e) (fun _ a b c d _ _ _ _ => .n x a b c d) t)
    (fun q _ ih t => Tr.rec (motive := fun _ => Tr α)
      (Q4.rec (motive := fun _ => Tr α) (.n none (ih .e) .e .e .e) (.n none .e (ih .e) .e .e) (.n none .e .e (ih .e) .e) (.n none .e .e .e (ih .e)) q)
      (fun v a b c d _ _ _ _ => Q4.rec (motive := fun _ => Tr α) (.n v (ih a) b c d) (.n v a (ih b) c d) (.n v a b (ih c) d) (.n v a b c (ih d)) q) t) p
def tab {α : Type} : Nat → (Nat → Option α) → Tr α
  | 0, _ => .e
  | d + 1, g => .n (g 0) (tab d fun k => g (Nat.add (Nat.mul 4 k) 1)) (tab d fun k => g (Nat.add (Nat.mul 4 k) 2)) (tab d fun k => g (Nat.add (Nat.mul 4 k) 3)) (tab d fun k => g (Nat.add (Nat.mul 4 k) 4))
def beq {α : Type} (f : α → α → Bool) : Tr α → Tr α → Bool
  | .e, .e => true
  | .n v a b c d, .n v' a' b' c' d' => (match v, v' with
      | none, none => true
      | some a, some b => f a b
      | _, _ => false) && ((beq f a a' && beq f b b') && (beq f c c' && beq f d d'))
  | _, _ => false
end Tr
inductive AV where
  | nil
  | inil
  | pnil
  | snil
  | mnil
  | fnil
  | tup (vs : AV)
  | agg (cs : AV)
  | ifc (t : Nat) (v : AV)
  | mp (r : Nat)
  | fn (f : Fn) (first cap : AV)
  | cons (h t : AV)
  | str (len n : Nat)
  | bool (b : Bool)
  | sl (b off len : Nat) (cap : Option Nat)
  | ptr (b off : Nat)
  | int (k : IntKind) (n : Int)
  deriving Inhabited
def onInt {β : Type} (v : AV) (f : IntKind → Int → Option β) : Option β :=
  AV.rec (motive := fun _ => Option β) none none none none none none (fun _ _ => none) (fun _ _ => none) (fun _ _ _ => none) (fun _ => none) (fun _ _ _ _ _ => none) (fun _ _ _ _ => none) (fun _ _ => none) (fun _ => none) (fun _ _ _ _ => none) (fun _ _ => none) f v
def onPtr {β : Type} (v : AV) (f : Nat → Nat → Option β) : Option β :=
  AV.rec (motive := fun _ => Option β) none none none none none none (fun _ _ => none) (fun _ _ => none) (fun _ _ _ => none) (fun _ => none) (fun _ _ _ _ _ => none) (fun _ _ _ _ => none) (fun _ _ => none) (fun _ => none) (fun _ _ _ _ => none) f (fun _ _ => none) v
def onSl {β : Type} (v : AV) (z : Option β) (f : Nat → Nat → Nat → Option Nat → Option β) : Option β :=
  AV.rec (motive := fun _ => Option β) none none none z none none (fun _ _ => none) (fun _ _ => none) (fun _ _ _ => none) (fun _ => none) (fun _ _ _ _ _ => none) (fun _ _ _ _ => none) (fun _ _ => none) (fun _ => none) f (fun _ _ => none) (fun _ _ => none) v
def onBool {β : Type} (v : AV) (f : Bool → Option β) : Option β :=
  AV.rec (motive := fun _ => Option β) none none none none none none (fun _ _ => none) (fun _ _ => none) (fun _ _ _ => none) (fun _ => none) (fun _ _ _ _ _ => none) (fun _ _ _ _ => none) (fun _ _ => none) f (fun _ _ _ _ => none) (fun _ _ => none) (fun _ _ => none) v
def onStr {β : Type} (v : AV) (f : Nat → Nat → Option β) : Option β :=
  AV.rec (motive := fun _ => Option β) none none none none none none (fun _ _ => none) (fun _ _ => none) (fun _ _ _ => none) (fun _ => none) (fun _ _ _ _ _ => none) (fun _ _ _ _ => none) f (fun _ => none) (fun _ _ _ _ => none) (fun _ _ => none) (fun _ _ => none) v
def onFn {β : Type} (v : AV) (f : Fn → AV → AV → Option β) : Option β :=
  AV.rec (motive := fun _ => Option β) none none none none none none (fun _ _ => none) (fun _ _ => none) (fun _ _ _ => none) (fun _ => none) (fun q a c _ _ => f q a c) (fun _ _ _ _ => none) (fun _ _ => none) (fun _ => none) (fun _ _ _ _ => none) (fun _ _ => none) (fun _ _ => none) v
def onAgg {β : Type} (v : AV) (f : AV → Option β) : Option β :=
  AV.rec (motive := fun _ => Option β) none none none none none none (fun _ _ => none) (fun l _ => f l) (fun _ _ _ => none) (fun _ => none) (fun _ _ _ _ _ => none) (fun _ _ _ _ => none) (fun _ _ => none) (fun _ => none) (fun _ _ _ _ => none) (fun _ _ => none) (fun _ _ => none) v
def onTup {β : Type} (v : AV) (f : AV → Option β) : Option β :=
  AV.rec (motive := fun _ => Option β) none none none none none none (fun l _ => f l) (fun _ _ => none) (fun _ _ _ => none) (fun _ => none) (fun _ _ _ _ _ => none) (fun _ _ _ _ => none) (fun _ _ => none) (fun _ => none) (fun _ _ _ _ => none) (fun _ _ => none) (fun _ _ => none) v
def onIfc {β : Type} (v : AV) (z : Option β) (f : Nat → AV → Option β) : Option β :=
  AV.rec (motive := fun _ => Option β) none z none none none none (fun _ _ => none) (fun _ _ => none) (fun t w _ => f t w) (fun _ => none) (fun _ _ _ _ _ => none) (fun _ _ _ _ => none) (fun _ _ => none) (fun _ => none) (fun _ _ _ _ => none) (fun _ _ => none) (fun _ _ => none) v
def onMap {β : Type} (v : AV) (z : Option β) (f : Nat → Option β) : Option β :=
  AV.rec (motive := fun _ => Option β) none none none none z none (fun _ _ => none) (fun _ _ => none) (fun _ _ _ => none) f (fun _ _ _ _ _ => none) (fun _ _ _ _ => none) (fun _ _ => none) (fun _ => none) (fun _ _ _ _ => none) (fun _ _ => none) (fun _ _ => none) v
def onCons {β : Type} (v : AV) (z : Option β) (f : AV → AV → Option β) : Option β :=
  AV.rec (motive := fun _ => Option β) z none none none none none (fun _ _ => none) (fun _ _ => none) (fun _ _ _ => none) (fun _ => none) (fun _ _ _ _ _ => none) (fun h t _ _ => f h t) (fun _ _ => none) (fun _ => none) (fun _ _ _ _ => none) (fun _ _ => none) (fun _ _ => none) v
def optBeq : Option Nat → Option Nat → Bool
  | none, none => true
  | some a, some b => Nat.beq a b
  | _, _ => false
def fnBeq (f g : Fn) : Bool := decide (f = g)
def bEq (a b : Bool) : Bool := bt a b (bt b false true)
def kIx (k : IntKind) : Nat := kc k 0 1 2 3 4 5 6 7
def kEq (k l : IntKind) : Bool := Nat.beq (kIx k) (kIx l)
def eqI (x y : Int) : Bool := ic x (fun a => ic y (fun b => Nat.beq a b) (fun _ => false)) (fun a => ic y (fun _ => false) (fun b => Nat.beq a b))
def ltI (x y : Int) : Bool := ic x (fun a => ic y (fun b => Nat.blt a b) (fun _ => false)) (fun a => ic y (fun _ => true) (fun b => Nat.blt b a))
namespace AV
def beq : AV → AV → Bool
  | nil, nil => true
  | pnil, pnil => true
  | snil, snil => true
  | mnil, mnil => true
  | fnil, fnil => true
  | inil, inil => true
  | cons a b, cons c d => beq a c && beq b d
  | bool a, bool b => bEq a b
  | int k a, int l b => kEq k l && eqI a b
  | str a b, str c d => Nat.beq a c && Nat.beq b d
  | ptr a b, ptr c d => Nat.beq a c && Nat.beq b d
  | sl a b c d, sl a' b' c' d' => (Nat.beq a a' && Nat.beq b b') && (Nat.beq c c' && optBeq d d')
  | mp a, mp b => Nat.beq a b
  | fn f a b, fn g c d => fnBeq f g && (beq a c && beq b d)
  | ifc t a, ifc u b => Nat.beq t u && beq a b
  | agg a, agg b => beq a b
  | tup a, tup b => beq a b
  | _, _ => false
def len : AV → Nat
  | cons _ t => Nat.succ (len t)
  | _ => 0
def app : AV → AV → AV
  | cons h t, r => cons h (app t r)
  | _, r => r
def nth : Nat → AV → Option AV
  | 0, v => onCons v none (fun h _ => some h)
  | i + 1, v => onCons v none (fun _ t => nth i t)
def drop : Nat → AV → AV
  | 0, l => l
  | n + 1, l => match l with
    | cons _ t => drop n t
    | _ => nil
def take : Nat → AV → AV
  | 0, _ => nil
  | n + 1, l => match l with
    | cons h t => cons h (take n t)
    | _ => nil
def over0 : AV → AV → AV
  | cons v vs, cons _ t => cons v (over0 vs t)
  | _, l => l
def over : Nat → AV → AV → AV
  | 0, l, vs => over0 vs l
  | n + 1, l, vs => match l with
    | cons h t => cons h (over n t vs)
    | l => l
end AV
def undefA : AV := .tup .nil
def leNat : List UInt8 → Nat
  | [] => 0
  | b :: r => Nat.add b.toNat (Nat.mul 256 (leNat r))
def byteAt (n i : Nat) : Nat := Nat.mod (Nat.shiftRight n (Nat.mul 8 i)) 256
def cutN (n off len : Nat) : Nat := Nat.mod (Nat.shiftRight n (Nat.mul 8 off)) (Nat.shiftLeft 1 (Nat.mul 8 len))
def overN (n off len v : Nat) : Nat :=
  Nat.add (Nat.add (Nat.mod n (Nat.shiftLeft 1 (Nat.mul 8 off))) (Nat.shiftLeft v (Nat.mul 8 off)))
    (Nat.shiftLeft (Nat.shiftRight n (Nat.mul 8 (Nat.add off len))) (Nat.mul 8 (Nat.add off len)))
def ofA : Value → Option AV
  | .bool b => some (.bool b)
  | .int k n => some (.int k n)
  | .string s => some (.str s.data.toList.length (leNat s.data.toList))
  | .pointer none => some .pnil
  | .slice none 0 0 => some .snil
  | .map none => some .mnil
  | .nilFunc => some .fnil
  | .nilIface => some .inil
  | _ => none
def ofL : List Value → Option AV
  | [] => some .nil
  | v :: r => ob (ofA v) fun a => ob (ofL r) fun l => some (.cons a l)
def ofV : Value → Option AV
  | .agg cs => ob (ofL cs.toList) fun l => some (.agg l)
  | v => ofA v
structure ADf where
  mark : Option Nat          -- a mark of collected calls
  f : AV                     -- the function value
  args : AV
structure ALoop where
  state : LoopState
  pending : Option Code
  fn : Nat
  tmps : Tr AV
  ntmps : Nat
  params : List Nat
  assign : Code
  body : Code
  defers : Nat
structure MEnt where
  key : AV
  val : AV
  born : Nat
inductive AObj where
  | loop (l : ALoop)
  | dfr (there : Bool)
  | mit (m : Option Nat) (since : Nat) (seen : List Nat) (stepped : Nat)
  | mp (es : List MEnt) (clock : Nat)
  | bys (elem size : Nat) (opn : Bool) (n : Nat)
  | cs (elem es size : Nat) (opn : Bool) (z : AV) (t : Tr AV)
  | ro (x : Obj) (f : Nat → Option AV)      -- a block that is only read
structure AH where
  next : Nat
  t : Tr AObj
inductive Out where
  | bad
  | ext (id : Nat) (t : Tr AV) (d : List ADf) (h : AH)
  | ret (t : Tr AV) (d : List ADf) (h : AH)
  | nor (t : Tr AV) (d : List ADf) (h : AH)
def onObj {β : Type} (o : AObj) (f : Nat → Nat → Bool → Nat → Option β) (g : Nat → Nat → Nat → Bool → AV → Tr AV → Option β) : Option β :=
  AObj.rec (motive := fun _ => Option β) (fun _ => none) (fun _ => none) (fun _ _ _ _ => none) (fun _ _ => none) f g (fun _ _ => none) o
def onObj3 {β : Type} (o : AObj) (f : Nat → Nat → Bool → Nat → Option β) (g : Nat → Nat → Nat → Bool → AV → Tr AV → Option β) (h : (Nat → Option AV) → Option β) : Option β :=
  AObj.rec (motive := fun _ => Option β) (fun _ => none) (fun _ => none) (fun _ _ _ _ => none) (fun _ _ => none) f g (fun _ q => h q) o
def onMp {β : Type} (o : AObj) (f : List MEnt → Nat → Option β) : Option β :=
  AObj.rec (motive := fun _ => Option β) (fun _ => none) (fun _ => none) (fun _ _ _ _ => none) f (fun _ _ _ _ => none) (fun _ _ _ _ _ _ => none) (fun _ _ => none) o
def AH.get (h : AH) (b : Nat) : Option AObj := AH.rec (motive := fun _ => Option AObj) (fun _ t => Tr.get (bits b) t) h
def AH.set (h : AH) (b : Nat) (o : AObj) : AH := AH.rec (motive := fun _ => AH) (fun nx t => .mk nx (Tr.put (some o) (bits b) t)) h
def AH.kill (h : AH) (b : Nat) : AH := AH.rec (motive := fun _ => AH) (fun nx t => .mk nx (Tr.put none (bits b) t)) h
def AH.new (h : AH) (o : AObj) : AH := AH.rec (motive := fun _ => AH) (fun nx t => .mk (Nat.succ nx) (Tr.put (some o) (bits nx) t)) h
def oOut (o : Out) (f : Tr AV → List ADf → AH → Out) : Out := Out.rec (motive := fun _ => Out) .bad (fun i t d h => .ext i t d h) (fun t d h => .ret t d h) f o
def bOut (i : Nat) (o : Out) : Out := Out.rec (motive := fun _ => Out) .bad (fun j t d h => bt (Nat.beq j i) (.nor t d h) (.ext j t d h)) (fun t d h => .ret t d h) (fun t d h => .nor t d h) o
structure TI where
  d : TypeDesc
  size : Nat
  bytes : Nat
  zero : Option AV
  methods : Array Method
  plainEq : Bool
structure FI where
  ntmps : Nat
  results : List ResultVar
  body : Code
def mkTI (P : Program) (t : Nat) : Option TI :=
  match P.underlying t, P.info? t with
  | some d, some i => some { d, size := i.size, bytes := i.bytes, zero := ob i.zero ofV, methods := i.methods, plainEq := !(P.stoodInHeld t) && !(P.eqGuardType P.depth t) }
  | _, _ => none
def mkFI (P : Program) (f : Nat) : Option FI :=
  match P.funcs[f]? with
  | some fn =>
    match fn.body with
    | some c => if fn.name == "runtime.NumGoroutine" then none else some { ntmps := fn.ntmps, results := fn.results.toList, body := c }
    | none => none
  | none => none
abbrev CallFn := Nat → AV → AH → Option (AV × AH)
structure Env where
  ty : Tr TI
  fn : Tr FI
  sums : CallFn
  ext : Nat → AV → AH → Option AV     -- functions without a body
  mul : Nat → Bool                    -- functions that are run in every way that a map's order leaves
def Env.of (P : Program) (dt df : Nat) (sums : CallFn) (ext : Nat → AV → AH → Option AV) (mul : Nat → Bool := fun _ => false) : Env :=
  { ty := Tr.tab dt (mkTI P), fn := Tr.tab df (mkFI P), sums, ext, mul }
structure Rec where
  call : CallFn
  dcall : CallFn
  round : Nat → AV → AH → Option (AV × AH)
section
variable (E : Env)
def tyOf (t : Nat) : Option TI := E.ty.get (bits t)
def rdBy (n sz i : Nat) : Option AV := bt (Nat.blt i sz) (some (.int .u8 (.ofNat (byteAt n i)))) none
def rdCs (es sz : Nat) (z : AV) (t : Tr AV) (i : Nat) : Option AV :=
  bt (Nat.blt i sz) (oc (t.get (bits i)) (AV.nth (Nat.mod i es) z) some) none
def rdCell (o : AObj) (i : Nat) : Option AV := onObj3 o (fun _ sz _ n => rdBy n sz i) (fun _ es sz _ z t => rdCs es sz z t i) (fun f => f i)
def rdCells (o : AObj) : Nat → Nat → Option AV
  | 0, _ => some .nil
  | n + 1, i => ob (rdCell o i) fun v => ob (rdCells o n (Nat.succ i)) fun l => some (.cons v l)
def wrBy (e sz : Nat) (op : Bool) (n i : Nat) (v : AV) : Option AObj :=
  onInt v fun k x => bt (Nat.beq (kIx k) 4) (ic x (fun x => bt (Nat.blt i sz) (bt (Nat.blt x 256) (some (.bys e sz op (overN n i 1 x))) none) none) (fun _ => none)) none
def isCell (v : AV) : Bool :=
  AV.rec (motive := fun _ => Bool) false true true true true true (fun _ _ => false) (fun _ _ => false) (fun _ _ _ => true) (fun _ => true) (fun _ _ _ _ _ => true) (fun _ _ _ _ => false)
    (fun _ _ => true) (fun _ => true) (fun _ _ _ _ => true) (fun _ _ => true) (fun _ _ => true) v
def wrCell (o : AObj) (i : Nat) (v : AV) : Option AObj :=
  onObj o (fun e sz op n => wrBy e sz op n i v) (fun e es sz op z t => bt (Nat.blt i sz) (bt (isCell v) (some (.cs e es sz op z (t.put (some v) (bits i)))) none) none)
def wrCells : AV → AObj → Nat → Option AObj
  | .nil, o, _ => some o
  | .cons v l, o, i => ob (wrCell o i v) fun o' => wrCells l o' (Nat.succ i)
  | _, _, _ => none
def isAggD : TypeDesc → Bool
  | .struct _ | .array _ _ => true
  | _ => false
def ld1 (H : AH) (p : AV) : Option AV := onPtr p fun b off => ob (H.get b) fun o => rdCell o off
def ldN (n : Nat) (H : AH) (p : AV) : Option AV := onPtr p fun b off => ob (H.get b) fun o => ob (rdCells o n off) fun l => some (.agg l)
structure VK where
  f : AH → AV → Option AV
def ldK (t : Nat) : Option VK :=
  ob (tyOf E t) fun ti => match isAggD ti.d with
  | true => some ⟨ldN ti.size⟩
  | false => some ⟨ld1⟩
def ldVar (H : AH) (t : Nat) (p : AV) : Option AV := ob (ldK E t) fun k => k.f H p
def cellsA : AV → AV
  | .agg l => l
  | v => .cons v .nil
def st1 (H : AH) (v p : AV) : Option AH := onPtr p fun b off => ob (H.get b) fun o => ob (wrCell o off v) fun o' => some (H.set b o')
def stN (n : Nat) (H : AH) (v p : AV) : Option AH :=
  onPtr p fun b off => ob (H.get b) fun o =>
    bt (Nat.beq (AV.len (cellsA v)) n) (ob (wrCells (cellsA v) o off) fun o' => some (H.set b o')) none
structure WK where
  f : AH → AV → AV → Option AH
def aggB : AV → Bool
  | .agg _ => true
  | _ => false
def st1' (H : AH) (v p : AV) : Option AH := bt (aggB v) (stN 1 H v p) (st1 H v p)
def stK (t : Nat) : Option WK :=
  ob (tyOf E t) fun ti => match Nat.beq ti.size 1 with
  | true => some ⟨st1'⟩
  | false => some ⟨stN ti.size⟩
def isByteD : TypeDesc → Bool
  | .int .u8 => true
  | _ => false
def isByteT (ti : TI) : Bool := isByteD ti.d && Nat.beq ti.size 1
def zeroA (t : Nat) : Option AV := ob (tyOf E t) fun ti => ti.zero
def leA : AV → Option Nat
  | .nil => some 0
  | .cons v r => onInt v fun k x => bt (Nat.beq (kIx k) 4) (ic x (fun x => bt (Nat.blt x 256) (ob (leA r) fun m => some (Nat.add x (Nat.mul 256 m))) none) (fun _ => none)) none
  | _ => none
def toTr : AV → Nat → Tr AV → Tr AV
  | .cons v r, i, t => toTr r (Nat.succ i) (t.put (some v) (bits i))
  | _, _, t => t
structure BK where
  f : Bool → AV → Option AObj
def mkBy (e : Nat) (opn : Bool) (cells : AV) : Option AObj :=
  ob (leA cells) fun n => some (.bys e (AV.len cells) opn n)
def mkCs (e es : Nat) (z : AV) (opn : Bool) (cells : AV) : Option AObj :=
  some (.cs e es (AV.len cells) opn z (toTr cells 0 .e))
def blkK (e : Nat) : Option BK :=
  ob (tyOf E e) fun ti =>
    match isByteT ti with
    | true => some ⟨mkBy e⟩
    | false => ob ti.zero fun z => some ⟨mkCs e ti.size (cellsA z)⟩
def mkBlk (e : Nat) (opn : Bool) (cells : AV) : Option AObj := ob (blkK E e) fun k => k.f opn cells
def isZ8 : AV → Bool
  | .int k x => Nat.beq (kIx k) 4 && eqI x 0
  | _ => false
def mkZero (e n : Nat) : Option AObj :=
  ob (tyOf E e) fun ti => ob ti.zero fun z =>
    match isByteT ti with
    | true => bt (isZ8 z) (some (.bys e n false 0)) none
    | false => bt (Nat.beq (AV.len (cellsA z)) ti.size) (some (.cs e ti.size (Nat.mul n ti.size) false (cellsA z) .e)) none
def toU (k : IntKind) (n : Int) : Nat :=
  ic n (fun m => kc k (Nat.mod m 256) (Nat.mod m 65536) (Nat.mod m 4294967296) (Nat.mod m 18446744073709551616) (Nat.mod m 256) (Nat.mod m 65536) (Nat.mod m 4294967296) (Nat.mod m 18446744073709551616))
    (fun m => (Int.negSucc m % (2 ^ k.bits : Nat)).toNat)
def slowInt (k : IntKind) (n : Int) : Option AV := some (.int k (k.wrap n))
def mkInt (k : IntKind) (n : Int) : Option AV :=
  ic n (fun m => kc k (slowInt .i8 (.ofNat m)) (slowInt .i16 (.ofNat m)) (slowInt .i32 (.ofNat m))
      (bt (Nat.blt m 9223372036854775808) (some (.int .i64 (.ofNat m))) (slowInt .i64 (.ofNat m)))
      (some (.int .u8 (.ofNat (Nat.mod m 256)))) (slowInt .u16 (.ofNat m)) (some (.int .u32 (.ofNat (Nat.mod m 4294967296)))) (some (.int .u64 (.ofNat (Nat.mod m 18446744073709551616)))))
    (fun m => bt (Nat.beq (kIx k) 3) (bt (Nat.blt m 9223372036854775808) (some (.int k (.negSucc m))) (slowInt k (.negSucc m))) (slowInt k (.negSucc m)))
def addI (x y : Int) : Int := ic x (fun a => ic y (fun b => .ofNat (Nat.add a b)) (fun b => Int.add (.ofNat a) (.negSucc b))) (fun a => Int.add (.negSucc a) y)
def subI (x y : Int) : Int := ic x (fun a => ic y (fun b => bt (Nat.ble b a) (.ofNat (Nat.sub a b)) (Int.sub (.ofNat a) (.ofNat b))) (fun b => Int.sub (.ofNat a) (.negSucc b))) (fun a => Int.sub (.negSucc a) y)
def mulI (x y : Int) : Int := ic x (fun a => ic y (fun b => .ofNat (Nat.mul a b)) (fun b => Int.mul (.ofNat a) (.negSucc b))) (fun a => Int.mul (.negSucc a) y)
def shlA (k : IntKind) (x y : Int) : Option AV := ic y (fun m => mkInt k (mulI x (.ofNat (Nat.shiftLeft 1 (Nat.min m k.bits))))) (fun _ => none)
def shrA (k : IntKind) (x y : Int) : Option AV :=
  ic y (fun m => ic x (fun x => some (.int k (.ofNat (Nat.shiftRight x (Nat.min m k.bits))))) (fun x => some (.int k ((Int.negSucc x).fdiv (2 ^ (Nat.min m k.bits) : Nat))))) (fun _ => none)
def quoA (k : IntKind) (x y : Int) : Option AV := bt (eqI y 0) none (mkInt k (x.tdiv y))
def remA (k : IntKind) (x y : Int) : Option AV := bt (eqI y 0) none (some (.int k (x.tmod y)))
structure AK where
  f : IntKind → Int → Int → Option AV
def ibinK : BinOp → Option AK
  | .add => some ⟨fun k x y => mkInt k (addI x y)⟩
  | .sub => some ⟨fun k x y => mkInt k (subI x y)⟩
  | .mul => some ⟨fun k x y => mkInt k (mulI x y)⟩
  | .quo => some ⟨quoA⟩
  | .rem => some ⟨remA⟩
  | .and => some ⟨fun k x y => mkInt k (Int.ofNat (Nat.land (toU k x) (toU k y)))⟩
  | .or => some ⟨fun k x y => mkInt k (Int.ofNat (Nat.lor (toU k x) (toU k y)))⟩
  | .xor => some ⟨fun k x y => mkInt k (Int.ofNat (Nat.xor (toU k x) (toU k y)))⟩
  | .eql => some ⟨fun _ x y => some (.bool (eqI x y))⟩
  | .neq => some ⟨fun _ x y => some (.bool (bt (eqI x y) false true))⟩
  | .lss => some ⟨fun _ x y => some (.bool (ltI x y))⟩
  | .leq => some ⟨fun _ x y => some (.bool (bt (ltI y x) false true))⟩
  | .gtr => some ⟨fun _ x y => some (.bool (ltI y x))⟩
  | .geq => some ⟨fun _ x y => some (.bool (bt (ltI x y) false true))⟩
  | _ => none
structure UK where
  f : AV → Option AV
def unK : UnOp → Option UK
  | .not => some ⟨fun v => onBool v fun b => some (.bool (bt b false true))⟩
  | .neg => some ⟨fun v => onInt v fun k n => mkInt k (subI 0 n)⟩
  | .xor => some ⟨fun v => onInt v fun k n => mkInt k (.ofNat (Nat.xor (toU k (if k.signed then -1 else k.max)) (toU k n)))⟩
  | _ => none
def lessN : Nat → Nat → Nat → Nat → Nat → Bool
  | 0, _, _, _, _ => false
  | f + 1, a, x, b, y => nc b false fun b => nc a true fun a =>
    bt (Nat.blt (Nat.mod x 256) (Nat.mod y 256)) true (bt (Nat.beq (Nat.mod x 256) (Nat.mod y 256)) (lessN f a (Nat.div x 256) b (Nat.div y 256)) false)
def sEq (a x b y : Nat) : Bool := bt (Nat.beq a b) (Nat.beq x y) false
def addS (a x b y : Nat) : Option AV :=
  bt (Nat.blt (Nat.add a b) 9223372036854775808) (some (.str (Nat.add a b) (Nat.add x (Nat.shiftLeft y (Nat.mul 8 a))))) none
structure SK where
  f : Nat → Nat → Nat → Nat → Option AV
def sbinK : BinOp → Option SK
  | .add => some ⟨addS⟩
  | .eql => some ⟨fun a x b y => some (.bool (sEq a x b y))⟩
  | .neq => some ⟨fun a x b y => some (.bool (bt (sEq a x b y) false true))⟩
  | .lss => some ⟨fun a x b y => some (.bool (lessN (Nat.succ a) a x b y))⟩
  | .leq => some ⟨fun a x b y => some (.bool (bt (lessN (Nat.succ a) a x b y) true (sEq a x b y)))⟩
  | .gtr => some ⟨fun a x b y => some (.bool (bt (lessN (Nat.succ a) a x b y) false (bt (sEq a x b y) false true)))⟩
  | .geq => some ⟨fun a x b y => some (.bool (bt (lessN (Nat.succ a) a x b y) false true))⟩
  | _ => none
def isC : Operand → Bool
  | .const _ => true
  | _ => false
def tagD : TypeDesc → Option Nat
  | .int _ => some 0
  | .string => some 1
  | .bool => some 2
  | _ => none
def tagsOf : Nat → List Field → Option (List Nat)
  | _, [] => some []
  | i, f :: r => match (f.name != "_") && Nat.beq f.offset i with
    | true => ob (tyOf E f.type) fun ti => ob (tagD ti.d) fun t => ob (tagsOf (Nat.succ i) r) fun l => some (t :: l)
    | false => none
def atomEq (t : Nat) (a b : AV) : Option Bool :=
  match t with
  | 0 => onInt a fun k x => onInt b fun l y => bt (kEq k l) (some (eqI x y)) none
  | 1 => onStr a fun k x => onStr b fun l y => some (sEq k x l y)
  | _ => onBool a fun x => onBool b fun y => some (bEq x y)
def eqCells : List Nat → AV → AV → Option Bool
  | [], _, _ => some true
  | t :: r, a, b => onCons a none fun x l => onCons b none fun y k => ob (atomEq t x y) fun q => bt q (eqCells r l k) (some false)
def isCs : AObj → Bool
  | .cs .. => true
  | _ => false
def samePtrA (H : AH) (b o b' o' : Nat) : Option Bool :=
  bt (Nat.beq b b') (some (Nat.beq o o')) (ob (H.get b) fun x => ob (H.get b') fun y => bt (isCs x) (bt (isCs y) (some false) none) none)
structure EK where
  f : AH → AV → AV → Option Bool
def eqBool (_ : AH) : AV → AV → Option Bool
  | .bool a, .bool b => some (bEq a b)
  | _, _ => none
def eqPtr (e : Nat) (H : AH) : AV → AV → Option Bool
  | .pnil, .pnil => some true
  | .pnil, .ptr _ _ => some false
  | .ptr _ _, .pnil => some false
  | .ptr b o, .ptr b' o' => match e with
    | 0 => none
    | _ + 1 => samePtrA H b o b' o'
  | _, _ => none
def eqIface (c : Bool) (_ : AH) : AV → AV → Option Bool
  | .inil, .inil => match c with
    | true => some true
    | false => none
  | .inil, .ifc _ _ => some false
  | .ifc _ _, .inil => some false
  | .ifc t _, .ifc u _ => bt (Nat.beq t u) none (some false)
  | _, _ => none
def eqSl (_ : AH) : AV → AV → Option Bool
  | .snil, .snil => some true
  | .snil, .sl .. => some false
  | .sl .., .snil => some false
  | _, _ => none
def eqMap (_ : AH) : AV → AV → Option Bool
  | .mnil, .mnil => some true
  | .mnil, .mp _ => some false
  | .mp _, .mnil => some false
  | _, _ => none
def eqFn (_ : AH) : AV → AV → Option Bool
  | .fnil, .fnil => some true
  | .fnil, .fn .. => some false
  | .fn .., .fnil => some false
  | _, _ => none
def eqAgg (n : List Nat) (_ : AH) (a b : AV) : Option Bool := onAgg a fun x => onAgg b fun y => eqCells n x y
def eqK (t : Nat) (c : Bool) : Option EK :=
  ob (tyOf E t) fun ti => match ti.d with
  | .bool => some ⟨eqBool⟩
  | .pointer e => ob (tyOf E e) fun te => some ⟨eqPtr te.size⟩
  | .interface _ => some ⟨eqIface c⟩
  | .slice _ => some ⟨eqSl⟩
  | .map _ _ => some ⟨eqMap⟩
  | .func _ _ _ => some ⟨eqFn⟩
  | .struct fs => bt ti.plainEq (ob (tagsOf E 0 fs.toList) fun l => some ⟨eqAgg l⟩) none
  | _ => none
def ngl : Nat := 0
def opT (t : Nat) (T : Tr AV) : Option AV := T.get (bits t)
structure OK where
  f : Tr AV → Option AV
def opndK : Operand → OK
  | .tmp t => ⟨opT t⟩
  | .const v => match ofV v with
    | some a => ⟨fun _ => some a⟩
    | none => ⟨fun _ => none⟩
  | .global g => match Nat.blt g ngl with
    | true => ⟨fun _ => some (.ptr g 0)⟩
    | false => ⟨fun _ => none⟩
  | .func f => ⟨fun _ => some (.fn (.func f) .nil .nil)⟩
def opnd (x : Operand) (T : Tr AV) : Option AV := (opndK x).f T
structure LsK where
  f : Tr AV → Option AV
def opnds : List Operand → LsK
  | [] => ⟨fun _ => some .nil⟩
  | x :: r => ⟨fun T => ob (opnd x T) fun v => ob ((opnds r).f T) fun l => some (.cons v l)⟩
structure LK where
  f : Tr AV → AH → Option AV
def binInt (g : AK) (x y : Operand) (T : Tr AV) (_ : AH) : Option AV :=
  ob (opnd x T) fun a => ob (opnd y T) fun b => onInt a fun k m => onInt b fun l n => bt (kEq k l) (g.f k m n) none
def binShl (x y : Operand) (T : Tr AV) (_ : AH) : Option AV :=
  ob (opnd x T) fun a => ob (opnd y T) fun b => onInt a fun k m => onInt b fun _ n => shlA k m n
def binShr (x y : Operand) (T : Tr AV) (_ : AH) : Option AV :=
  ob (opnd x T) fun a => ob (opnd y T) fun b => onInt a fun k m => onInt b fun _ n => shrA k m n
def binStr (g : SK) (x y : Operand) (T : Tr AV) (_ : AH) : Option AV :=
  ob (opnd x T) fun a => ob (opnd y T) fun b => onStr a fun k m => onStr b fun l n => g.f k m l n
def binEq (k : EK) (neg : Bool) (x y : Operand) (T : Tr AV) (H : AH) : Option AV :=
  ob (opnd x T) fun a => ob (opnd y T) fun b => ob (k.f H a b) fun r => some (.bool (bt neg (bt r false true) r))
def binK (op : BinOp) (t : Nat) (x y : Operand) : Option LK :=
  ob (tyOf E t) fun ti => match ti.d with
  | .int _ => match op with
    | .shl => some ⟨binShl x y⟩
    | .shr => some ⟨binShr x y⟩
    | op => ob (ibinK op) fun g => some ⟨binInt g x y⟩
  | .string => ob (sbinK op) fun g => some ⟨binStr g x y⟩
  | _ => match op with
    | .eql => ob (eqK E t (isC x || isC y)) fun k => some ⟨binEq k false x y⟩
    | .neq => ob (eqK E t (isC x || isC y)) fun k => some ⟨binEq k true x y⟩
    | _ => none
def fieldOf (d : TypeDesc) (f : Nat) : Option Field :=
  match d with
  | .struct fs => fs.toList[f]?
  | _ => none
def part1 (off : Nat) (cs : AV) : Option AV := AV.nth off cs
def partN (n off : Nat) (cs : AV) : Option AV := some (.agg (AV.take n (AV.drop off cs)))
structure PK where
  f : Nat → AV → Option AV
def partK (t : Nat) : Option PK :=
  ob (tyOf E t) fun ti => match isAggD ti.d with
  | true => some ⟨partN ti.size⟩
  | false => some ⟨part1⟩
def placeOf (d : TypeDesc) (i : Nat) : Option (Nat × Nat) :=
  match d with
  | .struct fs => ob fs.toList[i]? fun f => ob (tyOf E f.type) fun ti => some (f.offset, ti.size)
  | .array _ e => ob (tyOf E e) fun ti => some (Nat.mul i ti.size, ti.size)
  | _ => none
structure FlK where
  f : Tr AV → AV → Option AV
def fill1 (x : Operand) (off size : Nat) (nx : FlK) (T : Tr AV) (cells : AV) : Option AV :=
  ob (opnd x T) fun v => bt (Nat.beq (AV.len (cellsA v)) size) (bt (Nat.ble (Nat.add off size) (AV.len cells)) (nx.f T (AV.over off cells (cellsA v))) none) none
def fillK (d : TypeDesc) : List (Nat × Operand) → Option FlK
  | [] => some ⟨fun _ cells => some cells⟩
  | (i, x) :: r => ob (placeOf E d i) fun p => ob (fillK d r) fun nx => some ⟨fill1 x p.1 p.2 nx⟩
def natOf (v : AV) : Option Nat := onInt v fun _ n => ic n some (fun _ => none)
def optNat (T : Tr AV) : Option Operand → Option (Option Nat)
  | none => some none
  | some x => ob (opnd x T) fun v => ob (natOf v) fun n => some (some n)
def boundsA (len : Nat) (cap : Option Nat) (room : Nat) (lo hi mx : Option Nat) : Option (Nat × Nat × Option Nat) :=
  ob (oc mx (some cap) fun m => bt (Nat.ble m room) (some (some m)) none) fun m =>
  bt (Nat.ble (oc hi len id) (oc m room id)) (bt (Nat.ble (oc lo 0 id) (oc hi len id)) (some (oc lo 0 id, oc hi len id, m)) none) none
def roomOf (H : AH) (b off len es : Nat) : Option Nat :=
  ob (H.get b) fun o => onObj o (fun _ sz op _ => bt (Nat.beq es 1) (some (bt op (Nat.max len (Nat.sub sz off)) len)) none)
    (fun _ es' sz op _ _ => bt (Nat.beq es es') (some (bt op (Nat.max len (Nat.div (Nat.sub sz off) es)) len)) none)
def capLess (m : Option Nat) (l : Nat) : Option Nat := oc m none fun c => some (Nat.sub c l)
def offOf (m : Option Nat) (off l es : Nat) : Nat :=
  oc m (Nat.add off (Nat.mul l es)) fun c => bt (Nat.beq c l) off (Nat.add off (Nat.mul l es))
def slStr (x : Operand) (lo hi : Option Operand) (T : Tr AV) (_ : AH) : Option AV :=
  ob (optNat T lo) fun lo => ob (optNat T hi) fun hi => ob (opnd x T) fun v => onStr v fun n s =>
  ob (boundsA n (some n) n lo hi none) fun r => some (.str (Nat.sub r.2.1 r.1) (cutN s r.1 (Nat.sub r.2.1 r.1)))
def slSl (es : Nat) (x : Operand) (lo hi mx : Option Operand) (T : Tr AV) (H : AH) : Option AV :=
  ob (optNat T lo) fun lo => ob (optNat T hi) fun hi => ob (optNat T mx) fun mx => ob (opnd x T) fun v =>
  onSl v (ob (boundsA 0 (some 0) 0 lo hi mx) fun _ => some .snil) fun b off len cap =>
    ob (oc cap (roomOf H b off len es) some) fun room => ob (boundsA len cap room lo hi mx) fun r =>
    some (.sl b (offOf r.2.2 off r.1 es) (Nat.sub r.2.1 r.1) (capLess r.2.2 r.1))
def slArr (n es : Nat) (x : Operand) (lo hi mx : Option Operand) (T : Tr AV) (_ : AH) : Option AV :=
  ob (optNat T lo) fun lo => ob (optNat T hi) fun hi => ob (optNat T mx) fun mx => ob (opnd x T) fun v => onPtr v fun b off =>
  ob (boundsA n (some n) n lo hi mx) fun r => some (.sl b (offOf r.2.2 off r.1 es) (Nat.sub r.2.1 r.1) (capLess r.2.2 r.1))
def hasHi (hi mx : Option Operand) : Bool := oc mx true fun _ => hi.isSome
def sliceK (t : Nat) (x : Operand) (lo hi mx : Option Operand) : Option LK :=
  ob (tyOf E t) fun ti => match ti.d with
  | .string => match mx with
    | none => some ⟨slStr x lo hi⟩
    | some _ => none
  | .slice e => ob (tyOf E e) fun te => bt (hasHi hi mx) (some ⟨slSl te.size x lo hi mx⟩) none
  | .array n e => ob (tyOf E e) fun te => bt (hasHi hi mx) (some ⟨slArr n te.size x lo hi mx⟩) none
  | _ => none
def ixSl (es : Nat) (x i : Operand) (T : Tr AV) (_ : AH) : Option AV :=
  ob (opnd x T) fun v => ob (opnd i T) fun i => onSl v none fun b off len _ => ob (natOf i) fun j =>
  bt (Nat.blt j len) (some (.ptr b (Nat.add off (Nat.mul j es)))) none
def ixArr (n es : Nat) (x i : Operand) (T : Tr AV) (_ : AH) : Option AV :=
  ob (opnd x T) fun v => ob (opnd i T) fun i => onPtr v fun b off => ob (natOf i) fun j =>
  bt (Nat.blt j n) (some (.ptr b (Nat.add off (Nat.mul j es)))) none
def indexAddrK (t : Nat) (x i : Operand) : Option LK :=
  ob (tyOf E t) fun ti => match ti.d with
  | .array n e => ob (tyOf E e) fun te => some ⟨ixArr n te.size x i⟩
  | .slice e => ob (tyOf E e) fun te => some ⟨ixSl te.size x i⟩
  | _ => none
def ixAgg (n es : Nat) (k : PK) (x i : Operand) (T : Tr AV) (_ : AH) : Option AV :=
  ob (opnd x T) fun v => ob (opnd i T) fun i => onAgg v fun cs => ob (natOf i) fun j => bt (Nat.blt j n) (k.f (Nat.mul j es) cs) none
def ixStr (x i : Operand) (T : Tr AV) (_ : AH) : Option AV :=
  ob (opnd x T) fun v => ob (opnd i T) fun i => onStr v fun n s => ob (natOf i) fun j => bt (Nat.blt j n) (some (.int .u8 (.ofNat (byteAt s j)))) none
def indexK (t : Nat) (x i : Operand) : Option LK :=
  ob (tyOf E t) fun ti => match ti.d with
  | .array n e => ob (tyOf E e) fun te => ob (partK E e) fun k => some ⟨ixAgg n te.size k x i⟩
  | .string => some ⟨ixStr x i⟩
  | _ => none
def fAddr (x : Operand) (off : Nat) (T : Tr AV) (_ : AH) : Option AV :=
  ob (opnd x T) fun v => onPtr v fun b o => some (.ptr b (Nat.add o off))
def fieldAddrK (s : Nat) (x : Operand) (f : Nat) : Option LK :=
  ob (tyOf E s) fun ti => ob (fieldOf ti.d f) fun fd => ob (tyOf E fd.type) fun tf =>
  match tf.size with
  | _ + 1 => some ⟨fAddr x fd.offset⟩
  | 0 => none
def fVal (k : PK) (off : Nat) (x : Operand) (T : Tr AV) (_ : AH) : Option AV :=
  ob (opnd x T) fun v => onAgg v fun cs => k.f off cs
def fieldK (s : Nat) (x : Operand) (f : Nat) : Option LK :=
  ob (tyOf E s) fun ti => ob (fieldOf ti.d f) fun fd => ob (partK E fd.type) fun k => some ⟨fVal k fd.offset x⟩
def bytesBy (sz n off len : Nat) : Option (Nat × Nat) := bt (Nat.ble (Nat.add off len) sz) (some (len, cutN n off len)) none
def bytesSl (H : AH) (b off len : Nat) : Option (Nat × Nat) :=
  nc len (some (0, 0)) fun _ => ob (H.get b) fun o => onObj3 o (fun _ sz _ n => bytesBy sz n off len) (fun _ _ _ _ _ _ => ob (rdCells o len off) fun l => ob (leA l) fun m => some (len, m)) (fun _ => ob (rdCells o len off) fun l => ob (leA l) fun m => some (len, m))
def bytesA (H : AH) : AV → Option (Nat × Nat)
  | .snil => some (0, 0)
  | .sl b off len _ => bytesSl H b off len
  | .str len n => some (len, n)
  | _ => none
def cvInt (k : IntKind) (x : Operand) (T : Tr AV) (_ : AH) : Option AV := ob (opnd x T) fun v => onInt v fun _ n => mkInt k n
def cvStr (x : Operand) (T : Tr AV) (H : AH) : Option AV :=
  ob (opnd x T) fun v => onSl v (some (.str 0 0)) fun b off len _ => ob (bytesSl H b off len) fun r => some (.str r.1 r.2)
def cvSS (x : Operand) (T : Tr AV) (_ : AH) : Option AV := ob (opnd x T) fun v => onStr v fun l n => some (.str l n)
def convK (s d : Nat) (x : Operand) : Option LK :=
  ob (tyOf E s) fun ts => ob (tyOf E d) fun td =>
  match ts.d, td.d with
  | .int _, .int k => some ⟨cvInt k x⟩
  | .slice e, .string => ob (tyOf E e) fun te => match isByteD te.d with
    | true => some ⟨cvStr x⟩
    | false => none
  | .string, .string => some ⟨cvSS x⟩
  | _, _ => none
def isIfaceD : TypeDesc → Bool
  | .interface _ => true
  | _ => false
structure KyK where
  f : AH → AV → AV → Option Bool
def kyInt (_ : AH) : AV → AV → Option Bool
  | .int k a, .int l b => bt (kEq k l) (some (eqI a b)) none
  | _, _ => none
def kyStr (_ : AH) : AV → AV → Option Bool
  | .str a x, .str b y => some (sEq a x b y)
  | _, _ => none
def kyBool (_ : AH) : AV → AV → Option Bool
  | .bool a, .bool b => some (bEq a b)
  | _, _ => none
def kyPtr (H : AH) : AV → AV → Option Bool
  | .ptr b o, .ptr b' o' => samePtrA H b o b' o'
  | _, _ => none
def keyK (t : Nat) : Option KyK :=
  ob (tyOf E t) fun ti => match ti.d with
  | .int _ => some ⟨kyInt⟩
  | .string => some ⟨kyStr⟩
  | .bool => some ⟨kyBool⟩
  | .pointer e => ob (tyOf E e) fun te => match te.size with
    | 0 => none
    | _ + 1 => some ⟨kyPtr⟩
  | _ => none
def findA (q : KyK) (H : AH) (k : AV) : List MEnt → Nat → Option (Option (Nat × AV))
  | [], _ => some none
  | e :: r, i => ob (q.f H k e.key) fun s => bt s (some (some (i, e.val))) (findA q H k r (Nat.succ i))
def entsOf (H : AH) (v : AV) : Option (List MEnt) := onMap v (some []) fun r => ob (H.get r) fun o => onMp o fun es _ => some es
def lkA (q : KyK) (z : AV) (ok : Bool) (x k : Operand) (T : Tr AV) (H : AH) : Option AV :=
  ob (opnd x T) fun x => ob (opnd k T) fun k => ob (entsOf H x) fun es => ob (findA q H k es 0) fun r =>
  some (bt ok (.tup (oc r (.cons z (.cons (.bool false) .nil)) fun p => .cons p.2 (.cons (.bool true) .nil))) (oc r z fun p => p.2))
def lookupK (t : Nat) (x k : Operand) (ok : Bool) : Option LK :=
  ob (tyOf E t) fun ti => match ti.d with
  | .map kt et => ob (keyK E kt) fun q => ob (zeroA E et) fun z => some ⟨lkA q z ok x k⟩
  | _ => none
def asHolds (ok : Bool) (v : AV) : AV :=
  match ok with
  | true => .tup (.cons v (.cons (.bool true) .nil))
  | false => v
def asFails (t : Nat) : Bool → Option AV
  | true => ob (zeroA E t) fun z => some (.tup (.cons z (.cons (.bool false) .nil)))
  | false => none
def meetsL (want : List (String × Nat)) (got : List Method) : Bool := want.all fun x => got.any fun m => m.name == x.1 && Nat.beq m.sig x.2
def meetsK (want : Array (String × Nat)) (t : Nat) : Option Bool :=
  ob (tyOf E t) fun ti => some (meetsL want.toList ti.methods.toList)
def asIface (want : Array (String × Nat)) (t : Nat) (ok : Bool) (x : Operand) (T : Tr AV) (_ : AH) : Option AV :=
  ob (opnd x T) fun v => match v with
  | .inil => asFails E t ok
  | .ifc u w => ob (meetsK E want u) fun b => match b with
    | true => some (asHolds ok (.ifc u w))
    | false => asFails E t ok
  | _ => none
def asType (t : Nat) (ok : Bool) (x : Operand) (T : Tr AV) (_ : AH) : Option AV :=
  ob (opnd x T) fun v => match v with
  | .inil => asFails E t ok
  | .ifc u w => match Nat.beq u t with
    | true => some (asHolds ok w)
    | false => asFails E t ok
  | _ => none
def assertK (x : Operand) (t : Nat) (ok : Bool) : Option LK :=
  ob (tyOf E t) fun ta => match ta.d with
  | .interface want => some ⟨asIface E want t ok x⟩
  | _ => some ⟨asType E t ok x⟩
def exA (x : Operand) (i : Nat) (T : Tr AV) (_ : AH) : Option AV :=
  ob (opnd x T) fun v => onTup v fun vs => AV.nth i vs
def lenSl (x : Operand) (T : Tr AV) (_ : AH) : Option AV :=
  ob (opnd x T) fun v => onSl v (some (.int .i64 (.ofNat 0))) fun _ _ n _ => some (.int .i64 (.ofNat n))
def lenStr (x : Operand) (T : Tr AV) (_ : AH) : Option AV :=
  ob (opnd x T) fun v => onStr v fun n _ => some (.int .i64 (.ofNat n))
def lenMap (x : Operand) (T : Tr AV) (H : AH) : Option AV :=
  ob (opnd x T) fun v => ob (entsOf H v) fun es => some (.int .i64 (Int.ofNat es.length))
def lenK (t : Nat) (x : Operand) : Option LK :=
  ob (tyOf E t) fun ti => match ti.d with
  | .string => some ⟨lenStr x⟩
  | .slice _ => some ⟨lenSl x⟩
  | .map _ _ => some ⟨lenMap x⟩
  | _ => none
def capSl (x : Operand) (T : Tr AV) (_ : AH) : Option AV :=
  ob (opnd x T) fun v => onSl v (some (.int .i64 (.ofNat 0))) fun _ _ _ c => ob c fun c => some (.int .i64 (.ofNat c))
def capK (t : Nat) (x : Operand) : Option LK :=
  ob (tyOf E t) fun ti => match ti.d with
  | .slice _ => some ⟨capSl x⟩
  | _ => none
def mmA (gt : Bool) : AV → AV → Option AV
  | .cons y r, x => onInt y fun _ n => onInt x fun k m => mmA gt r (.int k (bt (bt gt (ltI m n) (ltI n m)) n m))
  | .nil, x => onInt x fun k m => some (.int k m)
  | _, _ => none
def mmK (gt : Bool) (x : Operand) (r : List Operand) (T : Tr AV) (_ : AH) : Option AV :=
  ob (opnd x T) fun v => ob ((opnds r).f T) fun l => mmA gt l v
def findM (name : String) : List Method → Option Method
  | [] => none
  | m :: r => match m.name == name with
    | true => some m
    | false => findM name r
def aheadA (t : Nat) (name : String) : Bool :=
  match tyOf E t with
  | some ti => match findM name ti.methods.toList with
    | some m => match m.path.toList, m.func with
      | [], some (_, true) => true
      | _, _ => false
    | none => false
  | none => false
def nilPtr : AV → Option AV
  | .ptr b o => some (.ptr b o)
  | .ifc t v => some (.ifc t v)
  | .fn f a c => match f with
    | .func f => some (.fn (.func f) a c)
    | .yield l => some (.fn (.yield l) a c)
    | .method name => match a with
      | .cons (.ifc t w) a => bt (aheadA E t name) (some (.fn (.method name) (.cons (.ifc t w) a) c)) none
      | _ => none
    | _ => none
  | _ => none
def nilChk (x : Operand) (T : Tr AV) (_ : AH) : Option AV := ob (opnd x T) fun v => nilPtr E v
def pickA (c a b : Operand) (T : Tr AV) (_ : AH) : Option AV :=
  ob (opnd c T) fun v => onBool v fun t => bt t (opnd a T) (opnd b T)
def buildA (z : AV) (k : FlK) (T : Tr AV) (_ : AH) : Option AV := ob (k.f T z) fun l => some (.agg l)
def fieldsOk : TypeDesc → Bool
  | .struct fs => fs.toList.all fun f => (tyOf E f.type).isSome
  | .array _ e => (tyOf E e).isSome
  | _ => true
def buildK (t : Nat) (parts : List (Nat × Operand)) : Option LK :=
  ob (tyOf E t) fun ti => ob ti.zero fun z => match isAggD ti.d with
  | true => bt (fieldsOk E ti.d) (ob (fillK E ti.d parts) fun k => some ⟨buildA (cellsA z) k⟩) none
  | false => none
def findB (b : Nat) : List MEnt → Option MEnt
  | [] => none
  | e :: r => match Nat.beq e.born b with
    | true => some e
    | false => findB b r
def entryA (x : Operand) (T : Tr AV) (H : AH) : Option AV :=
  ob (opnd x T) fun v => match v with
  | .ptr r 0 => match H.get r with
    | some (.mit (some m) _ (b :: _) st) => match H.get m with
      | some (.mp es clock) => match Nat.beq clock st with
        | true => ob (findB b es) fun e => some (.tup (.cons e.key (.cons e.val .nil)))
        | false => none
      | _ => none
    | _ => none
  | _ => none
def makeFn (f : Fn) (a c : LsK) (T : Tr AV) (_ : AH) : Option AV := ob (a.f T) fun a => ob (c.f T) fun c => some (.fn f a c)
def lookBuiltin (b : Builtin) (args : List Operand) (tys : List Nat) : Option LK :=
  match b with
  | .len => match args, tys with
    | [x], t :: _ => lenK E t x
    | _, _ => none
  | .cap => match args, tys with
    | [x], t :: _ => capK E t x
    | _, _ => none
  | .min => match args with
    | x :: r => some ⟨mmK false x r⟩
    | _ => none
  | .max => match args with
    | x :: r => some ⟨mmK true x r⟩
    | _ => none
  | _ => none
def ldA (k : VK) (a : Operand) (T : Tr AV) (H : AH) : Option AV := ob (opnd a T) fun p => k.f H p
def lookK : Op → Option LK
  | .move x => some ⟨fun T _ => opnd x T⟩
  | .assign x => some ⟨fun T _ => opnd x T⟩
  | .pick c a b => some ⟨pickA c a b⟩
  | .build t parts => buildK E t parts.toList
  | .load t a => ob (ldK E t) fun k => some ⟨ldA k a⟩
  | .nilCheck x => some ⟨nilChk E x⟩
  | .binOp op t x y _ => binK E op t x y
  | .unOp op _ x => ob (unK op) fun g => some ⟨fun T _ => ob (opnd x T) fun v => g.f v⟩
  | .convert s d x => convK E s d x
  | .makeInterface t x => ob (tyOf E t) fun ti => match isIfaceD ti.d with
    | true => none
    | false => some ⟨fun T _ => ob (opnd x T) fun v => some (.ifc t v)⟩
  | .makeFunc f a c => match f with
    | .yield _ => none
    | f => some ⟨makeFn f (opnds a.toList) (opnds c.toList)⟩
  | .slice t x lo hi mx => sliceK E t x lo hi mx
  | .fieldAddr s x f => fieldAddrK E s x f
  | .field s x f => fieldK E s x f
  | .indexAddr t x i => indexAddrK E t x i
  | .index t x i => indexK E t x i
  | .lookup t x i ok => lookupK E t x i ok
  | .typeAssert x _ t ok => assertK E x t ok
  | .extract x i => some ⟨exA x i⟩
  | .entry x => some ⟨entryA x⟩
  | .call c => match c.callee with
    | .builtin b => lookBuiltin E b c.args.toList c.argTypes.toList
    | _ => none
  | _ => none
structure FrK where
  f : Tr AV → Nat → Option (AV × AObj)
def frAlloc (b : AObj) (_ : Tr AV) (b0 : Nat) : Option (AV × AObj) := some (.ptr b0 0, b)
def frBox (k : BK) (x : Operand) (T : Tr AV) (b0 : Nat) : Option (AV × AObj) :=
  ob (opnd x T) fun v => ob (k.f false (cellsA v)) fun b => some (.ptr b0 0, b)
def zerosA (z : AV) : Nat → AV
  | 0 => .nil
  | n + 1 => AV.app z (zerosA z n)
def frSlice (n : Nat) (z : AV) (g : FlK) (k : BK) (T : Tr AV) (b0 : Nat) : Option (AV × AObj) :=
  ob (g.f T z) fun l => ob (k.f false l) fun b => some (.sl b0 0 n (some n), b)
def frMake (e bytes : Nat) (l c : Operand) (T : Tr AV) (b0 : Nat) : Option (AV × AObj) :=
  ob (opnd l T) fun l => ob (opnd c T) fun c => ob (natOf l) fun l => ob (natOf c) fun c =>
  bt (Nat.ble l c) (bt (Nat.ble (Nat.mul bytes c) 281474976710656) (bt (Nat.ble c 281474976710656) (ob (mkZero E e c) fun b => some (.sl b0 0 l (some c), b)) none) none) none
def frStr (e : Nat) (x : Operand) (T : Tr AV) (b0 : Nat) : Option (AV × AObj) :=
  ob (opnd x T) fun v => onStr v fun n m => some (.sl b0 0 n none, .bys e n true m)
def freshK : Op → Option FrK
  | .alloc t => ob (mkZero E t 1) fun b => some ⟨frAlloc b⟩
  | .box t x => ob (blkK E t) fun k => some ⟨frBox k x⟩
  | .buildSlice t n parts => ob (tyOf E t) fun ti => match ti.d with
    | .slice e => ob (tyOf E e) fun te => ob te.zero fun z => ob (fillK E (.array n e) parts.toList) fun g => ob (blkK E e) fun k =>
      match Nat.ble (Nat.mul n te.size) 16777216 && Nat.beq (AV.len (cellsA z)) te.size with
      | true => some ⟨frSlice n (zerosA (cellsA z) n) g k⟩
      | false => none
    | _ => none
  | .makeSlice t l c => ob (tyOf E t) fun ti => match ti.d with
    | .slice e => ob (tyOf E e) fun te => some ⟨frMake E e te.bytes l c⟩
    | _ => none
  | .makeMap _ r => match r with
    | none => some ⟨fun _ b0 => some (.mp b0, .mp [] 0)⟩
    | some _ => none
  | .convert s d x => ob (tyOf E s) fun ts => ob (tyOf E d) fun td => match ts.d, td.d with
    | .string, .slice e => ob (tyOf E e) fun te => match isByteD te.d with
      | true => some ⟨frStr e x⟩
      | false => none
    | _, _ => none
  | _ => none
def storeAll (H : AH) (b i : Nat) (l : AV) : Option AH :=
  ob (H.get b) fun o => ob (wrCells l o i) fun o' => some (H.set b o')
def firstA (H : AH) (es n : Nat) : AV → Option AV
  | .snil => some .nil
  | .sl b off _ _ => nc n (some .nil) fun _ => ob (H.get b) fun o => rdCells o (Nat.mul n es) off
  | .str len s => bt (Nat.beq es 1) (rdCells (.bys 0 len false s) n 0) none
  | _ => none
def lengthA : AV → Option Nat
  | .snil => some 0
  | .sl _ _ n _ => some n
  | .str n _ => some n
  | _ => none
def overBlk (off n m : Nat) (e sz : Nat) (op : Bool) (x : Nat) : Option AObj :=
  bt (Nat.ble (Nat.add off n) sz) (some (.bys e sz op (overN x off n (Nat.mod m (Nat.shiftLeft 1 (Nat.mul 8 n)))))) none
def isBy : AObj → Bool
  | .bys .. => true
  | _ => false
def layA (H : AH) (es b off n : Nat) (src : AV) : Option AH :=
  ob (H.get b) fun o => onObj o
    (fun e sz op x => bt (Nat.beq es 1) (ob (bytesA H src) fun r => ob (overBlk off n r.2 e sz op x) fun o' => some (H.set b o')) none)
    (fun _ _ _ _ _ _ => ob (firstA H es n src) fun l => ob (wrCells l o off) fun o' => some (H.set b o'))
def copyA (H : AH) (es : Nat) (dst src : AV) : Option (AV × AH) :=
  ob (lengthA src) fun m => onSl dst (some (.int .i64 (.ofNat 0), H)) fun b off len _ =>
    nc (Nat.min m len) (some (.int .i64 (.ofNat 0), H)) fun _ => ob (layA H es b off (Nat.min m len) src) fun H' => some (.int .i64 (.ofNat (Nat.min m len)), H')
structure GK where
  f : AH → AV → Nat → Nat → AV → Option AObj
def grownBy (e : Nat) (H : AH) (s : AV) (len n : Nat) (x : AV) : Option AObj :=
  ob (bytesA H s) fun a => ob (bytesA H x) fun c =>
    some (.bys e (Nat.add len n) true (Nat.add a.2 (Nat.shiftLeft c.2 (Nat.mul 8 len))))
def allCell : AV → Bool
  | .cons v l => bt (isCell v) (allCell l) false
  | _ => true
def grownCs (es : Nat) (k : BK) (H : AH) (s : AV) (len n : Nat) (x : AV) : Option AObj :=
  ob (firstA H es len s) fun a => ob (firstA H es n x) fun c => bt (allCell c) (k.f true (AV.app a c)) none
def grownK (e : Nat) : Option GK :=
  ob (tyOf E e) fun te => match isByteT te with
  | true => some ⟨grownBy e⟩
  | false => ob (blkK E e) fun k => some ⟨grownCs te.size k⟩
def growA (g : GK) (H : AH) (s : AV) (len n : Nat) (x : AV) : Option (AV × AH) :=
  ob (g.f H s len n x) fun o => some (.sl H.next 0 (Nat.add len n) none, H.new o)
def alikeB : AObj → AObj → Bool
  | .bys e _ _ _, .bys e' _ _ _ => Nat.beq e e'
  | .cs e _ _ _ _ _, .cs e' _ _ _ _ _ => Nat.beq e e'
  | _, _ => false
def appMove (g : GK) (H : AH) (b off len n : Nat) (x : AV) : Option (AV × AH) :=
  ob (H.get b) fun o0 => ob (g.f H (.sl b off len none) len n x) fun o => bt (alikeB o0 o) (some (.sl H.next 0 (Nat.add len n) none, (H.kill b).new o)) none
def appGrow (g : GK) (H : AH) (b off len n : Nat) (x : AV) (cap : Option Nat) : Option (AV × AH) :=
  oc cap (appMove g H b off len n x) fun _ => growA g H (.sl b off len cap) len n x
def appSl (g : GK) (es : Nat) (H : AH) (x : AV) (n : Nat) (b off len : Nat) (cap : Option Nat) : Option (AV × AH) :=
  bt (Nat.ble (Nat.add len n) 17179869184)
    (nc n (bt (oc cap true fun c => Nat.ble len c) (some (.sl b off len cap, H)) none) fun _ =>
      ob (oc cap (roomOf H b off len es) some) fun room => bt (Nat.ble (Nat.add len n) room)
        (ob (layA H es b (Nat.add off (Nat.mul len es)) n x) fun H' => some (.sl b off (Nat.add len n) cap, H'))
        (appGrow g H b off len n x cap)) none
def appendA (g : GK) (es : Nat) (H : AH) (s x : AV) : Option (AV × AH) :=
  ob (lengthA x) fun n => bt (Nat.ble n 17179869184)
    (onSl s (nc n (some (.snil, H)) fun _ => growA g H .snil 0 n x) fun b off len cap => appSl g es H x n b off len cap) none
structure HvK where
  f : Rec → Tr AV → AH → Option (AV × AH)
def hvAppend (g : GK) (es : Nat) (s x : Operand) (_ : Rec) (T : Tr AV) (H : AH) : Option (AV × AH) :=
  ob (opnd s T) fun s => ob (opnd x T) fun x => appendA g es H s x
def isIntD : TypeDesc → Bool
  | .int _ => true
  | _ => false
def appOk (te : TI) (z : AV) : Bool := (Nat.ble te.bytes 4096 && Nat.blt 0 te.bytes) && (Nat.beq (AV.len (cellsA z)) te.size && Nat.blt 0 te.size)
def hvAppendK (t xt : Nat) (s x : Operand) : Option HvK :=
  ob (tyOf E t) fun ti => ob (tyOf E xt) fun tx => match ti.d, isIntD tx.d with
  | .slice e, false => ob (tyOf E e) fun te => ob (grownK E e) fun g => ob te.zero fun z => bt (appOk te z) (some ⟨hvAppend g te.size s x⟩) none
  | _, _ => none
def hvCopy (es : Nat) (d s : Operand) (_ : Rec) (T : Tr AV) (H : AH) : Option (AV × AH) :=
  ob (opnd d T) fun d => ob (opnd s T) fun s => copyA H es d s
def hvCopyK (t : Nat) (d s : Operand) : Option HvK :=
  ob (tyOf E t) fun ti => match ti.d with
  | .slice e => ob (tyOf E e) fun te => some ⟨hvCopy te.size d s⟩
  | _ => none
def clSlice (z : AV) (x : Operand) (_ : Rec) (T : Tr AV) (H : AH) : Option (AV × AH) :=
  ob (opnd x T) fun v => onSl v (some (undefA, H)) fun b off n _ => nc n (some (undefA, H)) fun _ => ob (storeAll H b off (zerosA z n)) fun H' => some (undefA, H')
def clMap (x : Operand) (_ : Rec) (T : Tr AV) (H : AH) : Option (AV × AH) :=
  ob (opnd x T) fun v => onMap v (some (undefA, H)) fun r => ob (H.get r) fun o => onMp o fun _ clock => some (undefA, H.set r (.mp [] clock))
def clearK (t : Nat) (x : Operand) : Option HvK :=
  ob (tyOf E t) fun ti => match ti.d with
  | .slice e => ob (zeroA E e) fun z => some ⟨clSlice (cellsA z) x⟩
  | .map _ _ => some ⟨clMap x⟩
  | _ => none
def eraseN : Nat → List MEnt → List MEnt
  | _, [] => []
  | 0, _ :: r => r
  | n + 1, e :: r => e :: eraseN n r
def deleteA (q : KyK) (m k : Operand) (_ : Rec) (T : Tr AV) (H : AH) : Option (AV × AH) :=
  ob (opnd m T) fun m => ob (opnd k T) fun k => onMap m (some (undefA, H)) fun r => ob (H.get r) fun o => onMp o fun es clock =>
  ob (findA q H k es 0) fun s => oc s (some (undefA, H)) fun p => some (undefA, H.set r (.mp (eraseN p.1 es) clock))
def deleteK (t : Nat) (m k : Operand) : Option HvK :=
  ob (tyOf E t) fun ti => match ti.d with
  | .map kt _ => ob (keyK E kt) fun q => some ⟨deleteA q m k⟩
  | _ => none
def setN : Nat → AV → AV → List MEnt → List MEnt
  | _, _, _, [] => []
  | 0, k, v, e :: r => { e with key := k, val := v } :: r
  | n + 1, k, v, e :: r => e :: setN n k v r
def mapSetA (q : KyK) (m k v : Operand) (_ : Rec) (T : Tr AV) (H : AH) : Option (AV × AH) :=
  ob (opnd m T) fun m => ob (opnd k T) fun k => ob (opnd v T) fun v => onMap m none fun r => ob (H.get r) fun o => onMp o fun es clock =>
  ob (findA q H k es 0) fun s => oc s (some (undefA, H.set r (.mp (es ++ [{ key := k, val := v, born := clock }]) (Nat.succ clock)))) fun p =>
    some (undefA, H.set r (.mp (setN p.1 k v es) clock))
def mapSetK (t : Nat) (m k v : Operand) : Option HvK :=
  ob (tyOf E t) fun ti => match ti.d with
  | .map kt _ => ob (keyK E kt) fun q => some ⟨mapSetA q m k v⟩
  | _ => none
def hasN (x : Nat) : List Nat → Bool
  | [] => false
  | y :: r => bt (Nat.beq x y) true (hasN x r)
def leftOf (seen : List Nat) : List MEnt → List MEnt
  | [] => []
  | e :: r => bt (hasN e.born seen) (leftOf seen r) (e :: leftOf seen r)
def anyOld (st : Nat) : List MEnt → Bool
  | [] => true
  | e :: r => bt (Nat.blt e.born st) true (match r with
    | [] => false
    | _ :: _ => anyOld st r)
def nextA (it : Operand) (_ : Rec) (T : Tr AV) (H : AH) : Option (AV × AH) :=
  ob (opnd it T) fun v => match v with
  | .ptr r 0 => match H.get r with
    | some (.mit none _ _ _) => some (.tup (.cons (.bool false) .nil), H)
    | some (.mit (some m) since seen st) => match H.get m with
      | some (.mp es clock) => match (Nat.beq clock st && Nat.beq clock since) && anyOld st es with
        | true => match leftOf seen es with
          | [] => some (.tup (.cons (.bool false) .nil), H)
          | [e] => bt (Nat.blt e.born since) (some (.tup (.cons (.bool true) (.cons e.key (.cons e.val .nil))), H.set r (.mit (some m) since (e.born :: seen) clock))) none
          | _ => none
        | false => none
      | _ => none
    | _ => none
  | _ => none
def allOld (since : Nat) : List MEnt → Bool
  | [] => true
  | e :: r => Nat.blt e.born since && allOld since r
def optOf (r m since : Nat) (seen : List Nat) (H : AH) (e : MEnt) : AV × AH :=
  (.tup (.cons (.bool true) (.cons e.key (.cons e.val .nil))), H.set r (.mit (some m) since (e.born :: seen) since))
def optsOf (r m since : Nat) (seen : List Nat) (H : AH) : List MEnt → List (AV × AH)
  | [] => []
  | e :: l => optOf r m since seen H e :: optsOf r m since seen H l
def nextOpts (it : Operand) (T : Tr AV) (H : AH) : Option (List (AV × AH)) :=
  ob (opnd it T) fun v => match v with
  | .ptr r 0 => match H.get r with
    | some (.mit none _ _ _) => some [(.tup (.cons (.bool false) .nil), H)]
    | some (.mit (some m) since seen st) => match H.get m with
      | some (.mp es clock) => match (Nat.beq clock st && Nat.beq clock since) && anyOld st es with
        | true => match leftOf seen es with
          | [] => some [(.tup (.cons (.bool false) .nil), H)]
          | e :: l => bt (allOld since (e :: l)) (some (optsOf r m since seen H (e :: l))) none
        | false => none
      | _ => none
    | _ => none
  | _ => none
structure FoK where
  f : AH → AV → Option AV
def followK : List FieldStep → Nat → Bool → Option (FoK × Nat × Bool)
  | [], t, var => some (⟨fun _ x => some x⟩, t, var)
  | s :: r, t, var => ob (tyOf E s.struct) fun ts => ob (fieldOf ts.d s.index) fun fd => ob (tyOf E fd.type) fun tf =>
    match s.deref, var with
    | true, false => match tf.size with
      | 0 => none
      | _ + 1 => ob (followK r fd.type true) fun k => some (⟨fun H x => match x with
          | .ptr b off => k.1.f H (.ptr b (Nat.add off fd.offset))
          | _ => none⟩, k.2)
    | true, true => match tf.size with
      | 0 => none
      | _ + 1 => ob (ldK E t) fun ld => ob (followK r fd.type true) fun k => some (⟨fun H x => ob (ld.f H x) fun p => match p with
          | .ptr b off => k.1.f H (.ptr b (Nat.add off fd.offset))
          | _ => none⟩, k.2)
    | false, true => match tf.size with
      | 0 => none
      | _ + 1 => ob (followK r fd.type true) fun k => some (⟨fun H x => match x with
          | .ptr b off => k.1.f H (.ptr b (Nat.add off fd.offset))
          | _ => none⟩, k.2)
    | false, false => ob (partK E fd.type) fun pk => ob (followK r fd.type false) fun k => some (⟨fun H x => match x with
        | .agg cs => ob (pk.f fd.offset cs) fun v => k.1.f H v
        | _ => none⟩, k.2)
def recvK (xt : Nat) (var pr : Bool) : Option VK :=
  ob (tyOf E xt) fun ti =>
  match ti.d with
  | .pointer e => match pr, var with
    | true, true => ldK E xt
    | true, false => some ⟨fun _ x => some x⟩
    | false, true => ob (ldK E xt) fun a => ob (ldK E e) fun b => some ⟨fun H x => ob (a.f H x) fun p => b.f H p⟩
    | false, false => ldK E e
  | _ => match pr, var with
    | true, true => some ⟨fun _ x => some x⟩
    | true, false => none
    | false, true => ldK E xt
    | false, false => some ⟨fun _ x => some x⟩
structure MeK where
  fid : Nat
  f : AH → AV → Option AV
def methodK (t : Nat) (name : String) : Option MeK :=
  ob (tyOf E t) fun ti => ob (findM name ti.methods.toList) fun m =>
  ob (followK E m.path.toList t false) fun k =>
  match m.func with
  | none => none
  | some (f, pr) => ob (recvK E k.2.1 k.2.2 pr) fun r => some ⟨f, fun H v => ob (k.1.f H v) fun x => r.f H x⟩
def callFA (R : Rec) (H : AH) (g : Nat) (l : AV) : Option (AV × AH) :=
  oc (E.ext g l H) (R.call g l H) fun v => some (v, H)
def callMA (R : Rec) (H : AH) (recv : AV) (name : String) (args : AV) : Option (AV × AH) :=
  onIfc recv none fun t v => ob (methodK E t name) fun k => ob (k.f H v) fun r => callFA E R H k.fid (.cons r args)
def callVA (R : Rec) (H : AH) (f args : AV) : Option (AV × AH) :=
  onFn f fun q first cap => match q with
    | .func g => callFA E R H g (AV.app first (AV.app args cap))
    | .yield l => R.round l (AV.app first args) H
    | .method name => onCons (AV.app first args) none fun r rest => callMA E R H r name rest
    | _ => none
def hvCallF (g : Nat) (l : LsK) (R : Rec) (T : Tr AV) (H : AH) : Option (AV × AH) := ob (l.f T) fun l => callFA E R H g l
def hvCallV (f : Operand) (l : LsK) (R : Rec) (T : Tr AV) (H : AH) : Option (AV × AH) :=
  ob (opnd f T) fun f => ob (l.f T) fun l => callVA E R H f l
def hvInvoke (r : Operand) (name : String) (l : LsK) (R : Rec) (T : Tr AV) (H : AH) : Option (AV × AH) :=
  ob (opnd r T) fun v => ob (l.f T) fun l => callMA E R H v name l
def hvStore (k : WK) (a x : Operand) (_ : Rec) (T : Tr AV) (H : AH) : Option (AV × AH) :=
  ob (opnd a T) fun a => ob (opnd x T) fun v => ob (k.f H v a) fun H' => some (undefA, H')
def hvRange (x : Operand) (_ : Rec) (T : Tr AV) (H : AH) : Option (AV × AH) :=
  ob (opnd x T) fun v => onMap v (some (.ptr H.next 0, H.new (.mit none 0 [] 0))) fun r => ob (H.get r) fun o => onMp o fun _ clock =>
  some (.ptr H.next 0, H.new (.mit (some r) clock [] clock))
def hvSame (x : Operand) (_ : Rec) (T : Tr AV) (H : AH) : Option (AV × AH) :=
  ob (opnd x T) fun v => onSl v none fun b off n c => bt (Nat.blt 0 n) (ob (H.get b) fun o => bt (isBy o) (some (.sl b off n c, H)) none) none
def heavyCall (c : Call) : Option HvK :=
  match c.callee with
  | .value f => match f with
    | .func g => some ⟨hvCallF E g (opnds c.args.toList)⟩
    | f => some ⟨hvCallV E f (opnds c.args.toList)⟩
  | .invoke r name => some ⟨hvInvoke E r name (opnds c.args.toList)⟩
  | .builtin b => match b with
    | .append => match c.args.toList, c.argTypes.toList with
      | [s, x], t :: xt :: _ => hvAppendK E t xt s x
      | _, _ => none
    | .copy => match c.args.toList, c.argTypes.toList with
      | [d, s], t :: _ => hvCopyK E t d s
      | _, _ => none
    | .clear => match c.args.toList, c.argTypes.toList with
      | [x], t :: _ => clearK E t x
      | _, _ => none
    | .delete => match c.args.toList, c.argTypes.toList with
      | [m, k], t :: _ => deleteK E t m k
      | _, _ => none
    | _ => none
def heavyK : Op → Option HvK
  | .store t a x => ob (stK E t) fun k => some ⟨hvStore k a x⟩
  | .mapUpdate t m k x => mapSetK E t m k x
  | .insert t m k x => mapSetK E t m k x
  | .next it s => match s with
    | false => some ⟨nextA it⟩
    | true => none
  | .convert s d x => match Nat.beq s d with
    | true => ob (tyOf E s) fun ts => match ts.d with
      | .slice e => ob (tyOf E e) fun te => match isByteD te.d with
        | true => some ⟨hvSame x⟩
        | false => none
      | _ => none
    | false => none
  | .range t x => ob (tyOf E t) fun ti => match ti.d with
    | .map _ _ => some ⟨hvRange x⟩
    | _ => none
  | .call c => heavyCall E c
  | _ => none
inductive Kd where
  | look (k : LK)
  | fresh (k : FrK)
  | heavy (k : HvK)
  | dfr (f : Operand) (l : LsK)
  | rcv
def actK (o : Op) : Kd :=
  match lookK E o with
  | some k => .look k
  | none => match freshK E o with
    | some k => .fresh k
    | none => match heavyK E o with
      | some k => .heavy k
      | none => match o with
        | .defer c => match c.callee with
          | .value f => .dfr f (opnds c.args.toList)
          | _ => .look ⟨fun _ _ => none⟩
        | .call c => match c.callee with
          | .builtin b => match b with
            | .recover => .rcv
            | _ => .look ⟨fun _ _ => none⟩
          | _ => .look ⟨fun _ _ => none⟩
        | _ => .look ⟨fun _ _ => none⟩
def guardOf (ops : List Oper) : Option (Nat × Bool) → Option (Option (Nat × Bool))
  | none => some none
  | some (j, want) => ob ops[j]? fun o => ob o.dst fun d => some (some (d, want))
def wantG (d : Nat) (want : Bool) (T : Tr AV) : Option Bool := ob (T.get (bits d)) fun v => some (oc (onBool v some) false fun b => bEq b want)
def putA (T : Tr AV) (dst : Option Nat) (v : AV) : Tr AV := oc dst T fun d => T.put (some v) (bits d)
structure Sp where
  g : Option (Nat × Bool)
  dst : Option Nat
  act : Kd
def dstOk (n : Nat) : Option Nat → Bool
  | none => true
  | some d => Nat.blt d n
def spK (n : Nat) (ops : List Oper) (o : Oper) : Option Sp :=
  ob (guardOf ops o.guard) fun g => bt (dstOk n o.dst) (some { g, dst := o.dst, act := actK E o.op }) none
structure RK where
  f : Rec → Tr AV → List ADf → AH → Out
def tLook (k : LK) (dst : Option Nat) (nx : RK) (R : Rec) (T : Tr AV) (D : List ADf) (H : AH) : Out :=
  oc (k.f T H) .bad fun v => nx.f R (putA T dst v) D H
def tFresh (k : FrK) (dst : Option Nat) (nx : RK) (R : Rec) (T : Tr AV) (D : List ADf) (H : AH) : Out :=
  oc (k.f T H.next) .bad fun r => nx.f R (putA T dst r.1) D (H.new r.2)
def tHeavy (k : HvK) (dst : Option Nat) (nx : RK) (R : Rec) (T : Tr AV) (D : List ADf) (H : AH) : Out :=
  oc (k.f R T H) .bad fun r => nx.f R (putA T dst r.1) D r.2
def tDfr (f : Operand) (l : LsK) (dst : Option Nat) (nx : RK) (R : Rec) (T : Tr AV) (D : List ADf) (H : AH) : Out :=
  oc (ob (opnd f T) fun fv => ob (l.f T) fun l => onFn fv fun q first cap => some ({ mark := none, f := .fn q .nil cap, args := AV.app first l } : ADf)) .bad fun d =>
    nx.f R (putA T dst undefA) (d :: D) H
def tRcv (dst : Option Nat) (nx : RK) (R : Rec) (T : Tr AV) (D : List ADf) (H : AH) : Out := nx.f R (putA T dst .inil) D H
def tAct (dst : Option Nat) (nx : RK) : Kd → RK
  | .look k => ⟨tLook k dst nx⟩
  | .fresh k => ⟨tFresh k dst nx⟩
  | .heavy k => ⟨tHeavy k dst nx⟩
  | .dfr f l => ⟨tDfr f l dst nx⟩
  | .rcv => ⟨tRcv dst nx⟩
def tGuard (d : Nat) (want : Bool) (dst : Option Nat) (k nx : RK) (R : Rec) (T : Tr AV) (D : List ADf) (H : AH) : Out :=
  oc (wantG d want T) .bad fun b => bt b (k.f R T D H) (nx.f R (putA T dst undefA) D H)
def tSp (sp : Sp) (nx : RK) : RK :=
  match sp.g with
  | none => tAct sp.dst nx sp.act
  | some (d, want) => ⟨tGuard d want sp.dst (tAct sp.dst nx sp.act) nx⟩
def isDfr : Kd → Bool
  | .dfr .. => true
  | .rcv => true
  | _ => false
def opsK (n : Nat) (rd : Bool) (all : List Oper) : List Oper → Option RK
  | [] => some ⟨fun _ T D H => .nor T D H⟩
  | o :: r => ob (spK E n all o) fun sp => bt (rd && isDfr sp.act) none (ob (opsK n rd all r) fun k => some (tSp sp k))
def bindsA (e : Edge) : Bool :=
  match e.ground with
  | .textOnly _ | .gcOnly _ => false
  | _ => true
def maskOf (pm : Tr Nat) : List Edge → Nat
  | [] => 0
  | e :: r => bt (bindsA e) (Nat.lor (Nat.lor (Nat.shiftLeft 1 e.on) (oc (pm.get (bits e.on)) 0 id)) (maskOf pm r)) (maskOf pm r)
def masks : List Oper → Nat → Tr Nat → Tr Nat
  | [], _, pm => pm
  | o :: r, i, pm => masks r (Nat.add i 1) (pm.put (some (maskOf pm o.after.toList)) (bits i))
def edgesOk : List Oper → Nat → Bool
  | [], _ => true
  | o :: r, i => (o.after.toList.all fun e => !(bindsA e) || Nat.blt e.on i) && edgesOk r (Nat.add i 1)
def mAt (pm : Tr Nat) (i : Nat) : Nat := oc (pm.get (bits i)) 0 id
def isHv : Kd → Bool
  | .heavy _ => true
  | _ => false
def heavies : List Oper → Nat → List Nat
  | [], _ => []
  | o :: r, i => match isHv (actK E o.op) with
    | true => i :: heavies r (Nat.add i 1)
    | false => heavies r (Nat.add i 1)
def countLo (m : Nat) : List Nat → Nat
  | [] => 0
  | h :: r => match Nat.testBit m h with
    | true => Nat.add (countLo m r) 1
    | false => 0
def countHi (pm : Tr Nat) (i : Nat) : List Nat → Nat
  | [] => 0
  | h :: r => match Nat.testBit (mAt pm h) i with
    | true => 0
    | false => Nat.add (countHi pm i r) 1
structure RO where
  i : Nat
  o : Oper
  sp : Sp
  heavy : Bool
  lo : Nat
  hi : Nat
def ros (n : Nat) (all : List Oper) (pm : Tr Nat) (hv : List Nat) : List Oper → Nat → Option (List RO)
  | [], _ => some []
  | o :: r, i => ob (spK E n all o) fun sp => ob (ros n all pm hv r (Nat.add i 1)) fun l =>
    some ({ i, o, sp, heavy := isHv sp.act, lo := countLo (mAt pm i) hv, hi := countHi pm i hv } :: l)
def stageOf (j : Nat) : List RO → List RO
  | [] => []
  | x :: r => match !x.heavy && Nat.beq x.lo j with
    | true => x :: stageOf j r
    | false => stageOf j r
def heavyOf (j : Nat) : List RO → List RO
  | [] => []
  | x :: r => match x.heavy && Nat.beq x.lo j with
    | true => x :: heavyOf j r
    | false => heavyOf j r
def orderOf (l : List RO) : Nat → Nat → List RO
  | 0, j => stageOf j l
  | k + 1, j => stageOf j l ++ (heavyOf j l ++ orderOf l k (Nat.add j 1))
def looksA (x : RO) : List Nat :=
  (x.o.op.operands.toList.filterMap fun | .tmp t => some t | _ => none) ++
  (match x.sp.g with
   | some (d, _) => [d]
   | none => [])
def dstIs (t : Nat) : Option Nat → Bool
  | some d => Nat.beq d t
  | none => false
def tmpsOk (pm : Tr Nat) (x : RO) : List RO → Bool
  | [] => true
  | y :: r =>
    (Nat.beq x.i y.i || (Nat.testBit (mAt pm x.i) y.i || (Nat.testBit (mAt pm y.i) x.i ||
      !((looksA x).any fun t => dstIs t y.o.dst)))) && ((Nat.beq x.i y.i || !(match x.o.dst with
      | some d => dstIs d y.o.dst
      | none => false)) && tmpsOk pm x r)
def noDefer : List RO → Bool
  | [] => true
  | x :: r => !(isDfr x.sp.act) && noDefer r
def setBit (acc i : Nat) : Nat := Nat.lor acc (Nat.shiftLeft 1 i)
def ordOk (pm : Tr Nat) (n : Nat) : List RO → Nat → Nat → List Nat → Bool
  | [], acc, _, hv => Nat.beq (Nat.succ acc) (Nat.shiftLeft 1 n) && (match hv with
    | [] => true
    | _ :: _ => false)
  | x :: r, acc, cnt, hv => (!(Nat.testBit acc x.i) && Nat.beq (Nat.land (mAt pm x.i) acc) (mAt pm x.i)) && (match x.heavy with
    | true => match hv with
      | [] => false
      | h :: hr => (Nat.beq h x.i && Nat.beq x.lo cnt) && ordOk pm n r (setBit acc x.i) (Nat.add cnt 1) hr
    | false => Nat.ble cnt x.lo && ordOk pm n r (setBit acc x.i) cnt hv)
structure RA where
  ord : List RO
def analyse (n : Nat) (ops : List Oper) : Option RA :=
  let pm := masks ops 0 .e
  let hv := heavies E ops 0
  ob (ros E n ops pm hv ops 0) fun l =>
  match edgesOk ops 0 && (noDefer l && (l.all (fun x => tmpsOk pm x l) && ordOk pm ops.length (orderOf l hv.length 0) 0 0 hv)) with
  | true => some { ord := orderOf l hv.length 0 }
  | false => none
structure Done where
  x : RO
  T : Tr AV
  want : Bool
  v : AV
  blk : Option (Nat × AObj)
  hp : Option (AH × AH)
structure DS where
  T : Tr AV
  H : AH
  hs : List AH          -- the heaps ahead of each heavy one, the last first
  dn : List Done
structure DK where
  f : Rec → DS → Option DS
def resT : List Nat → Tr AV → Tr AV
  | [], _ => .e
  | t :: r, T => oc (T.get (bits t)) (resT r T) fun v => (resT r T).put (some v) (bits t)
def drawAct (x : RO) (R : Rec) (t : Tr AV) (s : DS) : Option DS :=
  match x.sp.act with
  | .look k => ob (k.f t s.H) fun v => some { T := putA s.T x.sp.dst v, H := s.H, hs := s.hs, dn := { x, T := t, want := true, v, blk := none, hp := none } :: s.dn }
  | .heavy k => ob (k.f R t s.H) fun r => bt (Nat.ble s.H.next r.2.next) (some { T := putA s.T x.sp.dst r.1, H := r.2, hs := s.H :: s.hs, dn := { x, T := t, want := true, v := r.1, blk := none, hp := some (s.H, r.2) } :: s.dn }) none
  | .fresh k => ob (k.f t s.H.next) fun r => some { T := putA s.T x.sp.dst r.1, H := s.H.new r.2, hs := s.hs, dn := { x, T := t, want := true, v := r.1, blk := some (s.H.next, r.2), hp := none } :: s.dn }
  | _ => none
def wantA (g : Option (Nat × Bool)) (T : Tr AV) : Option Bool := oc g (some true) fun p => wantG p.1 p.2 T
def draw1 (x : RO) (R : Rec) (s : DS) : Option DS :=
  ob (wantA x.sp.g s.T) fun wnt => bt wnt (drawAct x R (resT (looksA x) s.T) s)
    (some { T := putA s.T x.sp.dst undefA, H := s.H, hs := bt x.heavy (s.H :: s.hs) s.hs, dn := { x, T := .e, want := false, v := undefA, blk := none, hp := bt x.heavy (some (s.H, s.H)) none } :: s.dn })
def thenD (x : RO) (k : DK) (R : Rec) (s : DS) : Option DS := ob (draw1 x R s) fun s' => k.f R s'
def drawsK : List RO → DK
  | [] => ⟨fun _ s => some s⟩
  | x :: r => ⟨thenD x (drawsK r)⟩
def mentBeq (a b : MEnt) : Bool := AV.beq a.key b.key && (AV.beq a.val b.val && Nat.beq a.born b.born)
def objBeq : AObj → AObj → Bool
  | .bys e s o n, .bys e' s' o' n' => (Nat.beq e e' && Nat.beq s s') && (bEq o o' && Nat.beq n n')
  | .cs e a s o z t, .cs e' a' s' o' z' t' => ((Nat.beq e e' && Nat.beq a a') && (Nat.beq s s' && bEq o o')) && (AV.beq z z' && Tr.beq AV.beq t t')
  | .mp [] c, .mp [] c' => Nat.beq c c'
  | .mit m s [] st, .mit m' s' [] st' => optBeq m m' && (Nat.beq s s' && Nat.beq st st')
  | _, _ => false
def sameAt (f : AH → Bool) : Nat → Nat → List AH → Bool
  | 0, 0, _ => true
  | 0, _ + 1, [] => false
  | 0, cnt + 1, h :: r => f h && sameAt f 0 cnt r
  | _ + 1, _, [] => false
  | lo + 1, cnt, _ :: r => sameAt f lo cnt r
def holdsBlk (b : Nat) (o : AObj) (H : AH) : Bool :=
  oc (H.get b) false fun o' => objBeq o o'
def looksSame (k : LK) (T : Tr AV) (v : AV) (H : AH) : Bool := oc (k.f T H) false fun v' => AV.beq v' v
def pureK : Op → Bool
  | .move _ | .assign _ | .pick .. | .build .. | .nilCheck _ | .unOp .. | .makeInterface .. | .makeFunc .. | .fieldAddr .. | .field ..
  | .indexAddr .. | .index .. | .extract .. | .typeAssert .. => true
  | _ => false
def check1 (hs : List AH) (d : Done) : Bool :=
  match d.want with
  | false => true
  | true => match d.x.sp.act with
    | .look k => match pureK d.x.o.op with
      | true => true
      | false => sameAt (looksSame k d.T d.v) d.x.lo (Nat.add (Nat.sub d.x.hi d.x.lo) 1) hs
    | .fresh _ => match d.blk with
      | some (b, o) => sameAt (holdsBlk b o) d.x.lo (Nat.add (Nat.sub d.x.hi d.x.lo) 1) hs
      | none => false
    | _ => true
def checkA (hs : List AH) : List Done → Bool
  | [] => true
  | d :: r => check1 hs d && checkA hs r
def drawRun (k : DK) (R : Rec) (T : Tr AV) (D : List ADf) (H : AH) : Out :=
  oc (k.f R { T, H, hs := [], dn := [] }) .bad fun d => bt (checkA ((d.H :: d.hs).reverse) d.dn) (.nor d.T D d.H) .bad
def drawK (n : Nat) (ops : List Oper) : Option RK := ob (analyse E n ops) fun a => some ⟨drawRun (drawsK a.ord)⟩
def iterA (f : Tr AV → List ADf → AH → Out) : Nat → Tr AV → List ADf → AH → Out
  | 0, T, D, H => f T D H
  | k + 1, T, D, H => oOut (iterA f k T D H) fun T D H => iterA f k T D H
def loopA (f : Tr AV → List ADf → AH → Out) : Nat → Nat → Tr AV → List ADf → AH → Out
  | 0, _, _, _, _ => .bad
  | fuel + 1, k, T, D, H => oOut (iterA f k T D H) fun T D H => loopA f fuel (Nat.succ k) T D H
def cSeq (a b : RK) (R : Rec) (T : Tr AV) (D : List ADf) (H : AH) : Out := oOut (a.f R T D H) fun T D H => b.f R T D H
def cCond (c : Operand) (a b : RK) (R : Rec) (T : Tr AV) (D : List ADf) (H : AH) : Out :=
  oc (ob (opnd c T) fun v => onBool v some) .bad fun t => bt t (a.f R T D H) (b.f R T D H)
def cBlock (id : Nat) (a : RK) (R : Rec) (T : Tr AV) (D : List ADf) (H : AH) : Out := bOut id (a.f R T D H)
def cLoop (a : RK) (R : Rec) (T : Tr AV) (D : List ADf) (H : AH) : Out := loopA (a.f R) 40 0 T D H
def mentsSame : List MEnt → List MEnt → Bool
  | [], l => (match l with
    | [] => true
    | _ :: _ => false)
  | a :: r, l => (match l with
    | [] => false
    | b :: s => mentBeq a b && mentsSame r s)
def natsSame : List Nat → List Nat → Bool
  | [], l => (match l with
    | [] => true
    | _ :: _ => false)
  | a :: r, l => (match l with
    | [] => false
    | b :: s => Nat.beq a b && natsSame r s)
def objSame : AObj → AObj → Bool
  | .bys e s o n, .bys e' s' o' n' => (Nat.beq e e' && Nat.beq s s') && (bEq o o' && Nat.beq n n')
  | .cs e a s o z t, .cs e' a' s' o' z' t' => ((Nat.beq e e' && Nat.beq a a') && (Nat.beq s s' && bEq o o')) && (AV.beq z z' && Tr.beq AV.beq t t')
  | .mp es c, .mp es' c' => mentsSame es es' && Nat.beq c c'
  | .mit m s l st, .mit m' s' l' st' => (optBeq m m' && Nat.beq s s') && (natsSame l l' && Nat.beq st st')
  | .dfr t, .dfr t' => bEq t t'
  | _, _ => false
def meetO {α : Type} (f : α → α → Bool) (a b : Option α) : Option α := oc a none fun x => oc b none fun y => bt (f x y) (some x) none
def meetT {α : Type} (f : α → α → Bool) : Tr α → Tr α → Tr α
  | .e, _ => .e
  | .n v a b c d, t => match t with
    | .e => .e
    | .n v' a' b' c' d' => .n (meetO f v v') (meetT f a a') (meetT f b b') (meetT f c c') (meetT f d d')
def dfSame : ADf → ADf → Bool
  | x, y => optBeq x.mark y.mark && (AV.beq x.f y.f && AV.beq x.args y.args)
def dfsSame : List ADf → List ADf → Bool
  | [], l => (match l with
    | [] => true
    | _ :: _ => false)
  | a :: r, l => (match l with
    | [] => false
    | b :: s => dfSame a b && dfsSame r s)
def meetH (H H' : AH) : AH := { next := H.next, t := meetT objSame H.t H'.t }
def meetOut : Out → Out → Out
  | .ext i T D H, o => (match o with
    | .ext j T' D' H' => bt (Nat.beq i j && (dfsSame D D' && Nat.beq H.next H'.next)) (.ext i (meetT AV.beq T T') D (meetH H H')) .bad
    | _ => .bad)
  | .ret T D H, o => (match o with
    | .ret T' D' H' => bt (dfsSame D D' && Nat.beq H.next H'.next) (.ret (meetT AV.beq T T') D (meetH H H')) .bad
    | _ => .bad)
  | _, _ => .bad
def meetAll (o : Out) : List Out → Out
  | [] => o
  | p :: r => meetAll (meetOut o p) r
def meetL : List Out → Out
  | [] => .bad
  | o :: r => meetAll o r
def catA (f : AV × AH → List Out) : List (AV × AH) → List Out
  | [] => []
  | p :: r => f p ++ catA f r
structure MH where
  it : Operand
  dst : Option Nat
  k : RK
def mapHead (n : Nat) (rd : Bool) : Code → Option MH
  | .region _ ops draw => match draw with
    | true => none
    | false => match ops.toList with
      | [] => none
      | o :: os => match o.op with
        | .next it str => match str with
          | true => none
          | false => match o.guard with
            | some _ => none
            | none => bt (dstOk n o.dst) (ob (opsK E n rd (o :: os) os) fun k => some { it, dst := o.dst, k }) none
        | _ => none
  | _ => none
def mapBody (h : MH) (kr : RK) (R : Rec) (go : Tr AV → List ADf → AH → List Out) (T : Tr AV) (D : List ADf) (p : AV × AH) : List Out :=
  match h.k.f R (putA T h.dst p.1) D p.2 with
  | .nor T1 D1 H1 => match kr.f R T1 D1 H1 with
    | .nor T2 D2 H2 => go T2 D2 H2
    | .ext i T2 D2 H2 => [.ext i T2 D2 H2]
    | .ret T2 D2 H2 => [.ret T2 D2 H2]
    | .bad => [.bad]
  | .ext i T2 D2 H2 => [.ext i T2 D2 H2]
  | .ret T2 D2 H2 => [.ret T2 D2 H2]
  | .bad => [.bad]
def mapA (h : MH) (kr : RK) (R : Rec) : Nat → Tr AV → List ADf → AH → List Out
  | 0, _, _, _ => [.bad]
  | f + 1, T, D, H => oc (nextOpts h.it T H) [.bad] fun l => catA (mapBody h kr R (mapA h kr R f) T D) l
def cMapLoop (h : MH) (kr : RK) (R : Rec) (T : Tr AV) (D : List ADf) (H : AH) : Out := meetL (mapA h kr R 100 T D H)
def cRangeEnd (l : Nat) (T : Tr AV) (D : List ADf) (H : AH) : Out :=
  match H.get l with
  | some (.loop q) => match q.state with
    | .busy => .bad
    | _ => match q.pending with
      | none => .nor T D (H.set l (.loop { q with state := .exhausted }))
      | some c => match c with
        | .ret => .ret T D (H.set l (.loop { q with state := .exhausted }))
        | .exit id => .ext id T D (H.set l (.loop { q with state := .exhausted }))
        | _ => .bad
  | _ => .bad
def cRangeRun (fid n : Nat) (f : Operand) (params : List Nat) (assign body : Code) (dfr : Nat) (R : Rec) (T : Tr AV) (D : List ADf) (H : AH) : Out :=
  match opnd f T with
  | some (.fn q first cap) => match q with
    | .func g =>
      oc (R.call g (AV.app first (AV.cons (.fn (.yield H.next) .nil .nil) cap))
        (H.new (.loop { state := .ready, pending := none, fn := fid, tmps := T, ntmps := n, params, assign, body, defers := dfr }))) .bad fun r =>
      cRangeEnd H.next T D r.2
    | _ => .bad
  | _ => .bad
def cRange (fid n : Nat) (rd : Option Nat) (f : Operand) (params : List Nat) (assign body : Code) (R : Rec) (T : Tr AV) (D : List ADf) (H : AH) : Out :=
  match rd with
  | some l => match H.get l with
    | some (.loop q) => cRangeRun fid n f params assign body q.defers R T D H
    | _ => .bad
  | none => cRangeRun fid n f params assign body H.next R T ({ mark := some H.next, f := .nil, args := .nil } :: D) (H.new (.dfr true))
def compK (fid n : Nat) (rd : Option Nat) : Code → Option RK
  | .skip => some ⟨fun _ T D H => .nor T D H⟩
  | .label _ => some ⟨fun _ T D H => .nor T D H⟩
  | .region _ ops draw => match draw with
    | false => opsK E n rd.isSome ops.toList ops.toList
    | true => drawK E n ops.toList
  | .seq a b => ob (compK fid n rd a) fun x => ob (compK fid n rd b) fun y => some ⟨cSeq x y⟩
  | .cond c a b => ob (compK fid n rd a) fun x => ob (compK fid n rd b) fun y => some ⟨cCond c x y⟩
  | .block id c => ob (compK fid n rd c) fun x => some ⟨cBlock id x⟩
  | .loop (.seq a d) => ob (compK fid n rd d) fun y => match mapHead E n rd.isSome a with
    | some h => some ⟨cMapLoop h y⟩
    | none => ob (compK fid n rd a) fun x => some ⟨cLoop ⟨cSeq x y⟩⟩
  | .loop c => ob (compK fid n rd c) fun x => some ⟨cLoop x⟩
  | .scope c => compK fid n rd c
  | .exit id => some ⟨fun _ T D H => .ext id T D H⟩
  | .ret => some ⟨fun _ T D H => .ret T D H⟩
  | .rangeFunc f params assign body => some ⟨cRange fid n rd f params.toList assign body⟩
  | .goto _ => some ⟨fun _ _ _ _ => .bad⟩
  | .refuse _ => some ⟨fun _ _ _ _ => .bad⟩
def argsT : AV → Nat → Tr AV → Tr AV
  | .cons v r, i, t => argsT r (Nat.succ i) (t.put (some v) (bits i))
  | _, _, t => t
def setParams (n : Nat) : List Nat → AV → Tr AV → Option (Tr AV)
  | [], .nil, t => some t
  | p :: r, .cons v l, t => bt (Nat.blt p n) (setParams n r l (t.put (some v) (bits p))) none
  | _, _, _ => none
def deferA (R : Rec) : List ADf → AH → Option AH
  | [], H => some H
  | d :: r, H => match d.mark with
    | some b => ob (H.get b) fun o => match o with
      | .dfr t => match t with
        | true => deferA R r (H.set b (.dfr false))
        | false => none
      | _ => none
    | none => match d.f with
      | .fn q _ cap => match q with
        | .func g => ob (R.dcall g (AV.app d.args cap) H) fun x => deferA R r x.2
        | _ => none
      | _ => none
structure ReK where
  f : Tr AV → AH → Option AV
def resultsK : List ResultVar → Option ReK
  | [] => some ⟨fun _ _ => some .nil⟩
  | x :: r => ob (resultsK r) fun k => match x with
    | .tmp t => some ⟨fun T H => ob (opnd (.tmp t) T) fun v => ob (k.f T H) fun l => some (.cons v l)⟩
    | .cell a t => ob (ldK E t) fun ld => some ⟨fun T H => ob (opnd (.tmp a) T) fun p => ob (ld.f H p) fun v => ob (k.f T H) fun l => some (.cons v l)⟩
def resultA : AV → AV
  | .cons v .nil => v
  | l => .tup l
structure FnK where
  ntmps : Nat
  body : RK
  res : ReK
def fnK (f : Nat) : Option FnK :=
  ob (E.fn.get (bits f)) fun fi => ob (compK E f fi.ntmps none fi.body) fun body => ob (resultsK E fi.results) fun res => some { ntmps := fi.ntmps, body, res }
def endA (k : FnK) (R : Rec) (T : Tr AV) (D : List ADf) (H : AH) : Option (AV × AH) :=
  ob (deferA R D H) fun H => ob (k.res.f T H) fun l => some (resultA l, H)
def bodyA (k : FnK) (R : Rec) (args : AV) (H : AH) : Option (AV × AH) :=
  match k.body.f R (argsT args 0 .e) [] H with
  | .nor T D H => endA k R T D H
  | .ret T D H => endA k R T D H
  | _ => none
def dcallA (R : Rec) (f : Nat) (args : AV) (H : AH) : Option (AV × AH) :=
  ob (fnK E f) fun k => bt (Nat.ble (AV.len args) k.ntmps) (bodyA k R args H) none
abbrev CallM := Nat → AV → AH → Option (List (AV × AH))
structure MK where
  f : Rec → CallM → Tr AV → List ADf → AH → List Out
def opM (sp : Sp) (R : Rec) (T : Tr AV) (H : AH) : Option (AV × AH) :=
  match sp.act with
  | .look k => ob (k.f T H) fun v => some (v, H)
  | .fresh k => ob (k.f T H.next) fun r => some (r.1, H.new r.2)
  | .heavy k => k.f R T H
  | _ => none
def tOpM (sp : Sp) (nx : MK) (R : Rec) (cm : CallM) (T : Tr AV) (D : List ADf) (H : AH) : List Out :=
  oc (opM sp R T H) [.bad] fun r => nx.f R cm (putA T sp.dst r.1) D r.2
def tCallM (g : Nat) (l : LsK) (dst : Option Nat) (nx : MK) (R : Rec) (cm : CallM) (T : Tr AV) (D : List ADf) (H : AH) : List Out :=
  oc (ob (l.f T) fun args => cm g args H) [.bad] fun rs => catA (fun r => nx.f R cm (putA T dst r.1) D r.2) rs
def directCall : Op → Option (Nat × LsK)
  | .call c => match c.callee with
    | .value f => match f with
      | .func g => some (g, opnds c.args.toList)
      | _ => none
    | _ => none
  | _ => none
def regM (n : Nat) (all : List Oper) : List Oper → Option MK
  | [] => some ⟨fun _ _ T D H => [.nor T D H]⟩
  | o :: r => ob (spK E n all o) fun sp => ob (regM n all r) fun k => match sp.g with
    | some _ => none
    | none => match directCall o.op with
      | some p => some ⟨tCallM p.1 p.2 sp.dst k⟩
      | none => some ⟨tOpM sp k⟩
def catO (f : Tr AV → List ADf → AH → List Out) : List Out → List Out
  | [] => []
  | o :: r => (match o with
    | .nor T D H => f T D H
    | .ext i T D H => [.ext i T D H]
    | .ret T D H => [.ret T D H]
    | .bad => [.bad]) ++ catO f r
def seqM (x y : MK) (R : Rec) (cm : CallM) (T : Tr AV) (D : List ADf) (H : AH) : List Out := catO (fun T D H => y.f R cm T D H) (x.f R cm T D H)
def mapO (g : Out → Out) : List Out → List Out
  | [] => []
  | o :: r => g o :: mapO g r
def endsM (l : Nat) (T : Tr AV) (D : List ADf) : List (AV × AH) → List Out
  | [] => []
  | r :: s => cRangeEnd l T D r.2 :: endsM l T D s
def rangeM (fid n : Nat) (f : Operand) (params : List Nat) (assign body : Code) (_ : Rec) (cm : CallM) (T : Tr AV) (D : List ADf) (H : AH) : List Out :=
  match opnd f T with
  | some (.fn q first cap) => match q with
    | .func g =>
      oc (cm g (AV.app first (AV.cons (.fn (.yield (Nat.succ H.next)) .nil .nil) cap))
        ((H.new (.dfr true)).new (.loop { state := .ready, pending := none, fn := fid, tmps := T, ntmps := n, params, assign, body, defers := H.next }))) [.bad] fun rs =>
      endsM (Nat.succ H.next) T ({ mark := some H.next, f := .nil, args := .nil } :: D) rs
    | _ => [.bad]
  | _ => [.bad]
def oneM (x : RK) : MK := ⟨fun R _ T D H => [x.f R T D H]⟩
def compM (fid n : Nat) : Code → Option MK
  | .region id ops draw => match draw with
    | false => regM E n ops.toList ops.toList
    | true => ob (compK E fid n none (.region id ops true)) fun x => some (oneM x)
  | .seq a b => ob (compM fid n a) fun x => ob (compM fid n b) fun y => some ⟨seqM x y⟩
  | .block id c => ob (compM fid n c) fun x => some ⟨fun R cm T D H => mapO (bOut id) (x.f R cm T D H)⟩
  | .loop (.seq a d) => ob (compK E fid n none d) fun y => match mapHead E n false a with
    | some h => some ⟨fun R _ T D H => mapA h y R 100 T D H⟩
    | none => ob (compK E fid n none (.loop (.seq a d))) fun x => some (oneM x)
  | .rangeFunc f params assign body => some ⟨rangeM fid n f params.toList assign body⟩
  | c => ob (compK E fid n none c) fun x => some (oneM x)
def resM (re : ReK) (R : Rec) : List Out → Option (List (AV × AH))
  | [] => some []
  | o :: r => ob (match o with
    | .nor T D H => ob (deferA R D H) fun H => ob (re.f T H) fun l => some (resultA l, H)
    | .ret T D H => ob (deferA R D H) fun H => ob (re.f T H) fun l => some (resultA l, H)
    | _ => none) fun p => ob (resM re R r) fun l => some (p :: l)
def fnM (R : Rec) (cm : CallM) (f : Nat) (args : AV) (H : AH) : Option (List (AV × AH)) :=
  ob (E.fn.get (bits f)) fun fi => ob (compM E f fi.ntmps fi.body) fun body => ob (resultsK E fi.results) fun res =>
  bt (Nat.ble (AV.len args) fi.ntmps) (resM res R (body.f R cm (argsT args 0 .e) [] H)) none
def meetR (p q : AV × AH) : Option (AV × AH) := bt (AV.beq p.1 q.1 && Nat.beq p.2.next q.2.next) (some (p.1, meetH p.2 q.2)) none
def meetRs (p : AV × AH) : List (AV × AH) → Option (AV × AH)
  | [] => some p
  | q :: r => ob (meetR p q) fun p => meetRs p r
def callMul (R : Rec) (cm : CallM) (f : Nat) (args : AV) (H : AH) : Option (AV × AH) :=
  ob (fnM E R cm f args H) fun l => match l with
  | [] => none
  | p :: r => meetRs p r
def callA (R : Rec) (cm : CallM) (f : Nat) (args : AV) (H : AH) : Option (AV × AH) :=
  oc (E.sums f args H) (bt (E.mul f) (callMul E R cm f args H) (dcallA E R f args H)) some
def roundEnd (l : Nat) (jump : Option Code) (D : List ADf) (H : AH) : Option (AV × AH) :=
  match H.get l, D with
  | some (.loop q), [] => some (.bool jump.isNone, H.set l (.loop { q with state := if jump.isNone then .ready else .done, pending := jump }))
  | _, _ => none
def roundBody (l : Nat) (R : Rec) (body : RK) (T : Tr AV) (D : List ADf) (H : AH) : Option (AV × AH) :=
  match H.get l with
  | some (.loop q) => match q.state with
    | .ready => match body.f R T D (H.set l (.loop { q with state := .busy })) with
      | .nor _ D H => roundEnd l none D H
      | .ret _ D H => roundEnd l (some .ret) D H
      | .ext id _ D H => roundEnd l (some (.exit id)) D H
      | .bad => none
    | _ => none
  | _ => none
def roundA (R : Rec) (l : Nat) (args : AV) (H : AH) : Option (AV × AH) :=
  match H.get l with
  | some (.loop q) =>
    ob (compK E q.fn q.ntmps (some l) q.assign) fun assign => ob (compK E q.fn q.ntmps (some l) q.body) fun body =>
    ob (setParams q.ntmps q.params args q.tmps) fun T =>
    match assign.f R T [] H with
    | .nor T D H => roundBody l R body T D H
    | _ => none
  | _ => none
structure RecM where
  one : Rec
  all : CallM
def recM : Nat → RecM
  | 0 => { one := { call := fun _ _ _ => none, dcall := fun _ _ _ => none, round := fun _ _ _ => none }, all := fun _ _ _ => none }
  | d + 1 => { one := { call := callA E (recM d).one (recM d).all, dcall := dcallA E (recM d).one, round := roundA E (recM d).one }, all := fnM E (recM d).one (recM d).all }
def recA (d : Nat) : Rec := (recM E d).one
end
end
end Go.Xq
