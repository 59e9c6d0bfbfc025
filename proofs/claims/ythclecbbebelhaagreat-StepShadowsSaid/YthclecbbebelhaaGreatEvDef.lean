/-
  A small evaluator over the model's program form: it runs Go code on an abstract memory, in the kernel, and is proved sound elsewhere.
-/
import Derived.Test.YthclecbbebelhaaGreatEvTm
import Derived.Recover
import Derived.Orders
namespace Go.Ev
open Go
noncomputable section

/-! ### Tries -/
inductive Tr (α : Type) where
  | lf
  | nd (l : Tr α) (v : Option α) (r : Tr α)

namespace Tr
def getP {α : Type} (t : Tr α) : Nat → Option α :=
  Tr.rec (motive := fun _ => Nat → Option α) (fun _ => none)
    (fun _ v _ gl gr p => Bool.rec (motive := fun _ => Option α) (Bool.rec (motive := fun _ => Option α) (gr (Nat.div p (nat_lit 2))) (gl (Nat.div p (nat_lit 2))) (Nat.beq (Nat.mod p (nat_lit 2)) (nat_lit 0))) v (Nat.beq p (nat_lit 1))) t
/-- a path of one value; what follows gets it whole -/
def pathK {α β : Type} (a : Option α) (f : Nat) : Nat → (Tr α → β) → β :=
  Nat.rec (motive := fun _ => Nat → (Tr α → β) → β) (fun _ k => k lf)
    (fun _ ih p k => Bool.rec (motive := fun _ => β)
      (Bool.rec (motive := fun _ => β) (ih (Nat.div p (nat_lit 2)) fun t => k (nd lf none t)) (ih (Nat.div p (nat_lit 2)) fun t => k (nd t none lf)) (Nat.beq (Nat.mod p (nat_lit 2)) (nat_lit 0)))
      (k (nd lf a lf)) (Nat.beq p (nat_lit 1))) f
def setPK {α β : Type} (a : Option α) (t : Tr α) : Nat → (Tr α → β) → β :=
  Tr.rec (motive := fun _ => Nat → (Tr α → β) → β) (pathK a 40)
    (fun l v r sl sr p k => Bool.rec (motive := fun _ => β)
      (Bool.rec (motive := fun _ => β) (sr (Nat.div p (nat_lit 2)) fun r' => k (nd l v r')) (sl (Nat.div p (nat_lit 2)) fun l' => k (nd l' v r)) (Nat.beq (Nat.mod p (nat_lit 2)) (nat_lit 0)))
      (k (nd l a r)) (Nat.beq p (nat_lit 1))) t
def get {α : Type} (t : Tr α) (n : Nat) : Option α := getP t (Nat.succ n)
def setK {α β : Type} (t : Tr α) (n : Nat) (a : α) (k : Tr α → β) : β := setPK (some a) t (Nat.succ n) k
def delK {α β : Type} (t : Tr α) (n : Nat) (k : Tr α → β) : β := setPK none t (Nat.succ n) k
def set {α : Type} (t : Tr α) (n : Nat) (a : α) : Tr α := setK t n a id
def del {α : Type} (t : Tr α) (n : Nat) : Tr α := delK t n id
end Tr

/-! ### Whole values: what follows gets them written out -/
def natK {β : Type} (n : Nat) (k : Nat → β) : β := Nat.rec (motive := fun _ => β) (k (nat_lit 0)) (fun m _ => k (Nat.succ m)) n
def intK {β : Type} (n : Int) (k : Int → β) : β := Int.rec (motive := fun _ => β) (fun m => natK m fun m => k (Int.ofNat m)) (fun m => natK m fun m => k (Int.negSucc m)) n
def listK {α β : Type} (l : List α) (k : List α → β) : β := List.rec (motive := fun _ => (List α → β) → β) (fun k => k []) (fun x _ ih k => ih fun r => k (x :: r)) l k

/-! ### Abstract values -/
inductive AV where
  | bool (b : Bool)
  | sbool (b : Bool)
  | int (k : IntKind) (n : Int)
  | sint (k : IntKind) (n : Int)
  | str (s : ByteArray)
  | nilPtr
  | ptr (i o : Nat)
  | sptr (i o : Nat)
  | nilSl
  | sl (i o len cap : Nat)
  | gsl (i len : Nat)
  | ssl (i o len cap : Nat)
  | nilMap
  | map (i : Nat)
  | nilFunc
  | func (fn : Fn) (first cap : List AV)
  | nilIface
  | iface (t : TypeId) (v : AV)
  | agg (cs : List AV)
  | tup (vs : List AV)
  | rep (n : Nat) (k : IntKind) (m : Int)
  | nilChan
  | chan (i : Nat)
  deriving Inhabited

def AV.cells : AV → List AV
  | .agg cs => cs
  | .rep n k m => List.replicate n (.int k m)
  | v => [v]

inductive Blk where
  | cells (e : TypeId) (l : List AV)
  | grown (e : TypeId) (l : List AV)
  | seq (e : TypeId) (k : IntKind) (f : Nat → Int) (n : Nat)
  | big (e : TypeId) (t : Tr AV) (d : AV) (n : Nat)
  | map (es : List (AV × AV))
  | chan (cap len : Nat)
  | pmap (es : List (AV × AV))

structure Tch where
  i : Nat
  o : Nat
  n : Nat
  w : Bool

structure G where
  heap : Tr Blk
  next : Nat
  log : List Tch
  orc : List Bool
  obl : List (Bool × Bool)

inductive Out (α : Type) where
  | ok (a : α) (g : G)
  | no (why : Nat)

abbrev M (α : Type) := G → Out α

def M.bind {α β : Type} (m : M α) (f : α → M β) : M β := fun g => match m g with
  | .ok a g' => f a g'
  | .no w => .no w
def M.pure {α : Type} (a : α) : M α := fun g => .ok a g
instance : Monad M where
  pure := M.pure
  bind := M.bind
def no {α : Type} (w : Nat) : M α := fun _ => .no w
def ofOpt {α : Type} (w : Nat) : Option α → M α
  | some a => M.pure a
  | none => no w

/-- a symbolic test: the oracle says how it falls, and that is owed -/
def ask (b : Bool) : M Bool := fun g => match g with
  | ⟨h, nx, l, oc, ob⟩ => match oc with
    | d :: r => .ok d ⟨h, nx, l, r, (b, d) :: ob⟩
    | [] => .no 1

/-! ### Values of the model that are constants -/
def ofV : Nat → Value → Option AV
  | 0, _ => none
  | f + 1, v => match v with
    | .bool b => some (.bool b)
    | .int k n => some (.int k n)
    | .string s => some (.str s)
    | .pointer none => some .nilPtr
    | .slice none 0 0 => some .nilSl
    | .map none => some .nilMap
    | .chan none => some .nilChan
    | .nilFunc => some .nilFunc
    | .nilIface => some .nilIface
    | .func fn first cap => if first.isEmpty && cap.isEmpty then some (.func fn [] []) else none
    | .agg cs => (cs.toList.mapM (ofV f)).map .agg
    | .tuple vs => (vs.toList.mapM (ofV f)).map .tup
    | _ => none

def opnd (tmps : Ts AV) : Operand → Option AV
  | .tmp t => tmps.get t
  | .const v => ofV 6 v
  | .func f => some (.func (.func f) [] [])
  | .global _ => none

/-! ### Whole numbers -/
def half : IntKind → Nat
  | .i8 | .u8 => 128
  | .i16 | .u16 => 32768
  | .i32 | .u32 => 2147483648
  | .i64 | .u64 => 9223372036854775808
def whole : IntKind → Nat
  | .i8 | .u8 => 256
  | .i16 | .u16 => 65536
  | .i32 | .u32 => 4294967296
  | .i64 | .u64 => 18446744073709551616
def toU (k : IntKind) : Int → Nat
  | .ofNat m => m % whole k
  | .negSucc m => whole k - 1 - m % whole k
def ofU (k : IntKind) (m : Nat) : Int :=
  match k with
  | .u8 | .u16 | .u32 | .u64 => .ofNat m
  | k => match Nat.ble (half k) m with
    | true => Int.negSucc (whole k - 1 - m)
    | false => .ofNat m
def wrapF (k : IntKind) (n : Int) : Int := ofU k (toU k n)

def sameK (k k' : IntKind) : Bool := match k, k' with
  | .i8, .i8 | .i16, .i16 | .i32, .i32 | .i64, .i64 | .u8, .u8 | .u16, .u16 | .u32, .u32 | .u64, .u64 => true
  | _, _ => false

/-- addition, on the quick -/
def addF (x y : Int) : Int := match x, y with
  | .ofNat a, .ofNat b => .ofNat (a + b)
  | x, y => x + y
def subF (x y : Int) : Int := match x, y with
  | .ofNat a, .ofNat b => match Nat.ble b a with
    | true => .ofNat (a - b)
    | false => .negSucc (b - a - 1)
  | x, y => x - y
def mulF (x y : Int) : Int := match x, y with
  | .ofNat a, .ofNat b => .ofNat (a * b)
  | x, y => x * y
def leF (x y : Int) : Bool := match x, y with
  | .ofNat a, .ofNat b => Nat.ble a b
  | .ofNat _, .negSucc _ => false
  | .negSucc _, .ofNat _ => true
  | .negSucc a, .negSucc b => Nat.ble b a
def eqF (x y : Int) : Bool := match x, y with
  | .ofNat a, .ofNat b => Nat.beq a b
  | .negSucc a, .negSucc b => Nat.beq a b
  | _, _ => false

def intV (k : IntKind) (n : Int) : Option AV := intK n fun n => some (.int k n)
def boolV (b : Bool) : Option AV := Bool.rec (motive := fun _ => Option AV) (some (.bool false)) (some (.bool true)) b
/-- an operation on two concrete whole numbers of one kind; none: Go would panic, or it is none -/
def intOp (op : BinOp) (k : IntKind) (x y : Int) : Option AV :=
  match op with
  | .add => intV k (wrapF k (addF x y))
  | .sub => intV k (wrapF k (subF x y))
  | .mul => intV k (wrapF k (mulF x y))
  | .quo => match eqF y 0 with
    | true => none
    | false => intV k (wrapF k (Int.tdiv x y))
  | .rem => match eqF y 0 with
    | true => none
    | false => intV k (Int.tmod x y)
  | .and => intV k (ofU k (Nat.land (toU k x) (toU k y)))
  | .or => intV k (ofU k (Nat.lor (toU k x) (toU k y)))
  | .xor => intV k (ofU k (Nat.xor (toU k x) (toU k y)))
  | .andNot => intV k (ofU k (Nat.land (toU k x) (whole k - 1 - toU k y)))
  | .shl => none
  | .shr => none
  | .eql => boolV (eqF x y)
  | .neq => boolV (!eqF x y)
  | .lss => boolV (!leF y x)
  | .leq => boolV (leF x y)
  | .gtr => boolV (!leF x y)
  | .geq => boolV (leF y x)
def bits : IntKind → Nat
  | .i8 | .u8 => 8
  | .i16 | .u16 => 16
  | .i32 | .u32 => 32
  | .i64 | .u64 => 64
def shiftBy (k : IntKind) (m : Nat) : Nat := match Nat.ble m (bits k) with
  | true => m
  | false => bits k
def shlOp (k : IntKind) (x y : Int) : Option AV := match y with
  | .ofNat m => intV k (wrapF k (mulF x (.ofNat (2 ^ shiftBy k m))))
  | .negSucc _ => none
def shrInt (x : Int) (n : Nat) : Int := match x with
  | .ofNat a => .ofNat (a / 2 ^ n)
  | .negSucc a => .negSucc (a / 2 ^ n)
def shrOp (k : IntKind) (x y : Int) : Option AV := match y with
  | .ofNat m => intV k (shrInt x (shiftBy k m))
  | .negSucc _ => none

/-- the same over numbers that are only names: what the model itself says -/
def sIntOp (op : BinOp) (k : IntKind) (x y : Int) : Option AV :=
  match op with
  | .add => some (.sint k (k.wrap (x + y)))
  | .sub => some (.sint k (k.wrap (x - y)))
  | .mul => some (.sint k (k.wrap (x * y)))
  | .and => some (.sint k (k.wrap (BitVec.ofInt k.bits x &&& BitVec.ofInt k.bits y).toNat))
  | .or => some (.sint k (k.wrap (BitVec.ofInt k.bits x ||| BitVec.ofInt k.bits y).toNat))
  | .xor => some (.sint k (k.wrap (BitVec.ofInt k.bits x ^^^ BitVec.ofInt k.bits y).toNat))
  | .andNot => some (.sint k (k.wrap (BitVec.ofInt k.bits x &&& ~~~(BitVec.ofInt k.bits y)).toNat))
  | .eql => some (.sbool (x == y))
  | .neq => some (.sbool (x != y))
  | .lss => some (.sbool (x < y))
  | .leq => some (.sbool (x ≤ y))
  | .gtr => some (.sbool (x > y))
  | .geq => some (.sbool (x ≥ y))
  | _ => none
/-- shifts of a name by a number -/
def sShl (k : IntKind) (x y : Int) : Option AV := match y with
  | .ofNat m => some (.sint k (k.wrap (x * 2 ^ min m k.bits)))
  | .negSucc _ => none
def sShr (k : IntKind) (x y : Int) : Option AV := match y with
  | .ofNat m => some (.sint k (x.fdiv (2 ^ min m k.bits)))
  | .negSucc _ => none
def sDiv (op : BinOp) (k : IntKind) (x y : Int) : Option AV :=
  match op with
  | .quo => some (.sint k (k.wrap (x.tdiv y)))
  | .rem => some (.sint k (x.tmod y))
  | _ => none

def sameDo (k k' : IntKind) (v : Option AV) : Option AV := match sameK k k' with
  | true => v
  | false => none
def conOp (op : BinOp) (k k' : IntKind) (a b : Int) : Option AV := match op with
  | .shl => shlOp k a b
  | .shr => shrOp k a b
  | op => sameDo k k' (intOp op k a b)
def namOp (op : BinOp) (k k' : IntKind) (a b : Int) : Option AV := match op with
  | .shl => sShl k a b
  | .shr => sShr k a b
  | .quo => match eqF b 0 with
    | true => none
    | false => sameDo k k' (sDiv op k a b)
  | .rem => match eqF b 0 with
    | true => none
    | false => sameDo k k' (sDiv op k a b)
  | op => sameDo k k' (sIntOp op k a b)
def arith (op : BinOp) (x y : AV) : Option AV :=
  match x with
  | .int k a => match y with
    | .int k' b => conOp op k k' a b
    | .sint k' b => sameDo k k' (sIntOp op k a b)
    | _ => none
  | .sint k a => match y with
    | .int k' b => namOp op k k' a b
    | .sint k' b => sameDo k k' (sIntOp op k a b)
    | _ => none
  | _ => none

/-! ### Types -/
inductive Kd where
  | cell | aggr | none
def kindT (P : Program) (t : TypeId) : Kd := match P.underlying t with
  | some (.struct _) => .aggr
  | some (.array _ _) => .aggr
  | some _ => .cell
  | .none => .none
def sizeT (P : Program) (t : TypeId) : Option Nat := match P.info? t with
  | some i => some i.size
  | none => none
def zeroT (P : Program) (t : TypeId) : Option AV := match P.info? t with
  | some i => match i.zero with
    | some v => ofV 6 v
    | none => none
  | none => none

def partA (P : Program) (t : TypeId) (cs : List AV) (off : Nat) : Option AV :=
  match kindT P t with
  | .aggr => match sizeT P t with
    | some n => some (.agg ((cs.drop off).take n))
    | none => none
  | .cell => cs[off]?
  | .none => none

/-! ### Equality -/
def Blk.isCells : Blk → Bool
  | .cells .. | .grown .. | .big .. => true
  | .seq .. | .map _ | .chan .. | .pmap _ => false
def hasCells (h : Tr Blk) (i : Nat) : Bool := match h.get i with
  | some b => b.isCells
  | none => false

/-- what is known of a test: is it only a name; its value; the blocks whose places were compared -/
structure Eqr where
  sym : Bool
  b : Bool
  ids : List Nat

def Eqr.con (b : Bool) : Eqr := ⟨false, b, []⟩
def Eqr.nam (b : Bool) : Eqr := ⟨true, b, []⟩
/-- first one, then (if it holds) the other -/
def Eqr.and (x : Eqr) (y : Option Eqr) : Option Eqr :=
  match x.sym with
  | false => match x.b with
    | false => some x
    | true => match y with
      | some y => some ⟨y.sym, y.b, x.ids ++ y.ids⟩
      | none => none
  | true => match y with
    | some y => some ⟨true, x.b && y.b, x.ids ++ y.ids⟩
    | none => none

def boolEq (x y : AV) : Option Eqr := match x with
  | .bool a => match y with
    | .bool b => some (.con (a == b))
    | .sbool b => some (.nam (a == b))
    | _ => none
  | .sbool a => match y with
    | .bool b => some (.nam (a == b))
    | .sbool b => some (.nam (a == b))
    | _ => none
  | _ => none
def sameDoE (k k' : IntKind) (r : Eqr) : Option Eqr := match sameK k k' with
  | true => some r
  | false => none
def intEq (x y : AV) : Option Eqr := match x with
  | .int k a => match y with
    | .int k' b => sameDoE k k' (.con (eqF a b))
    | .sint k' b => sameDoE k k' (.nam (a == b))
    | _ => none
  | .sint k a => match y with
    | .int k' b => sameDoE k k' (.nam (a == b))
    | .sint k' b => sameDoE k k' (.nam (a == b))
    | _ => none
  | _ => none
def strEq (x y : AV) : Option Eqr := match x with
  | .str a => match y with
    | .str b => some (.con (a == b))
    | _ => none
  | _ => none
def placeEq (h : Tr Blk) (i o j o' : Nat) : Option Eqr := match Nat.beq i j with
  | true => some (.con (Nat.beq o o'))
  | false => match hasCells h i && hasCells h j with
    | true => some ⟨false, false, [i, j]⟩
    | false => none
def ptrEq (P : Program) (h : Tr Blk) (e : TypeId) (x y : AV) : Option Eqr := match x with
  | .nilPtr => match y with
    | .nilPtr => some (.con true)
    | .ptr _ _ => some (.con false)
    | _ => none
  | .ptr i o => match y with
    | .nilPtr => some (.con false)
    | .ptr j o' => match sizeT P e with
      | some (_ + 1) => placeEq h i o j o'
      | _ => none
    | _ => none
  | _ => none
def funcEq (x y : AV) : Option Eqr := match x with
  | .nilFunc => match y with
    | .nilFunc => some (.con true)
    | .func _ _ _ => some (.con false)
    | _ => none
  | .func _ _ _ => match y with
    | .nilFunc => some (.con false)
    | _ => none
  | _ => none
def ifaceEq (x y : AV) : Option Eqr := match x with
  | .nilIface => match y with
    | .nilIface => some (.con true)
    | .iface _ _ => some (.con false)
    | _ => none
  | .iface _ _ => match y with
    | .nilIface => some (.con false)
    | _ => none
  | _ => none
def sliceEq (x y : AV) : Option Eqr := match x with
  | .nilSl => match y with
    | .nilSl => some (.con true)
    | .sl _ _ _ _ => some (.con false)
    | .gsl _ _ => some (.con false)
    | _ => none
  | .sl _ _ _ _ => match y with
    | .nilSl => some (.con false)
    | _ => none
  | .gsl _ _ => match y with
    | .nilSl => some (.con false)
    | _ => none
  | _ => none
def mapEq (x y : AV) : Option Eqr := match x with
  | .nilMap => match y with
    | .nilMap => some (.con true)
    | .map _ => some (.con false)
    | _ => none
  | .map _ => match y with
    | .nilMap => some (.con false)
    | _ => none
  | _ => none
def leafEq (P : Program) (h : Tr Blk) (d : TypeDesc) (x y : AV) : Option Eqr :=
  match d with
  | .bool => boolEq x y
  | .int _ => intEq x y
  | .string => strEq x y
  | .pointer e => ptrEq P h e x y
  | .func _ _ _ => funcEq x y
  | .interface _ => ifaceEq x y
  | .slice _ => sliceEq x y
  | .map _ _ => mapEq x y
  | _ => none

def eqFields (eq : TypeId → AV → AV → Option Eqr) (P : Program) (xs ys : List AV) : List Field → Option Eqr
  | [] => some (.con true)
  | f :: fs => match f.name == "_" with
    | true => eqFields eq P xs ys fs
    | false => match partA P f.type xs f.offset, partA P f.type ys f.offset with
      | some x, some y => match eq f.type x y with
        | some r => match r.sym, r.b with
          | false, false => some r
          | _, _ => r.and (eqFields eq P xs ys fs)
        | none => none
      | _, _ => none
/-- elements from i on, so many -/
def eqElems (eq : TypeId → AV → AV → Option Eqr) (P : Program) (t : TypeId) (s : Nat) (xs ys : List AV) : Nat → Nat → Option Eqr
  | 0, _ => some (.con true)
  | n + 1, i => match partA P t xs (i * s), partA P t ys (i * s) with
    | some x, some y => match eq t x y with
      | some r => match r.sym, r.b with
        | false, false => some r
        | _, _ => r.and (eqElems eq P t s xs ys n (i + 1))
      | none => none
    | _, _ => none

def aeq (P : Program) (h : Tr Blk) : Nat → TypeId → AV → AV → Option Eqr
  | 0, _, _, _ => none
  | d + 1, t, x, y =>
    match P.underlying t with
    | some (.struct fs) => match x, y with
      | .agg xs, .agg ys => match P.stoodInHeld t with
        | true => none
        | false => eqFields (aeq P h d) P xs ys fs.toList
      | _, _ => none
    | some (.array n e) => match x, y with
      | .agg xs, .agg ys => match sizeT P e with
        | some s => eqElems (aeq P h d) P e s xs ys n 0
        | none => none
      | _, _ => none
    | some k => leafEq P h k x y
    | none => none

/-! ### Memory -/
def touch (i o n : Nat) (w : Bool) : M Unit := fun g => match g with
  | ⟨h, nx, l, oc, ob⟩ => .ok () ⟨h, nx, ⟨i, o, n, w⟩ :: l, oc, ob⟩
def touchIds : List Nat → M Unit
  | [] => M.pure ()
  | i :: r => M.bind (touch i 0 0 false) fun _ => touchIds r

/-- n cells from o on -/
def cut (l : List AV) (o n : Nat) : Option (List AV) :=
  listK ((l.drop o).take n) fun r => match Nat.beq r.length n with
  | true => some r
  | false => none
def tread (t : Tr AV) (d : AV) : Nat → Nat → List AV
  | _, 0 => []
  | o, n + 1 => (match t.get o with | some v => v | none => d) :: tread t d (o + 1) n
def readB (b : Blk) (o n : Nat) : Option (List AV) :=
  match b with
  | .cells _ l => cut l o n
  | .grown _ l => cut l o n
  | .seq _ _ _ _ => none
  | .big _ t d m => match Nat.ble (o + n) m with
    | true => listK (tread t d o n) some
    | false => none
  | .map _ => none
  | .chan .. => none
  | .pmap _ => none
/-- lay cells over those from o on -/
def lay (l : List AV) (o : Nat) (vs : List AV) : Option (List AV) :=
  match Nat.ble (o + vs.length) l.length with
  | true => listK (l.take o ++ (vs ++ l.drop (o + vs.length))) some
  | false => none
def twriteK {β : Type} (t : Tr AV) (o : Nat) (vs : List AV) (k : Tr AV → β) : β :=
  List.rec (motive := fun _ => Tr AV → Nat → β) (fun t _ => k t) (fun v _ ih t o => t.setK o v fun t => ih t (Nat.succ o)) vs t o
def writeB (b : Blk) (o : Nat) (vs : List AV) : Option Blk :=
  match b with
  | .cells e l => match lay l o vs with
    | some l => some (.cells e l)
    | none => none
  | .grown e l => match lay l o vs with
    | some l => some (.grown e l)
    | none => none
  | .seq _ _ _ _ => none
  | .big e t d m => match Nat.ble (o + vs.length) m with
    | true => match Nat.ble m 1048576 with
      | true => twriteK t o vs fun t => some (.big e t d m)
      | false => none
    | false => none
  | .map _ => none
  | .chan .. => none
  | .pmap _ => none
def read (i o n : Nat) : M (List AV) := fun g => match g with
  | ⟨h, nx, l, oc, ob⟩ => match h.get i with
    | some b => match readB b o n with
      | some r => .ok r ⟨h, nx, ⟨i, o, n, false⟩ :: l, oc, ob⟩
      | none => .no 2
    | none => .no 3
def AV.oneCell : AV → Bool
  | .agg _ => false
  | .tup _ => false
  | .rep _ _ _ => false
  | _ => true
def allOne : List AV → Bool
  | [] => true
  | v :: vs => match v.oneCell with
    | true => allOne vs
    | false => false
def write (i o : Nat) (vs : List AV) : M Unit := fun g => match g with
  | ⟨h, nx, l, oc, ob⟩ => match h.get i with
    | some b => match allOne vs with
      | true => match writeB b o vs with
        | some b => h.setK i b fun h => natK vs.length fun n => .ok () ⟨h, nx, ⟨i, o, n, true⟩ :: l, oc, ob⟩
        | none => .no 4
      | false => .no 5
    | none => .no 6
def alloc (b : Blk) : M Nat := fun g => match g with
  | ⟨h, nx, l, oc, ob⟩ => h.setK nx b fun h => natK (Nat.add nx (nat_lit 1)) fun nx' => .ok nx ⟨h, nx', ⟨nx, 0, 0, true⟩ :: l, oc, ob⟩
def getMap (i : Nat) : M (List (AV × AV)) := fun g => match g with
  | ⟨h, nx, l, oc, ob⟩ => match h.get i with
    | some (.map es) => .ok es ⟨h, nx, ⟨i, 0, 1, false⟩ :: l, oc, ob⟩
    | _ => .no 7
def setMap (i : Nat) (es : List (AV × AV)) : M Unit := fun g => match g with
  | ⟨h, nx, l, oc, ob⟩ => match h.get i with
    | some (.map _) => listK es fun es => h.setK i (.map es) fun h => .ok () ⟨h, nx, ⟨i, 0, 1, true⟩ :: l, oc, ob⟩
    | _ => .no 8

def loadA (P : Program) (t : TypeId) (a : AV) : M AV :=
  match a with
  | .ptr i o => match kindT P t with
    | .aggr => match sizeT P t with
      | some n => M.bind (read i o n) fun l => M.pure (.agg l)
      | none => no 9
    | .cell => M.bind (read i o 1) fun l => match l with
      | [v] => M.pure v
      | _ => no 10
    | .none => no 11
  | .sptr i o => match kindT P t with
    | .cell => fun g => match g.heap.get i with
      | some (.seq _ k f n) => M.bind (ask (decide (o < n))) (fun d => match d with
        | true => M.bind (touch i 0 0 false) fun _ => M.pure (.sint k (f o))
        | false => no 12) g
      | _ => .no 13
    | _ => no 14
  | _ => no 15
def storeA (P : Program) (t : TypeId) (a v : AV) : M Unit :=
  match a with
  | .ptr i o => match sizeT P t with
    | some n => match Nat.beq v.cells.length n with
      | true => write i o v.cells
      | false => no 16
    | none => no 17
  | _ => no 18

/-- is a block of whole numbers better kept as a trie? -/
def mkBlk (e : TypeId) (cs : List AV) : Blk := .cells e cs
/-- a new variable -/
def newA (t : TypeId) (v : AV) : M AV := listK v.cells fun cs =>
  match allOne cs with
  | true => M.bind (alloc (.cells t cs)) fun i => M.pure (.ptr i 0)
  | false => no 19
def ptrO (i o : Nat) : Option AV := natK o fun o => some (.ptr i o)
def ptrM (i o : Nat) : M AV := natK o fun o => M.pure (.ptr i o)
def intM (n : Nat) : M AV := natK n fun n => M.pure (.int .i64 (Int.ofNat n))

/-! ### Single operations -/
def replicateCells (zero : List AV) : Nat → List AV
  | 0 => []
  | n + 1 => zero ++ replicateCells zero n
def fillA (place : Nat → Option (Nat × Nat)) (cells : List AV) : List (Nat × AV) → Option (List AV)
  | [] => listK cells some
  | (i, v) :: rest => match place i with
    | none => none
    | some (off, size) => match Nat.beq v.cells.length size with
      | true => match lay cells off v.cells with
        | some c => fillA place c rest
        | none => none
      | false => none
def fieldPlaces (P : Program) : List Field → Option (List (Nat × Nat))
  | [] => some []
  | f :: fs => match sizeT P f.type, fieldPlaces P fs with
    | some s, some r => some ((f.offset, s) :: r)
    | _, _ => none
def buildA (P : Program) (t : TypeId) (parts : List (Nat × AV)) : Option AV :=
  match zeroT P t with
  | some z => match P.underlying t with
    | some (.struct fs) => match fieldPlaces P fs.toList with
      | some ps => match fillA (fun i => ps[i]?) z.cells parts with
        | some c => some (.agg c)
        | none => none
      | none => none
    | some (.array _ e) => match sizeT P e with
      | some s => match fillA (fun i => some (i * s, s)) z.cells parts with
        | some c => some (.agg c)
        | none => none
      | none => none
    | _ => none
  | none => none
def elemT (P : Program) (t : TypeId) : Option TypeId := match P.underlying t with
  | some (.slice e) => some e
  | _ => none
def buildSliceA (P : Program) (t : TypeId) (len : Nat) (parts : List (Nat × AV)) : M AV :=
  match elemT P t with
  | some e => match sizeT P e, zeroT P e with
    | some s, some z => match Nat.ble (len * s) 4096 && Nat.beq z.cells.length s && Nat.ble 1 s with
      | true => match fillA (fun i => some (i * s, s)) (replicateCells z.cells len) parts with
        | some c => match allOne c with
          | true => M.bind (alloc (.cells e c)) fun i => M.pure (.sl i 0 len len)
          | false => no 20
        | none => no 21
      | false => no 22
    | _, _ => no 23
  | none => no 24
/-- rows of one-cell elements, each nought -/
def makeSliceA (P : Program) (t : TypeId) (l c : AV) : M AV :=
  match l, c with
  | .int _ (.ofNat n), .int _ (.ofNat m) => match elemT P t with
    | some e => match P.info? e, zeroT P e with
      | some inf, some z => match Nat.ble n m && Nat.beq inf.size 1 && z.oneCell && Nat.ble (inf.bytes * m) 281474976710656 && Nat.ble m 281474976710656 with
        | true => M.bind (alloc (.big e .lf z m)) fun i => M.pure (.sl i 0 n m)
        | false => no 118
      | _, _ => no 118
    | none => no 118
  | _, _ => no 118
/-- a channel -/
def makeChanA (P : Program) (t : TypeId) (s : AV) : M AV :=
  match s with
  | .int _ (.ofNat n) => match P.underlying t with
    | some (.chan _ e) => match P.info? e with
      | some inf => match Nat.ble n 1048576 && Nat.ble inf.bytes 4096 with
        | true => M.bind (alloc (.chan n (nat_lit 0))) fun i => M.pure (.chan i)
        | false => no 118
      | none => no 118
    | _ => no 118
  | _ => no 118
def convertA (P : Program) (src dst : TypeId) (x : AV) : Option AV :=
  match P.underlying src, P.underlying dst with
  | some (.int _), some (.int k) => match x with
    | .int _ n => intV k (wrapF k n)
    | .sint _ n => some (.sint k (k.wrap n))
    | _ => none
  | _, _ => none
def unA (op : UnOp) (x : AV) : Option AV :=
  match op, x with
  | .neg, .int k n => intV k (wrapF k (subF 0 n))
  | .neg, .sint k n => some (.sint k (k.wrap (0 - n)))
  | .xor, .int k n => intV k (ofU k (Nat.xor (whole k - 1) (toU k n)))
  | .not, .bool b => boolV (!b)
  | .not, .sbool b => some (.sbool (!b))
  | _, _ => none
def fieldAt (P : Program) (s : TypeId) (x : AV) (f : Nat) : Option AV :=
  match x with
  | .ptr i o => match P.underlying s with
    | some (.struct fs) => match fs[f]? with
      | some fd => match sizeT P fd.type with
        | some (_ + 1) => ptrO i (o + fd.offset)
        | _ => none
      | none => none
    | _ => none
  | _ => none
def fieldA (P : Program) (s : TypeId) (x : AV) (f : Nat) : Option AV :=
  match x with
  | .agg cs => match P.underlying s with
    | some (.struct fs) => match fs[f]? with
      | some fd => partA P fd.type cs fd.offset
      | none => none
    | _ => none
  | _ => none
def indexAtA (P : Program) (t : TypeId) (x ix : AV) : M AV :=
  match P.underlying t with
  | some (.array n e) => match x, ix with
    | .ptr i o, .int _ (.ofNat k) => match sizeT P e with
      | some s => match Nat.ble (k + 1) n with
        | true => ptrM i (o + k * s)
        | false => no 30
      | none => no 31
    | _, _ => no 32
  | some (.slice e) => match x, ix with
    | .sl i o n _, .int _ (.ofNat k) => match sizeT P e with
      | some s => match Nat.ble (k + 1) n with
        | true => ptrM i (o + k * s)
        | false => no 33
      | none => no 34
    | .gsl i n, .int _ (.ofNat k) => match sizeT P e with
      | some s => match Nat.ble (k + 1) n with
        | true => ptrM i (k * s)
        | false => no 35
      | none => no 36
    | .ssl i o n _, .int _ k => match sizeT P e with
      | some s => match Nat.beq s 1 with
        | true => M.bind (ask (decide (0 ≤ k ∧ k < (n : Int)))) fun d => match d with
          | true => M.pure (.sptr i (o + k.toNat))
          | false => no 37
        | false => no 38
      | none => no 38
    | .ssl i o n _, .sint _ k => match sizeT P e with
      | some s => match Nat.beq s 1 with
        | true => M.bind (ask (decide (0 ≤ k ∧ k < (n : Int)))) fun d => match d with
          | true => M.pure (.sptr i (o + k.toNat))
          | false => no 39
        | false => no 40
      | none => no 40
    | _, _ => no 41
  | _ => no 42
def byteV (o : Option UInt8) : Option AV := match o with
  | some b => natK b.toNat fun n => some (.int .u8 (Int.ofNat n))
  | none => none
def indexA (P : Program) (t : TypeId) (x ix : AV) : Option AV :=
  match P.underlying t with
  | some (.array n e) => match x, ix with
    | .agg cs, .int _ (.ofNat k) => match sizeT P e with
      | some s => match Nat.ble (k + 1) n with
        | true => partA P e cs (k * s)
        | false => none
      | none => none
    | _, _ => none
  | some .string => match x, ix with
    | .str s, .int _ (.ofNat k) => byteV s.data.toList[k]?
    | _, _ => none
  | _ => none
/-- a bound of a slice expression: 0 ≤ it ≤ most -/
def boundA (most : Nat) : AV → Option Nat
  | .int _ (.ofNat k) => match Nat.ble k most with
    | true => some k
    | false => none
  | _ => none
def boundO (most dflt : Nat) : Option AV → Option Nat
  | none => some dflt
  | some v => boundA most v
def slO (i o n c : Nat) : Option AV := natK o fun o => natK n fun n => natK c fun c => some (.sl i o n c)
def sliceA (P : Program) (t : TypeId) (x : AV) (lo hi mx : Option AV) : Option AV :=
  match mx with
  | some _ => none
  | none => match P.underlying t with
    | some (.slice e) => match x with
      | .sl i o n c => match sizeT P e, boundO c n hi with
        | some s, some h => match boundO h 0 lo with
          | some l => slO i (match Nat.beq c l with | true => o | false => o + l * s) (h - l) (c - l)
          | none => none
        | _, _ => none
      | .nilSl => match sizeT P e, boundO 0 0 hi with
        | some _, some h => match boundO h 0 lo with
          | some _ => some .nilSl
          | none => none
        | _, _ => none
      | _ => none
    | some (.array n e) => match x with
      | .ptr i o => match sizeT P e, boundO n n hi with
        | some s, some h => match boundO h 0 lo with
          | some l => slO i (match Nat.beq n l with | true => o | false => o + l * s) (h - l) (n - l)
          | none => none
        | _, _ => none
      | _ => none
    | _ => none

/-! maps: keys are whole numbers -/
inductive KeyR where
  | at (i : Nat) (v : AV)
  | absent
  | bad
def findA (n : Int) (k : IntKind) : List (AV × AV) → Nat → KeyR
  | [], _ => .absent
  | (.int k' m, v) :: es, i => match sameK k k' with
    | true => match eqF n m with
      | true => .at i v
      | false => findA n k es (i + 1)
    | false => .bad
  | _ :: _, _ => .bad
def mapInt (P : Program) (t : TypeId) : Option TypeId := match P.underlying t with
  | some (.map k e) => match P.underlying k with
    | some (.int _) => some e
    | _ => none
  | _ => none
/-! maps keyed by plain structs -/
def plainF (P : Program) (f : Field) : Bool := match f.name == "_" with
  | true => false
  | false => match P.underlying f.type with
    | some (.int _) => true
    | some .bool => true
    | _ => false
def allPlain (P : Program) : List Field → Bool
  | [] => true
  | f :: fs => plainF P f && allPlain P fs
def mapAgg (P : Program) (t : TypeId) : Option (TypeId × TypeId × List Field) := match P.underlying t with
  | some (.map k e) => match P.underlying k with
    | some (.struct fs) => match allPlain P fs.toList with
      | true => some (k, e, fs.toList)
      | false => none
    | _ => none
  | _ => none
def partsOk (cs : List AV) : List Field → Bool
  | [] => true
  | f :: fs => (match cs[f.offset]? with | some _ => true | none => false) && partsOk cs fs
def findG (P : Program) (kt : TypeId) (key : AV) : List (AV × AV) → Nat → KeyR
  | [], _ => .absent
  | (k', v) :: es, i => match aeq P .lf 12 kt key k' with
    | some r => match r.sym with
      | false => match r.b with
        | true => .at i v
        | false => findG P kt key es (i + 1)
      | true => .bad
    | none => .bad
/-- the one entry of a key, wherever it lies -/
def findU (P : Program) (kt : TypeId) (key : AV) : List (AV × AV) → Option AV → KeyR
  | [], none => .absent
  | [], some v => .at 0 v
  | (k', v) :: es, r => match aeq P .lf 12 kt key k' with
    | some q => match q.sym with
      | false => match q.b with
        | true => match r with
          | none => findU P kt key es (some v)
          | some _ => .bad
        | false => findU P kt key es r
      | true => .bad
    | none => .bad
def isPM (b : Option Blk) : Option (List (AV × AV)) := match b with
  | some (.pmap es) => some es
  | _ => none
/-- looking up in a map whose entries lie in any order -/
def lookupP (P : Program) (k e : TypeId) (i : Nat) (es : List (AV × AV)) (key : AV) (ok : Bool) : M AV :=
  M.bind (touch i 0 1 false) fun _ => match findU P k key es none with
    | .at _ v => M.pure (match ok with | true => .tup [v, .bool true] | false => v)
    | .absent => match zeroT P e with
      | some z => M.pure (match ok with | true => .tup [z, .bool false] | false => z)
      | none => no 51
    | .bad => no 52
def mapId : AV → Nat
  | .map i => i
  | _ => 0
def isMap : AV → Bool
  | .map _ => true
  | _ => false
def entriesA (x : AV) : M (List (AV × AV)) := match x with
  | .nilMap => M.pure []
  | .map i => getMap i
  | _ => no 50
def lookupM (P : Program) (k e : TypeId) (x : AV) (cs : List AV) (ok : Bool) : M AV :=
  M.bind (entriesA x) fun es => match findG P k (.agg cs) es 0 with
    | .at _ v => M.pure (match ok with | true => .tup [v, .bool true] | false => v)
    | .absent => match zeroT P e with
      | some z => M.pure (match ok with | true => .tup [z, .bool false] | false => z)
      | none => no 51
    | .bad => no 52
def lookupG (P : Program) (t : TypeId) (x ix : AV) (ok : Bool) : M AV :=
  match mapAgg P t with
  | some (k, e, fs) => match ix with
    | .agg cs => match partsOk cs fs with
      | true => fun g => match isMap x with
       | true => match isPM (g.heap.get (mapId x)) with
        | some es => lookupP P k e (mapId x) es (.agg cs) ok g
        | none => lookupM P k e x cs ok g
       | false => lookupM P k e x cs ok g
      | false => no 53
    | _ => no 53
  | none => no 54
def mapSetG (P : Program) (t : TypeId) (m key v : AV) : M Unit :=
  match mapAgg P t with
  | some (k, _, fs) => match m, key with
    | .map i, .agg cs => match partsOk cs fs with
      | true => M.bind (getMap i) fun es => match findG P k (.agg cs) es 0 with
        | .absent => setMap i (es ++ [(.agg cs, v)])
        | _ => no 55
      | false => no 56
    | _, _ => no 56
  | none => no 57
def lookupA (P : Program) (t : TypeId) (x ix : AV) (ok : Bool) : M AV :=
  match mapInt P t with
  | some e => match ix with
    | .int k n => M.bind (match x with
        | .nilMap => M.pure []
        | .map i => getMap i
        | _ => no 50) fun es => match findA n k es 0 with
      | .at _ v => M.pure (match ok with | true => .tup [v, .bool true] | false => v)
      | .absent => match zeroT P e with
        | some z => M.pure (match ok with | true => .tup [z, .bool false] | false => z)
        | none => no 51
      | .bad => no 52
    | _ => no 53
  | none => lookupG P t x ix ok
def setAt (v : AV) : List (AV × AV) → Nat → List (AV × AV)
  | [], _ => []
  | (k, _) :: es, 0 => (k, v) :: es
  | e :: es, i + 1 => e :: setAt v es i
def dropAt : List (AV × AV) → Nat → List (AV × AV)
  | [], _ => []
  | _ :: es, 0 => es
  | e :: es, i + 1 => e :: dropAt es i
def mapSetA (P : Program) (t : TypeId) (m key v : AV) : M Unit :=
  match mapInt P t with
  | some _ => match m, key with
    | .map i, .int k n => M.bind (getMap i) fun es => match findA n k es 0 with
      | .at j _ => setMap i (setAt v es j)
      | .absent => setMap i (es ++ [(.int k n, v)])
      | .bad => no 55
    | _, _ => no 56
  | none => mapSetG P t m key v

def typeAssertA (P : Program) (x : AV) (asserted : TypeId) (ok : Bool) : Option AV :=
  match P.underlying asserted with
  | some (.interface _) => none
  | some _ => match ok, x with
    | true, .nilIface => match zeroT P asserted with
      | some z => some (.tup [z, .bool false])
      | none => none
    | true, .iface t v => match Nat.beq t asserted with
      | true => some (.tup [v, .bool true])
      | false => match zeroT P asserted with
        | some z => some (.tup [z, .bool false])
        | none => none
    | false, .iface t v => match Nat.beq t asserted with
      | true => some v
      | false => none
    | _, _ => none
  | none => none

def isConstOp : Operand → Bool
  | .const _ => true
  | _ => false

/-- '==' and '!=' on what are no whole numbers -/
def eqG (P : Program) (t : TypeId) (cx cy : Bool) (x : AV) : Bool := match x with
  | .nilIface => cx || cy
  | .agg _ => !P.eqGuardType P.depth t
  | .rep _ _ _ => false
  | _ => true
def equalA (P : Program) (t : TypeId) (cx cy : Bool) (x y : AV) : M AV := fun g =>
  match eqG P t cx cy x with
  | true => match aeq P g.heap 12 t x y with
    | some r => match r.sym with
      | false => M.bind (touchIds r.ids) (fun _ => Bool.rec (motive := fun _ => M AV) (M.pure (.bool false)) (M.pure (.bool true)) r.b) g
      | true => M.bind (touchIds r.ids) (fun _ => M.pure (.sbool r.b)) g
    | none => .no 60
  | false => .no 61
def notA : AV → AV
  | .bool true => .bool false
  | .bool false => .bool true
  | .sbool b => .sbool (!b)
  | v => v
def isNum : AV → Bool
  | .int _ _ => true
  | .sint _ _ => true
  | .str _ => true
  | _ => false
/-- the rest by a small number, of a name: which it is is asked, so that it is a number from here on -/
def concOf (op : BinOp) (x y v : AV) : Option (IntKind × Int × Nat) := match op with
  | .rem => match x with
    | .sint _ _ => match y with
      | .int _ (.ofNat m) => match Nat.ble m 50 with
        | true => match v with
          | .sint k e => some (k, e, m)
          | _ => none
        | false => none
      | _ => none
    | _ => none
  | _ => none
def askMod (k : IntKind) (e : Int) : Nat → Nat → M AV
  | 0, _ => no 64
  | n + 1, i => M.bind (ask (e == Int.ofNat i)) fun d => match d with
    | true => natK i fun i => M.pure (.int k (Int.ofNat i))
    | false => askMod k e n (i + 1)
def conc (op : BinOp) (x y v : AV) : M AV := match concOf op x y v with
  | some q => askMod q.1 q.2.1 q.2.2 0
  | none => M.pure v
def binA (P : Program) (op : BinOp) (t : TypeId) (cx cy : Bool) (x y : AV) : M AV :=
  match arith op x y with
  | some v => conc op x y v
  | none => match isNum x with
    | true => no 63
    | false => match op with
      | .eql => equalA P t cx cy x y
      | .neq => M.bind (equalA P t cx cy x y) fun v => M.pure (notA v)
      | _ => no 62

/-! builtins -/
def lenSl : AV → M AV
  | .sl _ _ n _ => intM n
  | .gsl _ n => intM n
  | .nilSl => M.pure (.int .i64 0)
  | .ssl _ _ n _ => M.pure (.sint .i64 n)
  | _ => no 70
def lenStr : AV → M AV
  | .str s => intM s.size
  | _ => no 70
def lenMap : AV → M AV
  | .nilMap => M.pure (.int .i64 0)
  | .map i => M.bind (getMap i) fun es => intM es.length
  | _ => no 70
def chanLen : Option Blk → Option Nat
  | some (.chan _ n) => some n
  | _ => none
def lenChan : AV → M AV
  | .nilChan => M.pure (.int .i64 0)
  | .chan i => fun g => match chanLen (g.heap.get i) with
    | some n => M.bind (touch i 0 1 false) (fun _ => intM n) g
    | none => .no 70
  | _ => no 70
def lenA (P : Program) (t : TypeId) (x : AV) : M AV :=
  match P.underlying t with
  | some (.slice _) => lenSl x
  | some (.array n _) => intM n
  | some (.string) => lenStr x
  | some (.map _ _) => lenMap x
  | some (.chan _ _) => lenChan x
  | _ => no 70
def minN (a b : Nat) : Nat := match Nat.ble a b with
  | true => a
  | false => b
/-- the first n elements' cells of what is appended or copied -/
def firstA (s n : Nat) : AV → M (List AV)
  | .sl i o _ _ => read i o (n * s)
  | .gsl i _ => read i 0 (n * s)
  | .nilSl => M.pure []
  | _ => no 71
def slLen : AV → Option Nat
  | .sl _ _ n _ => some n
  | .gsl _ n => some n
  | .nilSl => some 0
  | _ => none
/-- a grown slice's block gives place to the next -/
def regrow (i : Nat) (e : TypeId) (c : List AV) : M Nat := fun g => match g with
  | ⟨h, nx, l, oc, ob⟩ => match h.get i with
    | some (.grown e' _) => match Nat.beq e' e with
      | true => h.delK i fun h => h.setK nx (.grown e c) fun h => natK (Nat.add nx (nat_lit 1)) fun nx' => .ok nx ⟨h, nx', ⟨nx, 0, 0, true⟩ :: ⟨i, 0, 0, true⟩ :: l, oc, ob⟩
      | false => .no 9
    | _ => .no 9
def appendA (P : Program) (t xt : TypeId) (s x : AV) : M AV :=
  match elemT P t, elemT P xt with
  | some e, some _ => match sizeT P e, zeroT P e, P.info? e, slLen x with
    | some sz, some z, some info, some n => match Nat.beq z.cells.length sz && Nat.ble 1 sz && allOne z.cells && Nat.ble info.bytes 4096 with
      | true => match s with
        | .nilSl => match n with
          | 0 => M.pure .nilSl
          | n + 1 => match Nat.ble n 1048575 with
            | true => M.bind (firstA sz (n + 1) x) fun c => M.bind (alloc (.grown e c)) fun i => M.pure (.gsl i (n + 1))
            | false => no 73
        | .sl i o l cap => match Nat.ble (l + n) cap with
          | true => M.bind (firstA sz n x) fun c => M.bind (write i (o + l * sz) c) fun _ => natK (l + n) fun n => M.pure (.sl i o n cap)
          | false => match Nat.ble (l + n) 1048576 with
            | true => M.bind (read i o (l * sz)) fun a => M.bind (firstA sz n x) fun c => M.bind (listK (a ++ c) fun c => alloc (.grown e c)) fun j => natK (l + n) fun n => M.pure (.gsl j n)
            | false => no 74
        | .gsl i l => match Nat.ble (l + n) 1048576 with
          | true => M.bind (read i 0 (l * sz)) fun a => M.bind (firstA sz n x) fun c => match allOne c with
            | true => M.bind (listK (a ++ c) fun c => regrow i e c) fun j => natK (l + n) fun n => M.pure (.gsl j n)
            | false => no 75
          | false => no 75
        | _ => no 76
      | false => no 77
    | _, _, _, _ => no 78
  | _, _ => no 79
def copyA (P : Program) (t : TypeId) (d x : AV) : M AV :=
  match elemT P t, slLen d, slLen x with
  | some e, some a, some b => match sizeT P e with
    | some s => M.bind (firstA s (minN a b) x) fun c => match d with
        | .sl i o _ _ => M.bind (write i o c) fun _ => intM (minN a b)
        | .gsl i _ => M.bind (write i 0 c) fun _ => intM (minN a b)
        | .nilSl => M.pure (.int .i64 0)
        | _ => no 80
    | none => no 81
  | _, _, _ => no 82
def deleteA (P : Program) (t : TypeId) (m key : AV) : M AV :=
  match mapInt P t with
  | some _ => match m, key with
    | .map i, .int k n => M.bind (getMap i) fun es => match findA n k es 0 with
      | .at j _ => M.bind (setMap i (dropAt es j)) fun _ => M.pure (.tup [])
      | .absent => M.bind (setMap i es) fun _ => M.pure (.tup [])
      | .bad => no 83
    | .nilMap, .int _ _ => M.pure (.tup [])
    | _, _ => no 84
  | none => no 85
def minA (x y : AV) : Option AV := match x with
  | .int k a => match y with
    | .int _ b => match leF a b with
      | true => some (.int k a)
      | false => some (.int k b)
    | _ => none
  | _ => none
def maxA (x y : AV) : Option AV := match x with
  | .int k a => match y with
    | .int _ b => match leF b a with
      | true => some (.int k a)
      | false => some (.int k b)
    | _ => none
  | _ => none
def foldO (f : AV → AV → Option AV) : AV → List AV → Option AV
  | a, [] => some a
  | a, x :: r => match f a x with
    | some v => foldO f v r
    | none => none
/-! ### An operation -/
inductive OpR where
  | val (v : AV)
  | pan (v : AV)
  | call (f : FuncId) (args : List AV)
  | dfr (f : FuncId) (args : List AV)

def opnds (tmps : Ts AV) : List Operand → Option (List AV)
  | [] => some []
  | x :: xs => match opnd tmps x, opnds tmps xs with
    | some v, some vs => some (v :: vs)
    | _, _ => none
def partsA (tmps : Ts AV) : List (Nat × Operand) → Option (List (Nat × AV))
  | [] => some []
  | (i, x) :: xs => match opnd tmps x, partsA tmps xs with
    | some v, some vs => some ((i, v) :: vs)
    | _, _ => none
def opndO (tmps : Ts AV) : Option Operand → Option (Option AV)
  | none => some none
  | some x => match opnd tmps x with
    | some v => some (some v)
    | none => none
def vl (m : M AV) : M OpR := M.bind m fun v => M.pure (.val v)
def ul (m : M Unit) : M OpR := M.bind m fun _ => M.pure (.val (.tup []))
def ovl (w : Nat) : Option AV → M OpR
  | some v => M.pure (.val v)
  | none => no w
def toList2 (o : Option (List AV)) (f : AV → AV → M OpR) : M OpR := match o with
  | some [a, b] => f a b
  | _ => no 90
/-- the call of a function's value -/
def hasBody (P : Program) (g : FuncId) : Bool := match P.funcs[g]? with
  | some fn => match fn.body with
    | some _ => true
    | none => false
  | none => false
def calleeA (P : Program) (f : AV) (args : List AV) : Option (FuncId × List AV) :=
  match f with
  | .func (.func g) first cap => match hasBody P g with
    | true => some (g, first ++ args ++ cap)
    | false => none
  | _ => none
def builtinA (P : Program) (b : Builtin) (ts : List TypeId) (args : List AV) : M OpR :=
  match b with
  | .len => match ts, args with
    | t :: _, x :: _ => vl (lenA P t x)
    | _, _ => no 91
  | .append => match ts, args with
    | t :: xt :: _, s :: x :: _ => vl (appendA P t xt s x)
    | _, _ => no 92
  | .copy => match ts, args with
    | t :: _, d :: x :: _ => vl (copyA P t d x)
    | _, _ => no 93
  | .delete => match ts, args with
    | t :: _, m :: k :: _ => vl (deleteA P t m k)
    | _, _ => no 94
  | .min => match args with
    | x :: r => ovl 95 (foldO minA x r)
    | [] => no 96
  | .max => match args with
    | x :: r => ovl 97 (foldO maxA x r)
    | [] => no 98
  | _ => no 99

def evPick (tm : Ts AV) (c a b : Operand) : M OpR := match opnd tm c, opnd tm a, opnd tm b with
    | some (.bool true), some a, some _ => M.pure (.val a)
    | some (.bool false), some _, some b => M.pure (.val b)
    | _, _, _ => no 101
/-- a row of many whole numbers, all alike: how many, and which -/
def allInt (k : IntKind) (m : Int) : List Value → Bool
  | [] => true
  | v :: vs => match v with
    | .int k' m' => match sameK k k' && eqF m m' with
      | true => allInt k m vs
      | false => false
    | _ => false
def manyInt (n : Nat) : List Value → Option (Nat × AV)
  | .int k m :: vs => match Nat.beq (vs.length + 1) n && allInt k m vs with
    | true => intK m fun m => some (n, .int k m)
    | false => none
  | _ => none
def bigT (P : Program) (t : TypeId) : Option (Nat × AV) := match P.underlying t with
  | some (.array n e) => match Nat.ble 65 n with
    | true => match P.info? t with
      | some i => match i.zero with
        | some (.agg cs) => match sizeT P e with
          | some _ => manyInt n cs.toList
          | none => none
        | _ => none
      | none => none
    | false => none
  | _ => none
/-- a value of very many cells is kept as so many times the same -/
def boxA (e : TypeId) (v : AV) : M AV := match v with
  | .rep n k m => M.bind (alloc (.big e .lf (.int k m) n)) fun i => M.pure (.ptr i 0)
  | v => newA e v
def evBox (tm : Ts AV) (e : TypeId) (x : Operand) : M OpR := match opnd tm x with
    | some v => vl (boxA e v)
    | none => no 103
def repOf (b : Option (Nat × AV)) (dflt : M OpR) : M OpR := match b with
  | some nz => match nz.2 with
    | .int k m => M.pure (.val (.rep nz.1 k m))
    | _ => dflt
  | none => dflt
def buildP (P : Program) (t : TypeId) (ps : List (Nat × AV)) : M OpR := match ps with
  | [] => repOf (bigT P t) (ovl 104 (buildA P t []))
  | p :: ps => ovl 104 (buildA P t (p :: ps))
def evBuild (P : Program) (tm : Ts AV) (t : TypeId) (ps : Array (Nat × Operand)) : M OpR := match partsA tm ps.toList with
    | some ps => buildP P t ps
    | none => no 105
def newBig (t : TypeId) (n : Nat) (z : AV) : M AV := M.bind (alloc (.big t .lf z n)) fun i => M.pure (.ptr i 0)
def evAlloc (P : Program) (e : TypeId) : M OpR := match bigT P e with
    | some nz => vl (newBig e nz.1 nz.2)
    | none => match zeroT P e with
      | some z => vl (newA e z)
      | none => no 102
def evBuildSlice (P : Program) (tm : Ts AV) (t : TypeId) (n : Nat) (ps : Array (Nat × Operand)) : M OpR := match partsA tm ps.toList with
    | some ps => vl (buildSliceA P t n ps)
    | none => no 106
def ev1 (w : Nat) (tm : Ts AV) (x : Operand) (f : AV → M OpR) : M OpR := match opnd tm x with
    | some a => f a
    | none => no w
def ev2 (w : Nat) (tm : Ts AV) (x y : Operand) (f : AV → AV → M OpR) : M OpR := match opnd tm x with
    | some a => match opnd tm y with
      | some b => f a b
      | none => no w
    | none => no w
def ev3 (w : Nat) (tm : Ts AV) (x y z : Operand) (f : AV → AV → AV → M OpR) : M OpR := match opnd tm x with
    | some a => match opnd tm y with
      | some b => match opnd tm z with
        | some c => f a b c
        | none => no w
      | none => no w
    | none => no w
def nilCheckA : AV → M OpR
    | .ptr i o => M.pure (.val (.ptr i o))
    | .sptr i o => M.pure (.val (.sptr i o))
    | .func (.func f) a c => M.pure (.val (.func (.func f) a c))
    | _ => no 109
def makeIfaceA (P : Program) (t : TypeId) (a : AV) : M OpR := match P.underlying t with
    | some (.interface _) => no 115
    | some _ => M.pure (.val (.iface t a))
    | none => no 116
def evMakeFunc (tm : Ts AV) (fn : Fn) (first cap : Array Operand) : M OpR := match opnds tm first.toList with
    | some a => match opnds tm cap.toList with
      | some c => M.pure (.val (.func fn a c))
      | none => no 117
    | none => no 117
def evMakeMap : Option Operand → M OpR
    | none => M.bind (alloc (.map [])) fun i => M.pure (.val (.map i))
    | some _ => no 118
def evSlice (P : Program) (tm : Ts AV) (t : TypeId) (x : Operand) (lo hi mx : Option Operand) : M OpR := match opnd tm x, opndO tm lo, opndO tm hi, opndO tm mx with
    | some x, some lo, some hi, some mx => ovl 119 (sliceA P t x lo hi mx)
    | _, _, _, _ => no 120
def extractA (n : Nat) : AV → M OpR
    | .tup vs => ovl 132 vs[n]?
    | _ => no 133
def callVal (P : Program) (f : AV) (args : List AV) : M OpR := match calleeA P f args with
    | some (g, as) => M.pure (.call g as)
    | none => no 134
def dfrVal (P : Program) (f : AV) (args : List AV) : M OpR := match calleeA P f args with
    | some (g, as) => M.pure (.dfr g as)
    | none => no 138
def evCallee (P : Program) (tm : Ts AV) (c : Callee) (ts : List TypeId) (args : List AV) : M OpR := match c with
      | .value f => ev1 135 tm f fun f => callVal P f args
      | .builtin b => builtinA P b ts args
      | .invoke _ _ => no 136
def evCall (P : Program) (tm : Ts AV) (c : Call) : M OpR := match opnds tm c.args.toList with
    | some args => evCallee P tm c.callee c.argTypes.toList args
    | none => no 137
def evDefer (P : Program) (tm : Ts AV) (c : Call) : M OpR := match opnds tm c.args.toList with
    | some args => match c.callee with
      | .value f => ev1 139 tm f fun f => dfrVal P f args
      | .builtin _ => no 140
      | .invoke _ _ => no 140
    | none => no 141
def panicA : AV → M OpR
    | .iface t v => M.pure (.pan (.iface t v))
    | _ => no 142

def evOp (P : Program) (tm : Ts AV) (op : Op) : M OpR :=
  match op with
  | .move x => ev1 100 tm x fun v => M.pure (.val v)
  | .assign x => ev1 100 tm x fun v => M.pure (.val v)
  | .pick c a b => evPick tm c a b
  | .alloc e => evAlloc P e
  | .box e x => evBox tm e x
  | .build t ps => evBuild P tm t ps
  | .buildSlice t n ps => evBuildSlice P tm t n ps
  | .insert t m k x => ev3 129 tm m k x fun m k v => ul (mapSetA P t m k v)
  | .load t a => ev1 107 tm a fun a => vl (loadA P t a)
  | .store t a x => ev2 108 tm a x fun a v => ul (storeA P t a v)
  | .ready _ => no 143
  | .waits _ => no 143
  | .nilCheck x => ev1 109 tm x nilCheckA
  | .binOp op t x y _ => ev2 110 tm x y fun a b => vl (binA P op t (isConstOp x) (isConstOp y) a b)
  | .unOp op _ x => ev1 112 tm x fun a => ovl 111 (unA op a)
  | .convert s d x => ev1 114 tm x fun a => ovl 113 (convertA P s d a)
  | .sliceToArrayPointer _ _ => no 143
  | .makeInterface t x => ev1 116 tm x fun a => makeIfaceA P t a
  | .makeFunc fn first cap => evMakeFunc tm fn first cap
  | .makeMap _ r => evMakeMap r
  | .makeChan t s => ev1 143 tm s fun s => vl (makeChanA P t s)
  | .makeSlice t l c => ev2 118 tm l c fun l c => vl (makeSliceA P t l c)
  | .slice t x lo hi mx => evSlice P tm t x lo hi mx
  | .fieldAddr s x f => ev1 122 tm x fun a => ovl 121 (fieldAt P s a f)
  | .field s x f => ev1 124 tm x fun a => ovl 123 (fieldA P s a f)
  | .indexAddr t x i => ev2 125 tm x i fun a i => vl (indexAtA P t a i)
  | .index t x i => ev2 127 tm x i fun a i => ovl 126 (indexA P t a i)
  | .lookup t x i ok => ev2 128 tm x i fun a i => vl (lookupA P t a i ok)
  | .mapUpdate t m k x => ev3 129 tm m k x fun m k v => ul (mapSetA P t m k v)
  | .mapEntry _ _ _ => no 143
  | .entryStore _ _ _ _ => no 143
  | .range _ _ => no 144
  | .next _ _ => no 144
  | .entry _ => no 144
  | .typeAssert x _ t ok => ev1 131 tm x fun a => ovl 130 (typeAssertA P a t ok)
  | .extract x n => ev1 133 tm x (extractA n)
  | .call c => evCall P tm c
  | .go _ => no 145
  | .defer c => evDefer P tm c
  | .panic x => ev1 142 tm x panicA
  | .send _ _ => no 145
  | .recv _ _ _ => no 145
  | .select _ _ => no 145

/-! ### Code -/
inductive X where
  | norm
  | exit (id : Nat)
  | ret
  | pan (v : AV)

inductive Task where
  | code (c : Code) (tm : Ts AV) (ds : List (FuncId × List AV))
  | call (f : FuncId) (args : List AV)

inductive Res where
  | no (why : Nat)
  | fin (x : X) (tm : Ts AV) (ds : List (FuncId × List AV)) (g : G)
  | val (v : AV) (g : G)
  | pan (v : AV) (g : G)

def putK {β : Type} (tm : Ts AV) (d : Option Tmp) (v : AV) (k : Ts AV → β) : β := match d with
  | some d => tm.setK d v k
  | none => k tm

/-- is the operation wanted? -/
def wantedA (ops : List Oper) (o : Oper) (tm : Ts AV) : M Bool :=
  match o.guard with
  | none => M.pure true
  | some (j, want) => match ops[j]? with
    | some oj => match oj.dst with
      | some d => match tm.get d with
        | some (.bool b) => M.pure (b == want)
        | some (.sbool b) => M.bind (ask b) fun r => M.pure (r == want)
        | some (.tup []) => M.pure false
        | _ => no 150
      | none => M.pure false
    | none => M.pure false

abbrev Rec := Task → G → Res

/-- what comes of an operation: its value, or a panic -/
inductive OpV where
  | val (v : AV)
  | pan (v : AV)
  | dfr (f : FuncId) (args : List AV)
def runOp (rec : Rec) (P : Program) (o : Oper) (tm : Ts AV) : M OpV := fun g =>
  match evOp P tm o.op g with
  | .ok r g => match r with
    | .val v => .ok (.val v) g
    | .pan v => .ok (.pan v) g
    | .dfr f args => .ok (.dfr f args) g
    | .call f args => match rec (.call f args) g with
      | .val v g => .ok (.val v) g
      | .pan v g => .ok (.pan v) g
      | .no w => .no w
      | .fin .. => .no 151
  | .no w => .no w

/-- in the order of the text -/
abbrev Next := Ts AV → List (FuncId × List AV) → G → Res
def evSeqV (o : Oper) (next : Next) (tm : Ts AV) (ds : List (FuncId × List AV)) (g : G) : OpV → Res
  | .val v => putK tm o.dst v fun tm => next tm ds g
  | .pan v => .fin (.pan v) tm ds g
  | .dfr f args => putK tm o.dst (.tup []) fun tm => next tm ((f, args) :: ds) g
def evSeqR (o : Oper) (next : Next) (tm : Ts AV) (ds : List (FuncId × List AV)) : Out OpV → Res
  | .ok v g => evSeqV o next tm ds g v
  | .no w => .no w
def evSeqW (rec : Rec) (P : Program) (o : Oper) (next : Next) (tm : Ts AV) (ds : List (FuncId × List AV)) : Out Bool → Res
  | .no w => .no w
  | .ok b g => match b with
    | true => evSeqR o next tm ds (runOp rec P o tm g)
    | false => putK tm o.dst (.tup []) fun tm => next tm ds g
def evSeq (rec : Rec) (P : Program) (ops : List Oper) (l : List Oper) : Next :=
  List.rec (motive := fun _ => Next) (fun tm ds g => .fin .norm tm ds g)
    (fun o _ next tm ds g => evSeqW rec P o next tm ds (wantedA ops o tm g)) l

/-! in any order -/
structure Foot where
  lo : Nat
  hi : Nat
  log : List Tch
def Tch.meets (a b : Tch) : Bool :=
  Nat.beq a.i b.i && (Nat.beq a.n 0 || Nat.beq b.n 0 || (Nat.ble (a.o + 1) (b.o + b.n) && Nat.ble (b.o + 1) (a.o + a.n)))
/-- do two logs bear each other? -/
def logsApart (a b : List Tch) : Bool :=
  a.all fun x => b.all fun y => match x.w || y.w with
    | true => !x.meets y
    | false => true
/-- all that an operation waits for, as bits; none: an edge leads forward -/
def edgeBits (ms : List Nat) (i : Nat) : List Edge → Option Nat
  | [] => some 0
  | e :: es => match Region.binds .any e with
    | false => edgeBits ms i es
    | true => match Nat.ble (e.on + 1) i, ms[e.on]?, edgeBits ms i es with
      | true, some m, some r => some (Nat.lor (Nat.lor (2 ^ e.on) m) r)
      | _, _, _ => none
def bitsFrom (ms : List Nat) (i : Nat) : List Oper → Option (List Nat)
  | [] => some ms
  | o :: os => match edgeBits ms i o.after.toList with
    | some b => bitsFrom (ms ++ [b]) (i + 1) os
    | none => none
def apartFrom (ops : Array Oper) (ms : List Nat) (i : Nat) (oi : Oper) : List Oper → Nat → Bool
  | [], _ => true
  | oj :: os, j => (match ms[j]? with
      | some m => m.testBit i || oi.apart ops oj
      | none => false) && apartFrom ops ms i oi os (j + 1)
def allApart (ops : Array Oper) (ms : List Nat) : List Oper → Nat → Bool
  | [], _ => true
  | o :: os, i => apartFrom ops ms i o os (i + 1) && allApart ops ms os (i + 1)
/-- the static half of the question: the bits, if the temporaries of operations that do not wait for each other are apart -/
def static (ops : Array Oper) : Option (List Nat) :=
  match bitsFrom [] 0 ops.toList with
  | some ms => match Region.noSelect ops && allApart ops ms ops.toList 0 with
    | true => some ms
    | false => none
  | none => none
/-- the new log against those before it, the last first -/
def footsApart (m : Nat) (log : List Tch) : List Foot → Nat → Bool
  | [], _ => true
  | f :: fs, j => (m.testBit (j - 1) || logsApart f.log log) && footsApart m log fs (j - 1)
def joinLogs : List Foot → List Tch → List Tch
  | [], l => l
  | f :: fs, l => f.log ++ joinLogs fs l
/-- canonical order; 'fs': the feet so far, the last first; no panics -/
abbrev NextP := Nat → List Foot → Ts AV → G → Out (Ts AV × List Foot)
def setFoot (lo : Nat) (fs : List Foot) (g : G) (k : List Foot → G → Out (Ts AV × List Foot)) : Out (Ts AV × List Foot) := match g with
  | ⟨h, nx, l, oc, ob⟩ => k (⟨lo, nx, l⟩ :: fs) ⟨h, nx, l, oc, ob⟩
def evParV (ms : List Nat) (o : Oper) (next : NextP) (i lo : Nat) (fs : List Foot) (tm : Ts AV) (g : G) : OpV → Out (Ts AV × List Foot)
  | .val v => match ms[i]? with
    | some m => match footsApart m g.log fs i with
      | true => setFoot lo fs g fun fs g => putK tm o.dst v fun tm => natK (Nat.add i (nat_lit 1)) fun i => next i fs tm g
      | false => .no 152
    | none => .no 153
  | .pan _ => .no 154
  | .dfr _ _ => .no 155
def evParR (ms : List Nat) (o : Oper) (next : NextP) (i lo : Nat) (fs : List Foot) (tm : Ts AV) : Out OpV → Out (Ts AV × List Foot)
  | .ok v g => evParV ms o next i lo fs tm g v
  | .no w => .no w
def evParW (rec : Rec) (P : Program) (ms : List Nat) (o : Oper) (next : NextP) (i : Nat) (fs : List Foot) (tm : Ts AV) : Out Bool → Out (Ts AV × List Foot)
  | .no w => .no w
  | .ok b g => match b with
    | true => evParR ms o next i g.next fs tm (runOp rec P o tm g)
    | false => setFoot g.next fs g fun fs g => putK tm o.dst (.tup []) fun tm => natK (Nat.add i (nat_lit 1)) fun i => next i fs tm g
def noLog (g : G) : G := match g with
  | ⟨h, nx, _, oc, ob⟩ => ⟨h, nx, [], oc, ob⟩
def evPar (rec : Rec) (P : Program) (ops : List Oper) (ms : List Nat) (l : List Oper) : NextP :=
  List.rec (motive := fun _ => NextP) (fun _ fs tm g => .ok (tm, fs) g)
    (fun o _ next i fs tm g => evParW rec P ms o next i fs tm (wantedA ops o tm (noLog g))) l

def resultsA (P : Program) : List ResultVar → Ts AV → M (List AV)
  | [], _ => M.pure []
  | .tmp t :: rs, tm => match tm.get t with
    | some v => M.bind (resultsA P rs tm) fun vs => M.pure (v :: vs)
    | none => no 160
  | .cell a t :: rs, tm => match tm.get a with
    | some p => M.bind (loadA P t p) fun v => M.bind (resultsA P rs tm) fun vs => M.pure (v :: vs)
    | none => no 161
def oneOf : List AV → AV
  | [v] => v
  | vs => .tup vs
def leave (P : Program) (fn : Func) (tm : Ts AV) (g : G) : Res :=
  match resultsA P fn.results.toList tm g with
  | .ok vs g => .val (oneOf vs) g
  | .no w => .no w

def argsK {β : Type} (l : List AV) : Nat → Ts AV → (Ts AV → β) → β :=
  List.rec (motive := fun _ => Nat → Ts AV → (Ts AV → β) → β) (fun _ t k => k t) (fun v _ ih i t k => Ts.setK t i v fun t => ih (Nat.succ i) t k) l
def argTmps {β : Type} (l : List AV) (k : Ts AV → β) : β := argsK l 0 .e k

/-- the deferred calls: each begins with recover; none: returning -/
def evDeferK (P : Program) (fd : Func) (k : G → Res) : Res → Res
  | .fin x tm ds g => match x, ds with
    | .norm, [] => match leave P fd tm g with
      | .val _ g => k g
      | _ => .no 170
    | .ret, [] => match leave P fd tm g with
      | .val _ g => k g
      | _ => .no 170
    | _, _ => .no 171
  | _ => .no 172
def evDeferO (rec : Rec) (P : Program) (fd : Func) (args : List AV) (u : Option AV) (rest : Code) (g : G) (k : G → Res) : List Oper → Res
  | o :: os => match o.op, o.guard with
    | .call { callee := .builtin .recover, .. }, none =>
      argTmps args fun tm => putK tm o.dst (match u with | some v => v | none => .nilIface) fun tm =>
        match evSeq rec P (o :: os) os tm [] g with
        | .fin .norm tm' [] g => evDeferK P fd k (rec (.code rest tm' []) g)
        | _ => .no 173
    | _, _ => .no 174
  | [] => .no 175
def evDeferB (rec : Rec) (P : Program) (fd : Func) (args : List AV) (u : Option AV) (g : G) (k : G → Res) : Option Code → Res
  | some (.seq (.region _ ops false) rest) => evDeferO rec P fd args u rest g k ops.toList
  | _ => .no 176
def evDefers (rec : Rec) (P : Program) (fn : Func) (tm : Ts AV) : List (FuncId × List AV) → Option AV → G → Res
  | [], none, g => leave P fn tm g
  | [], some v, g => .pan v g
  | (f, args) :: ds, u, g => match P.funcs[f]? with
    | some fd => evDeferB rec P fd args u g (fun g => evDefers rec P fn tm ds none g) fd.body
    | none => .no 177

def joinG (g : G) (fs : List Foot) (g' : G) : G := match g' with
  | ⟨h, nx, _, oc, ob⟩ => ⟨h, nx, joinLogs fs g.log, oc, ob⟩
def evRegP (rec : Rec) (P : Program) (ops : List Oper) (tm : Ts AV) (ds : List (FuncId × List AV)) (g : G) : Option (List Nat) → Res
  | some ms => match evPar rec P ops ms ops 0 [] tm g with
    | .ok (tm, fs) g' => .fin .norm tm ds (joinG g fs g')
    | .no w => .no w
  | none => .no 180
def evReg (rec : Rec) (P : Program) (ops : Array Oper) (draw : Bool) (tm : Ts AV) (ds : List (FuncId × List AV)) (g : G) : Res := match draw with
  | false => evSeq rec P ops.toList ops.toList tm ds g
  | true => evRegP rec P ops.toList tm ds g (static ops)
def thenDo (next : Ts AV → List (FuncId × List AV) → G → Res) (r : Res) : Res := match r with
  | .fin x tm ds g => match x with
    | .norm => next tm ds g
    | x => .fin x tm ds g
  | r => r
def evCondS (t e : G → Res) : Out Bool → Res
  | .ok b g => match b with
    | true => t g
    | false => e g
  | .no w => .no w
def evCond (t e : G → Res) (g : G) : Option AV → Res
  | some v => match v with
    | .bool b => match b with
      | true => t g
      | false => e g
    | .sbool s => evCondS t e (ask s g)
    | _ => .no 181
  | none => .no 181
def inBlockA (id : Nat) : Res → Res
  | .fin x tm ds g => match x with
    | .exit id' => match Nat.beq id' id with
      | true => .fin .norm tm ds g
      | false => .fin (.exit id') tm ds g
    | x => .fin x tm ds g
  | r => r
def evCode (rec : Rec) (P : Program) (c : Code) (tm : Ts AV) (ds : List (FuncId × List AV)) (g : G) : Res :=
  match c with
  | .skip => .fin .norm tm ds g
  | .region _ ops draw => evReg rec P ops draw tm ds g
  | .seq a b => thenDo (fun tm ds g => rec (.code b tm ds) g) (rec (.code a tm ds) g)
  | .cond c a b => evCond (rec (.code a tm ds)) (rec (.code b tm ds)) g (opnd tm c)
  | .block id c => inBlockA id (rec (.code c tm ds) g)
  | .loop c => thenDo (fun tm ds g => rec (.code (.loop c) tm ds) g) (rec (.code c tm ds) g)
  | .rangeFunc _ _ _ _ => .no 182
  | .exit id => .fin (.exit id) tm ds g
  | .scope c => rec (.code c tm ds) g
  | .label _ => .fin .norm tm ds g
  | .goto _ => .no 182
  | .ret => .fin .ret tm ds g
  | .refuse _ => .no 182
def afterBody (rec : Rec) (P : Program) (fn : Func) : Res → Res
  | .fin x tm ds g => match x with
    | .norm => evDefers rec P fn tm ds none g
    | .ret => evDefers rec P fn tm ds none g
    | .pan v => evDefers rec P fn tm ds (some v) g
    | .exit _ => .no 183
  | .no w => .no w
  | _ => .no 184
def evCallB (rec : Rec) (P : Program) (fn : Func) (args : List AV) (g : G) : Option Code → Res
  | some c => argTmps args fun tm => afterBody rec P fn (rec (.code c tm []) g)
  | none => .no 185
def evCallF (rec : Rec) (P : Program) (args : List AV) (g : G) : Option Func → Res
  | some fn => evCallB rec P fn args g fn.body
  | none => .no 186
abbrev Env := FuncId → Option (List AV → G → Res)
def evCallE (P : Program) (rec : Rec) (f : FuncId) (args : List AV) (g : G) : Option (List AV → G → Res) → Res
  | some s => s args g
  | none => evCallF rec P args g P.funcs[f]?
def body (P : Program) (Γ : Env) (rec : Rec) : Rec := fun t g =>
  match t with
  | .code c tm ds => evCode rec P c tm ds g
  | .call f args => evCallE P rec f args g (Γ f)
def ev (P : Program) (Γ : Env) (n : Nat) : Rec :=
  Nat.rec (motive := fun _ => Rec) (fun _ _ => .no 0) (fun _ ih => body P Γ ih) n

def G.init : G := { heap := .lf, next := 0, log := [], orc := [], obl := [] }
end
end Go.Ev
