/-
  A part of the evaluator of the program's code, or of what it was seen to do; its statements are Lean's own. No condition.
-/
import Derived.Test.YteeakllokpdjgaaGreatHSums4
import Derived.Test.YteeakllokpdjgaaGreatEvH8
import Derived.KernelRfl
namespace Go.Proofs.YteeakllokpdjgaaGreat.execJumps.runs
open Go.Ev
noncomputable section

/-! ### What is expected to be owed -/
def fb (fl : Int) (M : Nat) : Bool := IntKind.u32.wrap (Int.ofNat (BitVec.ofInt IntKind.u32.bits fl &&& BitVec.ofInt IntKind.u32.bits (Int.ofNat M)).toNat) != 0
def uE (fl : Int) : Bool := !(Eqr.nam (fb fl (nat_lit 128) == fb fl (nat_lit 2048))).b
def xE (fl : Int) : Nat → Bool
  | 0 => fb fl (nat_lit 2048)
  | 1 => fb fl (nat_lit 1)
  | 2 => fb fl (nat_lit 64)
  | 3 => fb fl (nat_lit 65)
  | 4 => fb fl (nat_lit 128)
  | 5 => fb fl (nat_lit 4)
  | 6 => uE fl
  | _ => Bool.rec (motive := fun _ => Bool) (fb fl (nat_lit 64)) true (uE fl)
def isE (fl : Int) (k : Nat) : Bool := (Eqr.nam (xE fl (k / 2) == Nat.beq (k % 2) 0)).b
def cE (i : Bool) : Bool := (Eqr.nam ((IntKind.u32.wrap (Int.ofNat (BitVec.ofInt IntKind.u32.bits (Int.ofNat 0) ||| BitVec.ofInt IntKind.u32.bits (IntKind.u32.wrap (Int.ofNat (BitVec.ofInt IntKind.u32.bits (IntKind.u32.wrap (Bool.rec (motive := fun _ => Int) 0 1 i * 2 ^ min 0 IntKind.u32.bits)) &&& BitVec.ofInt IntKind.u32.bits (Int.ofNat 255)).toNat))).toNat) == 1) == i)).b
def or32 (x y : Int) : Int := IntKind.u32.wrap (Int.ofNat (BitVec.ofInt IntKind.u32.bits x ||| BitVec.ofInt IntKind.u32.bits y).toNat)
def low (x : Int) : Int := IntKind.u32.wrap (Int.ofNat (BitVec.ofInt IntKind.u32.bits x &&& BitVec.ofInt IntKind.u32.bits (Int.ofNat 4294967295)).toNat)
def part (x : Int) (s : Nat) : Int := IntKind.u32.wrap (IntKind.u32.wrap (IntKind.u8.wrap x) * 2 ^ min s IntKind.u32.bits)
def want (y : Int) : Int := IntKind.u32.wrap (4098 + IntKind.u32.wrap (IntKind.i32.wrap y))
def to1 (y : Int) : Int := IntKind.u32.wrap (Int.ofNat 4098 + IntKind.u32.wrap ((IntKind.i32.wrap (IntKind.u32.wrap (or32 0 (part y 0) * 2 ^ min 24 IntKind.u32.bits))).fdiv (2 ^ min 24 IntKind.i32.bits)))
def by4 (y : Int) : Int := IntKind.u32.wrap (IntKind.i32.wrap y)
def to2 (y : Int) : Int := IntKind.u32.wrap (Int.ofNat 4098 + IntKind.u32.wrap ((IntKind.i32.wrap (IntKind.u32.wrap (or32 (or32 (or32 (or32 0 (part ((by4 y).tmod 256) 0)) (part (((by4 y).fdiv (2 ^ min 8 IntKind.u32.bits)).tmod 256) 8)) (part (((by4 y).fdiv (2 ^ min 16 IntKind.u32.bits)).tmod 256) 16)) (part ((by4 y).fdiv (2 ^ min 24 IntKind.u32.bits)) 24) * 2 ^ min 0 IntKind.u32.bits))).fdiv (2 ^ min 0 IntKind.i32.bits)))
def d5 (y : Int) : Bool := decide (low (to1 y) > 4294967295)
def d4 (y : Int) : Bool := low (to1 y) != want y
def d2 (y : Int) : Bool := decide (low (to2 y) > 4294967295)
def eE (y : Int) : Bool := IntKind.u32.wrap (low (to2 y) + Int.ofNat 3) == IntKind.u32.wrap (want y + 3)
def uL (fl : Int) (u : Bool) : List (Bool × Bool) := match u with
  | true => [(uE fl, true), (uE fl, true), (uE fl, true), (uE fl, true)]
  | false => [(uE fl, false), (uE fl, false), (uE fl, false)]
def ccF (cc : Int) : Nat → List (Bool × Bool)
  | 0 => []
  | i + 1 => (fewI (nat_lit 15) cc == Int.ofNat i, false) :: ccF cc i
def ccL (cc : Int) (k : Nat) : List (Bool × Bool) := (fewI (nat_lit 15) cc == Int.ofNat k, true) :: ccF cc k
def c8 (i : Bool) : List (Bool × Bool) := [(cE i, true), (cE i, true), (cE i, true), (cE i, true), (cE i, true), (cE i, true), (cE i, true), (cE i, true)]
def ob (cc fl y : Int) (k : Nat) (u i : Bool) : List (Bool × Bool) := match Nat.ble 14 k && u with
  | true => match i with
    | true => (eE y, true) :: (uL fl u ++ ((d2 y, false) :: (uL fl u ++ ((d4 y, false) :: (d5 y, false) :: (uL fl u ++ (uL fl u ++ ccL cc k))))))
    | false => uL fl u ++ (uL fl u ++ (uL fl u ++ (uL fl u ++ ccL cc k)))
  | false => match i with
    | true => (Bool.rec (motive := fun _ => Bool) false (eE y) (cE (isE fl k)), true) :: (c8 (isE fl k) ++ (uL fl u ++ ((d2 y, false) :: (isE fl k, true) :: (uL fl u ++ ((d4 y, false) :: (isE fl k, true) :: (d5 y, false) :: (isE fl k, true) :: (uL fl u ++ (uL fl u ++ ccL cc k)))))))
    | false => (Bool.rec (motive := fun _ => Bool) false true (cE (isE fl k)), true) :: (c8 (isE fl k) ++ (uL fl u ++ ((isE fl k, false) :: (uL fl u ++ ((isE fl k, false) :: (isE fl k, false) :: (uL fl u ++ (uL fl u ++ ccL cc k)))))))
/-! the oracle -/
def uB (u : Bool) : List Bool := match u with
  | true => [true, true, true, true]
  | false => [false, false, false]
def ccB : Nat → List Bool
  | 0 => [true]
  | k + 1 => false :: ccB k
def orcl (k : Nat) (u i : Bool) : List Bool := ccB k ++ (uB u ++ (uB u ++ match Nat.ble 14 k && u with
  | true => match i with
    | true => false :: false :: (uB u ++ (false :: uB u))
    | false => uB u ++ uB u
  | false => match i with
    | true => true :: false :: true :: false :: (uB u ++ (true :: false :: (uB u ++ [true, true, true, true, true, true, true, true])))
    | false => false :: false :: (uB u ++ (false :: (uB u ++ [true, true, true, true, true, true, true, true])))))
def R (cc fl y : Int) (p : Nat × Bool × Bool) : Option (List (Bool × Bool)) := (evF Tryz.prog sums.env4 10000 (.call 4 [.sint .i64 cc, .sint .u32 fl, .sint .i8 y]) (G.asks (orcl p.1 p.2.1 p.2.2))).owedS
def E (cc fl y : Int) (p : Nat × Bool × Bool) : Option (List (Bool × Bool)) := some (ob cc fl y p.1 p.2.1 p.2.2)
theorem all_of {α β : Type} {f g : α → β} : ∀ {l : List α}, l.map f = l.map g → ∀ v ∈ l, f v = g v
  | [], _, v, hv => nomatch hv
  | a :: l, h, v, hv => by
    injection h with h1 h2
    rcases List.mem_cons.1 hv with rfl | hv
    · exact h1
    · exact all_of h2 v hv
end
end Go.Proofs.YteeakllokpdjgaaGreat.execJumps.runs
