/-
  A part of the evaluator of the program's code, or of what it was seen to do; its statements are Lean's own. No condition.
-/
import Derived.Test.YteeakllokpdjgaaGreatHSums4
import Derived.Test.YteeakllokpdjgaaGreatEvH8
import Derived.KernelRfl
namespace Go.Proofs.YteeakllokpdjgaaGreat.execMoves.runs
open Go.Ev
noncomputable section

/-! ### What is expected to be owed -/
def W (x : Int) : Int := IntKind.u32.wrap x
def bv (x : Int) : BitVec IntKind.u32.bits := BitVec.ofInt IntKind.u32.bits x
def or32 (x y : Int) : Int := W (Int.ofNat (bv x ||| bv y).toNat)
def and32 (x y : Int) : Int := W (Int.ofNat (bv x &&& bv y).toNat)
def andn (x y : Int) : Int := W (Int.ofNat (bv x &&& ~~~(bv y)).toNat)
def sh (n : Nat) : Int := 2 ^ min n IntKind.u32.bits
def byt (z : Int) : Int := or32 0 (W (W (IntKind.u8.wrap z) * sh 0))
def part (z : Int) (s : Nat) : Int := W (byt z * sh s)
def mask (wide : Bool) : Int := match wide with
  | true => Int.ofNat 4294967295
  | false => Int.ofNat 65535
def rd (wide : Bool) (z : Int) : Int := match wide with
  | true => or32 (or32 (or32 (or32 0 (part (z.fdiv (sh 0)) 0)) (part ((z.fdiv (sh 8)).fdiv (sh 0)) 8)) (part (((z.fdiv (sh 8)).fdiv (sh 8)).fdiv (sh 0)) 16)) (part ((((z.fdiv (sh 8)).fdiv (sh 8)).fdiv (sh 8)).fdiv (sh 0)) 24)
  | false => or32 (or32 0 (part (z.fdiv (sh 0)) 0)) (part ((z.fdiv (sh 8)).fdiv (sh 0)) 8)
/-- what the code lays: from a register, and by way of memory -/
def fR (wide : Bool) (x y : Int) : Int := or32 (andn y (mask wide)) (and32 (W (and32 x (mask wide) * sh 0)) (mask wide))
def fM (wide : Bool) (x y : Int) : Int := or32 (andn y (mask wide)) (and32 (W (rd wide (and32 x (mask wide)) * sh 0)) (mask wide))
/-- what the statement wants -/
def fW (wide : Bool) (x y : Int) : Int := match wide with
  | true => x
  | false => or32 (andn y 65535) (and32 x 65535)
def reg (f : Int → Int → Int) (u : Nat → Int) (a t i : Nat) : Int := match Nat.beq i t with
  | true => f (u a) (u t)
  | false => u i
def eqs (f h : Int → Int → Int) (u : Nat → Int) (a t : Nat) : List Nat → Bool
  | [] => (Eqr.con true).b
  | i :: is => (Eqr.nam (reg f u a t i == reg h u a t i)).b && eqs f h u a t is
def ccF (x : Int) : Nat → List (Bool × Bool) → List (Bool × Bool)
  | 0, l => l
  | i + 1, l => (fewI (nat_lit 7) x == Int.ofNat i, false) :: ccF x i l
def ob (u : Nat → Int) (n1 n2 : Int) (a t : Nat) (wide : Bool) : List (Bool × Bool) :=
  (eqs (fM wide) (fW wide) u a t [0, 1, 2, 3, 4, 5, 6, 7], true) :: (!eqs (fR wide) (fW wide) u a t [0, 1, 2, 3, 4, 5, 6, 7], false) ::
    (fewI (nat_lit 7) n2 == Int.ofNat t, true) :: ccF n2 t ((fewI (nat_lit 7) n1 == Int.ofNat a, true) :: ccF n1 a [])
def ccB : Nat → List Bool → List Bool
  | 0, l => true :: l
  | k + 1, l => false :: ccB k l
def regs (u : Nat → Int) : AV := .agg [.sint .u32 (u 0), .sint .u32 (u 1), .sint .u32 (u 2), .sint .u32 (u 3), .sint .u32 (u 4), .sint .u32 (u 5), .sint .u32 (u 6), .sint .u32 (u 7)]
def R (u : Nat → Int) (n1 n2 : Int) (p : Nat × Nat × Bool) : Option (List (Bool × Bool)) := (evF Tryz.prog sums.env4 10000 (.call 3 [regs u, .sint .i64 n1, .sint .i64 n2, .bool p.2.2]) (G.asks (ccB p.1 (ccB p.2.1 [false])))).owedS
def E (u : Nat → Int) (n1 n2 : Int) (p : Nat × Nat × Bool) : Option (List (Bool × Bool)) := some (ob u n1 n2 p.1 p.2.1 p.2.2)
theorem all_of {α β : Type} {f g : α → β} : ∀ {l : List α}, l.map f = l.map g → ∀ v ∈ l, f v = g v
  | [], _, v, hv => nomatch hv
  | a :: l, h, v, hv => by
    injection h with h1 h2
    rcases List.mem_cons.1 hv with rfl | hv
    · exact h1
    · exact all_of h2 v hv
end
end Go.Proofs.YteeakllokpdjgaaGreat.execMoves.runs
