/-
  A part of the evaluator of the program's code, or of what it was seen to do; its statements are Lean's own. No condition.
-/
import Derived.Test.YteeakllokpdjgaaGreatISums4
import Derived.Test.YteeakllokpdjgaaGreatEvI8
import Derived.KernelRfl
namespace Go.Proofs.YteeakllokpdjgaaGreat.execRepeats.runs
open Go.Ev
noncomputable section

/-! ### What is expected to be owed -/
def W (x : Int) : Int := IntKind.u32.wrap x
def bv (x : Int) : BitVec IntKind.u32.bits := BitVec.ofInt IntKind.u32.bits x
def sh (n : Nat) : Int := 2 ^ min n IntKind.u32.bits
def vE (b : Int) : Bool := W (Int.ofNat (bv 0 ||| bv (W (W (IntKind.u8.wrap ((W (Int.ofNat (bv ((W b).fdiv (sh 0)) &&& bv (Int.ofNat 255)).toNat)).fdiv (sh 0))) * sh 0))).toNat) != W b
def mE (s : Int) : Bool := s.tmod 2 == 0
def ccF (x : Int) : Nat → List (Bool × Bool)
  | 0 => []
  | i + 1 => (fewI (nat_lit 49) x == Int.ofNat i, false) :: ccF x i
def rounds (s b : Int) (m : Bool) (l : List (Bool × Bool)) : Nat → List (Bool × Bool)
  | 0 => l
  | n + 1 => match m with
    | true => (mE s, true) :: rounds s b m l n
    | false => (vE b, false) :: (mE s, false) :: rounds s b m l n
def ob (x s b : Int) (n : Nat) (m : Bool) : List (Bool × Bool) := rounds s b m ((mE s, m) :: (fewI (nat_lit 49) x == Int.ofNat n, true) :: ccF x n) n
def rB (m : Bool) : Nat → List Bool
  | 0 => []
  | n + 1 => match m with
    | true => true :: rB m n
    | false => false :: false :: rB m n
def ccB : Nat → List Bool → List Bool
  | 0, l => true :: l
  | k + 1, l => false :: ccB k l
def doP : List (List AV × AV) := [([.int .i64 (.ofNat (nat_lit 36))], .func (.func (nat_lit 288)) [] [])]
theorem do_run : fitsP (.func (.func (nat_lit 288)) [] []) (evF Tryz.prog sums.env0 10000 (.call 90 [.int .i64 (.ofNat (nat_lit 36))]) G.init) = true := by kernel_rfl
def env5 : Env := addP 90 doP sums.env4
theorem env5_ok : EnvS Tryz.prog env5 := addP_ok sums.env4_ok sums.pf (noEnv _) (by kernel_rfl) (fun p hp => by
  rcases List.mem_cons.1 hp with rfl | hp
  · exact ⟨10000, do_run⟩
  · cases hp)
def R (x s b : Int) (p : Nat × Bool × Bool) : Option (List (Bool × Bool)) := (evF Tryz.prog env5 20000 (.call 6 [.sint .i64 x, .sint .i64 s, .bool p.2.2, .sint .u8 b]) (G.asks (ccB p.1 (p.2.1 :: rB p.2.1 p.1)))).owedS
def E (x s b : Int) (p : Nat × Bool × Bool) : Option (List (Bool × Bool)) := some (ob x s b p.1 p.2.1)
theorem all_of {α β : Type} {f g : α → β} : ∀ {l : List α}, l.map f = l.map g → ∀ v ∈ l, f v = g v
  | [], _, v, hv => nomatch hv
  | a :: l, h, v, hv => by
    injection h with h1 h2
    rcases List.mem_cons.1 hv with rfl | hv
    · exact h1
    · exact all_of h2 v hv
end
end Go.Proofs.YteeakllokpdjgaaGreat.execRepeats.runs
