/-
  A part of the evaluator of the program's code, or of what it was seen to do; its statements are Lean's own. No condition.
-/
import Derived.Test.YteeakllokpdjgaaGreatXSums3
import Derived.Test.YteeakllokpdjgaaGreatEvG8
import Derived.KernelRfl
namespace Go.Proofs.YteeakllokpdjgaaGreat.stepSofts.runs
open Go.Ev
noncomputable section

theorem few : FewRun Tryz.prog 19 (nat_lit 63) := fun x h nx l oc ob => by kernel_rfl
def envF (v : Int) : Env := addFn 19 (fewS (nat_lit 63) v) sums.env3
theorem envF_ok (v : Int) : EnvS Tryz.prog (envF v) := addFn_ok sums.env3_ok (few_le _ _) (few_call sums.pf (by kernel_rfl) few v)
def R (n0 : Int) (b1 : Bool) (v : Int) : Option (List (Bool × Bool)) := (evF Tryz.prog (envF v) 10000 (.call 7 [.sint .i64 n0, .bool b1]) G.init).owed
def E (n0 : Int) (v : Int) : Option (List (Bool × Bool)) := some [(decide (fewI (nat_lit 63) n0 = v), true)]
theorem all_of {α : Type} {f g : Int → α} : ∀ {l : List Int}, l.map f = l.map g → ∀ v ∈ l, f v = g v
  | [], _, v, hv => nomatch hv
  | a :: l, h, v, hv => by
    injection h with h1 h2
    rcases List.mem_cons.1 hv with rfl | hv
    · exact h1
    · exact all_of h2 v hv
end
end Go.Proofs.YteeakllokpdjgaaGreat.stepSofts.runs
