/-
  A part of the evaluator of the program's code, or of what it was seen to do; its statements are Lean's own. No condition.
-/
import Derived.Test.YteeakllokpdjgaaGreatXSums3
import Derived.Test.YteeakllokpdjgaaGreatEvG8
import Derived.KernelRfl
namespace Go.Proofs.YteeakllokpdjgaaGreat.stepWaits.runs
open Go.Ev
noncomputable section
def envU : Env := addSel Tryz.prog 51 (nat_lit 100) (nat_lit 8) sums.env3
theorem envU_ok : EnvS Tryz.prog envU := addSel_ok sums.pf sums.env3_ok _ _ _

theorem few : FewRun Tryz.prog 19 (nat_lit 100) := fun x h nx l oc ob => by kernel_rfl
def envF (v : Int) : Env := addFn 19 (fewS (nat_lit 100) v) envU
theorem envF_ok (v : Int) : EnvS Tryz.prog (envF v) := addFn_ok envU_ok (few_le _ _) (few_call sums.pf (by kernel_rfl) few v)
def R (n0 n1 : Int) (v : Int) : Option (List (Bool × Bool)) := (evF Tryz.prog (envF v) 10000 (.call 8 [.sint .i64 n0, .sint .u8 n1]) G.init).owed
def E (n0 : Int) (v : Int) : Option (List (Bool × Bool)) := some [(decide (fewI (nat_lit 100) n0 = v), true)]
theorem all_of {α : Type} {f g : Int → α} : ∀ {l : List Int}, l.map f = l.map g → ∀ v ∈ l, f v = g v
  | [], _, v, hv => nomatch hv
  | a :: l, h, v, hv => by
    injection h with h1 h2
    rcases List.mem_cons.1 hv with rfl | hv
    · exact h1
    · exact all_of h2 v hv
end
end Go.Proofs.YteeakllokpdjgaaGreat.stepWaits.runs
