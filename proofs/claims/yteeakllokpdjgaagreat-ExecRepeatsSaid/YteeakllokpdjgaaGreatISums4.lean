/-
  A part of the evaluator of the program's code, or of what it was seen to do; its statements are Lean's own. No condition.
-/
import Derived.Test.YteeakllokpdjgaaGreatISums
namespace Go.Proofs.YteeakllokpdjgaaGreat.sums
open Go.Ev
noncomputable section
def awake17S : Sum := { args := [], base := (nat_lit 2), is := [], v := .bool true, bs := [] }
theorem awake17_run : fitAll [awake17S] (evF Tryz.prog env1 10000 (.call 9 []) G.init) = true := by kernel_rfl
def env4 : Env := addS 9 [awake17S] env1
theorem env4_ok : EnvS Tryz.prog env4 := addS_one env1_ok pf env1_ok (by kernel_rfl) (fun s hs => by rcases List.mem_cons.1 hs with rfl | hs; (· rfl); cases hs) awake17_run
end
end Go.Proofs.YteeakllokpdjgaaGreat.sums
