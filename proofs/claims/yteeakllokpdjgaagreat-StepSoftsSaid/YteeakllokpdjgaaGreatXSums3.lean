/-
  A part of the evaluator of the program's code, or of what it was seen to do; its statements are Lean's own. No condition.
-/
import Derived.Test.YteeakllokpdjgaaGreatXSums2
namespace Go.Proofs.YteeakllokpdjgaaGreat.sums
open Go.Ev
noncomputable section
def awake19S : Sum := { args := [], base := (nat_lit 2), is := [], v := .bool true, bs := [] }
theorem awake19_run : fitAll [awake19S] (evF Tryz.prog env2 10000 (.call 17 []) G.init) = true := by kernel_rfl
def env3 : Env := addS 17 [awake19S] env2
theorem env3_ok : EnvS Tryz.prog env3 := addS_one env2_ok pf env2_ok (by kernel_rfl) (fun s hs => by rcases List.mem_cons.1 hs with rfl | hs; (· rfl); cases hs) awake19_run
end
end Go.Proofs.YteeakllokpdjgaaGreat.sums
