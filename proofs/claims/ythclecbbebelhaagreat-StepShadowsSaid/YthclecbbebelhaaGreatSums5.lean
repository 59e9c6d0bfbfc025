/-
  A part of the evaluator of the program's code, or of what it was seen to do; its statements are Lean's own. No condition.
-/
import Derived.Test.YthclecbbebelhaaGreatSums3
import Derived.Test.YthclecbbebelhaaGreatEvSel2
namespace Go.Proofs.YthclecbbebelhaaGreat.sums
open Go.Ev
noncomputable section
/-- the push of a byte: its select is run by the machine's own step -/
def envU : Env := addSel Tryz.prog 67 (nat_lit 100) (nat_lit 8) env3
theorem envU_ok : EnvS Tryz.prog envU := addSel_ok pf env3_ok _ _ _
end
end Go.Proofs.YthclecbbebelhaaGreat.sums
