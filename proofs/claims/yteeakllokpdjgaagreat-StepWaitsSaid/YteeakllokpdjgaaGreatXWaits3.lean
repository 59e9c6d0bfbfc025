/-
  A part of the evaluator of the program's code, or of what it was seen to do; its statements are Lean's own. No condition.
-/
import Derived.Test.YteeakllokpdjgaaGreatXWaits0
namespace Go.Proofs.YteeakllokpdjgaaGreat.stepWaits.runs
open Go.Ev
noncomputable section
def l_p9 : List Int := [(.ofNat (nat_lit 14)), (.ofNat (nat_lit 15)), (.ofNat (nat_lit 16)), (.ofNat (nat_lit 17)), (.ofNat (nat_lit 18)), (.ofNat (nat_lit 19))]
theorem r_p9 (n0 n1 : Int) : [R n0 n1 (.ofNat (nat_lit 14)), R n0 n1 (.ofNat (nat_lit 15)), R n0 n1 (.ofNat (nat_lit 16)), R n0 n1 (.ofNat (nat_lit 17)), R n0 n1 (.ofNat (nat_lit 18)), R n0 n1 (.ofNat (nat_lit 19))] = [some [(decide (fewI (nat_lit 100) n0 = (.ofNat (nat_lit 14))), true)], some [(decide (fewI (nat_lit 100) n0 = (.ofNat (nat_lit 15))), true)], some [(decide (fewI (nat_lit 100) n0 = (.ofNat (nat_lit 16))), true)], some [(decide (fewI (nat_lit 100) n0 = (.ofNat (nat_lit 17))), true)], some [(decide (fewI (nat_lit 100) n0 = (.ofNat (nat_lit 18))), true)], some [(decide (fewI (nat_lit 100) n0 = (.ofNat (nat_lit 19))), true)]] := by kernel_rfl
theorem p9 (n0 n1 : Int) : ∀ v ∈ l_p9, R n0 n1 v = E n0 v := all_of (f := R n0 n1) (g := E n0) (r_p9 n0 n1)
def l_p10 : List Int := [(.ofNat (nat_lit 48)), (.ofNat (nat_lit 49)), (.ofNat (nat_lit 50))]
theorem r_p10 (n0 n1 : Int) : [R n0 n1 (.ofNat (nat_lit 48)), R n0 n1 (.ofNat (nat_lit 49)), R n0 n1 (.ofNat (nat_lit 50))] = [some [(decide (fewI (nat_lit 100) n0 = (.ofNat (nat_lit 48))), true)], some [(decide (fewI (nat_lit 100) n0 = (.ofNat (nat_lit 49))), true)], some [(decide (fewI (nat_lit 100) n0 = (.ofNat (nat_lit 50))), true)]] := by kernel_rfl
theorem p10 (n0 n1 : Int) : ∀ v ∈ l_p10, R n0 n1 v = E n0 v := all_of (f := R n0 n1) (g := E n0) (r_p10 n0 n1)
def l_p11 : List Int := [(.ofNat (nat_lit 71)), (.ofNat (nat_lit 72))]
theorem r_p11 (n0 n1 : Int) : [R n0 n1 (.ofNat (nat_lit 71)), R n0 n1 (.ofNat (nat_lit 72))] = [some [(decide (fewI (nat_lit 100) n0 = (.ofNat (nat_lit 71))), true)], some [(decide (fewI (nat_lit 100) n0 = (.ofNat (nat_lit 72))), true)]] := by kernel_rfl
theorem p11 (n0 n1 : Int) : ∀ v ∈ l_p11, R n0 n1 v = E n0 v := all_of (f := R n0 n1) (g := E n0) (r_p11 n0 n1)
def l_p12 : List Int := [(.ofNat (nat_lit 87)), (.ofNat (nat_lit 88))]
theorem r_p12 (n0 n1 : Int) : [R n0 n1 (.ofNat (nat_lit 87)), R n0 n1 (.ofNat (nat_lit 88))] = [some [(decide (fewI (nat_lit 100) n0 = (.ofNat (nat_lit 87))), true)], some [(decide (fewI (nat_lit 100) n0 = (.ofNat (nat_lit 88))), true)]] := by kernel_rfl
theorem p12 (n0 n1 : Int) : ∀ v ∈ l_p12, R n0 n1 v = E n0 v := all_of (f := R n0 n1) (g := E n0) (r_p12 n0 n1)
end
end Go.Proofs.YteeakllokpdjgaaGreat.stepWaits.runs
