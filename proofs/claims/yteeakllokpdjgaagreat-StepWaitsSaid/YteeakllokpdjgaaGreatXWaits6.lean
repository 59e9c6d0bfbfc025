/-
  A part of the evaluator of the program's code, or of what it was seen to do; its statements are Lean's own. No condition.
-/
import Derived.Test.YteeakllokpdjgaaGreatXWaits0
namespace Go.Proofs.YteeakllokpdjgaaGreat.stepWaits.runs
open Go.Ev
noncomputable section
def l_p21 : List Int := [(.ofNat (nat_lit 30)), (.ofNat (nat_lit 31)), (.ofNat (nat_lit 32)), (.ofNat (nat_lit 33))]
theorem r_p21 (n0 n1 : Int) : [R n0 n1 (.ofNat (nat_lit 30)), R n0 n1 (.ofNat (nat_lit 31)), R n0 n1 (.ofNat (nat_lit 32)), R n0 n1 (.ofNat (nat_lit 33))] = [some [(decide (fewI (nat_lit 100) n0 = (.ofNat (nat_lit 30))), true)], some [(decide (fewI (nat_lit 100) n0 = (.ofNat (nat_lit 31))), true)], some [(decide (fewI (nat_lit 100) n0 = (.ofNat (nat_lit 32))), true)], some [(decide (fewI (nat_lit 100) n0 = (.ofNat (nat_lit 33))), true)]] := by kernel_rfl
theorem p21 (n0 n1 : Int) : ∀ v ∈ l_p21, R n0 n1 v = E n0 v := all_of (f := R n0 n1) (g := E n0) (r_p21 n0 n1)
def l_p22 : List Int := [(.ofNat (nat_lit 57)), (.ofNat (nat_lit 58)), (.ofNat (nat_lit 59))]
theorem r_p22 (n0 n1 : Int) : [R n0 n1 (.ofNat (nat_lit 57)), R n0 n1 (.ofNat (nat_lit 58)), R n0 n1 (.ofNat (nat_lit 59))] = [some [(decide (fewI (nat_lit 100) n0 = (.ofNat (nat_lit 57))), true)], some [(decide (fewI (nat_lit 100) n0 = (.ofNat (nat_lit 58))), true)], some [(decide (fewI (nat_lit 100) n0 = (.ofNat (nat_lit 59))), true)]] := by kernel_rfl
theorem p22 (n0 n1 : Int) : ∀ v ∈ l_p22, R n0 n1 v = E n0 v := all_of (f := R n0 n1) (g := E n0) (r_p22 n0 n1)
def l_p23 : List Int := [(.ofNat (nat_lit 77)), (.ofNat (nat_lit 78))]
theorem r_p23 (n0 n1 : Int) : [R n0 n1 (.ofNat (nat_lit 77)), R n0 n1 (.ofNat (nat_lit 78))] = [some [(decide (fewI (nat_lit 100) n0 = (.ofNat (nat_lit 77))), true)], some [(decide (fewI (nat_lit 100) n0 = (.ofNat (nat_lit 78))), true)]] := by kernel_rfl
theorem p23 (n0 n1 : Int) : ∀ v ∈ l_p23, R n0 n1 v = E n0 v := all_of (f := R n0 n1) (g := E n0) (r_p23 n0 n1)
def l_p24 : List Int := [(.ofNat (nat_lit 93)), (.ofNat (nat_lit 94))]
theorem r_p24 (n0 n1 : Int) : [R n0 n1 (.ofNat (nat_lit 93)), R n0 n1 (.ofNat (nat_lit 94))] = [some [(decide (fewI (nat_lit 100) n0 = (.ofNat (nat_lit 93))), true)], some [(decide (fewI (nat_lit 100) n0 = (.ofNat (nat_lit 94))), true)]] := by kernel_rfl
theorem p24 (n0 n1 : Int) : ∀ v ∈ l_p24, R n0 n1 v = E n0 v := all_of (f := R n0 n1) (g := E n0) (r_p24 n0 n1)
end
end Go.Proofs.YteeakllokpdjgaaGreat.stepWaits.runs
