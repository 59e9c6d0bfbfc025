/-
  A part of the evaluator of the program's code, or of what it was seen to do; its statements are Lean's own. No condition.
-/
import Derived.Test.YteeakllokpdjgaaGreatXWaits0
namespace Go.Proofs.YteeakllokpdjgaaGreat.stepWaits.runs
open Go.Ev
noncomputable section
def l_p0 : List Int := [(.ofNat (nat_lit 0)), (.ofNat (nat_lit 1)), (.ofNat (nat_lit 2)), (.ofNat (nat_lit 3)), (.ofNat (nat_lit 4)), (.ofNat (nat_lit 5)), (.ofNat (nat_lit 6)), (.ofNat (nat_lit 7))]
theorem r_p0 (n0 n1 : Int) : [R n0 n1 (.ofNat (nat_lit 0)), R n0 n1 (.ofNat (nat_lit 1)), R n0 n1 (.ofNat (nat_lit 2)), R n0 n1 (.ofNat (nat_lit 3)), R n0 n1 (.ofNat (nat_lit 4)), R n0 n1 (.ofNat (nat_lit 5)), R n0 n1 (.ofNat (nat_lit 6)), R n0 n1 (.ofNat (nat_lit 7))] = [some [(decide (fewI (nat_lit 100) n0 = (.ofNat (nat_lit 0))), true)], some [(decide (fewI (nat_lit 100) n0 = (.ofNat (nat_lit 1))), true)], some [(decide (fewI (nat_lit 100) n0 = (.ofNat (nat_lit 2))), true)], some [(decide (fewI (nat_lit 100) n0 = (.ofNat (nat_lit 3))), true)], some [(decide (fewI (nat_lit 100) n0 = (.ofNat (nat_lit 4))), true)], some [(decide (fewI (nat_lit 100) n0 = (.ofNat (nat_lit 5))), true)], some [(decide (fewI (nat_lit 100) n0 = (.ofNat (nat_lit 6))), true)], some [(decide (fewI (nat_lit 100) n0 = (.ofNat (nat_lit 7))), true)]] := by kernel_rfl
theorem p0 (n0 n1 : Int) : ∀ v ∈ l_p0, R n0 n1 v = E n0 v := all_of (f := R n0 n1) (g := E n0) (r_p0 n0 n1)
def l_p1 : List Int := [(.ofNat (nat_lit 42)), (.ofNat (nat_lit 43)), (.ofNat (nat_lit 44))]
theorem r_p1 (n0 n1 : Int) : [R n0 n1 (.ofNat (nat_lit 42)), R n0 n1 (.ofNat (nat_lit 43)), R n0 n1 (.ofNat (nat_lit 44))] = [some [(decide (fewI (nat_lit 100) n0 = (.ofNat (nat_lit 42))), true)], some [(decide (fewI (nat_lit 100) n0 = (.ofNat (nat_lit 43))), true)], some [(decide (fewI (nat_lit 100) n0 = (.ofNat (nat_lit 44))), true)]] := by kernel_rfl
theorem p1 (n0 n1 : Int) : ∀ v ∈ l_p1, R n0 n1 v = E n0 v := all_of (f := R n0 n1) (g := E n0) (r_p1 n0 n1)
def l_p2 : List Int := [(.ofNat (nat_lit 66)), (.ofNat (nat_lit 67)), (.ofNat (nat_lit 68))]
theorem r_p2 (n0 n1 : Int) : [R n0 n1 (.ofNat (nat_lit 66)), R n0 n1 (.ofNat (nat_lit 67)), R n0 n1 (.ofNat (nat_lit 68))] = [some [(decide (fewI (nat_lit 100) n0 = (.ofNat (nat_lit 66))), true)], some [(decide (fewI (nat_lit 100) n0 = (.ofNat (nat_lit 67))), true)], some [(decide (fewI (nat_lit 100) n0 = (.ofNat (nat_lit 68))), true)]] := by kernel_rfl
theorem p2 (n0 n1 : Int) : ∀ v ∈ l_p2, R n0 n1 v = E n0 v := all_of (f := R n0 n1) (g := E n0) (r_p2 n0 n1)
def l_p3 : List Int := [(.ofNat (nat_lit 83)), (.ofNat (nat_lit 84))]
theorem r_p3 (n0 n1 : Int) : [R n0 n1 (.ofNat (nat_lit 83)), R n0 n1 (.ofNat (nat_lit 84))] = [some [(decide (fewI (nat_lit 100) n0 = (.ofNat (nat_lit 83))), true)], some [(decide (fewI (nat_lit 100) n0 = (.ofNat (nat_lit 84))), true)]] := by kernel_rfl
theorem p3 (n0 n1 : Int) : ∀ v ∈ l_p3, R n0 n1 v = E n0 v := all_of (f := R n0 n1) (g := E n0) (r_p3 n0 n1)
def l_p4 : List Int := [(.ofNat (nat_lit 99)), (.ofNat (nat_lit 100))]
theorem r_p4 (n0 n1 : Int) : [R n0 n1 (.ofNat (nat_lit 99)), R n0 n1 (.ofNat (nat_lit 100))] = [some [(decide (fewI (nat_lit 100) n0 = (.ofNat (nat_lit 99))), true)], some [(decide (fewI (nat_lit 100) n0 = (.ofNat (nat_lit 100))), true)]] := by kernel_rfl
theorem p4 (n0 n1 : Int) : ∀ v ∈ l_p4, R n0 n1 v = E n0 v := all_of (f := R n0 n1) (g := E n0) (r_p4 n0 n1)
end
end Go.Proofs.YteeakllokpdjgaaGreat.stepWaits.runs
