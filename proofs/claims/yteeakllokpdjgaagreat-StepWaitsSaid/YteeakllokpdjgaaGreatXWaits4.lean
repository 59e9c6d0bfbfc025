/-
  A part of the evaluator of the program's code, or of what it was seen to do; its statements are Lean's own. No condition.
-/
import Derived.Test.YteeakllokpdjgaaGreatXWaits0
namespace Go.Proofs.YteeakllokpdjgaaGreat.stepWaits.runs
open Go.Ev
noncomputable section
def l_p13 : List Int := [(.ofNat (nat_lit 20)), (.ofNat (nat_lit 21)), (.ofNat (nat_lit 22)), (.ofNat (nat_lit 23)), (.ofNat (nat_lit 24))]
theorem r_p13 (n0 n1 : Int) : [R n0 n1 (.ofNat (nat_lit 20)), R n0 n1 (.ofNat (nat_lit 21)), R n0 n1 (.ofNat (nat_lit 22)), R n0 n1 (.ofNat (nat_lit 23)), R n0 n1 (.ofNat (nat_lit 24))] = [some [(decide (fewI (nat_lit 100) n0 = (.ofNat (nat_lit 20))), true)], some [(decide (fewI (nat_lit 100) n0 = (.ofNat (nat_lit 21))), true)], some [(decide (fewI (nat_lit 100) n0 = (.ofNat (nat_lit 22))), true)], some [(decide (fewI (nat_lit 100) n0 = (.ofNat (nat_lit 23))), true)], some [(decide (fewI (nat_lit 100) n0 = (.ofNat (nat_lit 24))), true)]] := by kernel_rfl
theorem p13 (n0 n1 : Int) : ∀ v ∈ l_p13, R n0 n1 v = E n0 v := all_of (f := R n0 n1) (g := E n0) (r_p13 n0 n1)
def l_p14 : List Int := [(.ofNat (nat_lit 51)), (.ofNat (nat_lit 52)), (.ofNat (nat_lit 53))]
theorem r_p14 (n0 n1 : Int) : [R n0 n1 (.ofNat (nat_lit 51)), R n0 n1 (.ofNat (nat_lit 52)), R n0 n1 (.ofNat (nat_lit 53))] = [some [(decide (fewI (nat_lit 100) n0 = (.ofNat (nat_lit 51))), true)], some [(decide (fewI (nat_lit 100) n0 = (.ofNat (nat_lit 52))), true)], some [(decide (fewI (nat_lit 100) n0 = (.ofNat (nat_lit 53))), true)]] := by kernel_rfl
theorem p14 (n0 n1 : Int) : ∀ v ∈ l_p14, R n0 n1 v = E n0 v := all_of (f := R n0 n1) (g := E n0) (r_p14 n0 n1)
def l_p15 : List Int := [(.ofNat (nat_lit 73)), (.ofNat (nat_lit 74))]
theorem r_p15 (n0 n1 : Int) : [R n0 n1 (.ofNat (nat_lit 73)), R n0 n1 (.ofNat (nat_lit 74))] = [some [(decide (fewI (nat_lit 100) n0 = (.ofNat (nat_lit 73))), true)], some [(decide (fewI (nat_lit 100) n0 = (.ofNat (nat_lit 74))), true)]] := by kernel_rfl
theorem p15 (n0 n1 : Int) : ∀ v ∈ l_p15, R n0 n1 v = E n0 v := all_of (f := R n0 n1) (g := E n0) (r_p15 n0 n1)
def l_p16 : List Int := [(.ofNat (nat_lit 89)), (.ofNat (nat_lit 90))]
theorem r_p16 (n0 n1 : Int) : [R n0 n1 (.ofNat (nat_lit 89)), R n0 n1 (.ofNat (nat_lit 90))] = [some [(decide (fewI (nat_lit 100) n0 = (.ofNat (nat_lit 89))), true)], some [(decide (fewI (nat_lit 100) n0 = (.ofNat (nat_lit 90))), true)]] := by kernel_rfl
theorem p16 (n0 n1 : Int) : ∀ v ∈ l_p16, R n0 n1 v = E n0 v := all_of (f := R n0 n1) (g := E n0) (r_p16 n0 n1)
end
end Go.Proofs.YteeakllokpdjgaaGreat.stepWaits.runs
