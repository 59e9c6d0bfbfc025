/-
  A part of the evaluator of the program's code, or of what it was seen to do; its statements are Lean's own. No condition.
-/
import Derived.Test.YteeakllokpdjgaaGreatXWaits0
namespace Go.Proofs.YteeakllokpdjgaaGreat.stepWaits.runs
open Go.Ev
noncomputable section
def l_p17 : List Int := [(.ofNat (nat_lit 25)), (.ofNat (nat_lit 26)), (.ofNat (nat_lit 27)), (.ofNat (nat_lit 28)), (.ofNat (nat_lit 29))]
theorem r_p17 (n0 n1 : Int) : [R n0 n1 (.ofNat (nat_lit 25)), R n0 n1 (.ofNat (nat_lit 26)), R n0 n1 (.ofNat (nat_lit 27)), R n0 n1 (.ofNat (nat_lit 28)), R n0 n1 (.ofNat (nat_lit 29))] = [some [(decide (fewI (nat_lit 100) n0 = (.ofNat (nat_lit 25))), true)], some [(decide (fewI (nat_lit 100) n0 = (.ofNat (nat_lit 26))), true)], some [(decide (fewI (nat_lit 100) n0 = (.ofNat (nat_lit 27))), true)], some [(decide (fewI (nat_lit 100) n0 = (.ofNat (nat_lit 28))), true)], some [(decide (fewI (nat_lit 100) n0 = (.ofNat (nat_lit 29))), true)]] := by kernel_rfl
theorem p17 (n0 n1 : Int) : ∀ v ∈ l_p17, R n0 n1 v = E n0 v := all_of (f := R n0 n1) (g := E n0) (r_p17 n0 n1)
def l_p18 : List Int := [(.ofNat (nat_lit 54)), (.ofNat (nat_lit 55)), (.ofNat (nat_lit 56))]
theorem r_p18 (n0 n1 : Int) : [R n0 n1 (.ofNat (nat_lit 54)), R n0 n1 (.ofNat (nat_lit 55)), R n0 n1 (.ofNat (nat_lit 56))] = [some [(decide (fewI (nat_lit 100) n0 = (.ofNat (nat_lit 54))), true)], some [(decide (fewI (nat_lit 100) n0 = (.ofNat (nat_lit 55))), true)], some [(decide (fewI (nat_lit 100) n0 = (.ofNat (nat_lit 56))), true)]] := by kernel_rfl
theorem p18 (n0 n1 : Int) : ∀ v ∈ l_p18, R n0 n1 v = E n0 v := all_of (f := R n0 n1) (g := E n0) (r_p18 n0 n1)
def l_p19 : List Int := [(.ofNat (nat_lit 75)), (.ofNat (nat_lit 76))]
theorem r_p19 (n0 n1 : Int) : [R n0 n1 (.ofNat (nat_lit 75)), R n0 n1 (.ofNat (nat_lit 76))] = [some [(decide (fewI (nat_lit 100) n0 = (.ofNat (nat_lit 75))), true)], some [(decide (fewI (nat_lit 100) n0 = (.ofNat (nat_lit 76))), true)]] := by kernel_rfl
theorem p19 (n0 n1 : Int) : ∀ v ∈ l_p19, R n0 n1 v = E n0 v := all_of (f := R n0 n1) (g := E n0) (r_p19 n0 n1)
def l_p20 : List Int := [(.ofNat (nat_lit 91)), (.ofNat (nat_lit 92))]
theorem r_p20 (n0 n1 : Int) : [R n0 n1 (.ofNat (nat_lit 91)), R n0 n1 (.ofNat (nat_lit 92))] = [some [(decide (fewI (nat_lit 100) n0 = (.ofNat (nat_lit 91))), true)], some [(decide (fewI (nat_lit 100) n0 = (.ofNat (nat_lit 92))), true)]] := by kernel_rfl
theorem p20 (n0 n1 : Int) : ∀ v ∈ l_p20, R n0 n1 v = E n0 v := all_of (f := R n0 n1) (g := E n0) (r_p20 n0 n1)
end
end Go.Proofs.YteeakllokpdjgaaGreat.stepWaits.runs
