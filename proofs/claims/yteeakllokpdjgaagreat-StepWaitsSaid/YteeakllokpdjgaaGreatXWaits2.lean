/-
  A part of the evaluator of the program's code, or of what it was seen to do; its statements are Lean's own. No condition.
-/
import Derived.Test.YteeakllokpdjgaaGreatXWaits0
namespace Go.Proofs.YteeakllokpdjgaaGreat.stepWaits.runs
open Go.Ev
noncomputable section
def l_p5 : List Int := [(.ofNat (nat_lit 8)), (.ofNat (nat_lit 9)), (.ofNat (nat_lit 10)), (.ofNat (nat_lit 11)), (.ofNat (nat_lit 12)), (.ofNat (nat_lit 13))]
theorem r_p5 (n0 n1 : Int) : [R n0 n1 (.ofNat (nat_lit 8)), R n0 n1 (.ofNat (nat_lit 9)), R n0 n1 (.ofNat (nat_lit 10)), R n0 n1 (.ofNat (nat_lit 11)), R n0 n1 (.ofNat (nat_lit 12)), R n0 n1 (.ofNat (nat_lit 13))] = [some [(decide (fewI (nat_lit 100) n0 = (.ofNat (nat_lit 8))), true)], some [(decide (fewI (nat_lit 100) n0 = (.ofNat (nat_lit 9))), true)], some [(decide (fewI (nat_lit 100) n0 = (.ofNat (nat_lit 10))), true)], some [(decide (fewI (nat_lit 100) n0 = (.ofNat (nat_lit 11))), true)], some [(decide (fewI (nat_lit 100) n0 = (.ofNat (nat_lit 12))), true)], some [(decide (fewI (nat_lit 100) n0 = (.ofNat (nat_lit 13))), true)]] := by kernel_rfl
theorem p5 (n0 n1 : Int) : ∀ v ∈ l_p5, R n0 n1 v = E n0 v := all_of (f := R n0 n1) (g := E n0) (r_p5 n0 n1)
def l_p6 : List Int := [(.ofNat (nat_lit 45)), (.ofNat (nat_lit 46)), (.ofNat (nat_lit 47))]
theorem r_p6 (n0 n1 : Int) : [R n0 n1 (.ofNat (nat_lit 45)), R n0 n1 (.ofNat (nat_lit 46)), R n0 n1 (.ofNat (nat_lit 47))] = [some [(decide (fewI (nat_lit 100) n0 = (.ofNat (nat_lit 45))), true)], some [(decide (fewI (nat_lit 100) n0 = (.ofNat (nat_lit 46))), true)], some [(decide (fewI (nat_lit 100) n0 = (.ofNat (nat_lit 47))), true)]] := by kernel_rfl
theorem p6 (n0 n1 : Int) : ∀ v ∈ l_p6, R n0 n1 v = E n0 v := all_of (f := R n0 n1) (g := E n0) (r_p6 n0 n1)
def l_p7 : List Int := [(.ofNat (nat_lit 69)), (.ofNat (nat_lit 70))]
theorem r_p7 (n0 n1 : Int) : [R n0 n1 (.ofNat (nat_lit 69)), R n0 n1 (.ofNat (nat_lit 70))] = [some [(decide (fewI (nat_lit 100) n0 = (.ofNat (nat_lit 69))), true)], some [(decide (fewI (nat_lit 100) n0 = (.ofNat (nat_lit 70))), true)]] := by kernel_rfl
theorem p7 (n0 n1 : Int) : ∀ v ∈ l_p7, R n0 n1 v = E n0 v := all_of (f := R n0 n1) (g := E n0) (r_p7 n0 n1)
def l_p8 : List Int := [(.ofNat (nat_lit 85)), (.ofNat (nat_lit 86))]
theorem r_p8 (n0 n1 : Int) : [R n0 n1 (.ofNat (nat_lit 85)), R n0 n1 (.ofNat (nat_lit 86))] = [some [(decide (fewI (nat_lit 100) n0 = (.ofNat (nat_lit 85))), true)], some [(decide (fewI (nat_lit 100) n0 = (.ofNat (nat_lit 86))), true)]] := by kernel_rfl
theorem p8 (n0 n1 : Int) : ∀ v ∈ l_p8, R n0 n1 v = E n0 v := all_of (f := R n0 n1) (g := E n0) (r_p8 n0 n1)
end
end Go.Proofs.YteeakllokpdjgaaGreat.stepWaits.runs
