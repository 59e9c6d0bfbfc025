/-
  A part of the evaluator of the program's code, or of what it was seen to do; its statements are Lean's own. No condition.
-/
import Derived.Test.YteeakllokpdjgaaGreatXWaits0
namespace Go.Proofs.YteeakllokpdjgaaGreat.stepWaits.runs
open Go.Ev
noncomputable section
def l_p25 : List Int := [(.ofNat (nat_lit 34)), (.ofNat (nat_lit 35)), (.ofNat (nat_lit 36)), (.ofNat (nat_lit 37))]
theorem r_p25 (n0 n1 : Int) : [R n0 n1 (.ofNat (nat_lit 34)), R n0 n1 (.ofNat (nat_lit 35)), R n0 n1 (.ofNat (nat_lit 36)), R n0 n1 (.ofNat (nat_lit 37))] = [some [(decide (fewI (nat_lit 100) n0 = (.ofNat (nat_lit 34))), true)], some [(decide (fewI (nat_lit 100) n0 = (.ofNat (nat_lit 35))), true)], some [(decide (fewI (nat_lit 100) n0 = (.ofNat (nat_lit 36))), true)], some [(decide (fewI (nat_lit 100) n0 = (.ofNat (nat_lit 37))), true)]] := by kernel_rfl
theorem p25 (n0 n1 : Int) : ∀ v ∈ l_p25, R n0 n1 v = E n0 v := all_of (f := R n0 n1) (g := E n0) (r_p25 n0 n1)
def l_p26 : List Int := [(.ofNat (nat_lit 60)), (.ofNat (nat_lit 61)), (.ofNat (nat_lit 62))]
theorem r_p26 (n0 n1 : Int) : [R n0 n1 (.ofNat (nat_lit 60)), R n0 n1 (.ofNat (nat_lit 61)), R n0 n1 (.ofNat (nat_lit 62))] = [some [(decide (fewI (nat_lit 100) n0 = (.ofNat (nat_lit 60))), true)], some [(decide (fewI (nat_lit 100) n0 = (.ofNat (nat_lit 61))), true)], some [(decide (fewI (nat_lit 100) n0 = (.ofNat (nat_lit 62))), true)]] := by kernel_rfl
theorem p26 (n0 n1 : Int) : ∀ v ∈ l_p26, R n0 n1 v = E n0 v := all_of (f := R n0 n1) (g := E n0) (r_p26 n0 n1)
def l_p27 : List Int := [(.ofNat (nat_lit 79)), (.ofNat (nat_lit 80))]
theorem r_p27 (n0 n1 : Int) : [R n0 n1 (.ofNat (nat_lit 79)), R n0 n1 (.ofNat (nat_lit 80))] = [some [(decide (fewI (nat_lit 100) n0 = (.ofNat (nat_lit 79))), true)], some [(decide (fewI (nat_lit 100) n0 = (.ofNat (nat_lit 80))), true)]] := by kernel_rfl
theorem p27 (n0 n1 : Int) : ∀ v ∈ l_p27, R n0 n1 v = E n0 v := all_of (f := R n0 n1) (g := E n0) (r_p27 n0 n1)
def l_p28 : List Int := [(.ofNat (nat_lit 95)), (.ofNat (nat_lit 96))]
theorem r_p28 (n0 n1 : Int) : [R n0 n1 (.ofNat (nat_lit 95)), R n0 n1 (.ofNat (nat_lit 96))] = [some [(decide (fewI (nat_lit 100) n0 = (.ofNat (nat_lit 95))), true)], some [(decide (fewI (nat_lit 100) n0 = (.ofNat (nat_lit 96))), true)]] := by kernel_rfl
theorem p28 (n0 n1 : Int) : ∀ v ∈ l_p28, R n0 n1 v = E n0 v := all_of (f := R n0 n1) (g := E n0) (r_p28 n0 n1)
end
end Go.Proofs.YteeakllokpdjgaaGreat.stepWaits.runs
