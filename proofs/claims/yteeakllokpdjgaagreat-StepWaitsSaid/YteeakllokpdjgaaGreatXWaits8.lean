/-
  A part of the evaluator of the program's code, or of what it was seen to do; its statements are Lean's own. No condition.
-/
import Derived.Test.YteeakllokpdjgaaGreatXWaits0
namespace Go.Proofs.YteeakllokpdjgaaGreat.stepWaits.runs
open Go.Ev
noncomputable section
def l_p29 : List Int := [(.ofNat (nat_lit 38)), (.ofNat (nat_lit 39)), (.ofNat (nat_lit 40)), (.ofNat (nat_lit 41))]
theorem r_p29 (n0 n1 : Int) : [R n0 n1 (.ofNat (nat_lit 38)), R n0 n1 (.ofNat (nat_lit 39)), R n0 n1 (.ofNat (nat_lit 40)), R n0 n1 (.ofNat (nat_lit 41))] = [some [(decide (fewI (nat_lit 100) n0 = (.ofNat (nat_lit 38))), true)], some [(decide (fewI (nat_lit 100) n0 = (.ofNat (nat_lit 39))), true)], some [(decide (fewI (nat_lit 100) n0 = (.ofNat (nat_lit 40))), true)], some [(decide (fewI (nat_lit 100) n0 = (.ofNat (nat_lit 41))), true)]] := by kernel_rfl
theorem p29 (n0 n1 : Int) : ∀ v ∈ l_p29, R n0 n1 v = E n0 v := all_of (f := R n0 n1) (g := E n0) (r_p29 n0 n1)
def l_p30 : List Int := [(.ofNat (nat_lit 63)), (.ofNat (nat_lit 64)), (.ofNat (nat_lit 65))]
theorem r_p30 (n0 n1 : Int) : [R n0 n1 (.ofNat (nat_lit 63)), R n0 n1 (.ofNat (nat_lit 64)), R n0 n1 (.ofNat (nat_lit 65))] = [some [(decide (fewI (nat_lit 100) n0 = (.ofNat (nat_lit 63))), true)], some [(decide (fewI (nat_lit 100) n0 = (.ofNat (nat_lit 64))), true)], some [(decide (fewI (nat_lit 100) n0 = (.ofNat (nat_lit 65))), true)]] := by kernel_rfl
theorem p30 (n0 n1 : Int) : ∀ v ∈ l_p30, R n0 n1 v = E n0 v := all_of (f := R n0 n1) (g := E n0) (r_p30 n0 n1)
def l_p31 : List Int := [(.ofNat (nat_lit 81)), (.ofNat (nat_lit 82))]
theorem r_p31 (n0 n1 : Int) : [R n0 n1 (.ofNat (nat_lit 81)), R n0 n1 (.ofNat (nat_lit 82))] = [some [(decide (fewI (nat_lit 100) n0 = (.ofNat (nat_lit 81))), true)], some [(decide (fewI (nat_lit 100) n0 = (.ofNat (nat_lit 82))), true)]] := by kernel_rfl
theorem p31 (n0 n1 : Int) : ∀ v ∈ l_p31, R n0 n1 v = E n0 v := all_of (f := R n0 n1) (g := E n0) (r_p31 n0 n1)
def l_p32 : List Int := [(.ofNat (nat_lit 97)), (.ofNat (nat_lit 98))]
theorem r_p32 (n0 n1 : Int) : [R n0 n1 (.ofNat (nat_lit 97)), R n0 n1 (.ofNat (nat_lit 98))] = [some [(decide (fewI (nat_lit 100) n0 = (.ofNat (nat_lit 97))), true)], some [(decide (fewI (nat_lit 100) n0 = (.ofNat (nat_lit 98))), true)]] := by kernel_rfl
theorem p32 (n0 n1 : Int) : ∀ v ∈ l_p32, R n0 n1 v = E n0 v := all_of (f := R n0 n1) (g := E n0) (r_p32 n0 n1)
end
end Go.Proofs.YteeakllokpdjgaaGreat.stepWaits.runs
