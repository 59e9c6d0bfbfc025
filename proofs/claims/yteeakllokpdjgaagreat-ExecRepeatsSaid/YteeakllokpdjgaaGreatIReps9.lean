/-
  A part of the evaluator of the program's code, or of what it was seen to do; its statements are Lean's own. No condition.
-/
import Derived.Test.YteeakllokpdjgaaGreatIReps0
namespace Go.Proofs.YteeakllokpdjgaaGreat.execRepeats.runs
open Go.Ev
noncomputable section
def l64 : List (Nat × Bool × Bool) := [((nat_lit 25), true, false), ((nat_lit 26), true, false)]
theorem r64 (x s b : Int) : [R x s b ((nat_lit 25), true, false), R x s b ((nat_lit 26), true, false)] = [some (ob x s b (nat_lit 25) true), some (ob x s b (nat_lit 26) true)] := by kernel_rfl
theorem p64 (x s b : Int) : ∀ v ∈ l64, R x s b v = E x s b v := all_of (f := R x s b) (g := E x s b) (r64 x s b)
def l65 : List (Nat × Bool × Bool) := [((nat_lit 44), true, false)]
theorem r65 (x s b : Int) : [R x s b ((nat_lit 44), true, false)] = [some (ob x s b (nat_lit 44) true)] := by kernel_rfl
theorem p65 (x s b : Int) : ∀ v ∈ l65, R x s b v = E x s b v := all_of (f := R x s b) (g := E x s b) (r65 x s b)
def l66 : List (Nat × Bool × Bool) := [((nat_lit 29), true, true), ((nat_lit 30), true, true)]
theorem r66 (x s b : Int) : [R x s b ((nat_lit 29), true, true), R x s b ((nat_lit 30), true, true)] = [some (ob x s b (nat_lit 29) true), some (ob x s b (nat_lit 30) true)] := by kernel_rfl
theorem p66 (x s b : Int) : ∀ v ∈ l66, R x s b v = E x s b v := all_of (f := R x s b) (g := E x s b) (r66 x s b)
def l67 : List (Nat × Bool × Bool) := [((nat_lit 46), true, true)]
theorem r67 (x s b : Int) : [R x s b ((nat_lit 46), true, true)] = [some (ob x s b (nat_lit 46) true)] := by kernel_rfl
theorem p67 (x s b : Int) : ∀ v ∈ l67, R x s b v = E x s b v := all_of (f := R x s b) (g := E x s b) (r67 x s b)
def l68 : List (Nat × Bool × Bool) := [((nat_lit 32), false, false)]
theorem r68 (x s b : Int) : [R x s b ((nat_lit 32), false, false)] = [some (ob x s b (nat_lit 32) false)] := by kernel_rfl
theorem p68 (x s b : Int) : ∀ v ∈ l68, R x s b v = E x s b v := all_of (f := R x s b) (g := E x s b) (r68 x s b)
def l69 : List (Nat × Bool × Bool) := [((nat_lit 48), false, false)]
theorem r69 (x s b : Int) : [R x s b ((nat_lit 48), false, false)] = [some (ob x s b (nat_lit 48) false)] := by kernel_rfl
theorem p69 (x s b : Int) : ∀ v ∈ l69, R x s b v = E x s b v := all_of (f := R x s b) (g := E x s b) (r69 x s b)
def l70 : List (Nat × Bool × Bool) := [((nat_lit 34), false, true)]
theorem r70 (x s b : Int) : [R x s b ((nat_lit 34), false, true)] = [some (ob x s b (nat_lit 34) false)] := by kernel_rfl
theorem p70 (x s b : Int) : ∀ v ∈ l70, R x s b v = E x s b v := all_of (f := R x s b) (g := E x s b) (r70 x s b)
end
end Go.Proofs.YteeakllokpdjgaaGreat.execRepeats.runs
