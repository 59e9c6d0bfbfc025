/-
  A part of the evaluator of the program's code, or of what it was seen to do; its statements are Lean's own. No condition.
-/
import Derived.Test.YteeakllokpdjgaaGreatIReps0
namespace Go.Proofs.YteeakllokpdjgaaGreat.execRepeats.runs
open Go.Ev
noncomputable section
def l40 : List (Nat × Bool × Bool) := [((nat_lit 19), true, false), ((nat_lit 20), true, false)]
theorem r40 (x s b : Int) : [R x s b ((nat_lit 19), true, false), R x s b ((nat_lit 20), true, false)] = [some (ob x s b (nat_lit 19) true), some (ob x s b (nat_lit 20) true)] := by kernel_rfl
theorem p40 (x s b : Int) : ∀ v ∈ l40, R x s b v = E x s b v := all_of (f := R x s b) (g := E x s b) (r40 x s b)
def l41 : List (Nat × Bool × Bool) := [((nat_lit 41), true, false)]
theorem r41 (x s b : Int) : [R x s b ((nat_lit 41), true, false)] = [some (ob x s b (nat_lit 41) true)] := by kernel_rfl
theorem p41 (x s b : Int) : ∀ v ∈ l41, R x s b v = E x s b v := all_of (f := R x s b) (g := E x s b) (r41 x s b)
def l42 : List (Nat × Bool × Bool) := [((nat_lit 23), true, true), ((nat_lit 24), true, true)]
theorem r42 (x s b : Int) : [R x s b ((nat_lit 23), true, true), R x s b ((nat_lit 24), true, true)] = [some (ob x s b (nat_lit 23) true), some (ob x s b (nat_lit 24) true)] := by kernel_rfl
theorem p42 (x s b : Int) : ∀ v ∈ l42, R x s b v = E x s b v := all_of (f := R x s b) (g := E x s b) (r42 x s b)
def l43 : List (Nat × Bool × Bool) := [((nat_lit 43), true, true)]
theorem r43 (x s b : Int) : [R x s b ((nat_lit 43), true, true)] = [some (ob x s b (nat_lit 43) true)] := by kernel_rfl
theorem p43 (x s b : Int) : ∀ v ∈ l43, R x s b v = E x s b v := all_of (f := R x s b) (g := E x s b) (r43 x s b)
def l44 : List (Nat × Bool × Bool) := [((nat_lit 27), false, false), ((nat_lit 28), false, false)]
theorem r44 (x s b : Int) : [R x s b ((nat_lit 27), false, false), R x s b ((nat_lit 28), false, false)] = [some (ob x s b (nat_lit 27) false), some (ob x s b (nat_lit 28) false)] := by kernel_rfl
theorem p44 (x s b : Int) : ∀ v ∈ l44, R x s b v = E x s b v := all_of (f := R x s b) (g := E x s b) (r44 x s b)
def l45 : List (Nat × Bool × Bool) := [((nat_lit 45), false, false)]
theorem r45 (x s b : Int) : [R x s b ((nat_lit 45), false, false)] = [some (ob x s b (nat_lit 45) false)] := by kernel_rfl
theorem p45 (x s b : Int) : ∀ v ∈ l45, R x s b v = E x s b v := all_of (f := R x s b) (g := E x s b) (r45 x s b)
def l46 : List (Nat × Bool × Bool) := [((nat_lit 31), false, true)]
theorem r46 (x s b : Int) : [R x s b ((nat_lit 31), false, true)] = [some (ob x s b (nat_lit 31) false)] := by kernel_rfl
theorem p46 (x s b : Int) : ∀ v ∈ l46, R x s b v = E x s b v := all_of (f := R x s b) (g := E x s b) (r46 x s b)
def l47 : List (Nat × Bool × Bool) := [((nat_lit 47), false, true)]
theorem r47 (x s b : Int) : [R x s b ((nat_lit 47), false, true)] = [some (ob x s b (nat_lit 47) false)] := by kernel_rfl
theorem p47 (x s b : Int) : ∀ v ∈ l47, R x s b v = E x s b v := all_of (f := R x s b) (g := E x s b) (r47 x s b)
end
end Go.Proofs.YteeakllokpdjgaaGreat.execRepeats.runs
