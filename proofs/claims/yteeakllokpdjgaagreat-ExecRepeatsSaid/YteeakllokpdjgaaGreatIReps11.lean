/-
  A part of the evaluator of the program's code, or of what it was seen to do; its statements are Lean's own. No condition.
-/
import Derived.Test.YteeakllokpdjgaaGreatIReps0
namespace Go.Proofs.YteeakllokpdjgaaGreat.execRepeats.runs
open Go.Ev
noncomputable section
def l78 : List (Nat × Bool × Bool) := [((nat_lit 29), true, false), ((nat_lit 30), true, false)]
theorem r78 (x s b : Int) : [R x s b ((nat_lit 29), true, false), R x s b ((nat_lit 30), true, false)] = [some (ob x s b (nat_lit 29) true), some (ob x s b (nat_lit 30) true)] := by kernel_rfl
theorem p78 (x s b : Int) : ∀ v ∈ l78, R x s b v = E x s b v := all_of (f := R x s b) (g := E x s b) (r78 x s b)
def l79 : List (Nat × Bool × Bool) := [((nat_lit 46), true, false)]
theorem r79 (x s b : Int) : [R x s b ((nat_lit 46), true, false)] = [some (ob x s b (nat_lit 46) true)] := by kernel_rfl
theorem p79 (x s b : Int) : ∀ v ∈ l79, R x s b v = E x s b v := all_of (f := R x s b) (g := E x s b) (r79 x s b)
def l80 : List (Nat × Bool × Bool) := [((nat_lit 32), true, true)]
theorem r80 (x s b : Int) : [R x s b ((nat_lit 32), true, true)] = [some (ob x s b (nat_lit 32) true)] := by kernel_rfl
theorem p80 (x s b : Int) : ∀ v ∈ l80, R x s b v = E x s b v := all_of (f := R x s b) (g := E x s b) (r80 x s b)
def l81 : List (Nat × Bool × Bool) := [((nat_lit 48), true, true)]
theorem r81 (x s b : Int) : [R x s b ((nat_lit 48), true, true)] = [some (ob x s b (nat_lit 48) true)] := by kernel_rfl
theorem p81 (x s b : Int) : ∀ v ∈ l81, R x s b v = E x s b v := all_of (f := R x s b) (g := E x s b) (r81 x s b)
def l82 : List (Nat × Bool × Bool) := [((nat_lit 34), false, false)]
theorem r82 (x s b : Int) : [R x s b ((nat_lit 34), false, false)] = [some (ob x s b (nat_lit 34) false)] := by kernel_rfl
theorem p82 (x s b : Int) : ∀ v ∈ l82, R x s b v = E x s b v := all_of (f := R x s b) (g := E x s b) (r82 x s b)
def l83 : List (Nat × Bool × Bool) := [((nat_lit 0), false, true), ((nat_lit 1), false, true), ((nat_lit 2), false, true), ((nat_lit 3), false, true), ((nat_lit 4), false, true), ((nat_lit 5), false, true)]
theorem r83 (x s b : Int) : [R x s b ((nat_lit 0), false, true), R x s b ((nat_lit 1), false, true), R x s b ((nat_lit 2), false, true), R x s b ((nat_lit 3), false, true), R x s b ((nat_lit 4), false, true), R x s b ((nat_lit 5), false, true)] = [some (ob x s b (nat_lit 0) false), some (ob x s b (nat_lit 1) false), some (ob x s b (nat_lit 2) false), some (ob x s b (nat_lit 3) false), some (ob x s b (nat_lit 4) false), some (ob x s b (nat_lit 5) false)] := by kernel_rfl
theorem p83 (x s b : Int) : ∀ v ∈ l83, R x s b v = E x s b v := all_of (f := R x s b) (g := E x s b) (r83 x s b)
def l84 : List (Nat × Bool × Bool) := [((nat_lit 36), false, true)]
theorem r84 (x s b : Int) : [R x s b ((nat_lit 36), false, true)] = [some (ob x s b (nat_lit 36) false)] := by kernel_rfl
theorem p84 (x s b : Int) : ∀ v ∈ l84, R x s b v = E x s b v := all_of (f := R x s b) (g := E x s b) (r84 x s b)
end
end Go.Proofs.YteeakllokpdjgaaGreat.execRepeats.runs
