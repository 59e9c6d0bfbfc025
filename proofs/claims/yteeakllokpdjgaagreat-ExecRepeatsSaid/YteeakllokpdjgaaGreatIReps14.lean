/-
  A part of the evaluator of the program's code, or of what it was seen to do; its statements are Lean's own. No condition.
-/
import Derived.Test.YteeakllokpdjgaaGreatIReps0
namespace Go.Proofs.YteeakllokpdjgaaGreat.execRepeats.runs
open Go.Ev
noncomputable section
def l99 : List (Nat × Bool × Bool) := [((nat_lit 33), true, false)]
theorem r99 (x s b : Int) : [R x s b ((nat_lit 33), true, false)] = [some (ob x s b (nat_lit 33) true)] := by kernel_rfl
theorem p99 (x s b : Int) : ∀ v ∈ l99, R x s b v = E x s b v := all_of (f := R x s b) (g := E x s b) (r99 x s b)
def l100 : List (Nat × Bool × Bool) := [((nat_lit 49), true, false)]
theorem r100 (x s b : Int) : [R x s b ((nat_lit 49), true, false)] = [some (ob x s b (nat_lit 49) true)] := by kernel_rfl
theorem p100 (x s b : Int) : ∀ v ∈ l100, R x s b v = E x s b v := all_of (f := R x s b) (g := E x s b) (r100 x s b)
def l101 : List (Nat × Bool × Bool) := [((nat_lit 35), true, true)]
theorem r101 (x s b : Int) : [R x s b ((nat_lit 35), true, true)] = [some (ob x s b (nat_lit 35) true)] := by kernel_rfl
theorem p101 (x s b : Int) : ∀ v ∈ l101, R x s b v = E x s b v := all_of (f := R x s b) (g := E x s b) (r101 x s b)
def l102 : List (Nat × Bool × Bool) := [((nat_lit 6), false, false), ((nat_lit 7), false, false), ((nat_lit 8), false, false), ((nat_lit 9), false, false)]
theorem r102 (x s b : Int) : [R x s b ((nat_lit 6), false, false), R x s b ((nat_lit 7), false, false), R x s b ((nat_lit 8), false, false), R x s b ((nat_lit 9), false, false)] = [some (ob x s b (nat_lit 6) false), some (ob x s b (nat_lit 7) false), some (ob x s b (nat_lit 8) false), some (ob x s b (nat_lit 9) false)] := by kernel_rfl
theorem p102 (x s b : Int) : ∀ v ∈ l102, R x s b v = E x s b v := all_of (f := R x s b) (g := E x s b) (r102 x s b)
def l103 : List (Nat × Bool × Bool) := [((nat_lit 37), false, false)]
theorem r103 (x s b : Int) : [R x s b ((nat_lit 37), false, false)] = [some (ob x s b (nat_lit 37) false)] := by kernel_rfl
theorem p103 (x s b : Int) : ∀ v ∈ l103, R x s b v = E x s b v := all_of (f := R x s b) (g := E x s b) (r103 x s b)
def l104 : List (Nat × Bool × Bool) := [((nat_lit 13), false, true), ((nat_lit 14), false, true), ((nat_lit 15), false, true)]
theorem r104 (x s b : Int) : [R x s b ((nat_lit 13), false, true), R x s b ((nat_lit 14), false, true), R x s b ((nat_lit 15), false, true)] = [some (ob x s b (nat_lit 13) false), some (ob x s b (nat_lit 14) false), some (ob x s b (nat_lit 15) false)] := by kernel_rfl
theorem p104 (x s b : Int) : ∀ v ∈ l104, R x s b v = E x s b v := all_of (f := R x s b) (g := E x s b) (r104 x s b)
def l105 : List (Nat × Bool × Bool) := [((nat_lit 39), false, true)]
theorem r105 (x s b : Int) : [R x s b ((nat_lit 39), false, true)] = [some (ob x s b (nat_lit 39) false)] := by kernel_rfl
theorem p105 (x s b : Int) : ∀ v ∈ l105, R x s b v = E x s b v := all_of (f := R x s b) (g := E x s b) (r105 x s b)
end
end Go.Proofs.YteeakllokpdjgaaGreat.execRepeats.runs
