/-
  A part of the evaluator of the program's code, or of what it was seen to do; its statements are Lean's own. No condition.
-/
import Derived.Test.YteeakllokpdjgaaGreatIReps0
namespace Go.Proofs.YteeakllokpdjgaaGreat.execRepeats.runs
open Go.Ev
noncomputable section
def l113 : List (Nat × Bool × Bool) := [((nat_lit 35), true, false)]
theorem r113 (x s b : Int) : [R x s b ((nat_lit 35), true, false)] = [some (ob x s b (nat_lit 35) true)] := by kernel_rfl
theorem p113 (x s b : Int) : ∀ v ∈ l113, R x s b v = E x s b v := all_of (f := R x s b) (g := E x s b) (r113 x s b)
def l114 : List (Nat × Bool × Bool) := [((nat_lit 6), true, true), ((nat_lit 7), true, true), ((nat_lit 8), true, true), ((nat_lit 9), true, true)]
theorem r114 (x s b : Int) : [R x s b ((nat_lit 6), true, true), R x s b ((nat_lit 7), true, true), R x s b ((nat_lit 8), true, true), R x s b ((nat_lit 9), true, true)] = [some (ob x s b (nat_lit 6) true), some (ob x s b (nat_lit 7) true), some (ob x s b (nat_lit 8) true), some (ob x s b (nat_lit 9) true)] := by kernel_rfl
theorem p114 (x s b : Int) : ∀ v ∈ l114, R x s b v = E x s b v := all_of (f := R x s b) (g := E x s b) (r114 x s b)
def l115 : List (Nat × Bool × Bool) := [((nat_lit 37), true, true)]
theorem r115 (x s b : Int) : [R x s b ((nat_lit 37), true, true)] = [some (ob x s b (nat_lit 37) true)] := by kernel_rfl
theorem p115 (x s b : Int) : ∀ v ∈ l115, R x s b v = E x s b v := all_of (f := R x s b) (g := E x s b) (r115 x s b)
def l116 : List (Nat × Bool × Bool) := [((nat_lit 13), false, false), ((nat_lit 14), false, false), ((nat_lit 15), false, false)]
theorem r116 (x s b : Int) : [R x s b ((nat_lit 13), false, false), R x s b ((nat_lit 14), false, false), R x s b ((nat_lit 15), false, false)] = [some (ob x s b (nat_lit 13) false), some (ob x s b (nat_lit 14) false), some (ob x s b (nat_lit 15) false)] := by kernel_rfl
theorem p116 (x s b : Int) : ∀ v ∈ l116, R x s b v = E x s b v := all_of (f := R x s b) (g := E x s b) (r116 x s b)
def l117 : List (Nat × Bool × Bool) := [((nat_lit 39), false, false)]
theorem r117 (x s b : Int) : [R x s b ((nat_lit 39), false, false)] = [some (ob x s b (nat_lit 39) false)] := by kernel_rfl
theorem p117 (x s b : Int) : ∀ v ∈ l117, R x s b v = E x s b v := all_of (f := R x s b) (g := E x s b) (r117 x s b)
def l118 : List (Nat × Bool × Bool) := [((nat_lit 19), false, true), ((nat_lit 20), false, true)]
theorem r118 (x s b : Int) : [R x s b ((nat_lit 19), false, true), R x s b ((nat_lit 20), false, true)] = [some (ob x s b (nat_lit 19) false), some (ob x s b (nat_lit 20) false)] := by kernel_rfl
theorem p118 (x s b : Int) : ∀ v ∈ l118, R x s b v = E x s b v := all_of (f := R x s b) (g := E x s b) (r118 x s b)
def l119 : List (Nat × Bool × Bool) := [((nat_lit 41), false, true)]
theorem r119 (x s b : Int) : [R x s b ((nat_lit 41), false, true)] = [some (ob x s b (nat_lit 41) false)] := by kernel_rfl
theorem p119 (x s b : Int) : ∀ v ∈ l119, R x s b v = E x s b v := all_of (f := R x s b) (g := E x s b) (r119 x s b)
end
end Go.Proofs.YteeakllokpdjgaaGreat.execRepeats.runs
