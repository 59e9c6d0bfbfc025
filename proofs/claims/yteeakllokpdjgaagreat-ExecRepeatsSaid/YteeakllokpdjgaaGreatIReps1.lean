/-
  A part of the evaluator of the program's code, or of what it was seen to do; its statements are Lean's own. No condition.
-/
import Derived.Test.YteeakllokpdjgaaGreatIReps0
namespace Go.Proofs.YteeakllokpdjgaaGreat.execRepeats.runs
open Go.Ev
noncomputable section
def l0 : List (Nat × Bool × Bool) := [((nat_lit 0), true, false), ((nat_lit 1), true, false), ((nat_lit 2), true, false), ((nat_lit 3), true, false), ((nat_lit 4), true, false), ((nat_lit 5), true, false)]
theorem r0 (x s b : Int) : [R x s b ((nat_lit 0), true, false), R x s b ((nat_lit 1), true, false), R x s b ((nat_lit 2), true, false), R x s b ((nat_lit 3), true, false), R x s b ((nat_lit 4), true, false), R x s b ((nat_lit 5), true, false)] = [some (ob x s b (nat_lit 0) true), some (ob x s b (nat_lit 1) true), some (ob x s b (nat_lit 2) true), some (ob x s b (nat_lit 3) true), some (ob x s b (nat_lit 4) true), some (ob x s b (nat_lit 5) true)] := by kernel_rfl
theorem p0 (x s b : Int) : ∀ v ∈ l0, R x s b v = E x s b v := all_of (f := R x s b) (g := E x s b) (r0 x s b)
def l1 : List (Nat × Bool × Bool) := [((nat_lit 36), true, false)]
theorem r1 (x s b : Int) : [R x s b ((nat_lit 36), true, false)] = [some (ob x s b (nat_lit 36) true)] := by kernel_rfl
theorem p1 (x s b : Int) : ∀ v ∈ l1, R x s b v = E x s b v := all_of (f := R x s b) (g := E x s b) (r1 x s b)
def l2 : List (Nat × Bool × Bool) := [((nat_lit 10), true, true), ((nat_lit 11), true, true), ((nat_lit 12), true, true)]
theorem r2 (x s b : Int) : [R x s b ((nat_lit 10), true, true), R x s b ((nat_lit 11), true, true), R x s b ((nat_lit 12), true, true)] = [some (ob x s b (nat_lit 10) true), some (ob x s b (nat_lit 11) true), some (ob x s b (nat_lit 12) true)] := by kernel_rfl
theorem p2 (x s b : Int) : ∀ v ∈ l2, R x s b v = E x s b v := all_of (f := R x s b) (g := E x s b) (r2 x s b)
def l3 : List (Nat × Bool × Bool) := [((nat_lit 38), true, true)]
theorem r3 (x s b : Int) : [R x s b ((nat_lit 38), true, true)] = [some (ob x s b (nat_lit 38) true)] := by kernel_rfl
theorem p3 (x s b : Int) : ∀ v ∈ l3, R x s b v = E x s b v := all_of (f := R x s b) (g := E x s b) (r3 x s b)
def l4 : List (Nat × Bool × Bool) := [((nat_lit 16), false, false), ((nat_lit 17), false, false), ((nat_lit 18), false, false)]
theorem r4 (x s b : Int) : [R x s b ((nat_lit 16), false, false), R x s b ((nat_lit 17), false, false), R x s b ((nat_lit 18), false, false)] = [some (ob x s b (nat_lit 16) false), some (ob x s b (nat_lit 17) false), some (ob x s b (nat_lit 18) false)] := by kernel_rfl
theorem p4 (x s b : Int) : ∀ v ∈ l4, R x s b v = E x s b v := all_of (f := R x s b) (g := E x s b) (r4 x s b)
def l5 : List (Nat × Bool × Bool) := [((nat_lit 40), false, false)]
theorem r5 (x s b : Int) : [R x s b ((nat_lit 40), false, false)] = [some (ob x s b (nat_lit 40) false)] := by kernel_rfl
theorem p5 (x s b : Int) : ∀ v ∈ l5, R x s b v = E x s b v := all_of (f := R x s b) (g := E x s b) (r5 x s b)
def l6 : List (Nat × Bool × Bool) := [((nat_lit 21), false, true), ((nat_lit 22), false, true)]
theorem r6 (x s b : Int) : [R x s b ((nat_lit 21), false, true), R x s b ((nat_lit 22), false, true)] = [some (ob x s b (nat_lit 21) false), some (ob x s b (nat_lit 22) false)] := by kernel_rfl
theorem p6 (x s b : Int) : ∀ v ∈ l6, R x s b v = E x s b v := all_of (f := R x s b) (g := E x s b) (r6 x s b)
def l7 : List (Nat × Bool × Bool) := [((nat_lit 42), false, true)]
theorem r7 (x s b : Int) : [R x s b ((nat_lit 42), false, true)] = [some (ob x s b (nat_lit 42) false)] := by kernel_rfl
theorem p7 (x s b : Int) : ∀ v ∈ l7, R x s b v = E x s b v := all_of (f := R x s b) (g := E x s b) (r7 x s b)
end
end Go.Proofs.YteeakllokpdjgaaGreat.execRepeats.runs
