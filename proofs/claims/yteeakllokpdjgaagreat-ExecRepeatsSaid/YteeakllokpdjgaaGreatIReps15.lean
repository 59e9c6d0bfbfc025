/-
  A part of the evaluator of the program's code, or of what it was seen to do; its statements are Lean's own. No condition.
-/
import Derived.Test.YteeakllokpdjgaaGreatIReps0
namespace Go.Proofs.YteeakllokpdjgaaGreat.execRepeats.runs
open Go.Ev
noncomputable section
def l106 : List (Nat × Bool × Bool) := [((nat_lit 34), true, false)]
theorem r106 (x s b : Int) : [R x s b ((nat_lit 34), true, false)] = [some (ob x s b (nat_lit 34) true)] := by kernel_rfl
theorem p106 (x s b : Int) : ∀ v ∈ l106, R x s b v = E x s b v := all_of (f := R x s b) (g := E x s b) (r106 x s b)
def l107 : List (Nat × Bool × Bool) := [((nat_lit 0), true, true), ((nat_lit 1), true, true), ((nat_lit 2), true, true), ((nat_lit 3), true, true), ((nat_lit 4), true, true), ((nat_lit 5), true, true)]
theorem r107 (x s b : Int) : [R x s b ((nat_lit 0), true, true), R x s b ((nat_lit 1), true, true), R x s b ((nat_lit 2), true, true), R x s b ((nat_lit 3), true, true), R x s b ((nat_lit 4), true, true), R x s b ((nat_lit 5), true, true)] = [some (ob x s b (nat_lit 0) true), some (ob x s b (nat_lit 1) true), some (ob x s b (nat_lit 2) true), some (ob x s b (nat_lit 3) true), some (ob x s b (nat_lit 4) true), some (ob x s b (nat_lit 5) true)] := by kernel_rfl
theorem p107 (x s b : Int) : ∀ v ∈ l107, R x s b v = E x s b v := all_of (f := R x s b) (g := E x s b) (r107 x s b)
def l108 : List (Nat × Bool × Bool) := [((nat_lit 36), true, true)]
theorem r108 (x s b : Int) : [R x s b ((nat_lit 36), true, true)] = [some (ob x s b (nat_lit 36) true)] := by kernel_rfl
theorem p108 (x s b : Int) : ∀ v ∈ l108, R x s b v = E x s b v := all_of (f := R x s b) (g := E x s b) (r108 x s b)
def l109 : List (Nat × Bool × Bool) := [((nat_lit 10), false, false), ((nat_lit 11), false, false), ((nat_lit 12), false, false)]
theorem r109 (x s b : Int) : [R x s b ((nat_lit 10), false, false), R x s b ((nat_lit 11), false, false), R x s b ((nat_lit 12), false, false)] = [some (ob x s b (nat_lit 10) false), some (ob x s b (nat_lit 11) false), some (ob x s b (nat_lit 12) false)] := by kernel_rfl
theorem p109 (x s b : Int) : ∀ v ∈ l109, R x s b v = E x s b v := all_of (f := R x s b) (g := E x s b) (r109 x s b)
def l110 : List (Nat × Bool × Bool) := [((nat_lit 38), false, false)]
theorem r110 (x s b : Int) : [R x s b ((nat_lit 38), false, false)] = [some (ob x s b (nat_lit 38) false)] := by kernel_rfl
theorem p110 (x s b : Int) : ∀ v ∈ l110, R x s b v = E x s b v := all_of (f := R x s b) (g := E x s b) (r110 x s b)
def l111 : List (Nat × Bool × Bool) := [((nat_lit 16), false, true), ((nat_lit 17), false, true), ((nat_lit 18), false, true)]
theorem r111 (x s b : Int) : [R x s b ((nat_lit 16), false, true), R x s b ((nat_lit 17), false, true), R x s b ((nat_lit 18), false, true)] = [some (ob x s b (nat_lit 16) false), some (ob x s b (nat_lit 17) false), some (ob x s b (nat_lit 18) false)] := by kernel_rfl
theorem p111 (x s b : Int) : ∀ v ∈ l111, R x s b v = E x s b v := all_of (f := R x s b) (g := E x s b) (r111 x s b)
def l112 : List (Nat × Bool × Bool) := [((nat_lit 40), false, true)]
theorem r112 (x s b : Int) : [R x s b ((nat_lit 40), false, true)] = [some (ob x s b (nat_lit 40) false)] := by kernel_rfl
theorem p112 (x s b : Int) : ∀ v ∈ l112, R x s b v = E x s b v := all_of (f := R x s b) (g := E x s b) (r112 x s b)
end
end Go.Proofs.YteeakllokpdjgaaGreat.execRepeats.runs
