/-
  A part of the evaluator of the program's code, or of what it was seen to do; its statements are Lean's own. No condition.
-/
import Derived.Test.YteeakllokpdjgaaGreatIReps0
namespace Go.Proofs.YteeakllokpdjgaaGreat.execRepeats.runs
open Go.Ev
noncomputable section
def l92 : List (Nat × Bool × Bool) := [((nat_lit 32), true, false)]
theorem r92 (x s b : Int) : [R x s b ((nat_lit 32), true, false)] = [some (ob x s b (nat_lit 32) true)] := by kernel_rfl
theorem p92 (x s b : Int) : ∀ v ∈ l92, R x s b v = E x s b v := all_of (f := R x s b) (g := E x s b) (r92 x s b)
def l93 : List (Nat × Bool × Bool) := [((nat_lit 48), true, false)]
theorem r93 (x s b : Int) : [R x s b ((nat_lit 48), true, false)] = [some (ob x s b (nat_lit 48) true)] := by kernel_rfl
theorem p93 (x s b : Int) : ∀ v ∈ l93, R x s b v = E x s b v := all_of (f := R x s b) (g := E x s b) (r93 x s b)
def l94 : List (Nat × Bool × Bool) := [((nat_lit 34), true, true)]
theorem r94 (x s b : Int) : [R x s b ((nat_lit 34), true, true)] = [some (ob x s b (nat_lit 34) true)] := by kernel_rfl
theorem p94 (x s b : Int) : ∀ v ∈ l94, R x s b v = E x s b v := all_of (f := R x s b) (g := E x s b) (r94 x s b)
def l95 : List (Nat × Bool × Bool) := [((nat_lit 0), false, false), ((nat_lit 1), false, false), ((nat_lit 2), false, false), ((nat_lit 3), false, false), ((nat_lit 4), false, false), ((nat_lit 5), false, false)]
theorem r95 (x s b : Int) : [R x s b ((nat_lit 0), false, false), R x s b ((nat_lit 1), false, false), R x s b ((nat_lit 2), false, false), R x s b ((nat_lit 3), false, false), R x s b ((nat_lit 4), false, false), R x s b ((nat_lit 5), false, false)] = [some (ob x s b (nat_lit 0) false), some (ob x s b (nat_lit 1) false), some (ob x s b (nat_lit 2) false), some (ob x s b (nat_lit 3) false), some (ob x s b (nat_lit 4) false), some (ob x s b (nat_lit 5) false)] := by kernel_rfl
theorem p95 (x s b : Int) : ∀ v ∈ l95, R x s b v = E x s b v := all_of (f := R x s b) (g := E x s b) (r95 x s b)
def l96 : List (Nat × Bool × Bool) := [((nat_lit 36), false, false)]
theorem r96 (x s b : Int) : [R x s b ((nat_lit 36), false, false)] = [some (ob x s b (nat_lit 36) false)] := by kernel_rfl
theorem p96 (x s b : Int) : ∀ v ∈ l96, R x s b v = E x s b v := all_of (f := R x s b) (g := E x s b) (r96 x s b)
def l97 : List (Nat × Bool × Bool) := [((nat_lit 10), false, true), ((nat_lit 11), false, true), ((nat_lit 12), false, true)]
theorem r97 (x s b : Int) : [R x s b ((nat_lit 10), false, true), R x s b ((nat_lit 11), false, true), R x s b ((nat_lit 12), false, true)] = [some (ob x s b (nat_lit 10) false), some (ob x s b (nat_lit 11) false), some (ob x s b (nat_lit 12) false)] := by kernel_rfl
theorem p97 (x s b : Int) : ∀ v ∈ l97, R x s b v = E x s b v := all_of (f := R x s b) (g := E x s b) (r97 x s b)
def l98 : List (Nat × Bool × Bool) := [((nat_lit 38), false, true)]
theorem r98 (x s b : Int) : [R x s b ((nat_lit 38), false, true)] = [some (ob x s b (nat_lit 38) false)] := by kernel_rfl
theorem p98 (x s b : Int) : ∀ v ∈ l98, R x s b v = E x s b v := all_of (f := R x s b) (g := E x s b) (r98 x s b)
end
end Go.Proofs.YteeakllokpdjgaaGreat.execRepeats.runs
