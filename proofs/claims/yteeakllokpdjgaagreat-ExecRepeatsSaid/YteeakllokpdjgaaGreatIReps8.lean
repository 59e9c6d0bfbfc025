/-
  A part of the evaluator of the program's code, or of what it was seen to do; its statements are Lean's own. No condition.
-/
import Derived.Test.YteeakllokpdjgaaGreatIReps0
namespace Go.Proofs.YteeakllokpdjgaaGreat.execRepeats.runs
open Go.Ev
noncomputable section
def l56 : List (Nat × Bool × Bool) := [((nat_lit 23), true, false), ((nat_lit 24), true, false)]
theorem r56 (x s b : Int) : [R x s b ((nat_lit 23), true, false), R x s b ((nat_lit 24), true, false)] = [some (ob x s b (nat_lit 23) true), some (ob x s b (nat_lit 24) true)] := by kernel_rfl
theorem p56 (x s b : Int) : ∀ v ∈ l56, R x s b v = E x s b v := all_of (f := R x s b) (g := E x s b) (r56 x s b)
def l57 : List (Nat × Bool × Bool) := [((nat_lit 43), true, false)]
theorem r57 (x s b : Int) : [R x s b ((nat_lit 43), true, false)] = [some (ob x s b (nat_lit 43) true)] := by kernel_rfl
theorem p57 (x s b : Int) : ∀ v ∈ l57, R x s b v = E x s b v := all_of (f := R x s b) (g := E x s b) (r57 x s b)
def l58 : List (Nat × Bool × Bool) := [((nat_lit 27), true, true), ((nat_lit 28), true, true)]
theorem r58 (x s b : Int) : [R x s b ((nat_lit 27), true, true), R x s b ((nat_lit 28), true, true)] = [some (ob x s b (nat_lit 27) true), some (ob x s b (nat_lit 28) true)] := by kernel_rfl
theorem p58 (x s b : Int) : ∀ v ∈ l58, R x s b v = E x s b v := all_of (f := R x s b) (g := E x s b) (r58 x s b)
def l59 : List (Nat × Bool × Bool) := [((nat_lit 45), true, true)]
theorem r59 (x s b : Int) : [R x s b ((nat_lit 45), true, true)] = [some (ob x s b (nat_lit 45) true)] := by kernel_rfl
theorem p59 (x s b : Int) : ∀ v ∈ l59, R x s b v = E x s b v := all_of (f := R x s b) (g := E x s b) (r59 x s b)
def l60 : List (Nat × Bool × Bool) := [((nat_lit 31), false, false)]
theorem r60 (x s b : Int) : [R x s b ((nat_lit 31), false, false)] = [some (ob x s b (nat_lit 31) false)] := by kernel_rfl
theorem p60 (x s b : Int) : ∀ v ∈ l60, R x s b v = E x s b v := all_of (f := R x s b) (g := E x s b) (r60 x s b)
def l61 : List (Nat × Bool × Bool) := [((nat_lit 47), false, false)]
theorem r61 (x s b : Int) : [R x s b ((nat_lit 47), false, false)] = [some (ob x s b (nat_lit 47) false)] := by kernel_rfl
theorem p61 (x s b : Int) : ∀ v ∈ l61, R x s b v = E x s b v := all_of (f := R x s b) (g := E x s b) (r61 x s b)
def l62 : List (Nat × Bool × Bool) := [((nat_lit 33), false, true)]
theorem r62 (x s b : Int) : [R x s b ((nat_lit 33), false, true)] = [some (ob x s b (nat_lit 33) false)] := by kernel_rfl
theorem p62 (x s b : Int) : ∀ v ∈ l62, R x s b v = E x s b v := all_of (f := R x s b) (g := E x s b) (r62 x s b)
def l63 : List (Nat × Bool × Bool) := [((nat_lit 49), false, true)]
theorem r63 (x s b : Int) : [R x s b ((nat_lit 49), false, true)] = [some (ob x s b (nat_lit 49) false)] := by kernel_rfl
theorem p63 (x s b : Int) : ∀ v ∈ l63, R x s b v = E x s b v := all_of (f := R x s b) (g := E x s b) (r63 x s b)
end
end Go.Proofs.YteeakllokpdjgaaGreat.execRepeats.runs
