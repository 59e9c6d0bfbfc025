/-
  A part of the evaluator of the program's code, or of what it was seen to do; its statements are Lean's own. No condition.
-/
import Derived.Test.YteeakllokpdjgaaGreatIReps0
namespace Go.Proofs.YteeakllokpdjgaaGreat.execRepeats.runs
open Go.Ev
noncomputable section
def l71 : List (Nat × Bool × Bool) := [((nat_lit 27), true, false), ((nat_lit 28), true, false)]
theorem r71 (x s b : Int) : [R x s b ((nat_lit 27), true, false), R x s b ((nat_lit 28), true, false)] = [some (ob x s b (nat_lit 27) true), some (ob x s b (nat_lit 28) true)] := by kernel_rfl
theorem p71 (x s b : Int) : ∀ v ∈ l71, R x s b v = E x s b v := all_of (f := R x s b) (g := E x s b) (r71 x s b)
def l72 : List (Nat × Bool × Bool) := [((nat_lit 45), true, false)]
theorem r72 (x s b : Int) : [R x s b ((nat_lit 45), true, false)] = [some (ob x s b (nat_lit 45) true)] := by kernel_rfl
theorem p72 (x s b : Int) : ∀ v ∈ l72, R x s b v = E x s b v := all_of (f := R x s b) (g := E x s b) (r72 x s b)
def l73 : List (Nat × Bool × Bool) := [((nat_lit 31), true, true)]
theorem r73 (x s b : Int) : [R x s b ((nat_lit 31), true, true)] = [some (ob x s b (nat_lit 31) true)] := by kernel_rfl
theorem p73 (x s b : Int) : ∀ v ∈ l73, R x s b v = E x s b v := all_of (f := R x s b) (g := E x s b) (r73 x s b)
def l74 : List (Nat × Bool × Bool) := [((nat_lit 47), true, true)]
theorem r74 (x s b : Int) : [R x s b ((nat_lit 47), true, true)] = [some (ob x s b (nat_lit 47) true)] := by kernel_rfl
theorem p74 (x s b : Int) : ∀ v ∈ l74, R x s b v = E x s b v := all_of (f := R x s b) (g := E x s b) (r74 x s b)
def l75 : List (Nat × Bool × Bool) := [((nat_lit 33), false, false)]
theorem r75 (x s b : Int) : [R x s b ((nat_lit 33), false, false)] = [some (ob x s b (nat_lit 33) false)] := by kernel_rfl
theorem p75 (x s b : Int) : ∀ v ∈ l75, R x s b v = E x s b v := all_of (f := R x s b) (g := E x s b) (r75 x s b)
def l76 : List (Nat × Bool × Bool) := [((nat_lit 49), false, false)]
theorem r76 (x s b : Int) : [R x s b ((nat_lit 49), false, false)] = [some (ob x s b (nat_lit 49) false)] := by kernel_rfl
theorem p76 (x s b : Int) : ∀ v ∈ l76, R x s b v = E x s b v := all_of (f := R x s b) (g := E x s b) (r76 x s b)
def l77 : List (Nat × Bool × Bool) := [((nat_lit 35), false, true)]
theorem r77 (x s b : Int) : [R x s b ((nat_lit 35), false, true)] = [some (ob x s b (nat_lit 35) false)] := by kernel_rfl
theorem p77 (x s b : Int) : ∀ v ∈ l77, R x s b v = E x s b v := all_of (f := R x s b) (g := E x s b) (r77 x s b)
end
end Go.Proofs.YteeakllokpdjgaaGreat.execRepeats.runs
