/-
  A part of the evaluator of the program's code, or of what it was seen to do; its statements are Lean's own. No condition.
-/
import Derived.Test.YteeakllokpdjgaaGreatIReps0
namespace Go.Proofs.YteeakllokpdjgaaGreat.execRepeats.runs
open Go.Ev
noncomputable section
def l48 : List (Nat × Bool × Bool) := [((nat_lit 21), true, false), ((nat_lit 22), true, false)]
theorem r48 (x s b : Int) : [R x s b ((nat_lit 21), true, false), R x s b ((nat_lit 22), true, false)] = [some (ob x s b (nat_lit 21) true), some (ob x s b (nat_lit 22) true)] := by kernel_rfl
theorem p48 (x s b : Int) : ∀ v ∈ l48, R x s b v = E x s b v := all_of (f := R x s b) (g := E x s b) (r48 x s b)
def l49 : List (Nat × Bool × Bool) := [((nat_lit 42), true, false)]
theorem r49 (x s b : Int) : [R x s b ((nat_lit 42), true, false)] = [some (ob x s b (nat_lit 42) true)] := by kernel_rfl
theorem p49 (x s b : Int) : ∀ v ∈ l49, R x s b v = E x s b v := all_of (f := R x s b) (g := E x s b) (r49 x s b)
def l50 : List (Nat × Bool × Bool) := [((nat_lit 25), true, true), ((nat_lit 26), true, true)]
theorem r50 (x s b : Int) : [R x s b ((nat_lit 25), true, true), R x s b ((nat_lit 26), true, true)] = [some (ob x s b (nat_lit 25) true), some (ob x s b (nat_lit 26) true)] := by kernel_rfl
theorem p50 (x s b : Int) : ∀ v ∈ l50, R x s b v = E x s b v := all_of (f := R x s b) (g := E x s b) (r50 x s b)
def l51 : List (Nat × Bool × Bool) := [((nat_lit 44), true, true)]
theorem r51 (x s b : Int) : [R x s b ((nat_lit 44), true, true)] = [some (ob x s b (nat_lit 44) true)] := by kernel_rfl
theorem p51 (x s b : Int) : ∀ v ∈ l51, R x s b v = E x s b v := all_of (f := R x s b) (g := E x s b) (r51 x s b)
def l52 : List (Nat × Bool × Bool) := [((nat_lit 29), false, false), ((nat_lit 30), false, false)]
theorem r52 (x s b : Int) : [R x s b ((nat_lit 29), false, false), R x s b ((nat_lit 30), false, false)] = [some (ob x s b (nat_lit 29) false), some (ob x s b (nat_lit 30) false)] := by kernel_rfl
theorem p52 (x s b : Int) : ∀ v ∈ l52, R x s b v = E x s b v := all_of (f := R x s b) (g := E x s b) (r52 x s b)
def l53 : List (Nat × Bool × Bool) := [((nat_lit 46), false, false)]
theorem r53 (x s b : Int) : [R x s b ((nat_lit 46), false, false)] = [some (ob x s b (nat_lit 46) false)] := by kernel_rfl
theorem p53 (x s b : Int) : ∀ v ∈ l53, R x s b v = E x s b v := all_of (f := R x s b) (g := E x s b) (r53 x s b)
def l54 : List (Nat × Bool × Bool) := [((nat_lit 32), false, true)]
theorem r54 (x s b : Int) : [R x s b ((nat_lit 32), false, true)] = [some (ob x s b (nat_lit 32) false)] := by kernel_rfl
theorem p54 (x s b : Int) : ∀ v ∈ l54, R x s b v = E x s b v := all_of (f := R x s b) (g := E x s b) (r54 x s b)
def l55 : List (Nat × Bool × Bool) := [((nat_lit 48), false, true)]
theorem r55 (x s b : Int) : [R x s b ((nat_lit 48), false, true)] = [some (ob x s b (nat_lit 48) false)] := by kernel_rfl
theorem p55 (x s b : Int) : ∀ v ∈ l55, R x s b v = E x s b v := all_of (f := R x s b) (g := E x s b) (r55 x s b)
end
end Go.Proofs.YteeakllokpdjgaaGreat.execRepeats.runs
