/-
  A part of the evaluator of the program's code, or of what it was seen to do; its statements are Lean's own. No condition.
-/
import Derived.Test.YteeakllokpdjgaaGreatIReps0
namespace Go.Proofs.YteeakllokpdjgaaGreat.execRepeats.runs
open Go.Ev
noncomputable section
def l24 : List (Nat × Bool × Bool) := [((nat_lit 13), true, false), ((nat_lit 14), true, false), ((nat_lit 15), true, false)]
theorem r24 (x s b : Int) : [R x s b ((nat_lit 13), true, false), R x s b ((nat_lit 14), true, false), R x s b ((nat_lit 15), true, false)] = [some (ob x s b (nat_lit 13) true), some (ob x s b (nat_lit 14) true), some (ob x s b (nat_lit 15) true)] := by kernel_rfl
theorem p24 (x s b : Int) : ∀ v ∈ l24, R x s b v = E x s b v := all_of (f := R x s b) (g := E x s b) (r24 x s b)
def l25 : List (Nat × Bool × Bool) := [((nat_lit 39), true, false)]
theorem r25 (x s b : Int) : [R x s b ((nat_lit 39), true, false)] = [some (ob x s b (nat_lit 39) true)] := by kernel_rfl
theorem p25 (x s b : Int) : ∀ v ∈ l25, R x s b v = E x s b v := all_of (f := R x s b) (g := E x s b) (r25 x s b)
def l26 : List (Nat × Bool × Bool) := [((nat_lit 19), true, true), ((nat_lit 20), true, true)]
theorem r26 (x s b : Int) : [R x s b ((nat_lit 19), true, true), R x s b ((nat_lit 20), true, true)] = [some (ob x s b (nat_lit 19) true), some (ob x s b (nat_lit 20) true)] := by kernel_rfl
theorem p26 (x s b : Int) : ∀ v ∈ l26, R x s b v = E x s b v := all_of (f := R x s b) (g := E x s b) (r26 x s b)
def l27 : List (Nat × Bool × Bool) := [((nat_lit 41), true, true)]
theorem r27 (x s b : Int) : [R x s b ((nat_lit 41), true, true)] = [some (ob x s b (nat_lit 41) true)] := by kernel_rfl
theorem p27 (x s b : Int) : ∀ v ∈ l27, R x s b v = E x s b v := all_of (f := R x s b) (g := E x s b) (r27 x s b)
def l28 : List (Nat × Bool × Bool) := [((nat_lit 23), false, false), ((nat_lit 24), false, false)]
theorem r28 (x s b : Int) : [R x s b ((nat_lit 23), false, false), R x s b ((nat_lit 24), false, false)] = [some (ob x s b (nat_lit 23) false), some (ob x s b (nat_lit 24) false)] := by kernel_rfl
theorem p28 (x s b : Int) : ∀ v ∈ l28, R x s b v = E x s b v := all_of (f := R x s b) (g := E x s b) (r28 x s b)
def l29 : List (Nat × Bool × Bool) := [((nat_lit 43), false, false)]
theorem r29 (x s b : Int) : [R x s b ((nat_lit 43), false, false)] = [some (ob x s b (nat_lit 43) false)] := by kernel_rfl
theorem p29 (x s b : Int) : ∀ v ∈ l29, R x s b v = E x s b v := all_of (f := R x s b) (g := E x s b) (r29 x s b)
def l30 : List (Nat × Bool × Bool) := [((nat_lit 27), false, true), ((nat_lit 28), false, true)]
theorem r30 (x s b : Int) : [R x s b ((nat_lit 27), false, true), R x s b ((nat_lit 28), false, true)] = [some (ob x s b (nat_lit 27) false), some (ob x s b (nat_lit 28) false)] := by kernel_rfl
theorem p30 (x s b : Int) : ∀ v ∈ l30, R x s b v = E x s b v := all_of (f := R x s b) (g := E x s b) (r30 x s b)
def l31 : List (Nat × Bool × Bool) := [((nat_lit 45), false, true)]
theorem r31 (x s b : Int) : [R x s b ((nat_lit 45), false, true)] = [some (ob x s b (nat_lit 45) false)] := by kernel_rfl
theorem p31 (x s b : Int) : ∀ v ∈ l31, R x s b v = E x s b v := all_of (f := R x s b) (g := E x s b) (r31 x s b)
end
end Go.Proofs.YteeakllokpdjgaaGreat.execRepeats.runs
