/-
  A part of the evaluator of the program's code, or of what it was seen to do; its statements are Lean's own. No condition.
-/
import Derived.Test.YteeakllokpdjgaaGreatIReps0
namespace Go.Proofs.YteeakllokpdjgaaGreat.execRepeats.runs
open Go.Ev
noncomputable section
def l8 : List (Nat × Bool × Bool) := [((nat_lit 6), true, false), ((nat_lit 7), true, false), ((nat_lit 8), true, false), ((nat_lit 9), true, false)]
theorem r8 (x s b : Int) : [R x s b ((nat_lit 6), true, false), R x s b ((nat_lit 7), true, false), R x s b ((nat_lit 8), true, false), R x s b ((nat_lit 9), true, false)] = [some (ob x s b (nat_lit 6) true), some (ob x s b (nat_lit 7) true), some (ob x s b (nat_lit 8) true), some (ob x s b (nat_lit 9) true)] := by kernel_rfl
theorem p8 (x s b : Int) : ∀ v ∈ l8, R x s b v = E x s b v := all_of (f := R x s b) (g := E x s b) (r8 x s b)
def l9 : List (Nat × Bool × Bool) := [((nat_lit 37), true, false)]
theorem r9 (x s b : Int) : [R x s b ((nat_lit 37), true, false)] = [some (ob x s b (nat_lit 37) true)] := by kernel_rfl
theorem p9 (x s b : Int) : ∀ v ∈ l9, R x s b v = E x s b v := all_of (f := R x s b) (g := E x s b) (r9 x s b)
def l10 : List (Nat × Bool × Bool) := [((nat_lit 13), true, true), ((nat_lit 14), true, true), ((nat_lit 15), true, true)]
theorem r10 (x s b : Int) : [R x s b ((nat_lit 13), true, true), R x s b ((nat_lit 14), true, true), R x s b ((nat_lit 15), true, true)] = [some (ob x s b (nat_lit 13) true), some (ob x s b (nat_lit 14) true), some (ob x s b (nat_lit 15) true)] := by kernel_rfl
theorem p10 (x s b : Int) : ∀ v ∈ l10, R x s b v = E x s b v := all_of (f := R x s b) (g := E x s b) (r10 x s b)
def l11 : List (Nat × Bool × Bool) := [((nat_lit 39), true, true)]
theorem r11 (x s b : Int) : [R x s b ((nat_lit 39), true, true)] = [some (ob x s b (nat_lit 39) true)] := by kernel_rfl
theorem p11 (x s b : Int) : ∀ v ∈ l11, R x s b v = E x s b v := all_of (f := R x s b) (g := E x s b) (r11 x s b)
def l12 : List (Nat × Bool × Bool) := [((nat_lit 19), false, false), ((nat_lit 20), false, false)]
theorem r12 (x s b : Int) : [R x s b ((nat_lit 19), false, false), R x s b ((nat_lit 20), false, false)] = [some (ob x s b (nat_lit 19) false), some (ob x s b (nat_lit 20) false)] := by kernel_rfl
theorem p12 (x s b : Int) : ∀ v ∈ l12, R x s b v = E x s b v := all_of (f := R x s b) (g := E x s b) (r12 x s b)
def l13 : List (Nat × Bool × Bool) := [((nat_lit 41), false, false)]
theorem r13 (x s b : Int) : [R x s b ((nat_lit 41), false, false)] = [some (ob x s b (nat_lit 41) false)] := by kernel_rfl
theorem p13 (x s b : Int) : ∀ v ∈ l13, R x s b v = E x s b v := all_of (f := R x s b) (g := E x s b) (r13 x s b)
def l14 : List (Nat × Bool × Bool) := [((nat_lit 23), false, true), ((nat_lit 24), false, true)]
theorem r14 (x s b : Int) : [R x s b ((nat_lit 23), false, true), R x s b ((nat_lit 24), false, true)] = [some (ob x s b (nat_lit 23) false), some (ob x s b (nat_lit 24) false)] := by kernel_rfl
theorem p14 (x s b : Int) : ∀ v ∈ l14, R x s b v = E x s b v := all_of (f := R x s b) (g := E x s b) (r14 x s b)
def l15 : List (Nat × Bool × Bool) := [((nat_lit 43), false, true)]
theorem r15 (x s b : Int) : [R x s b ((nat_lit 43), false, true)] = [some (ob x s b (nat_lit 43) false)] := by kernel_rfl
theorem p15 (x s b : Int) : ∀ v ∈ l15, R x s b v = E x s b v := all_of (f := R x s b) (g := E x s b) (r15 x s b)
end
end Go.Proofs.YteeakllokpdjgaaGreat.execRepeats.runs
