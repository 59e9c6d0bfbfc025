/-
  A part of the evaluator of the program's code, or of what it was seen to do; its statements are Lean's own. No condition.
-/
import Derived.Test.YteeakllokpdjgaaGreatIReps0
namespace Go.Proofs.YteeakllokpdjgaaGreat.execRepeats.runs
open Go.Ev
noncomputable section
def l16 : List (Nat × Bool × Bool) := [((nat_lit 10), true, false), ((nat_lit 11), true, false), ((nat_lit 12), true, false)]
theorem r16 (x s b : Int) : [R x s b ((nat_lit 10), true, false), R x s b ((nat_lit 11), true, false), R x s b ((nat_lit 12), true, false)] = [some (ob x s b (nat_lit 10) true), some (ob x s b (nat_lit 11) true), some (ob x s b (nat_lit 12) true)] := by kernel_rfl
theorem p16 (x s b : Int) : ∀ v ∈ l16, R x s b v = E x s b v := all_of (f := R x s b) (g := E x s b) (r16 x s b)
def l17 : List (Nat × Bool × Bool) := [((nat_lit 38), true, false)]
theorem r17 (x s b : Int) : [R x s b ((nat_lit 38), true, false)] = [some (ob x s b (nat_lit 38) true)] := by kernel_rfl
theorem p17 (x s b : Int) : ∀ v ∈ l17, R x s b v = E x s b v := all_of (f := R x s b) (g := E x s b) (r17 x s b)
def l18 : List (Nat × Bool × Bool) := [((nat_lit 16), true, true), ((nat_lit 17), true, true), ((nat_lit 18), true, true)]
theorem r18 (x s b : Int) : [R x s b ((nat_lit 16), true, true), R x s b ((nat_lit 17), true, true), R x s b ((nat_lit 18), true, true)] = [some (ob x s b (nat_lit 16) true), some (ob x s b (nat_lit 17) true), some (ob x s b (nat_lit 18) true)] := by kernel_rfl
theorem p18 (x s b : Int) : ∀ v ∈ l18, R x s b v = E x s b v := all_of (f := R x s b) (g := E x s b) (r18 x s b)
def l19 : List (Nat × Bool × Bool) := [((nat_lit 40), true, true)]
theorem r19 (x s b : Int) : [R x s b ((nat_lit 40), true, true)] = [some (ob x s b (nat_lit 40) true)] := by kernel_rfl
theorem p19 (x s b : Int) : ∀ v ∈ l19, R x s b v = E x s b v := all_of (f := R x s b) (g := E x s b) (r19 x s b)
def l20 : List (Nat × Bool × Bool) := [((nat_lit 21), false, false), ((nat_lit 22), false, false)]
theorem r20 (x s b : Int) : [R x s b ((nat_lit 21), false, false), R x s b ((nat_lit 22), false, false)] = [some (ob x s b (nat_lit 21) false), some (ob x s b (nat_lit 22) false)] := by kernel_rfl
theorem p20 (x s b : Int) : ∀ v ∈ l20, R x s b v = E x s b v := all_of (f := R x s b) (g := E x s b) (r20 x s b)
def l21 : List (Nat × Bool × Bool) := [((nat_lit 42), false, false)]
theorem r21 (x s b : Int) : [R x s b ((nat_lit 42), false, false)] = [some (ob x s b (nat_lit 42) false)] := by kernel_rfl
theorem p21 (x s b : Int) : ∀ v ∈ l21, R x s b v = E x s b v := all_of (f := R x s b) (g := E x s b) (r21 x s b)
def l22 : List (Nat × Bool × Bool) := [((nat_lit 25), false, true), ((nat_lit 26), false, true)]
theorem r22 (x s b : Int) : [R x s b ((nat_lit 25), false, true), R x s b ((nat_lit 26), false, true)] = [some (ob x s b (nat_lit 25) false), some (ob x s b (nat_lit 26) false)] := by kernel_rfl
theorem p22 (x s b : Int) : ∀ v ∈ l22, R x s b v = E x s b v := all_of (f := R x s b) (g := E x s b) (r22 x s b)
def l23 : List (Nat × Bool × Bool) := [((nat_lit 44), false, true)]
theorem r23 (x s b : Int) : [R x s b ((nat_lit 44), false, true)] = [some (ob x s b (nat_lit 44) false)] := by kernel_rfl
theorem p23 (x s b : Int) : ∀ v ∈ l23, R x s b v = E x s b v := all_of (f := R x s b) (g := E x s b) (r23 x s b)
end
end Go.Proofs.YteeakllokpdjgaaGreat.execRepeats.runs
