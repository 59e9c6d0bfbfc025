/-
  A part of the evaluator of the program's code, or of what it was seen to do; its statements are Lean's own. No condition.
-/
import Derived.Test.YteeakllokpdjgaaGreatIReps0
namespace Go.Proofs.YteeakllokpdjgaaGreat.execRepeats.runs
open Go.Ev
noncomputable section
def l32 : List (Nat × Bool × Bool) := [((nat_lit 16), true, false), ((nat_lit 17), true, false), ((nat_lit 18), true, false)]
theorem r32 (x s b : Int) : [R x s b ((nat_lit 16), true, false), R x s b ((nat_lit 17), true, false), R x s b ((nat_lit 18), true, false)] = [some (ob x s b (nat_lit 16) true), some (ob x s b (nat_lit 17) true), some (ob x s b (nat_lit 18) true)] := by kernel_rfl
theorem p32 (x s b : Int) : ∀ v ∈ l32, R x s b v = E x s b v := all_of (f := R x s b) (g := E x s b) (r32 x s b)
def l33 : List (Nat × Bool × Bool) := [((nat_lit 40), true, false)]
theorem r33 (x s b : Int) : [R x s b ((nat_lit 40), true, false)] = [some (ob x s b (nat_lit 40) true)] := by kernel_rfl
theorem p33 (x s b : Int) : ∀ v ∈ l33, R x s b v = E x s b v := all_of (f := R x s b) (g := E x s b) (r33 x s b)
def l34 : List (Nat × Bool × Bool) := [((nat_lit 21), true, true), ((nat_lit 22), true, true)]
theorem r34 (x s b : Int) : [R x s b ((nat_lit 21), true, true), R x s b ((nat_lit 22), true, true)] = [some (ob x s b (nat_lit 21) true), some (ob x s b (nat_lit 22) true)] := by kernel_rfl
theorem p34 (x s b : Int) : ∀ v ∈ l34, R x s b v = E x s b v := all_of (f := R x s b) (g := E x s b) (r34 x s b)
def l35 : List (Nat × Bool × Bool) := [((nat_lit 42), true, true)]
theorem r35 (x s b : Int) : [R x s b ((nat_lit 42), true, true)] = [some (ob x s b (nat_lit 42) true)] := by kernel_rfl
theorem p35 (x s b : Int) : ∀ v ∈ l35, R x s b v = E x s b v := all_of (f := R x s b) (g := E x s b) (r35 x s b)
def l36 : List (Nat × Bool × Bool) := [((nat_lit 25), false, false), ((nat_lit 26), false, false)]
theorem r36 (x s b : Int) : [R x s b ((nat_lit 25), false, false), R x s b ((nat_lit 26), false, false)] = [some (ob x s b (nat_lit 25) false), some (ob x s b (nat_lit 26) false)] := by kernel_rfl
theorem p36 (x s b : Int) : ∀ v ∈ l36, R x s b v = E x s b v := all_of (f := R x s b) (g := E x s b) (r36 x s b)
def l37 : List (Nat × Bool × Bool) := [((nat_lit 44), false, false)]
theorem r37 (x s b : Int) : [R x s b ((nat_lit 44), false, false)] = [some (ob x s b (nat_lit 44) false)] := by kernel_rfl
theorem p37 (x s b : Int) : ∀ v ∈ l37, R x s b v = E x s b v := all_of (f := R x s b) (g := E x s b) (r37 x s b)
def l38 : List (Nat × Bool × Bool) := [((nat_lit 29), false, true), ((nat_lit 30), false, true)]
theorem r38 (x s b : Int) : [R x s b ((nat_lit 29), false, true), R x s b ((nat_lit 30), false, true)] = [some (ob x s b (nat_lit 29) false), some (ob x s b (nat_lit 30) false)] := by kernel_rfl
theorem p38 (x s b : Int) : ∀ v ∈ l38, R x s b v = E x s b v := all_of (f := R x s b) (g := E x s b) (r38 x s b)
def l39 : List (Nat × Bool × Bool) := [((nat_lit 46), false, true)]
theorem r39 (x s b : Int) : [R x s b ((nat_lit 46), false, true)] = [some (ob x s b (nat_lit 46) false)] := by kernel_rfl
theorem p39 (x s b : Int) : ∀ v ∈ l39, R x s b v = E x s b v := all_of (f := R x s b) (g := E x s b) (r39 x s b)
end
end Go.Proofs.YteeakllokpdjgaaGreat.execRepeats.runs
