/-
  A part of the evaluator of the program's code, or of what it was seen to do; its statements are Lean's own. No condition.
-/
import Derived.Test.YteeakllokpdjgaaGreatIReps0
namespace Go.Proofs.YteeakllokpdjgaaGreat.execRepeats.runs
open Go.Ev
noncomputable section
def l85 : List (Nat × Bool × Bool) := [((nat_lit 31), true, false)]
theorem r85 (x s b : Int) : [R x s b ((nat_lit 31), true, false)] = [some (ob x s b (nat_lit 31) true)] := by kernel_rfl
theorem p85 (x s b : Int) : ∀ v ∈ l85, R x s b v = E x s b v := all_of (f := R x s b) (g := E x s b) (r85 x s b)
def l86 : List (Nat × Bool × Bool) := [((nat_lit 47), true, false)]
theorem r86 (x s b : Int) : [R x s b ((nat_lit 47), true, false)] = [some (ob x s b (nat_lit 47) true)] := by kernel_rfl
theorem p86 (x s b : Int) : ∀ v ∈ l86, R x s b v = E x s b v := all_of (f := R x s b) (g := E x s b) (r86 x s b)
def l87 : List (Nat × Bool × Bool) := [((nat_lit 33), true, true)]
theorem r87 (x s b : Int) : [R x s b ((nat_lit 33), true, true)] = [some (ob x s b (nat_lit 33) true)] := by kernel_rfl
theorem p87 (x s b : Int) : ∀ v ∈ l87, R x s b v = E x s b v := all_of (f := R x s b) (g := E x s b) (r87 x s b)
def l88 : List (Nat × Bool × Bool) := [((nat_lit 49), true, true)]
theorem r88 (x s b : Int) : [R x s b ((nat_lit 49), true, true)] = [some (ob x s b (nat_lit 49) true)] := by kernel_rfl
theorem p88 (x s b : Int) : ∀ v ∈ l88, R x s b v = E x s b v := all_of (f := R x s b) (g := E x s b) (r88 x s b)
def l89 : List (Nat × Bool × Bool) := [((nat_lit 35), false, false)]
theorem r89 (x s b : Int) : [R x s b ((nat_lit 35), false, false)] = [some (ob x s b (nat_lit 35) false)] := by kernel_rfl
theorem p89 (x s b : Int) : ∀ v ∈ l89, R x s b v = E x s b v := all_of (f := R x s b) (g := E x s b) (r89 x s b)
def l90 : List (Nat × Bool × Bool) := [((nat_lit 6), false, true), ((nat_lit 7), false, true), ((nat_lit 8), false, true), ((nat_lit 9), false, true)]
theorem r90 (x s b : Int) : [R x s b ((nat_lit 6), false, true), R x s b ((nat_lit 7), false, true), R x s b ((nat_lit 8), false, true), R x s b ((nat_lit 9), false, true)] = [some (ob x s b (nat_lit 6) false), some (ob x s b (nat_lit 7) false), some (ob x s b (nat_lit 8) false), some (ob x s b (nat_lit 9) false)] := by kernel_rfl
theorem p90 (x s b : Int) : ∀ v ∈ l90, R x s b v = E x s b v := all_of (f := R x s b) (g := E x s b) (r90 x s b)
def l91 : List (Nat × Bool × Bool) := [((nat_lit 37), false, true)]
theorem r91 (x s b : Int) : [R x s b ((nat_lit 37), false, true)] = [some (ob x s b (nat_lit 37) false)] := by kernel_rfl
theorem p91 (x s b : Int) : ∀ v ∈ l91, R x s b v = E x s b v := all_of (f := R x s b) (g := E x s b) (r91 x s b)
end
end Go.Proofs.YteeakllokpdjgaaGreat.execRepeats.runs
