/-
  A part of the evaluator of the program's code, or of what it was seen to do; its statements are Lean's own. No condition.
-/
import Derived.Test.YteeakllokpdjgaaGreatHJumps0
namespace Go.Proofs.YteeakllokpdjgaaGreat.execJumps.runs
open Go.Ev
noncomputable section
def l3 : List (Nat × Bool × Bool) := [((nat_lit 11), true, false), ((nat_lit 11), false, true), ((nat_lit 11), false, false), ((nat_lit 12), true, true), ((nat_lit 12), false, false), ((nat_lit 13), true, false), ((nat_lit 13), false, true), ((nat_lit 14), true, true), ((nat_lit 14), false, true), ((nat_lit 14), false, false), ((nat_lit 15), true, false), ((nat_lit 15), false, true), ((nat_lit 15), false, false)]
theorem r3 (cc fl y : Int) : [R cc fl y ((nat_lit 11), true, false), R cc fl y ((nat_lit 11), false, true), R cc fl y ((nat_lit 11), false, false), R cc fl y ((nat_lit 12), true, true), R cc fl y ((nat_lit 12), false, false), R cc fl y ((nat_lit 13), true, false), R cc fl y ((nat_lit 13), false, true), R cc fl y ((nat_lit 14), true, true), R cc fl y ((nat_lit 14), false, true), R cc fl y ((nat_lit 14), false, false), R cc fl y ((nat_lit 15), true, false), R cc fl y ((nat_lit 15), false, true), R cc fl y ((nat_lit 15), false, false)] = [some (ob cc fl y (nat_lit 11) true false), some (ob cc fl y (nat_lit 11) false true), some (ob cc fl y (nat_lit 11) false false), some (ob cc fl y (nat_lit 12) true true), some (ob cc fl y (nat_lit 12) false false), some (ob cc fl y (nat_lit 13) true false), some (ob cc fl y (nat_lit 13) false true), some (ob cc fl y (nat_lit 14) true true), some (ob cc fl y (nat_lit 14) false true), some (ob cc fl y (nat_lit 14) false false), some (ob cc fl y (nat_lit 15) true false), some (ob cc fl y (nat_lit 15) false true), some (ob cc fl y (nat_lit 15) false false)] := by kernel_rfl
theorem p3 (cc fl y : Int) : ∀ v ∈ l3, R cc fl y v = E cc fl y v := all_of (f := R cc fl y) (g := E cc fl y) (r3 cc fl y)
end
end Go.Proofs.YteeakllokpdjgaaGreat.execJumps.runs
