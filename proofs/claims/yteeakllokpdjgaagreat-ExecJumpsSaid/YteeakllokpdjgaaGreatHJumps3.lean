/-
  A part of the evaluator of the program's code, or of what it was seen to do; its statements are Lean's own. No condition.
-/
import Derived.Test.YteeakllokpdjgaaGreatHJumps0
namespace Go.Proofs.YteeakllokpdjgaaGreat.execJumps.runs
open Go.Ev
noncomputable section
def l2 : List (Nat × Bool × Bool) := [((nat_lit 7), false, true), ((nat_lit 7), false, false), ((nat_lit 8), true, true), ((nat_lit 8), true, false), ((nat_lit 8), false, true), ((nat_lit 8), false, false), ((nat_lit 9), true, true), ((nat_lit 9), true, false), ((nat_lit 9), false, true), ((nat_lit 9), false, false), ((nat_lit 10), true, true), ((nat_lit 10), true, false), ((nat_lit 10), false, true), ((nat_lit 10), false, false), ((nat_lit 11), true, true)]
theorem r2 (cc fl y : Int) : [R cc fl y ((nat_lit 7), false, true), R cc fl y ((nat_lit 7), false, false), R cc fl y ((nat_lit 8), true, true), R cc fl y ((nat_lit 8), true, false), R cc fl y ((nat_lit 8), false, true), R cc fl y ((nat_lit 8), false, false), R cc fl y ((nat_lit 9), true, true), R cc fl y ((nat_lit 9), true, false), R cc fl y ((nat_lit 9), false, true), R cc fl y ((nat_lit 9), false, false), R cc fl y ((nat_lit 10), true, true), R cc fl y ((nat_lit 10), true, false), R cc fl y ((nat_lit 10), false, true), R cc fl y ((nat_lit 10), false, false), R cc fl y ((nat_lit 11), true, true)] = [some (ob cc fl y (nat_lit 7) false true), some (ob cc fl y (nat_lit 7) false false), some (ob cc fl y (nat_lit 8) true true), some (ob cc fl y (nat_lit 8) true false), some (ob cc fl y (nat_lit 8) false true), some (ob cc fl y (nat_lit 8) false false), some (ob cc fl y (nat_lit 9) true true), some (ob cc fl y (nat_lit 9) true false), some (ob cc fl y (nat_lit 9) false true), some (ob cc fl y (nat_lit 9) false false), some (ob cc fl y (nat_lit 10) true true), some (ob cc fl y (nat_lit 10) true false), some (ob cc fl y (nat_lit 10) false true), some (ob cc fl y (nat_lit 10) false false), some (ob cc fl y (nat_lit 11) true true)] := by kernel_rfl
theorem p2 (cc fl y : Int) : ∀ v ∈ l2, R cc fl y v = E cc fl y v := all_of (f := R cc fl y) (g := E cc fl y) (r2 cc fl y)
end
end Go.Proofs.YteeakllokpdjgaaGreat.execJumps.runs
