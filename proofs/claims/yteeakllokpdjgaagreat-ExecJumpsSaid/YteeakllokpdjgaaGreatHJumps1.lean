/-
  A part of the evaluator of the program's code, or of what it was seen to do; its statements are Lean's own. No condition.
-/
import Derived.Test.YteeakllokpdjgaaGreatHJumps0
namespace Go.Proofs.YteeakllokpdjgaaGreat.execJumps.runs
open Go.Ev
noncomputable section
def l0 : List (Nat × Bool × Bool) := [((nat_lit 0), true, true), ((nat_lit 0), true, false), ((nat_lit 0), false, true), ((nat_lit 0), false, false), ((nat_lit 1), true, true), ((nat_lit 1), true, false), ((nat_lit 1), false, true), ((nat_lit 1), false, false), ((nat_lit 2), true, true), ((nat_lit 2), true, false), ((nat_lit 2), false, true), ((nat_lit 2), false, false), ((nat_lit 3), true, true), ((nat_lit 3), true, false), ((nat_lit 3), false, true)]
theorem r0 (cc fl y : Int) : [R cc fl y ((nat_lit 0), true, true), R cc fl y ((nat_lit 0), true, false), R cc fl y ((nat_lit 0), false, true), R cc fl y ((nat_lit 0), false, false), R cc fl y ((nat_lit 1), true, true), R cc fl y ((nat_lit 1), true, false), R cc fl y ((nat_lit 1), false, true), R cc fl y ((nat_lit 1), false, false), R cc fl y ((nat_lit 2), true, true), R cc fl y ((nat_lit 2), true, false), R cc fl y ((nat_lit 2), false, true), R cc fl y ((nat_lit 2), false, false), R cc fl y ((nat_lit 3), true, true), R cc fl y ((nat_lit 3), true, false), R cc fl y ((nat_lit 3), false, true)] = [some (ob cc fl y (nat_lit 0) true true), some (ob cc fl y (nat_lit 0) true false), some (ob cc fl y (nat_lit 0) false true), some (ob cc fl y (nat_lit 0) false false), some (ob cc fl y (nat_lit 1) true true), some (ob cc fl y (nat_lit 1) true false), some (ob cc fl y (nat_lit 1) false true), some (ob cc fl y (nat_lit 1) false false), some (ob cc fl y (nat_lit 2) true true), some (ob cc fl y (nat_lit 2) true false), some (ob cc fl y (nat_lit 2) false true), some (ob cc fl y (nat_lit 2) false false), some (ob cc fl y (nat_lit 3) true true), some (ob cc fl y (nat_lit 3) true false), some (ob cc fl y (nat_lit 3) false true)] := by kernel_rfl
theorem p0 (cc fl y : Int) : ∀ v ∈ l0, R cc fl y v = E cc fl y v := all_of (f := R cc fl y) (g := E cc fl y) (r0 cc fl y)
end
end Go.Proofs.YteeakllokpdjgaaGreat.execJumps.runs
