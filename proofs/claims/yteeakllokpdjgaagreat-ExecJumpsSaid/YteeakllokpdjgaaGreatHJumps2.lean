/-
  A part of the evaluator of the program's code, or of what it was seen to do; its statements are Lean's own. No condition.
-/
import Derived.Test.YteeakllokpdjgaaGreatHJumps0
namespace Go.Proofs.YteeakllokpdjgaaGreat.execJumps.runs
open Go.Ev
noncomputable section
def l1 : List (Nat × Bool × Bool) := [((nat_lit 3), false, false), ((nat_lit 4), true, true), ((nat_lit 4), true, false), ((nat_lit 4), false, true), ((nat_lit 4), false, false), ((nat_lit 5), true, true), ((nat_lit 5), true, false), ((nat_lit 5), false, true), ((nat_lit 5), false, false), ((nat_lit 6), true, true), ((nat_lit 6), true, false), ((nat_lit 6), false, true), ((nat_lit 6), false, false), ((nat_lit 7), true, true), ((nat_lit 7), true, false)]
theorem r1 (cc fl y : Int) : [R cc fl y ((nat_lit 3), false, false), R cc fl y ((nat_lit 4), true, true), R cc fl y ((nat_lit 4), true, false), R cc fl y ((nat_lit 4), false, true), R cc fl y ((nat_lit 4), false, false), R cc fl y ((nat_lit 5), true, true), R cc fl y ((nat_lit 5), true, false), R cc fl y ((nat_lit 5), false, true), R cc fl y ((nat_lit 5), false, false), R cc fl y ((nat_lit 6), true, true), R cc fl y ((nat_lit 6), true, false), R cc fl y ((nat_lit 6), false, true), R cc fl y ((nat_lit 6), false, false), R cc fl y ((nat_lit 7), true, true), R cc fl y ((nat_lit 7), true, false)] = [some (ob cc fl y (nat_lit 3) false false), some (ob cc fl y (nat_lit 4) true true), some (ob cc fl y (nat_lit 4) true false), some (ob cc fl y (nat_lit 4) false true), some (ob cc fl y (nat_lit 4) false false), some (ob cc fl y (nat_lit 5) true true), some (ob cc fl y (nat_lit 5) true false), some (ob cc fl y (nat_lit 5) false true), some (ob cc fl y (nat_lit 5) false false), some (ob cc fl y (nat_lit 6) true true), some (ob cc fl y (nat_lit 6) true false), some (ob cc fl y (nat_lit 6) false true), some (ob cc fl y (nat_lit 6) false false), some (ob cc fl y (nat_lit 7) true true), some (ob cc fl y (nat_lit 7) true false)] := by kernel_rfl
theorem p1 (cc fl y : Int) : ∀ v ∈ l1, R cc fl y v = E cc fl y v := all_of (f := R cc fl y) (g := E cc fl y) (r1 cc fl y)
end
end Go.Proofs.YteeakllokpdjgaaGreat.execJumps.runs
