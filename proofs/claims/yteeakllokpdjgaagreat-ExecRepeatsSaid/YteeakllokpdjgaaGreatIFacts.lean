/-
  A part of the evaluator of the program's code, or of what it was seen to do; its statements are Lean's own. No condition.
-/
import Derived.Test.YteeakllokpdjgaaGreatRows
import Derived.ProofKit
namespace Go.Proofs.YteeakllokpdjgaaGreat.facts
open Go
theorem laid : laidOutB Tryz.prog = true := by kernel_rfl
theorem mapsR : mapsRowed Tryz.prog = true := by kernel_rfl
theorem stops : (Tryz.prog.stops == []) = true := by kernel_rfl
theorem stopKnobs : (Tryz.prog.stopKnobs == []) = true := by kernel_rfl
theorem plain : Tryz.prog.plainKeys = false := by kernel_rfl
theorem heard : Tryz.prog.stopsHeard = true := by kernel_rfl
theorem enter : Tryz.prog.mayEnter = true := by kernel_rfl
end Go.Proofs.YteeakllokpdjgaaGreat.facts
