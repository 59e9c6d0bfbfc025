/-
  'drawloom/drawloomlaw19.StepNames' returns true, whatever the world it starts in; it takes no input. No condition.
-/
import Derived.Test.YthclecbbebelhaaGreatRows
import Derived.Test.YthclecbbebelhaaGreatSums2
import Derived.Test.YthclecbbebelhaaGreatFacts
import Derived.ProofKit
import Derived.OpenShut
namespace Go.Proofs.YthclecbbebelhaaGreat.stepNames
open Go.ChangeShapes Go.WideShapes Go.ChangeAt Go.RowKit

theorem own : ownKnob Tryz.prog.godebug = none := by kernel_rfl

/-- the run, made by the evaluator inside the kernel -/
theorem run : (Ev.evF Tryz.prog sums.env2 10000 (.call 5 []) Ev.G.init).yes = true := by kernel_rfl
theorem walk (w : World) : Calls Tryz.prog 5 #[] w fun e w' => e = .returned (.bool true) ∧ Ev.Still w w' :=
  Ev.args_yes sums.pf sums.env2_ok (by kernel_rfl) run .nil w

/-! ### THE ROW's STEP: WRITTEN OUT: LEAVE IT -/
set_option maxRecDepth 100000 in
theorem lifted (os : Os) (started : os.Started) (H : Type) (enc : TypeId × Value → H) :
    ReturnsInHanded {} Tryz.checked os 5 .any (Rows.stepNamesSpec.pre6 enc Tryz.prog Tryz.f5 Rows.stepNamesRow.domain false) (Rows.stepNamesSpec.post enc Tryz.prog Tryz.f5 false true false false) := by
  refine returnsInHanded_of_change (C := Tryz.checked) own started (by kernel_rfl) Tryz.func5
    (ChangeSpec.witness6 (enc := enc) (C := Tryz.checked) false ⟨#[], #[], []⟩ 8 (by kernel_rfl) (by kernel_rfl) (by kernel_rfl) (by kernel_rfl)) ?_
  intro W base args ds gs before _ hW _ _
  have hW' := hW
  obtain ⟨p, q, hA0, hV, rfl, hfz, hnd⟩ := hW
  have hA : DataW.TrodAll enc Tryz.prog W 0 (fun _ => true) true Tryz.f5.params.toList args.toList ds p := hA0
  rw [Tryz.params5] at hA
  obtain ⟨rfl, rfl, rfl⟩ := trodAll_none hA
  obtain ⟨rfl, rfl⟩ := trodVars_none hV
  clear hA0
  simp only [List.append_nil] at hW'
  refine (walk W).mono fun e W' ⟨he, hg⟩ => ?_
  subst he
  exact ⟨_, rfl, Ev.post_still (pa := []) (pv := []) hW' (fun _ _ _ => (trodAll_cons_mk (shut_bool Tryz.underlying4 _) trodAll_mk0)) (fun sp _ => rfl) (fun _ _ => rfl) hg⟩

/-! ### The closed facts of the row, one by one -/
theorem named : Tryz.prog.funcNamed Rows.stepNamesRow.func = some 5 := by kernel_rfl
theorem inPl : (Rows.stepNamesRow.inPlace == Tryz.prog.inPlace 5) = true := by kernel_rfl
theorem unf : (Rows.stepNamesRow.unfollowed == Tryz.prog.unfollowed 5) = true := by kernel_rfl
theorem recu : (Rows.stepNamesRow.recurses == Tryz.prog.recurses 5) = true := by kernel_rfl
theorem vars : (Rows.stepNamesRow.named == Tryz.prog.varsNamed 5) = true := by kernel_rfl
theorem lifts : (Rows.stepNamesRow.lifted == Tryz.prog.liftsFinal) = true := by kernel_rfl
theorem makes : (Tryz.prog.make == some Rows.stepNamesRow.make) = true := by kernel_rfl
theorem closed : joinedFacts Tryz.prog 5 Tryz.f5 Rows.stepNamesSpec Rows.stepNamesRow = true := by
  unfold joinedFacts
  rw [facts.laid, facts.mapsR, facts.stops, facts.stopKnobs, facts.plain, facts.heard, facts.enter, inPl, unf, recu, vars, lifts, makes]
  kernel_rfl
theorem inst : Tryz.f5.isInstance Tryz.prog Rows.stepNamesRow.origin Rows.stepNamesRow.targs := of_decide_eq_true (by kernel_rfl)
theorem wrap : Tryz.f5.isWrapper Tryz.prog Rows.stepNamesRow.wrapper Rows.stepNamesRow.mainSum := by
  unfold Func.isWrapper; first | (rw [if_pos (by decide +kernel)]; kernel_rfl) | (rw [if_neg (by decide +kernel)]; exact ⟨rfl, rfl⟩)
theorem over : Rows.stepNamesRow.holds Tryz.pinned (OpenSpec.ofChange Rows.stepNamesSpec) :=
  OpenClaim.holds_of_wide 5 Tryz.f5 rfl rfl rfl rfl rfl rfl rfl ⟨rfl, rfl, rfl, rfl, rfl⟩ rfl rfl rfl rfl rfl named Tryz.func5 closed
    inst wrap (fun os started H enc _ => lifted os started H enc)

/-- ████ THE STATEMENT ████ -/
theorem proved : Rows.StepNamesSaid :=
  over
#print axioms proved
end Go.Proofs.YthclecbbebelhaaGreat.stepNames
