/-
  'drawloom/drawloomlaw17.ExecNames' returns true, whatever the world it starts in; it takes no input. No condition.
-/
import Derived.Test.YthclecbbebelhaaGreatRows
import Derived.Test.YthclecbbebelhaaGreatSums
import Derived.Test.YthclecbbebelhaaGreatFacts
import Derived.ProofKit
import Derived.OpenShut
namespace Go.Proofs.YthclecbbebelhaaGreat.execNames
open Go.ChangeShapes Go.WideShapes Go.ChangeAt Go.RowKit

theorem own : ownKnob Tryz.prog.godebug = none := by kernel_rfl

/-- the run, made by the evaluator inside the kernel -/
theorem run : (Ev.evF Tryz.prog sums.env1 10000 (.call 3 []) Ev.G.init).yes = true := by kernel_rfl
theorem walk (w : World) : Calls Tryz.prog 3 #[] w fun e w' => e = .returned (.bool true) ∧ Ev.Still w w' :=
  Ev.args_yes sums.pf sums.env1_ok (by kernel_rfl) run .nil w

/-! ### THE ROW's STEP: WRITTEN OUT: LEAVE IT -/
set_option maxRecDepth 100000 in
theorem lifted (os : Os) (started : os.Started) (H : Type) (enc : TypeId × Value → H) :
    ReturnsInHanded {} Tryz.checked os 3 .any (Rows.execNamesSpec.pre6 enc Tryz.prog Tryz.f3 Rows.execNamesRow.domain false) (Rows.execNamesSpec.post enc Tryz.prog Tryz.f3 false true false false) := by
  refine returnsInHanded_of_change (C := Tryz.checked) own started (by kernel_rfl) Tryz.func3
    (ChangeSpec.witness6 (enc := enc) (C := Tryz.checked) false ⟨#[], #[], []⟩ 8 (by kernel_rfl) (by kernel_rfl) (by kernel_rfl) (by kernel_rfl)) ?_
  intro W base args ds gs before _ hW _ _
  have hW' := hW
  obtain ⟨p, q, hA0, hV, rfl, hfz, hnd⟩ := hW
  have hA : DataW.TrodAll enc Tryz.prog W 0 (fun _ => true) true Tryz.f3.params.toList args.toList ds p := hA0
  rw [Tryz.params3] at hA
  obtain ⟨rfl, rfl, rfl⟩ := trodAll_none hA
  obtain ⟨rfl, rfl⟩ := trodVars_none hV
  clear hA0
  simp only [List.append_nil] at hW'
  refine (walk W).mono fun e W' ⟨he, hg⟩ => ?_
  subst he
  exact ⟨_, rfl, Ev.post_still (pa := []) (pv := []) hW' (fun _ _ _ => (trodAll_cons_mk (shut_bool Tryz.underlying4 _) trodAll_mk0)) (fun sp _ => rfl) (fun _ _ => rfl) hg⟩

/-! ### The closed facts of the row, one by one -/
theorem named : Tryz.prog.funcNamed Rows.execNamesRow.func = some 3 := by kernel_rfl
theorem inPl : (Rows.execNamesRow.inPlace == Tryz.prog.inPlace 3) = true := by kernel_rfl
theorem unf : (Rows.execNamesRow.unfollowed == Tryz.prog.unfollowed 3) = true := by kernel_rfl
theorem recu : (Rows.execNamesRow.recurses == Tryz.prog.recurses 3) = true := by kernel_rfl
theorem vars : (Rows.execNamesRow.named == Tryz.prog.varsNamed 3) = true := by kernel_rfl
theorem lifts : (Rows.execNamesRow.lifted == Tryz.prog.liftsFinal) = true := by kernel_rfl
theorem makes : (Tryz.prog.make == some Rows.execNamesRow.make) = true := by kernel_rfl
theorem closed : joinedFacts Tryz.prog 3 Tryz.f3 Rows.execNamesSpec Rows.execNamesRow = true := by
  unfold joinedFacts
  rw [facts.laid, facts.mapsR, facts.stops, facts.stopKnobs, facts.plain, facts.heard, facts.enter, inPl, unf, recu, vars, lifts, makes]
  kernel_rfl
theorem inst : Tryz.f3.isInstance Tryz.prog Rows.execNamesRow.origin Rows.execNamesRow.targs := of_decide_eq_true (by kernel_rfl)
theorem wrap : Tryz.f3.isWrapper Tryz.prog Rows.execNamesRow.wrapper Rows.execNamesRow.mainSum := by
  unfold Func.isWrapper; first | (rw [if_pos (by decide +kernel)]; kernel_rfl) | (rw [if_neg (by decide +kernel)]; exact ⟨rfl, rfl⟩)
theorem over : Rows.execNamesRow.holds Tryz.pinned (OpenSpec.ofChange Rows.execNamesSpec) :=
  OpenClaim.holds_of_wide 3 Tryz.f3 rfl rfl rfl rfl rfl rfl rfl ⟨rfl, rfl, rfl, rfl, rfl⟩ rfl rfl rfl rfl rfl named Tryz.func3 closed
    inst wrap (fun os started H enc _ => lifted os started H enc)

/-- ████ THE STATEMENT ████ -/
theorem proved : Rows.ExecNamesSaid :=
  over
#print axioms proved
end Go.Proofs.YthclecbbebelhaaGreat.execNames
