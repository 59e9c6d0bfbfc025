/-
  Behind STI one instruction is done ahead of an interrupt that waits, and none behind one that was on: the statement StepShadows holds for both values of its argument. Condition: the machine of the kit's model, one goroutine.
-/
import Derived.Test.YthclecbbebelhaaGreatRows
import Derived.Test.YthclecbbebelhaaGreatSums5
import Derived.Test.YthclecbbebelhaaGreatFacts
import Derived.ProofKit
import Derived.OpenShut
namespace Go.Proofs.YthclecbbebelhaaGreat.stepShadows
open Go.ChangeShapes Go.WideShapes Go.ChangeAt Go.RowKit

theorem own : ownKnob Tryz.prog.godebug = none := by kernel_rfl

open Ev in
/-- the run over names, made by the evaluator inside the kernel -/
theorem run1 (b0 : Bool) : (evF Tryz.prog sums.envU 10000 (.call 7 [.bool b0]) G.init).sb = true := by cases b0 <;> kernel_rfl
theorem run (b0 : Bool) : (Ev.evF Tryz.prog sums.envU 10000 (.call 7 [.bool b0]) Ev.G.init).sb = true := run1 b0
theorem walk (b0 : Bool) (w : World) : Calls Tryz.prog 7 #[(.bool b0)] w fun e w' => e = .returned (.bool true) ∧ Ev.Still w w' :=
  Ev.args_sb sums.pf sums.envU_ok (by kernel_rfl) (run b0) (.cons (.bool _) .nil) w


/-! ### THE ROW's STEP -/
set_option maxRecDepth 100000 in
theorem lifted (os : Os) (started : os.Started) (H : Type) (enc : TypeId × Value → H) :
    ReturnsInHanded {} Tryz.checked os 7 .any (Rows.stepShadowsSpec.pre6 enc Tryz.prog Tryz.f7 Rows.stepShadowsRow.domain false) (Rows.stepShadowsSpec.post enc Tryz.prog Tryz.f7 false true false false) := by
  refine returnsInHanded_of_change (C := Tryz.checked) own started (by kernel_rfl) Tryz.func7
    (ChangeSpec.witness6 (enc := enc) (C := Tryz.checked) false ⟨#[], #[.bool false], []⟩ 40 (by kernel_rfl) (by kernel_rfl) (by kernel_rfl) (by kernel_rfl)) ?_
  intro W base args ds gs before hval0 hW _ _
  have hval : ∀ (j : Nat) t v, Tryz.f7.params[j]? = some t → args[j]? = some v → Value.okWide Tryz.prog W .any base t v := hval0
  have hW' := hW
  obtain ⟨p, q, hA0, hV, rfl, hfz, hnd⟩ := hW
  have hA : DataW.TrodAll enc Tryz.prog W 0 (fun _ => true) true Tryz.f7.params.toList args.toList ds p := hA0
  rw [Tryz.params7] at hA hval
  obtain ⟨v0, vs0, d0, ds0, p0, q0, hargs0, rfl, rfl, h0, r0⟩ := trodAll_cons hA
  obtain ⟨rfl, rfl, rfl⟩ := trodAll_nil r0
  obtain rfl : args = #[v0] := by cases args; simp_all
  obtain ⟨rfl, rfl⟩ := trodVars_none hV
  obtain ⟨b0, rfl, rfl, rfl⟩ := open_bool Tryz.underlying4 (hval 0 4 v0 rfl rfl) h0
  clear hA0 hval0
  simp only [List.append_nil] at hW'
  refine (walk b0 W).mono fun e W' ⟨he, hg⟩ => ?_
  subst he
  exact ⟨_, rfl, Ev.post_still (pv := []) hW' (fun _ _ _ => (trodAll_cons_mk (shut_bool Tryz.underlying4 _) trodAll_mk0)) (fun sp _ => (trodAll_cons_mk (shut_bool Tryz.underlying4 _) trodAll_mk0)) (fun _ _ => rfl) hg⟩

/-! ### The closed facts of the row, one by one -/
theorem named : Tryz.prog.funcNamed Rows.stepShadowsRow.func = some 7 := by kernel_rfl
theorem inPl : (Rows.stepShadowsRow.inPlace == Tryz.prog.inPlace 7) = true := by kernel_rfl
theorem unf : (Rows.stepShadowsRow.unfollowed == Tryz.prog.unfollowed 7) = true := by kernel_rfl
theorem recu : (Rows.stepShadowsRow.recurses == Tryz.prog.recurses 7) = true := by kernel_rfl
theorem vars : (Rows.stepShadowsRow.named == Tryz.prog.varsNamed 7) = true := by kernel_rfl
theorem lifts : (Rows.stepShadowsRow.lifted == Tryz.prog.liftsFinal) = true := by kernel_rfl
theorem makes : (Tryz.prog.make == some Rows.stepShadowsRow.make) = true := by kernel_rfl
theorem closed : joinedFacts Tryz.prog 7 Tryz.f7 Rows.stepShadowsSpec Rows.stepShadowsRow = true := by
  unfold joinedFacts
  rw [facts.laid, facts.mapsR, facts.stops, facts.stopKnobs, facts.plain, facts.heard, facts.enter, inPl, unf, recu, vars, lifts, makes]
  kernel_rfl
theorem inst : Tryz.f7.isInstance Tryz.prog Rows.stepShadowsRow.origin Rows.stepShadowsRow.targs := of_decide_eq_true (by kernel_rfl)
theorem wrap : Tryz.f7.isWrapper Tryz.prog Rows.stepShadowsRow.wrapper Rows.stepShadowsRow.mainSum := by
  unfold Func.isWrapper; first | (rw [if_pos (by decide +kernel)]; kernel_rfl) | (rw [if_neg (by decide +kernel)]; exact ⟨rfl, rfl⟩)
theorem over : Rows.stepShadowsRow.holds Tryz.pinned (OpenSpec.ofChange Rows.stepShadowsSpec) :=
  OpenClaim.holds_of_wide 7 Tryz.f7 rfl rfl rfl rfl rfl rfl rfl ⟨rfl, rfl, rfl, rfl, rfl⟩ rfl rfl rfl rfl rfl named Tryz.func7 closed
    inst wrap (fun os started H enc _ => lifted os started H enc)

/-- ████ THE STATEMENT ████ -/
theorem proved : Rows.StepShadowsSaid :=
  over
#print axioms proved
end Go.Proofs.YthclecbbebelhaaGreat.stepShadows
