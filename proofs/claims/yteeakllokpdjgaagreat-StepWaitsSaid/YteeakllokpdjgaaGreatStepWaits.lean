/-
  A processor that halted with its interrupts on waits as long as nothing comes, and is at the gate's place when a byte came: the statement StepWaits holds for every number and every byte. Condition: the machine of the kit's model, one goroutine.
-/
import Derived.Test.YteeakllokpdjgaaGreatRows
import Derived.Test.YteeakllokpdjgaaGreatXWaits
import Derived.Test.YteeakllokpdjgaaGreatXFacts
import Derived.ProofKit
import Derived.OpenShut
namespace Go.Proofs.YteeakllokpdjgaaGreat.stepWaits
open Go.ChangeShapes Go.WideShapes Go.ChangeAt Go.RowKit

theorem own : ownKnob Tryz.prog.godebug = none := by kernel_rfl

/-! ### THE ROW's STEP -/
set_option maxRecDepth 100000 in
theorem lifted (os : Os) (started : os.Started) (H : Type) (enc : TypeId × Value → H) :
    ReturnsInHanded {} Tryz.checked os 8 .any (Rows.stepWaitsSpec.pre6 enc Tryz.prog Tryz.f8 Rows.stepWaitsRow.domain false) (Rows.stepWaitsSpec.post enc Tryz.prog Tryz.f8 false true false false) := by
  refine returnsInHanded_of_change (C := Tryz.checked) own started (by kernel_rfl) Tryz.func8
    (ChangeSpec.witness6 (enc := enc) (C := Tryz.checked) false ⟨#[], #[.int .i64 0, .int .u8 0], []⟩ 40 (by kernel_rfl) (by kernel_rfl) (by kernel_rfl) (by kernel_rfl)) ?_
  intro W base args ds gs before hval0 hW _ _
  have hval : ∀ (j : Nat) t v, Tryz.f8.params[j]? = some t → args[j]? = some v → Value.okWide Tryz.prog W .any base t v := hval0
  have hW' := hW
  obtain ⟨p, q, hA0, hV, rfl, hfz, hnd⟩ := hW
  have hA : DataW.TrodAll enc Tryz.prog W 0 (fun _ => true) true Tryz.f8.params.toList args.toList ds p := hA0
  rw [Tryz.params8] at hA hval
  obtain ⟨v0, vs0, d0, ds0, p0, q0, hargs0, rfl, rfl, h0, r0⟩ := trodAll_cons hA
  obtain ⟨v1, vs1, d1, ds1, p1, q1, hargs1, rfl, rfl, h1, r1⟩ := trodAll_cons r0
  obtain ⟨rfl, rfl, rfl⟩ := trodAll_nil r1
  obtain rfl : args = #[v0, v1] := by cases args; simp_all
  obtain ⟨rfl, rfl⟩ := trodVars_none hV
  obtain ⟨n0, rfl, rfl, rfl, hw0⟩ := open_int Tryz.underlying3 (hval 0 3 v0 rfl rfl) h0
  obtain ⟨n1, rfl, rfl, rfl, hw1⟩ := open_int Tryz.underlying5 (hval 1 5 v1 rfl rfl) h1
  clear hA0 hval0
  simp only [List.append_nil] at hW'
  refine (runs.walk n0 hw0 n1 hw1 W).mono fun e W' ⟨he, hg⟩ => ?_
  subst he
  exact ⟨_, rfl, Ev.post_still (pv := []) hW' (fun _ _ _ => (trodAll_cons_mk (shut_bool Tryz.underlying4 _) trodAll_mk0)) (fun sp _ => (trodAll_cons_mk (shut_int Tryz.underlying3 hw0) (trodAll_cons_mk (shut_int Tryz.underlying5 hw1) trodAll_mk0))) (fun _ _ => rfl) hg⟩

/-! ### The closed facts of the row, one by one -/
theorem named : Tryz.prog.funcNamed Rows.stepWaitsRow.func = some 8 := by kernel_rfl
theorem inPl : (Rows.stepWaitsRow.inPlace == Tryz.prog.inPlace 8) = true := by kernel_rfl
theorem unf : (Rows.stepWaitsRow.unfollowed == Tryz.prog.unfollowed 8) = true := by kernel_rfl
theorem recu : (Rows.stepWaitsRow.recurses == Tryz.prog.recurses 8) = true := by kernel_rfl
theorem vars : (Rows.stepWaitsRow.named == Tryz.prog.varsNamed 8) = true := by kernel_rfl
theorem lifts : (Rows.stepWaitsRow.lifted == Tryz.prog.liftsFinal) = true := by kernel_rfl
theorem makes : (Tryz.prog.make == some Rows.stepWaitsRow.make) = true := by kernel_rfl
theorem closed : joinedFacts Tryz.prog 8 Tryz.f8 Rows.stepWaitsSpec Rows.stepWaitsRow = true := by
  unfold joinedFacts
  rw [facts.laid, facts.mapsR, facts.stops, facts.stopKnobs, facts.plain, facts.heard, facts.enter, inPl, unf, recu, vars, lifts, makes]
  kernel_rfl
theorem inst : Tryz.f8.isInstance Tryz.prog Rows.stepWaitsRow.origin Rows.stepWaitsRow.targs := of_decide_eq_true (by kernel_rfl)
theorem wrap : Tryz.f8.isWrapper Tryz.prog Rows.stepWaitsRow.wrapper Rows.stepWaitsRow.mainSum := by
  unfold Func.isWrapper; first | (rw [if_pos (by decide +kernel)]; kernel_rfl) | (rw [if_neg (by decide +kernel)]; exact ⟨rfl, rfl⟩)
theorem over : Rows.stepWaitsRow.holds Tryz.pinned (OpenSpec.ofChange Rows.stepWaitsSpec) :=
  OpenClaim.holds_of_wide 8 Tryz.f8 rfl rfl rfl rfl rfl rfl rfl ⟨rfl, rfl, rfl, rfl, rfl⟩ rfl rfl rfl rfl rfl named Tryz.func8 closed
    inst wrap (fun os started H enc _ => lifted os started H enc)

/-- ████ THE STATEMENT ████ -/
theorem proved : Rows.StepWaitsSaid :=
  over
#print axioms proved
end Go.Proofs.YteeakllokpdjgaaGreat.stepWaits
