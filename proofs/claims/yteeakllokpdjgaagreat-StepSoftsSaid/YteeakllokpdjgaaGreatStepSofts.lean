/-
  An asked interrupt comes back behind the asking, and one that no gate lets has its fault at the instruction itself: the statement StepSofts holds for every number and both values of its second argument. Condition: the machine of the kit's model, one goroutine.
-/
import Derived.Test.YteeakllokpdjgaaGreatRows
import Derived.Test.YteeakllokpdjgaaGreatXSofts
import Derived.Test.YteeakllokpdjgaaGreatXFacts
import Derived.ProofKit
import Derived.OpenShut
namespace Go.Proofs.YteeakllokpdjgaaGreat.stepSofts
open Go.ChangeShapes Go.WideShapes Go.ChangeAt Go.RowKit

theorem own : ownKnob Tryz.prog.godebug = none := by kernel_rfl

/-! ### THE ROW's STEP -/
set_option maxRecDepth 100000 in
theorem lifted (os : Os) (started : os.Started) (H : Type) (enc : TypeId × Value → H) :
    ReturnsInHanded {} Tryz.checked os 7 .any (Rows.stepSoftsSpec.pre6 enc Tryz.prog Tryz.f7 Rows.stepSoftsRow.domain false) (Rows.stepSoftsSpec.post enc Tryz.prog Tryz.f7 false true false false) := by
  refine returnsInHanded_of_change (C := Tryz.checked) own started (by kernel_rfl) Tryz.func7
    (ChangeSpec.witness6 (enc := enc) (C := Tryz.checked) false ⟨#[], #[.int .i64 0, .bool false], []⟩ 40 (by kernel_rfl) (by kernel_rfl) (by kernel_rfl) (by kernel_rfl)) ?_
  intro W base args ds gs before hval0 hW _ _
  have hval : ∀ (j : Nat) t v, Tryz.f7.params[j]? = some t → args[j]? = some v → Value.okWide Tryz.prog W .any base t v := hval0
  have hW' := hW
  obtain ⟨p, q, hA0, hV, rfl, hfz, hnd⟩ := hW
  have hA : DataW.TrodAll enc Tryz.prog W 0 (fun _ => true) true Tryz.f7.params.toList args.toList ds p := hA0
  rw [Tryz.params7] at hA hval
  obtain ⟨v0, vs0, d0, ds0, p0, q0, hargs0, rfl, rfl, h0, r0⟩ := trodAll_cons hA
  obtain ⟨v1, vs1, d1, ds1, p1, q1, hargs1, rfl, rfl, h1, r1⟩ := trodAll_cons r0
  obtain ⟨rfl, rfl, rfl⟩ := trodAll_nil r1
  obtain rfl : args = #[v0, v1] := by cases args; simp_all
  obtain ⟨rfl, rfl⟩ := trodVars_none hV
  obtain ⟨n0, rfl, rfl, rfl, hw0⟩ := open_int Tryz.underlying3 (hval 0 3 v0 rfl rfl) h0
  obtain ⟨b1, rfl, rfl, rfl⟩ := open_bool Tryz.underlying4 (hval 1 4 v1 rfl rfl) h1
  clear hA0 hval0
  simp only [List.append_nil] at hW'
  refine (runs.walk n0 hw0 b1 W).mono fun e W' ⟨he, hg⟩ => ?_
  subst he
  exact ⟨_, rfl, Ev.post_still (pv := []) hW' (fun _ _ _ => (trodAll_cons_mk (shut_bool Tryz.underlying4 _) trodAll_mk0)) (fun sp _ => (trodAll_cons_mk (shut_int Tryz.underlying3 hw0) (trodAll_cons_mk (shut_bool Tryz.underlying4 _) trodAll_mk0))) (fun _ _ => rfl) hg⟩

/-! ### The closed facts of the row, one by one -/
theorem named : Tryz.prog.funcNamed Rows.stepSoftsRow.func = some 7 := by kernel_rfl
theorem inPl : (Rows.stepSoftsRow.inPlace == Tryz.prog.inPlace 7) = true := by kernel_rfl
theorem unf : (Rows.stepSoftsRow.unfollowed == Tryz.prog.unfollowed 7) = true := by kernel_rfl
theorem recu : (Rows.stepSoftsRow.recurses == Tryz.prog.recurses 7) = true := by kernel_rfl
theorem vars : (Rows.stepSoftsRow.named == Tryz.prog.varsNamed 7) = true := by kernel_rfl
theorem lifts : (Rows.stepSoftsRow.lifted == Tryz.prog.liftsFinal) = true := by kernel_rfl
theorem makes : (Tryz.prog.make == some Rows.stepSoftsRow.make) = true := by kernel_rfl
theorem closed : joinedFacts Tryz.prog 7 Tryz.f7 Rows.stepSoftsSpec Rows.stepSoftsRow = true := by
  unfold joinedFacts
  rw [facts.laid, facts.mapsR, facts.stops, facts.stopKnobs, facts.plain, facts.heard, facts.enter, inPl, unf, recu, vars, lifts, makes]
  kernel_rfl
theorem inst : Tryz.f7.isInstance Tryz.prog Rows.stepSoftsRow.origin Rows.stepSoftsRow.targs := of_decide_eq_true (by kernel_rfl)
theorem wrap : Tryz.f7.isWrapper Tryz.prog Rows.stepSoftsRow.wrapper Rows.stepSoftsRow.mainSum := by
  unfold Func.isWrapper; first | (rw [if_pos (by decide +kernel)]; kernel_rfl) | (rw [if_neg (by decide +kernel)]; exact ⟨rfl, rfl⟩)
theorem over : Rows.stepSoftsRow.holds Tryz.pinned (OpenSpec.ofChange Rows.stepSoftsSpec) :=
  OpenClaim.holds_of_wide 7 Tryz.f7 rfl rfl rfl rfl rfl rfl rfl ⟨rfl, rfl, rfl, rfl, rfl⟩ rfl rfl rfl rfl rfl named Tryz.func7 closed
    inst wrap (fun os started H enc _ => lifted os started H enc)

/-- ████ THE STATEMENT ████ -/
theorem proved : Rows.StepSoftsSaid :=
  over
#print axioms proved
end Go.Proofs.YteeakllokpdjgaaGreat.stepSofts
