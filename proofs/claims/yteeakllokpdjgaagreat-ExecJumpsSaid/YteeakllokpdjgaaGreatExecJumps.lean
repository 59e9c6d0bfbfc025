/-
  A jump by a condition is done just where the condition holds by the flags, to the same place in both forms: the statement ExecJumps holds for every condition, all flags and every distance. Condition: the machine of the kit's model, one goroutine.
-/
import Derived.Test.YteeakllokpdjgaaGreatRows
import Derived.Test.YteeakllokpdjgaaGreatHJumps
import Derived.Test.YteeakllokpdjgaaGreatHFacts
import Derived.ProofKit
import Derived.OpenShut
namespace Go.Proofs.YteeakllokpdjgaaGreat.execJumps
open Go.ChangeShapes Go.WideShapes Go.ChangeAt Go.RowKit

theorem own : ownKnob Tryz.prog.godebug = none := by kernel_rfl

/-! ### THE ROW's STEP -/
set_option maxRecDepth 100000 in
theorem lifted (os : Os) (started : os.Started) (H : Type) (enc : TypeId × Value → H) :
    ReturnsInHanded {} Tryz.checked os 4 .any (Rows.execJumpsSpec.pre6 enc Tryz.prog Tryz.f4 Rows.execJumpsRow.domain false) (Rows.execJumpsSpec.post enc Tryz.prog Tryz.f4 false true false false) := by
  refine returnsInHanded_of_change (C := Tryz.checked) own started (by kernel_rfl) Tryz.func4
    (ChangeSpec.witness6 (enc := enc) (C := Tryz.checked) false ⟨#[], #[.int .i64 0, .int .u32 0, .int .i8 0], []⟩ 40 (by kernel_rfl) (by kernel_rfl) (by kernel_rfl) (by kernel_rfl)) ?_
  intro W base args ds gs before hval0 hW _ _
  have hval : ∀ (j : Nat) t v, Tryz.f4.params[j]? = some t → args[j]? = some v → Value.okWide Tryz.prog W .any base t v := hval0
  have hW' := hW
  obtain ⟨p, q, hA0, hV, rfl, hfz, hnd⟩ := hW
  have hA : DataW.TrodAll enc Tryz.prog W 0 (fun _ => true) true Tryz.f4.params.toList args.toList ds p := hA0
  rw [Tryz.params4] at hA hval
  obtain ⟨v0, vs0, d0, ds0, p0, q0, hargs0, rfl, rfl, h0, r0⟩ := trodAll_cons hA
  obtain ⟨v1, vs1, d1, ds1, p1, q1, hargs1, rfl, rfl, h1, r1⟩ := trodAll_cons r0
  obtain ⟨v2, vs2, d2, ds2, p2, q2, hargs2, rfl, rfl, h2, r2⟩ := trodAll_cons r1
  obtain ⟨rfl, rfl, rfl⟩ := trodAll_nil r2
  obtain rfl : args = #[v0, v1, v2] := by cases args; simp_all
  obtain ⟨rfl, rfl⟩ := trodVars_none hV
  obtain ⟨n0, rfl, rfl, rfl, hw0⟩ := open_int Tryz.underlying3 (hval 0 3 v0 rfl rfl) h0
  obtain ⟨n1, rfl, rfl, rfl, hw1⟩ := open_int Tryz.underlying22 (hval 1 22 v1 rfl rfl) h1
  obtain ⟨n2, rfl, rfl, rfl, hw2⟩ := open_int Tryz.underlying52 (hval 2 52 v2 rfl rfl) h2
  clear hA0 hval0
  simp only [List.append_nil] at hW'
  refine (runs.walk n0 hw0 n1 hw1 n2 hw2 W).mono fun e W' ⟨he, hg⟩ => ?_
  subst he
  exact ⟨_, rfl, Ev.post_still (pv := []) hW' (fun _ _ _ => (trodAll_cons_mk (shut_bool Tryz.underlying4 _) trodAll_mk0)) (fun sp _ => (trodAll_cons_mk (shut_int Tryz.underlying3 hw0) (trodAll_cons_mk (shut_int Tryz.underlying22 hw1) (trodAll_cons_mk (shut_int Tryz.underlying52 hw2) trodAll_mk0)))) (fun _ _ => rfl) hg⟩

/-! ### The closed facts of the row, one by one -/
theorem named : Tryz.prog.funcNamed Rows.execJumpsRow.func = some 4 := by kernel_rfl
theorem inPl : (Rows.execJumpsRow.inPlace == Tryz.prog.inPlace 4) = true := by kernel_rfl
theorem unf : (Rows.execJumpsRow.unfollowed == Tryz.prog.unfollowed 4) = true := by kernel_rfl
theorem recu : (Rows.execJumpsRow.recurses == Tryz.prog.recurses 4) = true := by kernel_rfl
theorem vars : (Rows.execJumpsRow.named == Tryz.prog.varsNamed 4) = true := by kernel_rfl
theorem lifts : (Rows.execJumpsRow.lifted == Tryz.prog.liftsFinal) = true := by kernel_rfl
theorem makes : (Tryz.prog.make == some Rows.execJumpsRow.make) = true := by kernel_rfl
theorem closed : joinedFacts Tryz.prog 4 Tryz.f4 Rows.execJumpsSpec Rows.execJumpsRow = true := by
  unfold joinedFacts
  rw [facts.laid, facts.mapsR, facts.stops, facts.stopKnobs, facts.plain, facts.heard, facts.enter, inPl, unf, recu, vars, lifts, makes]
  kernel_rfl
theorem inst : Tryz.f4.isInstance Tryz.prog Rows.execJumpsRow.origin Rows.execJumpsRow.targs := of_decide_eq_true (by kernel_rfl)
theorem wrap : Tryz.f4.isWrapper Tryz.prog Rows.execJumpsRow.wrapper Rows.execJumpsRow.mainSum := by
  unfold Func.isWrapper; first | (rw [if_pos (by decide +kernel)]; kernel_rfl) | (rw [if_neg (by decide +kernel)]; exact ⟨rfl, rfl⟩)
theorem over : Rows.execJumpsRow.holds Tryz.pinned (OpenSpec.ofChange Rows.execJumpsSpec) :=
  OpenClaim.holds_of_wide 4 Tryz.f4 rfl rfl rfl rfl rfl rfl rfl ⟨rfl, rfl, rfl, rfl, rfl⟩ rfl rfl rfl rfl rfl named Tryz.func4 closed
    inst wrap (fun os started H enc _ => lifted os started H enc)

/-- ████ THE STATEMENT ████ -/
theorem proved : Rows.ExecJumpsSaid :=
  over
#print axioms proved
end Go.Proofs.YteeakllokpdjgaaGreat.execJumps
