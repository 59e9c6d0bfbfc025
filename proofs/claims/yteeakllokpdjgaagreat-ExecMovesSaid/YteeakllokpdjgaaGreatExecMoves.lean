/-
  What is moved from a register to another one, or through memory, is there, of each size, and nothing else is another: the statement ExecMoves holds for all registers, all numbers and both sizes. Condition: the machine of the kit's model, one goroutine.
-/
import Derived.Test.YteeakllokpdjgaaGreatRows
import Derived.Test.YteeakllokpdjgaaGreatHMoves
import Derived.Test.YteeakllokpdjgaaGreatHFacts
import Derived.ProofKit
import Derived.OpenShut
namespace Go.Proofs.YteeakllokpdjgaaGreat.execMoves
open Go.ChangeShapes Go.WideShapes Go.ChangeAt Go.RowKit

theorem own : ownKnob Tryz.prog.godebug = none := by kernel_rfl

/-! ### THE ROW's STEP -/
set_option maxRecDepth 100000 in
theorem lifted (os : Os) (started : os.Started) (H : Type) (enc : TypeId × Value → H) :
    ReturnsInHanded {} Tryz.checked os 3 .any (Rows.execMovesSpec.pre6 enc Tryz.prog Tryz.f3 Rows.execMovesRow.domain false) (Rows.execMovesSpec.post enc Tryz.prog Tryz.f3 false true false false) := by
  refine returnsInHanded_of_change (C := Tryz.checked) own started (by kernel_rfl) Tryz.func3
    (ChangeSpec.witness6 (enc := enc) (C := Tryz.checked) false ⟨#[], #[.agg #[.int .u32 0, .int .u32 0, .int .u32 0, .int .u32 0, .int .u32 0, .int .u32 0, .int .u32 0, .int .u32 0], .int .i64 0, .int .i64 0, .bool false], []⟩ 40 (by kernel_rfl) (by kernel_rfl) (by kernel_rfl) (by kernel_rfl)) ?_
  intro W base args ds gs before hval0 hW _ _
  have hval : ∀ (j : Nat) t v, Tryz.f3.params[j]? = some t → args[j]? = some v → Value.okWide Tryz.prog W .any base t v := hval0
  have hW' := hW
  obtain ⟨p, q, hA0, hV, rfl, hfz, hnd⟩ := hW
  have hA : DataW.TrodAll enc Tryz.prog W 0 (fun _ => true) true Tryz.f3.params.toList args.toList ds p := hA0
  rw [Tryz.params3] at hA hval
  obtain ⟨v0, vs0, d0, ds0, p0, q0, hargs0, rfl, rfl, h0, r0⟩ := trodAll_cons hA
  obtain ⟨v1, vs1, d1, ds1, p1, q1, hargs1, rfl, rfl, h1, r1⟩ := trodAll_cons r0
  obtain ⟨v2, vs2, d2, ds2, p2, q2, hargs2, rfl, rfl, h2, r2⟩ := trodAll_cons r1
  obtain ⟨v3, vs3, d3, ds3, p3, q3, hargs3, rfl, rfl, h3, r3⟩ := trodAll_cons r2
  obtain ⟨rfl, rfl, rfl⟩ := trodAll_nil r3
  obtain rfl : args = #[v0, v1, v2, v3] := by cases args; simp_all
  obtain ⟨rfl, rfl⟩ := trodVars_none hV
  have hu0 := Ev.arr_wf (n := 8) (k := .u32) Tryz.underlying23 Tryz.underlying22 (by kernel_rfl) h0
  have g0 := fun (sp : Nat → Bool) (W' : World) => Ev.Trod_world (w' := W') (base' := 0) (spare' := sp) (held' := true) runs.shape h0
  obtain ⟨c, b, rfl⟩ := Ev.open_plain runs.shape (by decide) h0
  have hu : ∀ i, i < 8 → (Lit.int .u32 (c i)).wf = true := by
    intro i hi
    obtain ⟨m, e1, e2⟩ := hu0 i hi
    have e3 : ((Value.agg (Ev.symV c b 0 runs.regsS).toArray).cells.toList)[i]? = some (.int .u32 (c i)) := by
      match i, hi with
      | 0, _ => rfl
      | 1, _ => rfl
      | 2, _ => rfl
      | 3, _ => rfl
      | 4, _ => rfl
      | 5, _ => rfl
      | 6, _ => rfl
      | 7, _ => rfl
      | i + 8, h => omega
    rw [e3] at e1; injection e1 with e1; injection e1 with _ e1; rw [e1]; exact e2
  obtain ⟨n1, rfl, rfl, rfl, hw1⟩ := open_int Tryz.underlying3 (hval 1 3 v1 rfl rfl) h1
  obtain ⟨n2, rfl, rfl, rfl, hw2⟩ := open_int Tryz.underlying3 (hval 2 3 v2 rfl rfl) h2
  obtain ⟨b3, rfl, rfl, rfl⟩ := open_bool Tryz.underlying4 (hval 3 4 v3 rfl rfl) h3
  clear hA0 hval0
  simp only [List.append_nil] at hW'
  refine (runs.walk c b hu n1 hw1 n2 hw2 b3 W).mono fun e W' ⟨he, hg⟩ => ?_
  subst he
  exact ⟨_, rfl, Ev.post_still (pv := []) hW' (fun _ _ _ => (trodAll_cons_mk (shut_bool Tryz.underlying4 _) trodAll_mk0)) (fun sp _ => (trodAll_cons_mk (g0 sp _) (trodAll_cons_mk (shut_int Tryz.underlying3 hw1) (trodAll_cons_mk (shut_int Tryz.underlying3 hw2) (trodAll_cons_mk (shut_bool Tryz.underlying4 _) trodAll_mk0))))) (fun _ _ => rfl) hg⟩

/-! ### The closed facts of the row, one by one -/
theorem named : Tryz.prog.funcNamed Rows.execMovesRow.func = some 3 := by kernel_rfl
theorem inPl : (Rows.execMovesRow.inPlace == Tryz.prog.inPlace 3) = true := by kernel_rfl
theorem unf : (Rows.execMovesRow.unfollowed == Tryz.prog.unfollowed 3) = true := by kernel_rfl
theorem recu : (Rows.execMovesRow.recurses == Tryz.prog.recurses 3) = true := by kernel_rfl
theorem vars : (Rows.execMovesRow.named == Tryz.prog.varsNamed 3) = true := by kernel_rfl
theorem lifts : (Rows.execMovesRow.lifted == Tryz.prog.liftsFinal) = true := by kernel_rfl
theorem makes : (Tryz.prog.make == some Rows.execMovesRow.make) = true := by kernel_rfl
theorem closed : joinedFacts Tryz.prog 3 Tryz.f3 Rows.execMovesSpec Rows.execMovesRow = true := by
  unfold joinedFacts
  rw [facts.laid, facts.mapsR, facts.stops, facts.stopKnobs, facts.plain, facts.heard, facts.enter, inPl, unf, recu, vars, lifts, makes]
  kernel_rfl
theorem inst : Tryz.f3.isInstance Tryz.prog Rows.execMovesRow.origin Rows.execMovesRow.targs := of_decide_eq_true (by kernel_rfl)
theorem wrap : Tryz.f3.isWrapper Tryz.prog Rows.execMovesRow.wrapper Rows.execMovesRow.mainSum := by
  unfold Func.isWrapper; first | (rw [if_pos (by decide +kernel)]; kernel_rfl) | (rw [if_neg (by decide +kernel)]; exact ⟨rfl, rfl⟩)
theorem over : Rows.execMovesRow.holds Tryz.pinned (OpenSpec.ofChange Rows.execMovesSpec) :=
  OpenClaim.holds_of_wide 3 Tryz.f3 rfl rfl rfl rfl rfl rfl rfl ⟨rfl, rfl, rfl, rfl, rfl⟩ rfl rfl rfl rfl rfl named Tryz.func3 closed
    inst wrap (fun os started H enc _ => lifted os started H enc)

/-- ████ THE STATEMENT ████ -/
theorem proved : Rows.ExecMovesSaid :=
  over
#print axioms proved
end Go.Proofs.YteeakllokpdjgaaGreat.execMoves
