/-
  'drawloom/drawloomlaw19.StepNil' returns true at every processor, whatever the world it starts in. No condition.
-/
import Derived.Test.YthclecbbebelhaaGreatRows
import Derived.Test.YthclecbbebelhaaGreatSums3
import Derived.Test.YthclecbbebelhaaGreatFacts
import Derived.Test.YthclecbbebelhaaGreatCpuS
import Derived.ProofKit
import Derived.OpenShut
namespace Go.Proofs.YthclecbbebelhaaGreat.stepNil
open Go.ChangeShapes Go.WideShapes Go.ChangeAt Go.RowKit

theorem own : ownKnob Tryz.prog.godebug = none := by kernel_rfl

open Ev in
/-- the run over names, made by the evaluator inside the kernel -/
theorem run1 (c : Nat → Int) (b : Nat → Bool) : (evF Tryz.prog sums.env3 10000 (.call 6 [cpu.cpuA c b]) G.init).sb = (eqrB (aeq Tryz.prog .lf 12 34 (cpu.cpuA c b) (cpu.cpuA c b)) && true) := by kernel_rfl
open Ev in
theorem isS (c : Nat → Int) (b : Nat → Bool) : (aeq Tryz.prog .lf 12 34 (cpu.cpuA c b) (cpu.cpuA c b)).isSome = true := by kernel_rfl
open Ev in
theorem run (c : Nat → Int) (b : Nat → Bool) : (evF Tryz.prog sums.env3 10000 (.call 6 [cpu.cpuA c b]) G.init).sb = true := by
  rw [run1]
  have h := isS c b
  cases e : aeq Tryz.prog .lf 12 34 (cpu.cpuA c b) (cpu.cpuA c b) with
  | none => rw [e] at h; cases h
  | some r => simp only [eqrB, aeq_refl 12 34 _ r e, Bool.and_self]
theorem walk (c : Nat → Int) (b : Nat → Bool) (w : World) : Calls Tryz.prog 6 #[(.agg (Ev.symV c b 0 cpu.cpuS).toArray)] w fun e w' => e = .returned (.bool true) ∧ Ev.Still w w' :=
  Ev.args_sb sums.pf sums.env3_ok (by kernel_rfl) (run c b) (.cons (cpu.cpu_VR _ c b) .nil) w


/-! ### THE ROW's STEP -/
set_option maxRecDepth 100000 in
theorem lifted (os : Os) (started : os.Started) (H : Type) (enc : TypeId × Value → H) :
    ReturnsInHanded {} Tryz.checked os 6 .any (Rows.stepNilSpec.pre6 enc Tryz.prog Tryz.f6 Rows.stepNilRow.domain false) (Rows.stepNilSpec.post enc Tryz.prog Tryz.f6 false true false false) := by
  refine returnsInHanded_of_change (C := Tryz.checked) own started (by kernel_rfl) Tryz.func6
    (ChangeSpec.witness6 (enc := enc) (C := Tryz.checked) false ⟨#[], #[.agg #[.int .u32 0, .int .u32 0, .int .u32 0, .int .u32 0, .int .u32 0, .int .u32 0, .int .u32 0, .int .u32 0, .int .u32 0, .int .u32 0, .int .u16 0, .bool false, .int .u32 0, .int .u32 0, .int .i64 0, .bool false, .int .i64 0, .bool false, .bool false, .int .u16 0, .bool false, .int .u32 0, .int .u32 0, .int .i64 0, .bool false, .int .i64 0, .bool false, .bool false, .int .u16 0, .bool false, .int .u32 0, .int .u32 0, .int .i64 0, .bool false, .int .i64 0, .bool false, .bool false, .int .u16 0, .bool false, .int .u32 0, .int .u32 0, .int .i64 0, .bool false, .int .i64 0, .bool false, .bool false, .int .u16 0, .bool false, .int .u32 0, .int .u32 0, .int .i64 0, .bool false, .int .i64 0, .bool false, .bool false, .int .u16 0, .bool false, .int .u32 0, .int .u32 0, .int .i64 0, .bool false, .int .i64 0, .bool false, .bool false, .int .u32 0, .int .u32 0, .int .u32 0, .int .u32 0, .int .u16 0, .int .u32 0, .int .u16 0, .int .u16 0, .bool false, .int .u32 0, .int .u32 0, .int .i64 0, .bool false, .int .i64 0, .bool false, .bool false, .bool false, .bool false, .bool false]], []⟩ 40 (by kernel_rfl) (by kernel_rfl) (by kernel_rfl) (by kernel_rfl)) ?_
  intro W base args ds gs before hval0 hW _ _
  have hval : ∀ (j : Nat) t v, Tryz.f6.params[j]? = some t → args[j]? = some v → Value.okWide Tryz.prog W .any base t v := hval0
  have hW' := hW
  obtain ⟨p, q, hA0, hV, rfl, hfz, hnd⟩ := hW
  have hA : DataW.TrodAll enc Tryz.prog W 0 (fun _ => true) true Tryz.f6.params.toList args.toList ds p := hA0
  rw [Tryz.params6] at hA hval
  obtain ⟨v0, vs0, d0, ds0, p0, q0, hargs0, rfl, rfl, h0, r0⟩ := trodAll_cons hA
  obtain ⟨rfl, rfl, rfl⟩ := trodAll_nil r0
  obtain rfl : args = #[v0] := by cases args; simp_all
  obtain ⟨rfl, rfl⟩ := trodVars_none hV
  have g0 := fun (sp : Nat → Bool) (W' : World) => Ev.Trod_world (w' := W') (base' := 0) (spare' := sp) (held' := true) cpu.shape h0
  obtain ⟨c, b, rfl⟩ := Ev.open_plain cpu.shape (by decide) h0
  clear hA0 hval0
  simp only [List.append_nil] at hW'
  refine (walk c b W).mono fun e W' ⟨he, hg⟩ => ?_
  subst he
  exact ⟨_, rfl, Ev.post_still (pv := []) hW' (fun _ _ _ => (trodAll_cons_mk (shut_bool Tryz.underlying4 _) trodAll_mk0)) (fun sp _ => (trodAll_cons_mk (g0 sp _) trodAll_mk0)) (fun _ _ => rfl) hg⟩

/-! ### The closed facts of the row, one by one -/
theorem named : Tryz.prog.funcNamed Rows.stepNilRow.func = some 6 := by kernel_rfl
theorem inPl : (Rows.stepNilRow.inPlace == Tryz.prog.inPlace 6) = true := by kernel_rfl
theorem unf : (Rows.stepNilRow.unfollowed == Tryz.prog.unfollowed 6) = true := by kernel_rfl
theorem recu : (Rows.stepNilRow.recurses == Tryz.prog.recurses 6) = true := by kernel_rfl
theorem vars : (Rows.stepNilRow.named == Tryz.prog.varsNamed 6) = true := by kernel_rfl
theorem lifts : (Rows.stepNilRow.lifted == Tryz.prog.liftsFinal) = true := by kernel_rfl
theorem makes : (Tryz.prog.make == some Rows.stepNilRow.make) = true := by kernel_rfl
theorem closed : joinedFacts Tryz.prog 6 Tryz.f6 Rows.stepNilSpec Rows.stepNilRow = true := by
  unfold joinedFacts
  rw [facts.laid, facts.mapsR, facts.stops, facts.stopKnobs, facts.plain, facts.heard, facts.enter, inPl, unf, recu, vars, lifts, makes]
  kernel_rfl
theorem inst : Tryz.f6.isInstance Tryz.prog Rows.stepNilRow.origin Rows.stepNilRow.targs := of_decide_eq_true (by kernel_rfl)
theorem wrap : Tryz.f6.isWrapper Tryz.prog Rows.stepNilRow.wrapper Rows.stepNilRow.mainSum := by
  unfold Func.isWrapper; first | (rw [if_pos (by decide +kernel)]; kernel_rfl) | (rw [if_neg (by decide +kernel)]; exact ⟨rfl, rfl⟩)
theorem over : Rows.stepNilRow.holds Tryz.pinned (OpenSpec.ofChange Rows.stepNilSpec) :=
  OpenClaim.holds_of_wide 6 Tryz.f6 rfl rfl rfl rfl rfl rfl rfl ⟨rfl, rfl, rfl, rfl, rfl⟩ rfl rfl rfl rfl rfl named Tryz.func6 closed
    inst wrap (fun os started H enc _ => lifted os started H enc)

/-- ████ THE STATEMENT ████ -/
theorem proved : Rows.StepNilSaid :=
  over
#print axioms proved
end Go.Proofs.YthclecbbebelhaaGreat.stepNil
