/-
  'drawloom/drawloomlaw17.ExecNil' returns true at every processor and every selector, whatever the world it starts in. No condition.
-/
import Derived.Test.YthclecbbebelhaaGreatRows
import Derived.Test.YthclecbbebelhaaGreatSums4
import Derived.Test.YthclecbbebelhaaGreatFacts
import Derived.Test.YthclecbbebelhaaGreatCpuS
import Derived.ProofKit
import Derived.OpenShut
namespace Go.Proofs.YthclecbbebelhaaGreat.execNil
open Go.ChangeShapes Go.WideShapes Go.ChangeAt Go.RowKit

theorem own : ownKnob Tryz.prog.godebug = none := by kernel_rfl

open Ev in
/-- the run over names, made by the evaluator inside the kernel -/
theorem run1 (c : Nat → Int) (b : Nat → Bool) (n1 : Int) : (evF Tryz.prog sums.env4 10000 (.call 4 [cpu.cpuA c b, .sint .u16 n1]) G.init).sb = true := by kernel_rfl
theorem run (c : Nat → Int) (b : Nat → Bool) (n1 : Int) : (Ev.evF Tryz.prog sums.env4 10000 (.call 4 [cpu.cpuA c b, .sint .u16 n1]) Ev.G.init).sb = true := run1 c b n1
theorem walk (c : Nat → Int) (b : Nat → Bool) (n1 : Int) (w : World) : Calls Tryz.prog 4 #[(.agg (Ev.symV c b 0 cpu.cpuS).toArray), (.int .u16 n1)] w fun e w' => e = .returned (.bool true) ∧ Ev.Still w w' :=
  Ev.args_sb sums.pf sums.env4_ok (by kernel_rfl) (run c b n1) (.cons (cpu.cpu_VR _ c b) (.cons (.sint _ _) .nil)) w


/-! ### THE ROW's STEP -/
set_option maxRecDepth 100000 in
theorem lifted (os : Os) (started : os.Started) (H : Type) (enc : TypeId × Value → H) :
    ReturnsInHanded {} Tryz.checked os 4 .any (Rows.execNilSpec.pre6 enc Tryz.prog Tryz.f4 Rows.execNilRow.domain false) (Rows.execNilSpec.post enc Tryz.prog Tryz.f4 false true false false) := by
  refine returnsInHanded_of_change (C := Tryz.checked) own started (by kernel_rfl) Tryz.func4
    (ChangeSpec.witness6 (enc := enc) (C := Tryz.checked) false ⟨#[], #[.agg #[.int .u32 0, .int .u32 0, .int .u32 0, .int .u32 0, .int .u32 0, .int .u32 0, .int .u32 0, .int .u32 0, .int .u32 0, .int .u32 0, .int .u16 0, .bool false, .int .u32 0, .int .u32 0, .int .i64 0, .bool false, .int .i64 0, .bool false, .bool false, .int .u16 0, .bool false, .int .u32 0, .int .u32 0, .int .i64 0, .bool false, .int .i64 0, .bool false, .bool false, .int .u16 0, .bool false, .int .u32 0, .int .u32 0, .int .i64 0, .bool false, .int .i64 0, .bool false, .bool false, .int .u16 0, .bool false, .int .u32 0, .int .u32 0, .int .i64 0, .bool false, .int .i64 0, .bool false, .bool false, .int .u16 0, .bool false, .int .u32 0, .int .u32 0, .int .i64 0, .bool false, .int .i64 0, .bool false, .bool false, .int .u16 0, .bool false, .int .u32 0, .int .u32 0, .int .i64 0, .bool false, .int .i64 0, .bool false, .bool false, .int .u32 0, .int .u32 0, .int .u32 0, .int .u32 0, .int .u16 0, .int .u32 0, .int .u16 0, .int .u16 0, .bool false, .int .u32 0, .int .u32 0, .int .i64 0, .bool false, .int .i64 0, .bool false, .bool false, .bool false, .bool false, .bool false], .int .u16 0], []⟩ 40 (by kernel_rfl) (by kernel_rfl) (by kernel_rfl) (by kernel_rfl)) ?_
  intro W base args ds gs before hval0 hW _ _
  have hval : ∀ (j : Nat) t v, Tryz.f4.params[j]? = some t → args[j]? = some v → Value.okWide Tryz.prog W .any base t v := hval0
  have hW' := hW
  obtain ⟨p, q, hA0, hV, rfl, hfz, hnd⟩ := hW
  have hA : DataW.TrodAll enc Tryz.prog W 0 (fun _ => true) true Tryz.f4.params.toList args.toList ds p := hA0
  rw [Tryz.params4] at hA hval
  obtain ⟨v0, vs0, d0, ds0, p0, q0, hargs0, rfl, rfl, h0, r0⟩ := trodAll_cons hA
  obtain ⟨v1, vs1, d1, ds1, p1, q1, hargs1, rfl, rfl, h1, r1⟩ := trodAll_cons r0
  obtain ⟨rfl, rfl, rfl⟩ := trodAll_nil r1
  obtain rfl : args = #[v0, v1] := by cases args; simp_all
  obtain ⟨rfl, rfl⟩ := trodVars_none hV
  have g0 := fun (sp : Nat → Bool) (W' : World) => Ev.Trod_world (w' := W') (base' := 0) (spare' := sp) (held' := true) cpu.shape h0
  obtain ⟨c, b, rfl⟩ := Ev.open_plain cpu.shape (by decide) h0
  obtain ⟨n1, rfl, rfl, rfl, hw1⟩ := open_int Tryz.underlying25 (hval 1 25 v1 rfl rfl) h1
  clear hA0 hval0
  simp only [List.append_nil] at hW'
  refine (walk c b n1 W).mono fun e W' ⟨he, hg⟩ => ?_
  subst he
  exact ⟨_, rfl, Ev.post_still (pv := []) hW' (fun _ _ _ => (trodAll_cons_mk (shut_bool Tryz.underlying4 _) trodAll_mk0)) (fun sp _ => (trodAll_cons_mk (g0 sp _) (trodAll_cons_mk (shut_int Tryz.underlying25 hw1) trodAll_mk0))) (fun _ _ => rfl) hg⟩

/-! ### The closed facts of the row, one by one -/
theorem named : Tryz.prog.funcNamed Rows.execNilRow.func = some 4 := by kernel_rfl
theorem inPl : (Rows.execNilRow.inPlace == Tryz.prog.inPlace 4) = true := by kernel_rfl
theorem unf : (Rows.execNilRow.unfollowed == Tryz.prog.unfollowed 4) = true := by kernel_rfl
theorem recu : (Rows.execNilRow.recurses == Tryz.prog.recurses 4) = true := by kernel_rfl
theorem vars : (Rows.execNilRow.named == Tryz.prog.varsNamed 4) = true := by kernel_rfl
theorem lifts : (Rows.execNilRow.lifted == Tryz.prog.liftsFinal) = true := by kernel_rfl
theorem makes : (Tryz.prog.make == some Rows.execNilRow.make) = true := by kernel_rfl
theorem closed : joinedFacts Tryz.prog 4 Tryz.f4 Rows.execNilSpec Rows.execNilRow = true := by
  unfold joinedFacts
  rw [facts.laid, facts.mapsR, facts.stops, facts.stopKnobs, facts.plain, facts.heard, facts.enter, inPl, unf, recu, vars, lifts, makes]
  kernel_rfl
theorem inst : Tryz.f4.isInstance Tryz.prog Rows.execNilRow.origin Rows.execNilRow.targs := of_decide_eq_true (by kernel_rfl)
theorem wrap : Tryz.f4.isWrapper Tryz.prog Rows.execNilRow.wrapper Rows.execNilRow.mainSum := by
  unfold Func.isWrapper; first | (rw [if_pos (by decide +kernel)]; kernel_rfl) | (rw [if_neg (by decide +kernel)]; exact ⟨rfl, rfl⟩)
theorem over : Rows.execNilRow.holds Tryz.pinned (OpenSpec.ofChange Rows.execNilSpec) :=
  OpenClaim.holds_of_wide 4 Tryz.f4 rfl rfl rfl rfl rfl rfl rfl ⟨rfl, rfl, rfl, rfl, rfl⟩ rfl rfl rfl rfl rfl named Tryz.func4 closed
    inst wrap (fun os started H enc _ => lifted os started H enc)

/-- ████ THE STATEMENT ████ -/
theorem proved : Rows.ExecNilSaid :=
  over
#print axioms proved
end Go.Proofs.YthclecbbebelhaaGreat.execNil
