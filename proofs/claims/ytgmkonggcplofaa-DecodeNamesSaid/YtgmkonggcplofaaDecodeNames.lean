/-
  'drawloom/drawloomlaw06.DecodeNames' returns true, whatever the world it starts in; it takes no input. No condition.
-/
import Derived.Test.YtgmkonggcplofaaRows
import Derived.Test.YtgmkonggcplofaaEvTop
import Derived.ProofKit
import Derived.OpenShut
namespace Go.Proofs.Ytgmkonggcplofaa.decodeNames
open Go.ChangeShapes Go.WideShapes Go.ChangeAt Go.RowKit

theorem own : ownKnob Try.prog.godebug = none := by kernel_rfl

/-- the run, made by the evaluator inside the kernel -/
theorem run : (Ev.ev Try.prog (fun _ => none) 10000 (.call 3 []) Ev.G.init).yes = true := by kernel_rfl
theorem fits : Ev.progOk Try.prog = true := by kernel_rfl
theorem walk (w : World) : Calls Try.prog 3 #[] w fun e w' => e = .returned (.bool true) ∧ Ev.Still w w' :=
  Ev.closed_yes (Ev.PF2.of fits) (by kernel_rfl) run w

/-! ### THE ROW's STEP: WRITTEN OUT: LEAVE IT -/
set_option maxRecDepth 100000 in
theorem lifted (os : Os) (started : os.Started) (H : Type) (enc : TypeId × Value → H) :
    ReturnsInHanded {} Try.checked os 3 .any (Rows.decodeNamesSpec.pre6 enc Try.prog Try.f3 Rows.decodeNamesRow.domain false) (Rows.decodeNamesSpec.post enc Try.prog Try.f3 false true false false) := by
  refine returnsInHanded_of_change (C := Try.checked) own started (by kernel_rfl) Try.func3
    (ChangeSpec.witness6 (enc := enc) (C := Try.checked) false ⟨#[], #[], []⟩ 8 (by kernel_rfl) (by kernel_rfl) (by kernel_rfl) (by kernel_rfl)) ?_
  intro W base args ds gs before _ hW _ _
  have hW' := hW
  obtain ⟨p, q, hA0, hV, rfl, hfz, hnd⟩ := hW
  have hA : DataW.TrodAll enc Try.prog W 0 (fun _ => true) true Try.f3.params.toList args.toList ds p := hA0
  rw [Try.params3] at hA
  obtain ⟨rfl, rfl, rfl⟩ := trodAll_none hA
  obtain ⟨rfl, rfl⟩ := trodVars_none hV
  clear hA0
  simp only [List.append_nil] at hW'
  refine (walk W).mono fun e W' ⟨he, hg⟩ => ?_
  subst he
  exact ⟨_, rfl, Ev.post_still (pa := []) (pv := []) hW' (fun _ _ _ => (trodAll_cons_mk (shut_bool Try.underlying4 _) trodAll_mk0)) (fun sp _ => rfl) (fun _ _ => rfl) hg⟩

theorem over : Rows.decodeNamesRow.holds Try.pinned (OpenSpec.ofChange Rows.decodeNamesSpec) :=
  OpenClaim.holds_of_wide 3 Try.f3 rfl rfl rfl rfl rfl rfl rfl ⟨rfl, rfl, rfl, rfl, rfl⟩ rfl rfl rfl rfl rfl (by kernel_rfl) Try.func3 (by kernel_rfl)
    (of_decide_eq_true (by kernel_rfl)) (by unfold Func.isWrapper; first | (rw [if_pos (by decide +kernel)]; kernel_rfl) | (rw [if_neg (by decide +kernel)]; exact ⟨rfl, rfl⟩))
    (fun os started H enc _ => lifted os started H enc)

/-- ████ THE STATEMENT ████ -/
theorem proved : Rows.DecodeNamesSaid :=
  over
#print axioms proved
end Go.Proofs.Ytgmkonggcplofaa.decodeNames
