/-
  A part of the evaluator of the program's code, or of what it was seen to do; its statements are Lean's own. No condition.
-/
import Derived.Test.YteeakllokpdjgaaGreatXSofts1
import Derived.Test.YteeakllokpdjgaaGreatXSofts2
import Derived.Test.YteeakllokpdjgaaGreatXSofts3
import Derived.Test.YteeakllokpdjgaaGreatXSofts4
namespace Go.Proofs.YteeakllokpdjgaaGreat.stepSofts.runs
open Go.Ev
noncomputable section
theorem memtrue : ∀ k : Nat, k < 64 → Int.ofNat k ∈ (l_p0 ++ l_p1 ++ l_p4 ++ l_p5 ++ l_p8 ++ l_p9 ++ l_p12 ++ l_p13 : List Int) := by decide
theorem alltrue (n0 : Int) (v : Int) (h : v ∈ (l_p0 ++ l_p1 ++ l_p4 ++ l_p5 ++ l_p8 ++ l_p9 ++ l_p12 ++ l_p13 : List Int)) : R n0 true v = E n0 v := by
  simp only [List.mem_append] at h
  rcases h with ((((((h | h) | h) | h) | h) | h) | h) | h
  · exact p0 n0 v h
  · exact p1 n0 v h
  · exact p4 n0 v h
  · exact p5 n0 v h
  · exact p8 n0 v h
  · exact p9 n0 v h
  · exact p12 n0 v h
  · exact p13 n0 v h
theorem memfalse : ∀ k : Nat, k < 64 → Int.ofNat k ∈ (l_p2 ++ l_p3 ++ l_p6 ++ l_p7 ++ l_p10 ++ l_p11 ++ l_p14 ++ l_p15 : List Int) := by decide
theorem allfalse (n0 : Int) (v : Int) (h : v ∈ (l_p2 ++ l_p3 ++ l_p6 ++ l_p7 ++ l_p10 ++ l_p11 ++ l_p14 ++ l_p15 : List Int)) : R n0 false v = E n0 v := by
  simp only [List.mem_append] at h
  rcases h with ((((((h | h) | h) | h) | h) | h) | h) | h
  · exact p2 n0 v h
  · exact p3 n0 v h
  · exact p6 n0 v h
  · exact p7 n0 v h
  · exact p10 n0 v h
  · exact p11 n0 v h
  · exact p14 n0 v h
  · exact p15 n0 v h
theorem all (n0 : Int) (b1 : Bool) (v : Int) (h : ∃ k : Nat, k < 64 ∧ v = Int.ofNat k) : R n0 b1 v = E n0 v := by
  obtain ⟨k, hk, rfl⟩ := h
  cases b1 with
  | true => exact alltrue n0 _ (memtrue k hk)
  | false => exact allfalse n0 _ (memfalse k hk)
theorem walk (n0 : Int) (hw0 : (Lit.int .i64 n0).wf = true) (b1 : Bool) (w : World) : Calls Tryz.prog 7 #[.int .i64 n0, .bool b1] w fun e w' => e = .returned (.bool true) ∧ Still w w' := by
  have hr : -9223372036854775808 ≤ n0 ∧ n0 ≤ 9223372036854775807 := by
    simpa [Lit.wf, IntKind.min, IntKind.max, IntKind.signed, IntKind.bits] using hw0
  obtain ⟨h1, h2⟩ := few_range (M := nat_lit 63) hr.1 hr.2
  obtain ⟨k, hk⟩ := Int.eq_ofNat_of_zero_le h1
  have hk : k < 64 ∧ fewI (nat_lit 63) n0 = Int.ofNat k := ⟨by rw [hk] at h2; simp at h2; omega, hk⟩
  obtain ⟨hk, he⟩ := hk
  have h : R n0 b1 (Int.ofNat k) = E n0 (Int.ofNat k) := all n0 b1 _ ⟨k, hk, rfl⟩
  refine args_owed sums.pf (envF_ok (Int.ofNat k)) (by kernel_rfl) (h : (evF Tryz.prog (envF (Int.ofNat k)) 10000 (.call 7 [.sint .i64 n0, .bool b1]) G.init).owed = some [(decide (fewI (nat_lit 63) n0 = Int.ofNat k), true)]) ?_ (.cons (.sint _ _) (.cons (.bool _) .nil)) w
  intro q hq
  rw [List.mem_singleton] at hq
  subst hq
  exact decide_eq_true he
end
end Go.Proofs.YteeakllokpdjgaaGreat.stepSofts.runs
