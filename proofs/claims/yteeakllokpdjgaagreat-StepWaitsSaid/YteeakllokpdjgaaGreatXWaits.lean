/-
  A part of the evaluator of the program's code, or of what it was seen to do; its statements are Lean's own. No condition.
-/
import Derived.Test.YteeakllokpdjgaaGreatXWaits1
import Derived.Test.YteeakllokpdjgaaGreatXWaits2
import Derived.Test.YteeakllokpdjgaaGreatXWaits3
import Derived.Test.YteeakllokpdjgaaGreatXWaits4
import Derived.Test.YteeakllokpdjgaaGreatXWaits5
import Derived.Test.YteeakllokpdjgaaGreatXWaits6
import Derived.Test.YteeakllokpdjgaaGreatXWaits7
import Derived.Test.YteeakllokpdjgaaGreatXWaits8
namespace Go.Proofs.YteeakllokpdjgaaGreat.stepWaits.runs
open Go.Ev
noncomputable section
theorem mem : ∀ k : Nat, k < 101 → Int.ofNat k ∈ (l_p0 ++ l_p1 ++ l_p2 ++ l_p3 ++ l_p4 ++ l_p5 ++ l_p6 ++ l_p7 ++ l_p8 ++ l_p9 ++ l_p10 ++ l_p11 ++ l_p12 ++ l_p13 ++ l_p14 ++ l_p15 ++ l_p16 ++ l_p17 ++ l_p18 ++ l_p19 ++ l_p20 ++ l_p21 ++ l_p22 ++ l_p23 ++ l_p24 ++ l_p25 ++ l_p26 ++ l_p27 ++ l_p28 ++ l_p29 ++ l_p30 ++ l_p31 ++ l_p32 : List Int) := by decide
theorem all (n0 n1 : Int) (v : Int) (h : v ∈ (l_p0 ++ l_p1 ++ l_p2 ++ l_p3 ++ l_p4 ++ l_p5 ++ l_p6 ++ l_p7 ++ l_p8 ++ l_p9 ++ l_p10 ++ l_p11 ++ l_p12 ++ l_p13 ++ l_p14 ++ l_p15 ++ l_p16 ++ l_p17 ++ l_p18 ++ l_p19 ++ l_p20 ++ l_p21 ++ l_p22 ++ l_p23 ++ l_p24 ++ l_p25 ++ l_p26 ++ l_p27 ++ l_p28 ++ l_p29 ++ l_p30 ++ l_p31 ++ l_p32 : List Int)) : R n0 n1 v = E n0 v := by
  simp only [List.mem_append] at h
  rcases h with (((((((((((((((((((((((((((((((h | h) | h) | h) | h) | h) | h) | h) | h) | h) | h) | h) | h) | h) | h) | h) | h) | h) | h) | h) | h) | h) | h) | h) | h) | h) | h) | h) | h) | h) | h) | h) | h
  · exact p0 n0 n1 v h
  · exact p1 n0 n1 v h
  · exact p2 n0 n1 v h
  · exact p3 n0 n1 v h
  · exact p4 n0 n1 v h
  · exact p5 n0 n1 v h
  · exact p6 n0 n1 v h
  · exact p7 n0 n1 v h
  · exact p8 n0 n1 v h
  · exact p9 n0 n1 v h
  · exact p10 n0 n1 v h
  · exact p11 n0 n1 v h
  · exact p12 n0 n1 v h
  · exact p13 n0 n1 v h
  · exact p14 n0 n1 v h
  · exact p15 n0 n1 v h
  · exact p16 n0 n1 v h
  · exact p17 n0 n1 v h
  · exact p18 n0 n1 v h
  · exact p19 n0 n1 v h
  · exact p20 n0 n1 v h
  · exact p21 n0 n1 v h
  · exact p22 n0 n1 v h
  · exact p23 n0 n1 v h
  · exact p24 n0 n1 v h
  · exact p25 n0 n1 v h
  · exact p26 n0 n1 v h
  · exact p27 n0 n1 v h
  · exact p28 n0 n1 v h
  · exact p29 n0 n1 v h
  · exact p30 n0 n1 v h
  · exact p31 n0 n1 v h
  · exact p32 n0 n1 v h
theorem walk (n0 : Int) (hw0 : (Lit.int .i64 n0).wf = true) (n1 : Int) (_hw1 : (Lit.int .u8 n1).wf = true) (w : World) : Calls Tryz.prog 8 #[.int .i64 n0, .int .u8 n1] w fun e w' => e = .returned (.bool true) ∧ Still w w' := by
  have hr : -9223372036854775808 ≤ n0 ∧ n0 ≤ 9223372036854775807 := by
    simpa [Lit.wf, IntKind.min, IntKind.max, IntKind.signed, IntKind.bits] using hw0
  obtain ⟨h1, h2⟩ := few_range (M := nat_lit 100) hr.1 hr.2
  obtain ⟨k, hk⟩ := Int.eq_ofNat_of_zero_le h1
  have hk : k < 101 ∧ fewI (nat_lit 100) n0 = Int.ofNat k := ⟨by rw [hk] at h2; simp at h2; omega, hk⟩
  obtain ⟨hk, he⟩ := hk
  have h : R n0 n1 (Int.ofNat k) = E n0 (Int.ofNat k) := all n0 n1 _ (mem k hk)
  refine args_owed sums.pf (envF_ok (Int.ofNat k)) (by kernel_rfl) (h : (evF Tryz.prog (envF (Int.ofNat k)) 10000 (.call 8 [.sint .i64 n0, .sint .u8 n1]) G.init).owed = some [(decide (fewI (nat_lit 100) n0 = Int.ofNat k), true)]) ?_ (.cons (.sint _ _) (.cons (.sint _ _) .nil)) w
  intro q hq
  rw [List.mem_singleton] at hq
  subst hq
  exact decide_eq_true he
end
end Go.Proofs.YteeakllokpdjgaaGreat.stepWaits.runs
