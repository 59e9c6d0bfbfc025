/-
  A part of the evaluator of the program's code, or of what it was seen to do; its statements are Lean's own. No condition.
-/
import Derived.Test.YteeakllokpdjgaaGreatIReps1
import Derived.Test.YteeakllokpdjgaaGreatIReps2
import Derived.Test.YteeakllokpdjgaaGreatIReps3
import Derived.Test.YteeakllokpdjgaaGreatIReps4
import Derived.Test.YteeakllokpdjgaaGreatIReps5
import Derived.Test.YteeakllokpdjgaaGreatIReps6
import Derived.Test.YteeakllokpdjgaaGreatIReps7
import Derived.Test.YteeakllokpdjgaaGreatIReps8
import Derived.Test.YteeakllokpdjgaaGreatIReps9
import Derived.Test.YteeakllokpdjgaaGreatIReps10
import Derived.Test.YteeakllokpdjgaaGreatIReps11
import Derived.Test.YteeakllokpdjgaaGreatIReps12
import Derived.Test.YteeakllokpdjgaaGreatIReps13
import Derived.Test.YteeakllokpdjgaaGreatIReps14
import Derived.Test.YteeakllokpdjgaaGreatIReps15
import Derived.Test.YteeakllokpdjgaaGreatIReps16
namespace Go.Proofs.YteeakllokpdjgaaGreat.execRepeats.runs
open Go.Ev
noncomputable section

theorem mem : ∀ a : Nat, a < 50 → ∀ m d : Bool, (a, m, d) ∈ (l0 ++ l1 ++ l2 ++ l3 ++ l4 ++ l5 ++ l6 ++ l7 ++ l8 ++ l9 ++ l10 ++ l11 ++ l12 ++ l13 ++ l14 ++ l15 ++ l16 ++ l17 ++ l18 ++ l19 ++ l20 ++ l21 ++ l22 ++ l23 ++ l24 ++ l25 ++ l26 ++ l27 ++ l28 ++ l29 ++ l30 ++ l31 ++ l32 ++ l33 ++ l34 ++ l35 ++ l36 ++ l37 ++ l38 ++ l39 ++ l40 ++ l41 ++ l42 ++ l43 ++ l44 ++ l45 ++ l46 ++ l47 ++ l48 ++ l49 ++ l50 ++ l51 ++ l52 ++ l53 ++ l54 ++ l55 ++ l56 ++ l57 ++ l58 ++ l59 ++ l60 ++ l61 ++ l62 ++ l63 ++ l64 ++ l65 ++ l66 ++ l67 ++ l68 ++ l69 ++ l70 ++ l71 ++ l72 ++ l73 ++ l74 ++ l75 ++ l76 ++ l77 ++ l78 ++ l79 ++ l80 ++ l81 ++ l82 ++ l83 ++ l84 ++ l85 ++ l86 ++ l87 ++ l88 ++ l89 ++ l90 ++ l91 ++ l92 ++ l93 ++ l94 ++ l95 ++ l96 ++ l97 ++ l98 ++ l99 ++ l100 ++ l101 ++ l102 ++ l103 ++ l104 ++ l105 ++ l106 ++ l107 ++ l108 ++ l109 ++ l110 ++ l111 ++ l112 ++ l113 ++ l114 ++ l115 ++ l116 ++ l117 ++ l118 ++ l119 : List (Nat × Bool × Bool)) := by decide +kernel
theorem all (x s b : Int) (v : Nat × Bool × Bool) (h : v ∈ (l0 ++ l1 ++ l2 ++ l3 ++ l4 ++ l5 ++ l6 ++ l7 ++ l8 ++ l9 ++ l10 ++ l11 ++ l12 ++ l13 ++ l14 ++ l15 ++ l16 ++ l17 ++ l18 ++ l19 ++ l20 ++ l21 ++ l22 ++ l23 ++ l24 ++ l25 ++ l26 ++ l27 ++ l28 ++ l29 ++ l30 ++ l31 ++ l32 ++ l33 ++ l34 ++ l35 ++ l36 ++ l37 ++ l38 ++ l39 ++ l40 ++ l41 ++ l42 ++ l43 ++ l44 ++ l45 ++ l46 ++ l47 ++ l48 ++ l49 ++ l50 ++ l51 ++ l52 ++ l53 ++ l54 ++ l55 ++ l56 ++ l57 ++ l58 ++ l59 ++ l60 ++ l61 ++ l62 ++ l63 ++ l64 ++ l65 ++ l66 ++ l67 ++ l68 ++ l69 ++ l70 ++ l71 ++ l72 ++ l73 ++ l74 ++ l75 ++ l76 ++ l77 ++ l78 ++ l79 ++ l80 ++ l81 ++ l82 ++ l83 ++ l84 ++ l85 ++ l86 ++ l87 ++ l88 ++ l89 ++ l90 ++ l91 ++ l92 ++ l93 ++ l94 ++ l95 ++ l96 ++ l97 ++ l98 ++ l99 ++ l100 ++ l101 ++ l102 ++ l103 ++ l104 ++ l105 ++ l106 ++ l107 ++ l108 ++ l109 ++ l110 ++ l111 ++ l112 ++ l113 ++ l114 ++ l115 ++ l116 ++ l117 ++ l118 ++ l119 : List (Nat × Bool × Bool))) : R x s b v = E x s b v := by
  simp only [List.mem_append] at h
  rcases h with ((((((((((((((((((((((((((((((((((((((((((((((((((((((((((((((((((((((((((((((((((((((((((((((((((((((((((((((((((((((h | h) | h) | h) | h) | h) | h) | h) | h) | h) | h) | h) | h) | h) | h) | h) | h) | h) | h) | h) | h) | h) | h) | h) | h) | h) | h) | h) | h) | h) | h) | h) | h) | h) | h) | h) | h) | h) | h) | h) | h) | h) | h) | h) | h) | h) | h) | h) | h) | h) | h) | h) | h) | h) | h) | h) | h) | h) | h) | h) | h) | h) | h) | h) | h) | h) | h) | h) | h) | h) | h) | h) | h) | h) | h) | h) | h) | h) | h) | h) | h) | h) | h) | h) | h) | h) | h) | h) | h) | h) | h) | h) | h) | h) | h) | h) | h) | h) | h) | h) | h) | h) | h) | h) | h) | h) | h) | h) | h) | h) | h) | h) | h) | h) | h) | h) | h) | h) | h) | h
  · exact p0 x s b v h
  · exact p1 x s b v h
  · exact p2 x s b v h
  · exact p3 x s b v h
  · exact p4 x s b v h
  · exact p5 x s b v h
  · exact p6 x s b v h
  · exact p7 x s b v h
  · exact p8 x s b v h
  · exact p9 x s b v h
  · exact p10 x s b v h
  · exact p11 x s b v h
  · exact p12 x s b v h
  · exact p13 x s b v h
  · exact p14 x s b v h
  · exact p15 x s b v h
  · exact p16 x s b v h
  · exact p17 x s b v h
  · exact p18 x s b v h
  · exact p19 x s b v h
  · exact p20 x s b v h
  · exact p21 x s b v h
  · exact p22 x s b v h
  · exact p23 x s b v h
  · exact p24 x s b v h
  · exact p25 x s b v h
  · exact p26 x s b v h
  · exact p27 x s b v h
  · exact p28 x s b v h
  · exact p29 x s b v h
  · exact p30 x s b v h
  · exact p31 x s b v h
  · exact p32 x s b v h
  · exact p33 x s b v h
  · exact p34 x s b v h
  · exact p35 x s b v h
  · exact p36 x s b v h
  · exact p37 x s b v h
  · exact p38 x s b v h
  · exact p39 x s b v h
  · exact p40 x s b v h
  · exact p41 x s b v h
  · exact p42 x s b v h
  · exact p43 x s b v h
  · exact p44 x s b v h
  · exact p45 x s b v h
  · exact p46 x s b v h
  · exact p47 x s b v h
  · exact p48 x s b v h
  · exact p49 x s b v h
  · exact p50 x s b v h
  · exact p51 x s b v h
  · exact p52 x s b v h
  · exact p53 x s b v h
  · exact p54 x s b v h
  · exact p55 x s b v h
  · exact p56 x s b v h
  · exact p57 x s b v h
  · exact p58 x s b v h
  · exact p59 x s b v h
  · exact p60 x s b v h
  · exact p61 x s b v h
  · exact p62 x s b v h
  · exact p63 x s b v h
  · exact p64 x s b v h
  · exact p65 x s b v h
  · exact p66 x s b v h
  · exact p67 x s b v h
  · exact p68 x s b v h
  · exact p69 x s b v h
  · exact p70 x s b v h
  · exact p71 x s b v h
  · exact p72 x s b v h
  · exact p73 x s b v h
  · exact p74 x s b v h
  · exact p75 x s b v h
  · exact p76 x s b v h
  · exact p77 x s b v h
  · exact p78 x s b v h
  · exact p79 x s b v h
  · exact p80 x s b v h
  · exact p81 x s b v h
  · exact p82 x s b v h
  · exact p83 x s b v h
  · exact p84 x s b v h
  · exact p85 x s b v h
  · exact p86 x s b v h
  · exact p87 x s b v h
  · exact p88 x s b v h
  · exact p89 x s b v h
  · exact p90 x s b v h
  · exact p91 x s b v h
  · exact p92 x s b v h
  · exact p93 x s b v h
  · exact p94 x s b v h
  · exact p95 x s b v h
  · exact p96 x s b v h
  · exact p97 x s b v h
  · exact p98 x s b v h
  · exact p99 x s b v h
  · exact p100 x s b v h
  · exact p101 x s b v h
  · exact p102 x s b v h
  · exact p103 x s b v h
  · exact p104 x s b v h
  · exact p105 x s b v h
  · exact p106 x s b v h
  · exact p107 x s b v h
  · exact p108 x s b v h
  · exact p109 x s b v h
  · exact p110 x s b v h
  · exact p111 x s b v h
  · exact p112 x s b v h
  · exact p113 x s b v h
  · exact p114 x s b v h
  · exact p115 x s b v h
  · exact p116 x s b v h
  · exact p117 x s b v h
  · exact p118 x s b v h
  · exact p119 x s b v h

theorem vE_all : ∀ n : Nat, n < 256 → vE (Int.ofNat n) = false := by decide +kernel
def okL (l : List (Bool × Bool)) : Prop := ∀ q ∈ l, q.1 = q.2
theorem okL_nil : okL [] := fun _ h => nomatch h
theorem okL_cons {a b : Bool} {l : List (Bool × Bool)} (h : a = b) (hl : okL l) : okL ((a, b) :: l) := fun q hq => by
  rcases List.mem_cons.1 hq with rfl | hq
  · exact h
  · exact hl q hq
theorem ok_ccF {x : Int} {k : Nat} (h : fewI (nat_lit 49) x = Int.ofNat k) : ∀ i, i ≤ k → okL (ccF x i)
  | 0, _ => okL_nil
  | i + 1, hi => okL_cons (by rw [h]; simp; omega) (ok_ccF h i (by omega))
theorem ok_rounds {s b : Int} {m : Bool} (hm : mE s = m) (hv : vE b = false) {l : List (Bool × Bool)} (hl : okL l) : ∀ n, okL (rounds s b m l n)
  | 0 => hl
  | n + 1 => by
    have ih := ok_rounds hm hv hl n
    cases m with
    | true => exact okL_cons hm ih
    | false => exact okL_cons hv (okL_cons hm ih)
theorem walk (n0 : Int) (hw0 : (Lit.int .i64 n0).wf = true) (n1 : Int) (_hw1 : (Lit.int .i64 n1).wf = true) (b2 : Bool) (n3 : Int) (hw3 : (Lit.int .u8 n3).wf = true) (w : World) :
    Calls Tryz.prog 6 #[.int .i64 n0, .int .i64 n1, .bool b2, .int .u8 n3] w fun e w' => e = .returned (.bool true) ∧ Still w w' := by
  have hr : -9223372036854775808 ≤ n0 ∧ n0 ≤ 9223372036854775807 := by
    simpa [Lit.wf, IntKind.min, IntKind.max, IntKind.signed, IntKind.bits] using hw0
  obtain ⟨h1, h2⟩ := few_range (M := nat_lit 49) hr.1 hr.2
  obtain ⟨k, hk⟩ := Int.eq_ofNat_of_zero_le h1
  have hk : k < 50 ∧ fewI (nat_lit 49) n0 = Int.ofNat k := ⟨by rw [hk] at h2; simp at h2; omega, hk⟩
  obtain ⟨hk, he⟩ := hk
  have hb : 0 ≤ n3 ∧ n3 ≤ 255 := by
    simpa [Lit.wf, IntKind.min, IntKind.max, IntKind.signed, IntKind.bits] using hw3
  obtain ⟨y, hy⟩ := Int.eq_ofNat_of_zero_le hb.1
  have hv : vE n3 = false := by rw [hy]; exact vE_all y (by omega)
  have h := all n0 n1 n3 (k, mE n1, b2) (mem k hk _ _)
  have hob : okL (ob n0 n1 n3 k (mE n1)) := ok_rounds rfl hv (okL_cons rfl (okL_cons (by rw [he]; simp) (ok_ccF he k (Nat.le_refl _)))) k
  exact args_owedS sums.pf env5_ok (by kernel_rfl) (h : (evF Tryz.prog env5 20000 (.call 6 [.sint .i64 n0, .sint .i64 n1, .bool b2, .sint .u8 n3]) (G.asks (ccB k (mE n1 :: rB (mE n1) k)))).owedS = some (ob n0 n1 n3 k (mE n1))) hob
    (.cons (.sint _ _) (.cons (.sint _ _) (.cons (.bool _) (.cons (.sint _ _) .nil)))) w
end
end Go.Proofs.YteeakllokpdjgaaGreat.execRepeats.runs
