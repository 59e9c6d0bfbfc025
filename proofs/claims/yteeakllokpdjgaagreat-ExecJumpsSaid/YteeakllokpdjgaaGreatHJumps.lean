/-
  A part of the evaluator of the program's code, or of what it was seen to do; its statements are Lean's own. No condition.
-/
import Derived.Test.YteeakllokpdjgaaGreatHJumps1
import Derived.Test.YteeakllokpdjgaaGreatHJumps2
import Derived.Test.YteeakllokpdjgaaGreatHJumps3
import Derived.Test.YteeakllokpdjgaaGreatHJumps4
namespace Go.Proofs.YteeakllokpdjgaaGreat.execJumps.runs
open Go.Ev
noncomputable section

def valid (k : Nat) (u i : Bool) : Bool := match k with
  | 12 => i == u
  | 13 => i == !u
  | 14 => !u || i
  | 15 => !u || !i
  | _ => true
theorem mem : ∀ k : Nat, k < 16 → ∀ u i : Bool, valid k u i = true → (k, u, i) ∈ (l0 ++ l1 ++ l2 ++ l3 : List (Nat × Bool × Bool)) := by decide
theorem all (cc fl y : Int) (v : Nat × Bool × Bool) (h : v ∈ (l0 ++ l1 ++ l2 ++ l3 : List (Nat × Bool × Bool))) : R cc fl y v = E cc fl y v := by
  simp only [List.mem_append] at h
  rcases h with ((h | h) | h) | h
  · exact p0 cc fl y v h
  · exact p1 cc fl y v h
  · exact p2 cc fl y v h
  · exact p3 cc fl y v h

theorem isValid (fl : Int) : ∀ k : Nat, k < 16 → valid k (uE fl) (isE fl k) = true
  | 12, _ => by show (isE fl 12 == uE fl) = true; show ((uE fl == true) == uE fl) = true; cases uE fl <;> rfl
  | 13, _ => by show (isE fl 13 == !uE fl) = true; show ((uE fl == false) == !uE fl) = true; cases uE fl <;> rfl
  | 14, _ => by show (!uE fl || isE fl 14) = true; show (!uE fl || (Bool.rec (motive := fun _ => Bool) (fb fl (nat_lit 64)) true (uE fl) == true)) = true; cases uE fl <;> rfl
  | 15, _ => by show (!uE fl || !isE fl 15) = true; show (!uE fl || !(Bool.rec (motive := fun _ => Bool) (fb fl (nat_lit 64)) true (uE fl) == false)) = true; cases uE fl <;> rfl
  | 0, _ => rfl
  | 1, _ => rfl
  | 2, _ => rfl
  | 3, _ => rfl
  | 4, _ => rfl
  | 5, _ => rfl
  | 6, _ => rfl
  | 7, _ => rfl
  | 8, _ => rfl
  | 9, _ => rfl
  | 10, _ => rfl
  | 11, _ => rfl
  | k + 16, h => absurd h (by omega)
theorem cE_true (i : Bool) : cE i = true := by cases i <;> decide +kernel
def chk (y : Int) : Bool := !d5 y && (!d4 y && (!d2 y && eE y))
theorem chk_all : ∀ n : Nat, n < 256 → chk (Int.ofNat n - 128) = true := by decide +kernel
theorem chk_of {y : Int} (h1 : -128 ≤ y) (h2 : y ≤ 127) : d5 y = false ∧ d4 y = false ∧ d2 y = false ∧ eE y = true := by
  obtain ⟨n, hn⟩ := Int.eq_ofNat_of_zero_le (show 0 ≤ y + 128 by omega)
  have h := chk_all n (by omega)
  rw [show Int.ofNat n - 128 = y from by simp; omega] at h
  simpa [chk] using h
def okL (l : List (Bool × Bool)) : Prop := ∀ q ∈ l, q.1 = q.2
theorem okL_cons {a b : Bool} {l : List (Bool × Bool)} (h : a = b) (hl : okL l) : okL ((a, b) :: l) := fun q hq => by
  rcases List.mem_cons.1 hq with rfl | hq
  · exact h
  · exact hl q hq
theorem okL_app {l l' : List (Bool × Bool)} (h : okL l) (hl : okL l') : okL (l ++ l') := fun q hq => by
  rcases List.mem_append.1 hq with hq | hq
  · exact h q hq
  · exact hl q hq
theorem ok_uL (fl : Int) : okL (uL fl (uE fl)) := by
  cases h : uE fl with
  | true => exact okL_cons h (okL_cons h (okL_cons h (okL_cons h (fun _ h => nomatch h))))
  | false => exact okL_cons h (okL_cons h (okL_cons h (fun _ h => nomatch h)))
theorem ok_ccF {cc : Int} {k : Nat} (h : fewI (nat_lit 15) cc = Int.ofNat k) : ∀ i, i ≤ k → okL (ccF cc i)
  | 0, _ => fun _ h => nomatch h
  | i + 1, hi => okL_cons (by rw [h]; simp; omega) (ok_ccF h i (by omega))
theorem ok_ccL {cc : Int} {k : Nat} (h : fewI (nat_lit 15) cc = Int.ofNat k) : okL (ccL cc k) := okL_cons (by rw [h]; simp) (ok_ccF h k (Nat.le_refl _))
theorem ok_c8 (i : Bool) : okL (c8 i) := by
  have h := cE_true i
  exact okL_cons h (okL_cons h (okL_cons h (okL_cons h (okL_cons h (okL_cons h (okL_cons h (okL_cons h (fun _ h => nomatch h))))))))
theorem ok_ob {cc fl y : Int} {k : Nat} (hcc : fewI (nat_lit 15) cc = Int.ofNat k) (h1 : -128 ≤ y) (h2 : y ≤ 127) : okL (ob cc fl y k (uE fl) (isE fl k)) := by
  obtain ⟨e5, e4, e2, ee⟩ := chk_of h1 h2
  have hu := ok_uL fl
  have hc := ok_ccL hcc
  have h8 := ok_c8 (isE fl k)
  have hC := cE_true (isE fl k)
  unfold ob
  cases Nat.ble 14 k && uE fl with
  | true =>
    cases hi : isE fl k with
    | true => exact okL_cons ee (okL_app hu (okL_cons e2 (okL_app hu (okL_cons e4 (okL_cons e5 (okL_app hu (okL_app hu hc)))))))
    | false => exact okL_app hu (okL_app hu (okL_app hu (okL_app hu hc)))
  | false =>
    cases hi : isE fl k with
    | true =>
      rw [hi] at h8 hC
      exact okL_cons (by rw [hC]; exact ee) (okL_app h8 (okL_app hu (okL_cons e2 (okL_cons rfl (okL_app hu (okL_cons e4 (okL_cons rfl (okL_cons e5 (okL_cons rfl (okL_app hu (okL_app hu hc)))))))))))
    | false =>
      rw [hi] at h8 hC
      exact okL_cons (by rw [hC]) (okL_app h8 (okL_app hu (okL_cons rfl (okL_app hu (okL_cons rfl (okL_cons rfl (okL_app hu (okL_app hu hc))))))))
theorem walk (n0 : Int) (hw0 : (Lit.int .i64 n0).wf = true) (n1 : Int) (_hw1 : (Lit.int .u32 n1).wf = true) (n2 : Int) (hw2 : (Lit.int .i8 n2).wf = true) (w : World) : Calls Tryz.prog 4 #[.int .i64 n0, .int .u32 n1, .int .i8 n2] w fun e w' => e = .returned (.bool true) ∧ Still w w' := by
  have hr : -9223372036854775808 ≤ n0 ∧ n0 ≤ 9223372036854775807 := by
    simpa [Lit.wf, IntKind.min, IntKind.max, IntKind.signed, IntKind.bits] using hw0
  have hb : -128 ≤ n2 ∧ n2 ≤ 127 := by
    simpa [Lit.wf, IntKind.min, IntKind.max, IntKind.signed, IntKind.bits] using hw2
  obtain ⟨h1, h2⟩ := few_range (M := nat_lit 15) hr.1 hr.2
  obtain ⟨k, hk⟩ := Int.eq_ofNat_of_zero_le h1
  have hk : k < 16 ∧ fewI (nat_lit 15) n0 = Int.ofNat k := ⟨by rw [hk] at h2; simp at h2; omega, hk⟩
  obtain ⟨hk, he⟩ := hk
  have h := all n0 n1 n2 (k, uE n1, isE n1 k) (mem k hk _ _ (isValid n1 k hk))
  exact args_owedS sums.pf sums.env4_ok (by kernel_rfl) (h : (evF Tryz.prog sums.env4 10000 (.call 4 [.sint .i64 n0, .sint .u32 n1, .sint .i8 n2]) (G.asks (orcl k (uE n1) (isE n1 k)))).owedS = some (ob n0 n1 n2 k (uE n1) (isE n1 k))) (ok_ob he hb.1 hb.2) (.cons (.sint _ _) (.cons (.sint _ _) (.cons (.sint _ _) .nil))) w
end
end Go.Proofs.YteeakllokpdjgaaGreat.execJumps.runs
