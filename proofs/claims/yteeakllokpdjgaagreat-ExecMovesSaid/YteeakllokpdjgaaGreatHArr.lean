/-
  A part of the evaluator of the program's code, or of what it was seen to do; its statements are Lean's own. No condition.
-/
import Derived.Test.YteeakllokpdjgaaGreatEvH8
import Derived.ChangeShapes
namespace Go.Ev
open Go
/-- an argument that is a row of whole numbers: each of its cells is in its range -/
theorem arr_wf {H : Type} {enc : TypeId × Value → H} {P : Program} {w : World} {base : Nat} {spare : Nat → Bool} {held : Bool} {t e : TypeId} {n : Nat} {k : IntKind} (hu : P.underlying t = some (.array n e)) (he : P.underlying e = some (.int k)) (hc : P.cellsOf e = 1)
    {v : Value} {d : DataW H} {ps : List MemPlace} (h : DataW.Trod enc P w base spare held t v d ps) : ∀ j, j < n → ∃ m, (v.cells.toList)[j]? = some (.int k m) ∧ (Lit.int k m).wf = true := by
  intro j hj
  obtain ⟨fuel, h⟩ := h
  cases fuel with
  | zero => simp [DataW.trod] at h
  | succ fuel =>
    unfold DataW.trod at h
    rw [hu] at h
    simp only at h
    split at h
    · cases hm : ((List.range n).mapM fun i => DataW.trod enc P w base spare held fuel e (((v.cells.toList).drop (i * P.cellsOf e)).take (P.cellsOf e))) with
      | none => simp only [hm] at h; cases h
      | some xs =>
        obtain ⟨y, hy⟩ := mapM_mem hm j (List.mem_range.2 hj)
        rw [hc, Nat.mul_one] at hy
        cases fuel with
        | zero => simp [DataW.trod] at hy
        | succ fuel =>
          unfold DataW.trod at hy
          rw [he] at hy
          simp only at hy
          cases hd : (v.cells.toList).drop j with
          | nil => rw [hd] at hy; cases hy
          | cons x r =>
            rw [hd] at hy
            have hx : (v.cells.toList)[j]? = some x := by
              have := List.getElem?_drop (xs := v.cells.toList) (i := j) (j := 0)
              rw [hd] at this; simpa using this.symm
            simp only [List.take_succ_cons, List.take_zero] at hy
            cases x <;> first | (cases hy; done) | skip
            rename_i k' m
            simp only at hy
            split at hy
            · rename_i hk
              obtain ⟨rfl, hw⟩ := hk
              exact ⟨m, hx, hw⟩
            · cases hy
    · cases h
end Go.Ev
