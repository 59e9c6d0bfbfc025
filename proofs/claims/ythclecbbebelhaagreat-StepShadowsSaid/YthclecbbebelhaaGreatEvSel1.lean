/-
  A part of the evaluator of the program's code, or of what it was seen to do; its statements are Lean's own. No condition.
-/
import Derived.Test.YthclecbbebelhaaGreatEvNew
import Derived.Calls
import Derived.Conc.CrowdComm
namespace Go.Ev
open Go

/-! ### One send in a select with a way out, in a machine of one goroutine -/
def sentW (w : World) (r n : Nat) (q : Array Value) (s rc : Nat) (v : Value) : World := replaced w r (.chan n (q.push v) false (s + 1) rc false)
theorem step_send {P : Program} {b : Frame} {a : Act} {k : List Item} {cs : List Frame} {w : World} {ops : Array Oper} {i : Nat} {rest : List Nat} {o : Oper}
    {r n s rc : Nat} {q : Array Value} {v z : Value} (ho : ops[i]? = some o) (hw : Region.wanted o (yielded ops a.tmps) = true)
    (hrun : (execOp a.eval o).run P w = .ok (.comm #[{ chan := .chan (some r), send := some v, zero := z }] false .select) w)
    (hc : w.heap[r]? = some (.chan n q false s rc false)) (hroom : q.size < n) :
    step P (lone (b.at a (.inRegion ops (i :: rest) :: k)) cs w) = .next (lone (b.at (a.put o.dst (.tuple #[goInt 0, .bool false])) (.inRegion ops rest :: k)) cs (sentW w r n q s rc v)) := by
  have hg := stepG_op (P := P) (b := b) (k := k) (cs := cs) (w := w) (rest := rest) ho hw
  have hfin : ∀ v, (b.at a (.inRegion ops (i :: rest) :: k)).finish v = b.at (a.put o.dst v) (.inRegion ops rest :: k) := by
    intro v; rw [Frame.finish_at, ho]; rfl
  obtain ⟨es, hes⟩ : ∃ es, stepG P true { frame := b.at a (.inRegion ops (i :: rest) :: k), callers := cs, status := .running, dying := none } w =
      .comm { frame := b.at a (.inRegion ops (i :: rest) :: k), callers := cs, status := .running, dying := none } #[{ chan := .chan (some r), send := some v, zero := z }] false .select w es := by
    rw [hg]; simp only [stepG.apply, Sem.runT_eq, hrun, if_true, GStep.after]; exact ⟨_, rfl⟩
  rw [step, stepT, move_lone]
  simp [runT, lone, Array.swapAt!, hes, communicate, ways, hc, hroom, partners, choose, Sem.run, Question.forced, bind, Sem.bind, pure, Goroutine.finishComm, commResult, hfin, sentW, replaced]
end Go.Ev
