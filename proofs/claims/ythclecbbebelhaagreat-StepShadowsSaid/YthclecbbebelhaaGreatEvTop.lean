/-
  A part of the evaluator of the program's code, or of what it was seen to do; its statements are Lean's own. No condition.
-/
import Derived.Test.YthclecbbebelhaaGreatEvRun4
import Derived.RowKit3
namespace Go.Ev
open Go

/-- what was there is there still -/
def Still (w w' : World) : Prop := w.keptBut w' (fun _ => False) ∧ w.heap.size ≤ w'.heap.size
theorem Fr.still {σ : Sg} {L : List Tch} {w w' : World} (f : Fr σ L w w') (h : ∀ b o, b < w.heap.size → ¬ Chg σ L b o) : Still w w' := by
  have hsame : ∀ b : Nat, b < w.heap.size → w'.heap[b]? = w.heap[b]? := fun b hb => f.same b hb fun o => h b o hb
  refine ⟨⟨f.os, f.output, fun i hi => ?_⟩, f.size⟩
  rw [hsame i hi]
  cases w.heap[i]? with
  | none => rfl
  | some o =>
    cases o <;> first | exact ⟨rfl, rfl, rfl, fun _ _ => rfl⟩ | exact .inr ⟨rfl, rfl⟩ | rfl
/-- the run says yes, and owes nothing -/
def Res.yes : Res → Bool
  | .val (.bool b) g => b && g.obl.isEmpty
  | _ => false
theorem Res.yes_spec {r : Res} (h : r.yes = true) : ∃ g, r = .val (.bool true) g ∧ g.obl = [] := by
  unfold Res.yes at h
  split at h
  · rename_i b g
    simp only [Bool.and_eq_true, List.isEmpty_iff] at h
    obtain ⟨rfl, h2⟩ := h
    exact ⟨g, rfl, h2⟩
  · cases h
theorem closed_yes {P : Program} (hP : PF2 P) {n : Nat} {f : FuncId} (hb : hasBody P f = true) (h : (ev P (fun _ => none) n (.call f []) G.init).yes = true) (w : World) :
    Calls P f #[] w fun e w' => e = .returned (.bool true) ∧ Still w w' := by
  obtain ⟨g', h1, h2⟩ := Res.yes_spec h
  have hs := (ev_sound hP (noEnv P) n).call f hb [] G.init g' (by show (ev P (fun _ => none) n (.call f []) G.init).g? = _; rw [h1]; rfl) (fun _ _ => True) g'.next (fun _ => none) w #[]
    { rel := ⟨fun i blk hg => (by cases hg), fun i blk o c b cap hg => (by cases hg), fun i j bi bj b c c' hg => (by cases hg)⟩
      fresh := fun _ _ _ => rfl
      hi := Nat.le_refl _
      inT := fun _ _ _ _ _ _ => trivial
      owes := fun p hp => by rw [h2] at hp; cases hp } .nil
  refine hs.mono fun e w' hw => ?_
  simp only [CallR, h1] at hw
  obtain ⟨σ', L, V, hp, rfl, hV⟩ := hw
  cases hV
  refine ⟨rfl, hp.fr.still fun b o hb hc => ?_⟩
  obtain ⟨i, c, hi, _⟩ := hc
  by_cases hlt : i < g'.next
  · rcases hp.nw i b c (Nat.zero_le _) hlt hi with h3 | ⟨_, _, _, h4⟩
    · omega
    · cases h4
  · rw [hp.ext i (.inr (by omega))] at hi; cases hi

/-! ### What is asked of the program, as a test -/
def funcOk (fn : Func) : Bool := match fn.body with
  | none => true
  | some c => codeIn fn.ntmps c && decide (fn.name ≠ "runtime.NumGoroutine")
def progOk (P : Program) : Bool := P.funcs.toList.all funcOk && P.follows .mixedOrders
theorem PF2.of {P : Program} (h : progOk P = true) : PF2 P := by
  unfold progOk at h
  simp only [Bool.and_eq_true, List.all_eq_true] at h
  obtain ⟨h1, h2⟩ := h
  have key : ∀ (f : Nat) fn, P.funcs[f]? = some fn → funcOk fn = true := fun f fn hf => h1 fn (by rw [Array.mem_toList_iff]; exact Array.mem_of_getElem? hf)
  refine ⟨⟨fun f fn hf hb => ?_, h2⟩, fun f fn c hf hc => ?_⟩
  · have := key f fn hf
    unfold funcOk at this
    cases hc : fn.body with
    | none => rw [hc] at hb; cases hb
    | some c =>
      rw [hc] at this
      simp only [Bool.and_eq_true, decide_eq_true_eq] at this
      exact this.2
  · have := key f fn hf
    unfold funcOk at this
    rw [hc] at this
    simp only [Bool.and_eq_true] at this
    exact this.1

/-! ### The row's last step, where the run need not be said again -/
section
open Go.ChangeShapes Go.WideShapes
variable {H : Type} {enc : TypeId × Value → H} {P : Program}
theorem post_still {f : Func} {s : ChangeSpec} {apart fresh handsOn : Bool} {W W' : World} {args : Array Value} {v : Value} {ds gs : List (DataW H)} {before pa pv : List MemPlace}
    (hW : DataW.Whole enc P f.params.toList s.vars apart W args.toList ds gs before)
    (hres : ∀ (b : Nat) (sp : Nat → Bool) (hd : Bool), DataW.TrodAll enc P W' b sp hd f.resultTypes.toList (v.resultList f.resultTypes.size) (s.fn H (ds ++ gs)).results [])
    (hargs : ∀ sp : Nat → Bool, (∀ p ∈ before, sp p.block = true) → DataW.TrodAll enc P W' 0 sp true f.params.toList args.toList (s.fn H (ds ++ gs)).args pa)
    (hvars : ∀ sp : Nat → Bool, (∀ p ∈ before, sp p.block = true) → DataW.TrodVars enc P W' sp s.vars (s.fn H (ds ++ gs)).vars pv)
    (hk : Still W W') : s.post enc P f apart fresh handsOn false W args v W' := by
  have old : ∀ p ∈ before, decide (p.block < W.heap.size) = true := fun p hp => decide_eq_true (hW.lt p hp)
  exact ⟨ds, gs, before, [], pa, pv, hW, hres _ _ _, hargs _ old, hvars _ old, World.keptBut_mono (fun _ h => h.elim) hk.1, fun h => nomatch h⟩
end
end Go.Ev
