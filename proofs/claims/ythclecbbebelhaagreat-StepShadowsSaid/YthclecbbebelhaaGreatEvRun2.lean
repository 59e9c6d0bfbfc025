/-
  A part of the evaluator of the program's code, or of what it was seen to do; its statements are Lean's own. No condition.
-/
import Derived.Test.YthclecbbebelhaaGreatEvRun1
namespace Go.Ev
open Go

/-- the operation asks for the panic under way -/
def isRec (o : Oper) : Prop := ∃ c, o.op = .call c ∧ c.callee = .builtin .recover
theorem isRec.run {o : Oper} (h : isRec o) (P : Program) (a : Act) (w : World) : (execOp a.eval o).run P w = .ok .recover w := by
  obtain ⟨c, h1, h2⟩ := h
  simp [execOp, h1, resolve, h2, invoke, builtin]

def recOf : Option AV → AV
  | some v => v
  | none => .nilIface
section
variable {P : Program} {rec : Rec}
theorem evDeferK_ok {fd : Func} {k : G → Res} {r r' : Res} (h : evDeferK P fd k r = r') (hn : ∀ n, r' ≠ .no n) : ∃ x tm'' g2 v g3, (x = .norm ∨ x = .ret) ∧ r = .fin x tm'' [] g2 ∧ leave P fd tm'' g2 = .val v g3 ∧ k g3 = r' := by
  cases r with
  | no n => exact absurd h.symm (hn _)
  | val v g => exact absurd h.symm (hn _)
  | pan v g => exact absurd h.symm (hn _)
  | fin x tm'' ds g2 =>
    cases ds with
    | cons d ds => cases x <;> exact absurd h.symm (hn _)
    | nil =>
      cases x with
      | norm =>
        simp only [evDeferK] at h
        cases e : leave P fd tm'' g2 with
        | val v g3 => rw [e] at h; exact ⟨_, _, _, v, g3, .inl rfl, rfl, e, h⟩
        | no n => rw [e] at h; exact absurd h.symm (hn _)
        | pan v g => rw [e] at h; exact absurd h.symm (hn _)
        | fin x t d g => rw [e] at h; exact absurd h.symm (hn _)
      | ret =>
        simp only [evDeferK] at h
        cases e : leave P fd tm'' g2 with
        | val v g3 => rw [e] at h; exact ⟨_, _, _, v, g3, .inr rfl, rfl, e, h⟩
        | no n => rw [e] at h; exact absurd h.symm (hn _)
        | pan v g => rw [e] at h; exact absurd h.symm (hn _)
        | fin x t d g => rw [e] at h; exact absurd h.symm (hn _)
      | exit id => exact absurd h.symm (hn _)
      | pan v => exact absurd h.symm (hn _)
theorem evDeferS_ok {fd : Func} {rest : Code} {k : G → Res} {r r' : Res} (h : (match r with | .fin .norm tm' [] g => evDeferK P fd k (rec (.code rest tm' []) g) | _ => .no 173) = r') (hn : ∀ n, r' ≠ .no n) :
    ∃ tm' g1, r = .fin .norm tm' [] g1 ∧ evDeferK P fd k (rec (.code rest tm' []) g1) = r' := by
  split at h
  · exact ⟨_, _, rfl, h⟩
  · exact absurd h.symm (hn _)
theorem evDeferO_ok {fd : Func} {args : List AV} {u : Option AV} {rest : Code} {g : G} {k : G → Res} {l : List Oper} {r : Res} (h : evDeferO rec P fd args u rest g k l = r) (hn : ∀ n, r ≠ .no n) :
    ∃ o os, l = o :: os ∧ isRec o ∧ o.guard = none ∧
      (match evSeq rec P (o :: os) os (putK (Ev.args args 0 .e) o.dst (recOf u) id) [] g with | .fin .norm tm' [] g => evDeferK P fd k (rec (.code rest tm' []) g) | _ => .no 173) = r := by
  cases l with
  | nil => exact absurd h.symm (hn _)
  | cons o os =>
    simp only [evDeferO] at h
    split at h
    · rename_i ho hg
      rw [argTmps, argsK_eq, putK_eq] at h
      refine ⟨o, os, rfl, ⟨_, ho, rfl⟩, hg, ?_⟩
      cases u <;> exact h
    · exact absurd h.symm (hn _)
theorem evDeferB_ok {fd : Func} {args : List AV} {u : Option AV} {g : G} {k : G → Res} {c : Option Code} {r : Res} (h : evDeferB rec P fd args u g k c = r) (hn : ∀ n, r ≠ .no n) :
    ∃ id ops rest, c = some (.seq (.region id ops false) rest) ∧ evDeferO rec P fd args u rest g k ops.toList = r := by
  unfold evDeferB at h
  split at h
  · exact ⟨_, _, _, rfl, h⟩
  · exact absurd h.symm (hn _)
theorem evDefers_eq {fn : Func} {tm : Ts AV} {f : FuncId} {args : List AV} {ds : List (FuncId × List AV)} {u : Option AV} {g : G} : evDefers rec P fn tm ((f, args) :: ds) u g =
    match P.funcs[f]? with
    | some fd => evDeferB rec P fd args u g (fun g => evDefers rec P fn tm ds none g) fd.body
    | none => .no 177 := rfl
theorem evDefers_cons {fn : Func} {tm : Ts AV} {f : FuncId} {args : List AV} {ds : List (FuncId × List AV)} {u : Option AV} {g : G} {r : Res} (h : evDefers rec P fn tm ((f, args) :: ds) u g = r) (hn : ∀ n, r ≠ .no n) :
    ∃ (fd : Func) (rid : Nat) (ops : Array Oper) (o : Oper) (os : List Oper) (rest : Code), P.funcs[f]? = some fd ∧ fd.body = some (.seq (.region rid ops false) rest) ∧ ops.toList = o :: os ∧ isRec o ∧ o.guard = none ∧
      ∃ tm' g1, evSeq rec P (o :: os) os (putK (Ev.args args 0 .e) o.dst (recOf u) id) [] g = .fin .norm tm' [] g1 ∧
      ∃ x tm'' g2, (x = .norm ∨ x = .ret) ∧ rec (.code rest tm' []) g1 = .fin x tm'' [] g2 ∧ ∃ v g3, leave P fd tm'' g2 = .val v g3 ∧ evDefers rec P fn tm ds none g3 = r := by
  rw [evDefers_eq] at h
  cases hf : P.funcs[f]? with
  | none => rw [hf] at h; exact absurd h.symm (hn _)
  | some fd =>
    rw [hf] at h
    simp only at h
    obtain ⟨rid, ops, rest, h1, h2⟩ := evDeferB_ok h hn
    obtain ⟨o, os, h3, h4, h5, h6⟩ := evDeferO_ok h2 hn
    obtain ⟨tm', g1, h7, h8⟩ := evDeferS_ok h6 hn
    obtain ⟨x, tm'', g2, v, g3, h9, h10, h11, h12⟩ := evDeferK_ok h8 hn
    exact ⟨fd, rid, ops, o, os, rest, rfl, h1, h3, h4, h5, tm', g1, h7, x, tm'', g2, h9, h10, v, g3, h11, h12⟩

theorem Mn.resultsA {tm : Ts AV} : ∀ (rs : List ResultVar), Mn (resultsA P rs tm)
  | [] => Mn.pure
  | .tmp t :: rs => by
    simp only [Ev.resultsA]; split
    · exact (Mn.resultsA rs).bind fun _ => Mn.pure
    · exact Mn.no
  | .cell a t :: rs => by
    simp only [Ev.resultsA]; split
    · exact Mn.loadA.bind fun _ => (Mn.resultsA rs).bind fun _ => Mn.pure
    · exact Mn.no
theorem leave_le (fn : Func) (tm : Ts AV) (g : G) : LeRes g (leave P fn tm g) := by
  unfold leave
  cases e : resultsA P fn.results.toList tm g with
  | no n => trivial
  | ok vs g1 => exact Mn.resultsA _ _ _ _ e
theorem notNo (r : Res) : (∃ n, r = .no n) ∨ ∀ n, r ≠ .no n := by
  cases r with
  | no n => exact .inl ⟨n, rfl⟩
  | _ => exact .inr fun n h => by cases h
theorem evDefers_le (hr : ∀ t g, LeRes g (rec t g)) (fn : Func) (tm : Ts AV) : ∀ (ds : List (FuncId × List AV)) (u : Option AV) (g : G), LeRes g (evDefers rec P fn tm ds u g)
  | [], none, g => leave_le fn tm g
  | [], some v, g => ⟨[], Le.refl g⟩
  | (f, args) :: ds, u, g => by
    rcases notNo (evDefers rec P fn tm ((f, args) :: ds) u g) with ⟨n, e⟩ | hn
    · rw [e]; trivial
    · obtain ⟨fd, rid, ops, o, os, rest, _, _, _, _, _, tm', g1, h1, x, tm'', g2, _, h2, v, g3, h3, h4⟩ := evDefers_cons rfl hn
      have l1 := evSeq_le (P := P) hr (ops := o :: os) os (putK (Ev.args args 0 .e) o.dst (recOf u) id) [] g
      rw [h1] at l1
      obtain ⟨_, l1⟩ := l1
      have l2 := hr (.code rest tm' []) g1
      rw [h2] at l2
      obtain ⟨_, l2⟩ := l2
      have l3 := leave_le (P := P) fd tm'' g2
      rw [h3] at l3
      obtain ⟨_, l3⟩ := l3
      rw [← h4]
      exact LeRes.trans ((l1.trans l2).trans l3) (evDefers_le hr fn tm ds none g3)

/-! ### The operations behind a recover, with the callers in sight -/
theorem wpOpsS_of_wpOps {ops : Array Oper} {Q : Exit → Act → World → Prop} {Q' : Exit → Act → List Frame → World → Prop} (hno : ¬ LetsOut Q) {cs : List Frame} (hQ : ∀ e a w, Q e a w → Q' e a cs w) : ∀ (l : List Nat) (a : Act) (w : World), wpOps P ops Q l a w → wpOpsS P ops Q' l a cs w
  | [], a, w, h => hQ _ _ _ h
  | i :: l, a, w, h => by
    rw [wpOps_cons] at h
    unfold wpOp at h
    unfold wpOpsS
    cases ho : ops[i]? with
    | none => rw [ho] at h; exact wpOpsS_of_wpOps hno hQ l a w h
    | some o =>
      rw [ho] at h
      simp only at h ⊢
      cases hw : Region.wanted o (yielded ops a.tmps) with
      | false =>
        rw [hw] at h
        simp only [Bool.false_eq_true, if_false] at h ⊢
        exact wpOpsS_of_wpOps hno hQ l _ w h
      | true =>
        rw [hw] at h
        simp only [if_true] at h ⊢
        rcases h with h | h
        · unfold Oper.wp at h
          have hmono : ∀ a' w', wpOps P ops Q l a' w' → wpOpsS P ops Q' l a' cs w' := fun a' w' => wpOpsS_of_wpOps hno hQ l a' w'
          split
          · rename_i w1 hr; rw [hr] at h; exact h.elim
          · generalize (execOp a.eval o).run P w = r at h
            cases r with
            | ok n w1 =>
              cases n <;> simp only [Oper.upon] at h ⊢ <;> try exact hmono _ _ h
              · refine Calls.mono h fun e w2 he => ?_
                cases e with
                | returned v => exact hmono _ _ he
                | panicked ch => exact hQ _ _ _ he
                | outgrown => exact (hno he).elim
              · exact Rows.mono h fun _ _ he => hmono _ _ he
            | halt x w1 =>
              cases x <;> simp only [Oper.upon] at h ⊢
              exact hQ _ _ _ h
        · exact (hno h.2).elim
end
end Go.Ev
