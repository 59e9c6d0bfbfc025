/-
  A part of the evaluator of the program's code, or of what it was seen to do; its statements are Lean's own. No condition.
-/
import Derived.Test.YthclecbbebelhaaGreatEvPar1
namespace Go.Ev
open Go

theorem noLog_eq (g : G) : noLog g = ⟨g.heap, g.next, [], g.orc, g.obl⟩ := by cases g; rfl
def logsOf (gs : Nat → G) : Nat → List (List Tch)
  | 0 => []
  | k + 1 => (gs (k + 1)).log :: logsOf gs k
def Lsum (gs : Nat → G) : Nat → List Tch
  | 0 => []
  | k + 1 => (gs (k + 1)).log ++ Lsum gs k
theorem logsOf_congr {gs gs' : Nat → G} : ∀ {i : Nat}, (∀ k, k ≤ i → gs' k = gs k) → logsOf gs' i = logsOf gs i
  | 0, _ => rfl
  | i + 1, h => by
    show (gs' (i + 1)).log :: logsOf gs' i = (gs (i + 1)).log :: logsOf gs i
    rw [h (i + 1) (Nat.le_refl _), logsOf_congr fun k hk => h k (by omega)]
theorem joinLogs_eq {gs : Nat → G} (base : List Tch) : ∀ {n : Nat} {fs : List Foot}, fs.map Foot.log = logsOf gs n → joinLogs fs base = Lsum gs n ++ base
  | 0, [], _ => rfl
  | 0, _ :: _, h => by cases h
  | _ + 1, [], h => by cases h
  | n + 1, f :: fs, h => by
    simp only [List.map_cons, logsOf, List.cons.injEq] at h
    show f.log ++ joinLogs fs base = ((gs (n + 1)).log ++ Lsum gs n) ++ base
    rw [joinLogs_eq base h.2, h.1, List.append_assoc]
theorem footsApart_spec {gs : Nat → G} {m : Nat} {log : List Tch} : ∀ {i : Nat} {fs : List Foot}, fs.map Foot.log = logsOf gs i → footsApart m log fs i = true → ∀ j, j < i → m.testBit j = true ∨ logsApart (gs (j + 1)).log log = true
  | 0, _, _, _, j, hj => by omega
  | _ + 1, [], h, _, _, _ => by cases h
  | i + 1, f :: fs, h, h2, j, hj => by
    simp only [List.map_cons, logsOf, List.cons.injEq] at h
    simp only [footsApart, Nat.add_sub_cancel, Bool.and_eq_true, Bool.or_eq_true] at h2
    rcases Nat.lt_or_ge j i with h3 | h3
    · exact footsApart_spec h.2 h2.2 j h3
    · have : j = i := by omega
      subst this
      rw [h.1] at h2; exact h2.1

structure Step (rec : Rec) (P : Program) (ops : Array Oper) (ms : List Nat) (tms : Nat → Ts AV) (gs : Nat → G) (vs : Nat → AV) (k : Nat) (o : Oper) : Prop where
  run : ∃ b g1, wantedA ops.toList o (tms k) (noLog (gs k)) = .ok b g1 ∧ (b = false → gs (k + 1) = g1 ∧ vs k = .tup []) ∧ (b = true → runOp rec P o (tms k) g1 = .ok (.val (vs k)) (gs (k + 1)))
  put : tms (k + 1) = putK (tms k) o.dst (vs k) id
  apart : ∀ m, ms[k]? = some m → ∀ j, j < k → m.testBit j = true ∨ logsApart (gs (j + 1)).log (gs (k + 1)).log = true
theorem Step.congr {rec : Rec} {P : Program} {ops : Array Oper} {ms : List Nat} {tms tms' : Nat → Ts AV} {gs gs' : Nat → G} {vs vs' : Nat → AV} {k i : Nat} {o : Oper} (h : Step rec P ops ms tms gs vs k o) (hk : k < i)
    (ht : ∀ j, j ≤ i → tms' j = tms j) (hg : ∀ j, j ≤ i → gs' j = gs j) (hv : ∀ j, j < i → vs' j = vs j) : Step rec P ops ms tms' gs' vs' k o where
  run := by rw [ht k (by omega), hg k (by omega), hg (k + 1) (by omega), hv k hk]; exact h.run
  put := by rw [ht k (by omega), ht (k + 1) (by omega), hv k hk]; exact h.put
  apart := fun m hm j hj => by rw [hg (j + 1) (by omega), hg (k + 1) (by omega)]; exact h.apart m hm j hj
theorem wantedA_log {ops : List Oper} {o : Oper} {tm : Ts AV} {g g' : G} {b : Bool} (h : wantedA ops o tm g = .ok b g') : g'.log = g.log := by
  unfold wantedA at h
  cases hgd : o.guard with
  | none => rw [hgd] at h; obtain ⟨_, rfl⟩ := pure_ok h; rfl
  | some jw =>
    obtain ⟨j, want⟩ := jw
    rw [hgd] at h
    simp only at h
    cases hj : ops[j]? with
    | none => rw [hj] at h; obtain ⟨_, rfl⟩ := pure_ok h; rfl
    | some oj =>
      rw [hj] at h
      simp only at h
      cases hd : oj.dst with
      | none => rw [hd] at h; obtain ⟨_, rfl⟩ := pure_ok h; rfl
      | some d =>
        rw [hd] at h
        simp only at h
        cases ht : tm.get d with
        | none => rw [ht] at h; exact (no_ok h).elim
        | some v =>
        rw [ht] at h
        cases v <;> (try simp only at h) <;> first | (exact (no_ok h).elim; done) | skip
        · obtain ⟨_, rfl⟩ := pure_ok h; rfl
        · obtain ⟨c, g1, q1, q2⟩ := bind_ok h
          obtain ⟨_, rfl⟩ := pure_ok q2
          obtain ⟨r, _, rfl⟩ := ask_ok q1
          rfl
        · rename_i vs
          cases vs with
          | cons x xs => exact (no_ok h).elim
          | nil => obtain ⟨_, rfl⟩ := pure_ok h; rfl
theorem later {α : Type} (f : Nat → α) (i : Nat) (x : α) : ∃ f' : Nat → α, (∀ j, j < i → f' j = f j) ∧ f' i = x :=
  ⟨fun k => if k = i then x else f k, fun j hj => by show (if j = i then _ else _) = _; rw [if_neg (by omega)], if_pos rfl⟩
theorem evPar_cons {rec : Rec} {P : Program} {ops : List Oper} {ms : List Nat} {o : Oper} {l : List Oper} {i : Nat} {fs : List Foot} {tm : Ts AV} {g : G} :
    evPar rec P ops ms (o :: l) i fs tm g = evParW rec P ms o (evPar rec P ops ms l) i fs tm (wantedA ops o tm (noLog g)) := rfl
theorem setFoot_eq (lo : Nat) (fs : List Foot) (g : G) (k : List Foot → G → Out (Ts AV × List Foot)) : setFoot lo fs g k = k (⟨lo, g.next, g.log⟩ :: fs) g := by cases g; rfl
theorem logsApart_nil (a : List Tch) : logsApart a [] = true := by simp [logsApart]
/-- one step taken apart -/
theorem evPar_step {rec : Rec} {P : Program} {ops : List Oper} {ms : List Nat} {o : Oper} {l : List Oper} {i : Nat} {fs : List Foot} {tm : Ts AV} {g : G} {q : Ts AV × List Foot} {g' : G}
    (h : evPar rec P ops ms (o :: l) i fs tm g = .ok q g') : ∃ b g1 v g2 f, wantedA ops o tm (noLog g) = .ok b g1 ∧ (b = false → g2 = g1 ∧ v = .tup []) ∧ (b = true → runOp rec P o tm g1 = .ok (.val v) g2) ∧
      f.log = g2.log ∧ (b = false ∨ ∃ m, ms[i]? = some m ∧ footsApart m g2.log fs i = true) ∧ evPar rec P ops ms l (i + 1) (f :: fs) (putK tm o.dst v id) g2 = .ok q g' := by
  rw [evPar_cons] at h
  cases e : wantedA ops o tm (noLog g) with
  | no n => rw [e] at h; cases h
  | ok b g1 =>
    rw [e] at h
    cases b with
    | false =>
      simp only [evParW] at h
      rw [setFoot_eq, putK_eq, natK_eq] at h
      exact ⟨false, g1, .tup [], g1, ⟨g1.next, g1.next, g1.log⟩, rfl, fun _ => ⟨rfl, rfl⟩, fun h => (by cases h), rfl, .inl rfl, h⟩
    | true =>
      simp only [evParW] at h
      cases e2 : runOp rec P o tm g1 with
      | no n => rw [e2] at h; cases h
      | ok r g2 =>
        rw [e2] at h
        cases r with
        | pan v => cases h
        | dfr f as => cases h
        | val v =>
          simp only [evParR, evParV] at h
          cases e3 : ms[i]? with
          | none => rw [e3] at h; cases h
          | some m =>
            rw [e3] at h
            simp only at h
            cases e4 : footsApart m g2.log fs i with
            | false => rw [e4] at h; cases h
            | true =>
              rw [e4] at h
              simp only at h
              rw [setFoot_eq, putK_eq, natK_eq] at h
              exact ⟨true, g1, v, g2, ⟨g1.next, g2.next, g2.log⟩, rfl, fun h => (by cases h), fun _ => e2, rfl, .inr ⟨m, rfl, e4⟩, h⟩
theorem evPar_trace {rec : Rec} {P : Program} {ops : Array Oper} {ms : List Nat} : ∀ (l : List Oper) (i : Nat) (fs : List Foot) (tm : Ts AV) (g : G) (tm' : Ts AV) (fs' : List Foot) (g' : G), evPar rec P ops.toList ms l i fs tm g = .ok (tm', fs') g' →
    (∀ j : Nat, l[j]? = ops[i + j]?) → ∀ (tms : Nat → Ts AV) (gs : Nat → G) (vs : Nat → AV), tms i = tm → gs i = g → fs.map Foot.log = logsOf gs i → (∀ k, k < i → ∀ o, ops[k]? = some o → Step rec P ops ms tms gs vs k o) →
    ∃ (tms' : Nat → Ts AV) (gs' : Nat → G) (vs' : Nat → AV), tms' 0 = tms 0 ∧ gs' 0 = gs 0 ∧ tms' (i + l.length) = tm' ∧ gs' (i + l.length) = g' ∧ fs'.map Foot.log = logsOf gs' (i + l.length) ∧
      ∀ k, k < i + l.length → ∀ o, ops[k]? = some o → Step rec P ops ms tms' gs' vs' k o
  | [], i, fs, tm, g, tm', fs', g', h, _, tms, gs, vs, h1, h2, h3, h4 => by
    have h' : (Out.ok (tm, fs) g : Out (Ts AV × List Foot)) = .ok (tm', fs') g' := h
    injection h' with h5 h6
    injection h5 with h5 h7
    subst h5; subst h6; subst h7
    exact ⟨tms, gs, vs, rfl, rfl, h1, h2, h3, h4⟩
  | o :: l, i, fs, tm, g, tm', fs', g', h, hal, tms, gs, vs, h1, h2, h3, h4 => by
    obtain ⟨b, g1, v, g2, f, e1, e2, e3, e4, e5, e6⟩ := evPar_step h
    have ho : ops[i]? = some o := by have := hal 0; simpa using this.symm
    obtain ⟨tms1, ht0, ht'⟩ := later tms (i + 1) (putK tm o.dst v id)
    obtain ⟨gs1, hg0, hg'⟩ := later gs (i + 1) g2
    obtain ⟨vs1, hv, hv'⟩ := later vs i v
    have ht : ∀ j, j ≤ i → tms1 j = tms j := fun j hj => ht0 j (by omega)
    have hg : ∀ j, j ≤ i → gs1 j = gs j := fun j hj => hg0 j (by omega)
    obtain ⟨tms', gs', vs', q1, q2, q3, q4, q5, q6⟩ := evPar_trace l (i + 1) (f :: fs) (putK tm o.dst v id) g2 tm' fs' g' e6
      (fun j => by have := hal (j + 1); rw [show i + 1 + j = i + (j + 1) from by omega]; simpa using this)
      tms1 gs1 vs1
      ht' hg' (by
        show f.log :: fs.map Foot.log = (gs1 (i + 1)).log :: logsOf gs1 i
        rw [logsOf_congr hg, hg', e4, h3])
      (fun k hk o' ho' => by
        rcases Nat.lt_or_ge k i with h5 | h5
        · exact (h4 k h5 o' ho').congr h5 ht hg hv
        · have : k = i := by omega
          subst this
          rw [ho] at ho'; injection ho' with ho'; subst ho'
          refine ⟨⟨b, g1, ?_, ?_, ?_⟩, ?_, ?_⟩
          · rw [ht k (Nat.le_refl _), hg k (Nat.le_refl _), h1, h2]; exact e1
          · intro hb; rw [hg', hv']; exact e2 hb
          · intro hb; rw [hg', hv', ht k (Nat.le_refl _), h1]; exact e3 hb
          · rw [ht', ht k (Nat.le_refl _), h1, hv']
          · intro m hm j hj
            rw [hg', hg (j + 1) (by omega)]
            rcases e5 with e5 | ⟨m', e5, e7⟩
            · have := (e2 e5).1
              subst this
              rw [wantedA_log e1, noLog_eq]
              exact .inr (logsApart_nil _)
            · rw [hm] at e5; injection e5 with e5; subst e5
              exact footsApart_spec h3 e7 j hj)
    refine ⟨tms', gs', vs', q1.trans (ht 0 (by omega)), q2.trans (hg 0 (by omega)), ?_, ?_, ?_, ?_⟩
    · rw [← q3, List.length_cons]; congr 1; omega
    · rw [← q4, List.length_cons]; congr 1; omega
    · rw [q5, List.length_cons]; congr 1; omega
    · intro k hk; exact q6 k (by rw [List.length_cons] at hk; omega)
end Go.Ev
