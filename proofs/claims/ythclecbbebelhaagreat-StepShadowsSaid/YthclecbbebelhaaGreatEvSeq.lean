/-
  A part of the evaluator of the program's code, or of what it was seen to do; its statements are Lean's own. No condition.
-/
import Derived.Test.YthclecbbebelhaaGreatEvCode
namespace Go.Ev
open Go

section
variable {P : Program} {rec : Rec}
theorem evSeq_nil {ops : List Oper} {tm : Ts AV} {ds : List (FuncId × List AV)} {g : G} : evSeq rec P ops [] tm ds g = .fin .norm tm ds g := rfl
theorem evSeq_cons {ops : List Oper} {o : Oper} {os : List Oper} {tm : Ts AV} {ds : List (FuncId × List AV)} {g : G} : evSeq rec P ops (o :: os) tm ds g = evSeqW rec P o (evSeq rec P ops os) tm ds (wantedA ops o tm g) := rfl
/-- one step in the order of the text, taken apart -/
theorem evSeq_step {ops : List Oper} {o : Oper} {os : List Oper} {tm : Ts AV} {ds : List (FuncId × List AV)} {g : G} {r : Res} (h : evSeq rec P ops (o :: os) tm ds g = r) (hn : ∀ n, r ≠ .no n) :
    ∃ b g1, wantedA ops o tm g = .ok b g1 ∧
      ((b = false ∧ evSeq rec P ops os (putK tm o.dst (.tup []) id) ds g1 = r) ∨
       (b = true ∧ ∃ q g2, runOp rec P o tm g1 = .ok q g2 ∧
        match q with
        | .val v => evSeq rec P ops os (putK tm o.dst v id) ds g2 = r
        | .pan v => r = .fin (.pan v) tm ds g2
        | .dfr f args => evSeq rec P ops os (putK tm o.dst (.tup []) id) ((f, args) :: ds) g2 = r)) := by
  rw [evSeq_cons] at h
  cases e : wantedA ops o tm g with
  | no n => rw [e] at h; exact absurd h.symm (hn n)
  | ok b g1 =>
    rw [e] at h
    refine ⟨b, g1, rfl, ?_⟩
    cases b with
    | false => left; refine ⟨rfl, ?_⟩; simp only [evSeqW] at h; rw [putK_eq] at h; exact h
    | true =>
      right
      refine ⟨rfl, ?_⟩
      simp only [evSeqW] at h
      cases e2 : runOp rec P o tm g1 with
      | no n => rw [e2] at h; exact absurd h.symm (hn n)
      | ok q g2 =>
        rw [e2] at h
        refine ⟨q, g2, rfl, ?_⟩
        cases q with
        | val v => simp only [evSeqR, evSeqV] at h; rw [putK_eq] at h; exact h
        | pan v => exact h.symm
        | dfr f args => simp only [evSeqR, evSeqV] at h; rw [putK_eq] at h; exact h
theorem LeRes.trans {g g1 : G} {L : List Tch} {r : Res} (h : Le g g1 L) (h2 : LeRes g1 r) : LeRes g r := by
  cases r with
  | no n => trivial
  | fin x t d g2 => obtain ⟨M, l⟩ := h2; exact ⟨_, h.trans l⟩
  | val v g2 => obtain ⟨M, l⟩ := h2; exact ⟨_, h.trans l⟩
  | pan v g2 => obtain ⟨M, l⟩ := h2; exact ⟨_, h.trans l⟩
theorem evSeq_le (hr : ∀ t g, LeRes g (rec t g)) {ops : List Oper} : ∀ (l : List Oper) (tm : Ts AV) (ds : List (FuncId × List AV)) (g : G), LeRes g (evSeq rec P ops l tm ds g)
  | [], tm, ds, g => ⟨[], Le.refl g⟩
  | o :: os, tm, ds, g => by
    by_cases hn : ∀ n, evSeq rec P ops (o :: os) tm ds g ≠ .no n
    · obtain ⟨b, g1, h1, h2⟩ := evSeq_step rfl hn
      obtain ⟨L1, l1⟩ := wantedA_le _ _ _ h1
      rcases h2 with ⟨rfl, h2⟩ | ⟨rfl, q, g2, h3, h4⟩
      · rw [← h2]; exact LeRes.trans l1 (evSeq_le hr os _ _ _)
      · obtain ⟨L2, l2⟩ := runOp_le hr _ _ _ h3
        cases q with
        | val v => rw [← h4]; exact LeRes.trans (l1.trans l2) (evSeq_le hr os _ _ _)
        | pan v => rw [h4]; exact ⟨_, l1.trans l2⟩
        | dfr f args => rw [← h4]; exact LeRes.trans (l1.trans l2) (evSeq_le hr os _ _ _)
    · have : ∃ n, evSeq rec P ops (o :: os) tm ds g = .no n := by
        cases e : evSeq rec P ops (o :: os) tm ds g with
        | no n => exact ⟨n, rfl⟩
        | _ => exact absurd (fun n h => by rw [e] at h; cases h) hn
      obtain ⟨n, e⟩ := this
      rw [e]; trivial

theorem guard_rel {σ : Sg} {ops : Array Oper} {o : Oper} {tm : Ts AV} {a : Act} (h : TR σ tm a.tmps) : GRel σ ops o tm a := fun _ _ _ d v _ _ _ ht => h d v ht

theorem evSeq_sound (hP : PF P) (hrec : RecS P rec) {ops : Array Oper} {T : Tp} {hi N : Nat} {σ0 : Sg} {g0 : G} {w0 : World} (f0 : Fresh σ0 g0 hi) :
    ∀ (l : List Oper) (i : Nat), (∀ j : Nat, l[j]? = ops[i + j]?) → ∀ (tm : Ts AV) (ds : List (FuncId × List AV)) (g : G) (x : X) (tm' : Ts AV) (ds' : List (FuncId × List AV)) (g' : G), evSeq rec P ops.toList l tm ds g = .fin x tm' ds' g' →
      ∀ (σ : Sg) (w : World) (a : Act) (L : List Tch), Post P T σ0 g0 w0 σ g w L → Pre P T hi σ g w g' → TR σ tm a.tmps → DRs σ ds a.defers → opsIn N l = true → N ≤ a.tmps.size →
        wpOps P ops (CPost P T σ0 g0 w0 N x tm' ds' g') (List.range' i l.length) a w
  | [], i, _, tm, ds, g, x, tm', ds', g', h, σ, w, a, L, p0, p, ht, hd, _, hN => by
    rw [evSeq_nil] at h
    injection h with h1 h2 h3 h4
    subst h1; subst h2; subst h3; subst h4
    exact ⟨σ, L, p0, rfl, ht, hd, hN⟩
  | o :: os, i, hal, tm, ds, g, x, tm', ds', g', h, σ, w, a, L, p0, p, ht, hd, hin, hN => by
    have ho : ops[i]? = some o := by have := hal 0; simpa using this.symm
    have hal' : ∀ j : Nat, os[j]? = ops[i + 1 + j]? := fun j => by have := hal (j + 1); rw [show i + 1 + j = i + (j + 1) from by omega]; simpa using this
    simp only [opsIn, Bool.and_eq_true] at hin
    have hdst : ∀ k, o.dst = some k → k < a.tmps.size := fun k hk => by
      have h1 := hin.1
      rw [hk] at h1
      exact Nat.lt_of_lt_of_le (of_ble h1) hN
    obtain ⟨b, g1, h1, h2⟩ := evSeq_step h (fun n e => by cases e)
    rw [List.length_cons, List.range'_succ, wpOps_cons]
    unfold wpOp
    rw [ho]
    simp only
    rcases h2 with ⟨rfl, h2⟩ | ⟨rfl, q, g2, h3, h4⟩
    · have hle := evSeq_le (P := P) hrec.le (ops := ops.toList) os (putK tm o.dst (.tup []) id) ds g1
      rw [h2] at hle
      obtain ⟨M, hM⟩ := hle
      obtain ⟨hw, pw⟩ := wantedA_sound h1 (p.first hM) (guard_rel ht)
      rw [hw]
      simp only [Bool.false_eq_true, if_false]
      have htp : TR σ (putK tm o.dst (.tup []) id) (a.put o.dst undef).tmps := by
        have := ht.put (v := .tup []) (V := undef) (.tup (Cs := []) .nil) hdst
        rw [putK_eq] at this; exact this
      exact evSeq_sound hP hrec f0 os (i + 1) hal' _ _ _ _ _ _ _ h2 σ w _ _ (p0.trans pw f0 (Nat.le_trans hM.nx p.hi)) (p.then pw) htp (by rw [put_defers]; exact hd) hin.2 (by rw [put_size]; exact hN)
    · obtain ⟨L2, l2⟩ := runOp_le hrec.le _ _ _ h3
      have hle2 : ∃ M, Le g2 g' M := by
        cases q with
        | val v => have hle := evSeq_le (P := P) hrec.le (ops := ops.toList) os (putK tm o.dst v id) ds g2; rw [h4] at hle; exact hle
        | pan v => injection h4 with _ _ _ h4; subst h4; exact ⟨_, Le.refl _⟩
        | dfr f args => have hle := evSeq_le (P := P) hrec.le (ops := ops.toList) os (putK tm o.dst (.tup []) id) ((f, args) :: ds) g2; rw [h4] at hle; exact hle
      obtain ⟨M, hM⟩ := hle2
      obtain ⟨hw, pw⟩ := wantedA_sound h1 (p.first (l2.trans hM)) (guard_rel ht)
      rw [hw]
      simp only [if_true]
      refine .inl (opStep hP hrec h3 ((p.then pw).first hM) (ht.ops _) fun σ' w' L' pp => ?_)
      have hsub : Sub σ σ' := pp.ext.sub ((p.then pw).fresh) (Nat.le_trans hM.nx p.hi)
      have p1 := p0.trans (pw.trans pp p.fresh (Nat.le_trans hM.nx p.hi)) f0 (Nat.le_trans hM.nx p.hi)
      have p2 := (p.then pw).then pp
      cases q with
      | val v =>
        intro V hV
        have htp : TR σ' (putK tm o.dst v id) (a.put o.dst V).tmps := by
          have := (ht.mono hsub).put hV hdst
          rw [putK_eq] at this; exact this
        exact evSeq_sound hP hrec f0 os (i + 1) hal' _ _ _ _ _ _ _ h4 σ' w' _ _ p1 p2 htp (by rw [put_defers]; exact hd.mono hsub) hin.2 (by rw [put_size]; exact hN)
      | pan v =>
        intro V hV
        injection h4 with h5 h6 h7 h8
        subst h5; subst h6; subst h7; subst h8
        exact ⟨σ', _, p1, ⟨V, rfl, hV⟩, ht.mono hsub, hd.mono hsub, hN⟩
      | dfr f args =>
        intro D hD _
        have htp : TR σ' (putK tm o.dst (.tup []) id) (({ a with defers := D :: a.defers } : Act).put o.dst undef).tmps := by
          have := TR.put (a := { a with defers := D :: a.defers }) (ht.mono hsub) (v := .tup []) (V := undef) (.tup (Cs := []) .nil) hdst
          rw [putK_eq] at this; exact this
        exact evSeq_sound hP hrec f0 os (i + 1) hal' _ _ _ _ _ _ _ h4 σ' w' _ _ p1 p2 htp (by rw [put_defers]; exact ⟨hD, hd.mono hsub⟩) hin.2 (by rw [put_size]; exact hN)
end
end Go.Ev
