/-
  A part of the evaluator of the program's code, or of what it was seen to do; its statements are Lean's own. No condition.
-/
import Derived.Test.YthclecbbebelhaaGreatEvArgs
namespace Go.Ev
open Go

/-! ### What is held against itself is the same -/
section
variable {P : Program} {h : Tr Blk}
theorem eqF_refl (a : Int) : eqF a a = true := by rw [eqF_eq]; simp
theorem and_b {x : Eqr} {y : Option Eqr} {r : Eqr} (h : x.and y = some r) (hx : x.b = true) (hy : ∀ z, y = some z → z.b = true) : r.b = true := by
  unfold Eqr.and at h
  split at h
  · split at h
    · rename_i e; rw [hx] at e; cases e
    · cases y with
      | none => cases h
      | some z => injection h with h; subst h; exact hy z rfl
  · cases y with
    | none => cases h
    | some z =>
      injection h with h; subst h
      have := hy z rfl
      simp [hx, this]
theorem sameDoE_b {k k' : IntKind} {q r : Eqr} (h : sameDoE k k' q = some r) (hq : q.b = true) : r.b = true := by
  unfold sameDoE at h
  split at h
  · injection h with h; subst h; exact hq
  · cases h
theorem leaf_refl {d : TypeDesc} {x : AV} {r : Eqr} (e : leafEq P h d x x = some r) : r.b = true := by
  unfold leafEq at e
  split at e
  · cases x <;> simp only [boolEq] at e <;> first | (cases e; done) | (injection e with e; subst e; simp [Eqr.con, Eqr.nam])
  · cases x <;> simp only [intEq] at e <;> first | (cases e; done) | exact sameDoE_b e (by simp [Eqr.con, Eqr.nam, eqF_refl])
  · cases x <;> simp only [strEq] at e <;> first | (cases e; done) | skip
    rename_i s
    injection e with e; subst e
    obtain ⟨d⟩ := s
    show (d == d) = true
    simp
  · rename_i el
    cases x <;> simp only [ptrEq] at e <;> first | (cases e; done) | (injection e with e; subst e; rfl) | skip
    split at e
    · unfold placeEq at e
      rw [beq_t rfl] at e
      simp only at e
      injection e with e; subst e
      simp [Eqr.con]
    · cases e
  · cases x <;> simp only [funcEq] at e <;> first | (cases e; done) | (injection e with e; subst e; rfl)
  · cases x <;> simp only [ifaceEq] at e <;> first | (cases e; done) | (injection e with e; subst e; rfl)
  · cases x <;> simp only [sliceEq] at e <;> first | (cases e; done) | (injection e with e; subst e; rfl)
  · cases x <;> simp only [mapEq] at e <;> first | (cases e; done) | (injection e with e; subst e; rfl)
  · cases e
theorem fields_refl {eq : TypeId → AV → AV → Option Eqr} (he : ∀ t x r, eq t x x = some r → r.b = true) (xs : List AV) : ∀ (fs : List Field) (r : Eqr), eqFields eq P xs xs fs = some r → r.b = true
  | [], r, e => by simp only [eqFields] at e; injection e with e; subst e; rfl
  | f :: fs, r, e => by
    have ih := fields_refl he xs fs
    unfold eqFields at e
    split at e
    · exact ih r e
    · cases hp : partA P f.type xs f.offset with
      | none => rw [hp] at e; cases e
      | some x =>
        rw [hp] at e
        simp only at e
        cases hq : eq f.type x x with
        | none => rw [hq] at e; cases e
        | some q =>
          rw [hq] at e
          simp only at e
          have hb := he _ _ _ hq
          split at e
          · injection e with e; subst e; exact hb
          · exact and_b e hb fun z hz => ih z hz
theorem elems_refl {eq : TypeId → AV → AV → Option Eqr} (he : ∀ t x r, eq t x x = some r → r.b = true) (t : TypeId) (s : Nat) (xs : List AV) : ∀ (n i : Nat) (r : Eqr), eqElems eq P t s xs xs n i = some r → r.b = true
  | 0, _, r, e => by simp only [eqElems] at e; injection e with e; subst e; rfl
  | n + 1, i, r, e => by
    have ih := elems_refl he t s xs n (i + 1)
    unfold eqElems at e
    cases hp : partA P t xs (i * s) with
    | none => rw [hp] at e; cases e
    | some x =>
      rw [hp] at e
      simp only at e
      cases hq : eq t x x with
      | none => rw [hq] at e; cases e
      | some q =>
        rw [hq] at e
        simp only at e
        have hb := he _ _ _ hq
        split at e
        · injection e with e; subst e; exact hb
        · exact and_b e hb fun z hz => ih z hz
theorem aeq_refl : ∀ (d : Nat) (t : TypeId) (x : AV) (r : Eqr), aeq P h d t x x = some r → r.b = true
  | 0, _, _, _, e => by simp [aeq] at e
  | d + 1, t, x, r, e => by
    have ih := aeq_refl d
    unfold aeq at e
    split at e
    · cases x <;> simp only at e <;> first | (cases e; done) | skip
      split at e
      · cases e
      · exact fields_refl ih _ _ _ e
    · cases x <;> simp only at e <;> first | (cases e; done) | skip
      split at e
      · exact elems_refl ih _ _ _ _ _ _ e
      · cases e
    · exact leaf_refl e
    · cases e
end
def eqrB : Option Eqr → Bool
  | some r => r.b
  | none => false
def Res.sb : Res → Bool
  | .val v g => match v with
    | .bool b => b && g.obl.isEmpty
    | .sbool b => b && g.obl.isEmpty
    | _ => false
  | _ => false
theorem Res.sb_spec {r : Res} (h : r.sb = true) : ∃ v g, r = .val v g ∧ (v = .bool true ∨ v = .sbool true) ∧ g.obl = [] := by
  unfold Res.sb at h
  split at h
  · rename_i v g
    split at h
    · rename_i b; simp only [Bool.and_eq_true, List.isEmpty_iff] at h; exact ⟨_, g, rfl, .inl (by rw [h.1]), h.2⟩
    · rename_i b; simp only [Bool.and_eq_true, List.isEmpty_iff] at h; exact ⟨_, g, rfl, .inr (by rw [h.1]), h.2⟩
    · cases h
  · cases h
/-- a call from nothing that says yes, be it by a test over names -/
theorem args_sb {P : Program} {Γ : Env} (hP : PF2 P) (hΓ : EnvS P Γ) {n : Nat} {f : FuncId} (hb : hasBody P f = true) {args : List AV}
    (h : (evF P Γ n (.call f args) G.init).sb = true) {Args : Array Value} (hv : VRs (fun _ => none) args Args.toList) (w : World) :
    Calls P f Args w fun e w' => e = .returned (.bool true) ∧ Still w w' := by
  obtain ⟨v, g', h1, hvv, h2⟩ := Res.sb_spec h
  refine (args_run (orc := []) hP hΓ hb h1 (fun p hp => by rw [h2] at hp; cases hp) hv w).mono fun e w' ⟨⟨V, σ, he, hV⟩, hs⟩ => ?_
  rcases hvv with rfl | rfl <;> cases hV <;> exact ⟨he, hs⟩
end Go.Ev
