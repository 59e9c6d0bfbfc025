/-
  A part of the evaluator of the program's code, or of what it was seen to do; its statements are Lean's own. No condition.
-/
import Derived.Test.YthclecbbebelhaaGreatEvOp8
namespace Go.Ev
open Go

theorem minA_sound {P : Program} {σ : Sg} {w : World} {x y v : AV} {X Y : Value} (h : minA x y = some v) (hx : VR σ x X) (hy : VR σ y Y) : ∃ V, (Builtin.min2 X Y).run P w = .ok V w ∧ VR σ v V := by
  unfold minA at h
  cases x <;> simp only at h <;> first | (cases h; done) | skip
  rename_i k a
  cases y <;> simp only at h <;> first | (cases h; done) | skip
  rename_i k' b
  cases hx; cases hy
  split at h
  · rename_i e; rw [leF_eq] at e; injection h with h; subst h
    have e : a ≤ b := by simpa using e
    exact ⟨.int k a, by simp [Builtin.min2]; omega, .int _ _⟩
  · rename_i e; rw [leF_eq] at e; injection h with h; subst h
    have e : ¬ a ≤ b := by simpa using e
    exact ⟨.int k b, by simp [Builtin.min2]; omega, .int _ _⟩
theorem maxA_sound {P : Program} {σ : Sg} {w : World} {x y v : AV} {X Y : Value} (h : maxA x y = some v) (hx : VR σ x X) (hy : VR σ y Y) : ∃ V, (Builtin.max2 X Y).run P w = .ok V w ∧ VR σ v V := by
  unfold maxA at h
  cases x <;> simp only at h <;> first | (cases h; done) | skip
  rename_i k a
  cases y <;> simp only at h <;> first | (cases h; done) | skip
  rename_i k' b
  cases hx; cases hy
  split at h
  · rename_i e; rw [leF_eq] at e; injection h with h; subst h
    have e : b ≤ a := by simpa using e
    exact ⟨.int k a, by simp [Builtin.max2]; omega, .int _ _⟩
  · rename_i e; rw [leF_eq] at e; injection h with h; subst h
    have e : ¬ b ≤ a := by simpa using e
    exact ⟨.int k b, by simp [Builtin.max2]; omega, .int _ _⟩
theorem foldO_sound {P : Program} {σ : Sg} {w : World} {f : AV → AV → Option AV} {F : Value → Value → Sem Value} (hf : ∀ x y v X Y, f x y = some v → VR σ x X → VR σ y Y → ∃ V, (F X Y).run P w = .ok V w ∧ VR σ v V) :
    ∀ (xs : List AV) (Xs : List Value) (a v : AV) (A : Value), foldO f a xs = some v → VR σ a A → VRs σ xs Xs → ∃ V, (Xs.foldlM F A).run P w = .ok V w ∧ VR σ v V
  | [], _, a, v, A, h, ha, .nil => by simp only [foldO] at h; injection h with h; subst h; exact ⟨A, by simp, ha⟩
  | x :: xs, _, a, v, A, h, ha, .cons hx hxs => by
    unfold foldO at h
    split at h
    · rename_i u hu
      obtain ⟨U, u1, u2⟩ := hf _ _ _ _ _ hu ha hx
      obtain ⟨V, v1, v2⟩ := foldO_sound hf xs _ u v U h u2 hxs
      exact ⟨V, by simp [List.foldlM_cons, u1, v1], v2⟩
    · cases h

/-! ### An operation, whole -/
structure PF (P : Program) : Prop where
  noNum : ∀ (f : Nat) fn, P.funcs[f]? = some fn → fn.body.isSome = true → fn.name ≠ "runtime.NumGoroutine"
  mixed : P.follows .mixedOrders = true

/-- a deferred call -/
def DR (σ : Sg) (d : FuncId × List AV) (D : Deferred) : Prop := ∃ cap, D.target = .fn (.func d.1) cap ∧ VRs σ d.2 (D.args ++ cap).toList
def OpRes (P : Program) (σ : Sg) (a : Act) (o : Oper) (w w' : World) : OpR → Prop
  | .val v => ∃ V, VR σ v V ∧ ((execOp a.eval o).run P w = .ok (.value V) w' ∨ ((execOp a.eval o).run P w = .ok .skip w' ∧ V = undef))
  | .pan v => ∃ V, VR σ v V ∧ (execOp a.eval o).run P w = .halt (.panic V) w'
  | .call f args => ∃ As : Array Value, VRs σ args As.toList ∧ (execOp a.eval o).run P w = .ok (.enter f As) w' ∧ hasBody P f = true
  | .dfr f args => ∃ D, DR σ (f, args) D ∧ (execOp a.eval o).run P w = .ok (.defer D) w' ∧ hasBody P f = true
def OpsRel (σ : Sg) (tm : Ts AV) (a : Act) (xs : List Operand) : Prop := ∀ x ∈ xs, ∀ v, opnd tm x = some v → VR σ v (a.eval x)
def OSound (P : Program) (T : Tp) (hi : Nat) (σ : Sg) (g : G) (w : World) (a : Act) (o : Oper) (m : M OpR) : Prop :=
  ∀ r g', m g = .ok r g' → Pre P T hi σ g w g' → ∃ σ' w' L, Post P T σ g w σ' g' w' L ∧ OpRes P σ' a o w w' r

section
variable {P : Program} {T : Tp} {hi : Nat} {σ : Sg} {g : G} {w : World} {a : Act} {o : Oper} {tm : Ts AV}
theorem OSound.no {n : Nat} : OSound P T hi σ g w a o (Ev.no n) := fun _ _ h _ => by cases h
theorem OSound.val {v : AV} {V : Value} (hv : VR σ v V) (h : (execOp a.eval o).run P w = .ok (.value V) w) : OSound P T hi σ g w a o (M.pure (.val v)) :=
  fun r g' e p => by obtain ⟨rfl, rfl⟩ := pure_ok e; exact ⟨σ, w, [], Post.refl p.rel, V, hv, .inl h⟩
theorem OSound.vl {m : M AV} {e : Sem Value} (h : VSound P T hi σ g w m e) (he : execOp a.eval o = do pure (.value (← e))) : OSound P T hi σ g w a o (Ev.vl m) := by
  intro r g' e1 p
  obtain ⟨v, g1, q1, q2⟩ := bind_ok e1
  obtain ⟨rfl, rfl⟩ := pure_ok q2
  obtain ⟨σ', V, w', L, h1, h2, h3⟩ := h v g' q1 p
  exact ⟨σ', w', L, h1, V, h2, .inl (by rw [he]; simp [h3])⟩
theorem OSound.ul {m : M Unit} {e : Sem Unit} (h : USound P T hi σ g w m e) (he : execOp a.eval o = do e; pure .skip) : OSound P T hi σ g w a o (Ev.ul m) := by
  intro r g' e1 p
  obtain ⟨v, g1, q1, q2⟩ := bind_ok e1
  obtain ⟨rfl, rfl⟩ := pure_ok q2
  obtain ⟨σ', w', L, h1, h3⟩ := h v g' q1 p
  exact ⟨σ', w', L, h1, undef, .tup (Cs := []) .nil, .inr ⟨by rw [he]; simp [h3], rfl⟩⟩
theorem OSound.ovl {n : Nat} {x : Option AV} {e : Sem Value} (h : ∀ v, x = some v → ∃ V, e.run P w = .ok V w ∧ VR σ v V) (he : execOp a.eval o = do pure (.value (← e))) : OSound P T hi σ g w a o (Ev.ovl n x) := by
  cases x with
  | none => exact OSound.no
  | some v =>
    obtain ⟨V, h1, h2⟩ := h v rfl
    exact OSound.val h2 (by rw [he]; simp [h1])
theorem OSound.e1 {n : Nat} {x : Operand} {f : AV → M OpR} (hr : OpsRel σ tm a [x]) (h : ∀ v, VR σ v (a.eval x) → OSound P T hi σ g w a o (f v)) : OSound P T hi σ g w a o (ev1 n tm x f) := by
  unfold ev1
  cases e : opnd tm x with
  | none => exact OSound.no
  | some v => exact h v (hr x (by simp) v e)
theorem OSound.e2 {n : Nat} {x y : Operand} {f : AV → AV → M OpR} (hr : OpsRel σ tm a [x, y]) (h : ∀ u v, VR σ u (a.eval x) → VR σ v (a.eval y) → OSound P T hi σ g w a o (f u v)) : OSound P T hi σ g w a o (ev2 n tm x y f) := by
  unfold ev2
  cases e : opnd tm x with
  | none => exact OSound.no
  | some u => cases e2 : opnd tm y with
    | none => exact OSound.no
    | some v => exact h u v (hr x (by simp) u e) (hr y (by simp) v e2)
theorem OSound.e3 {n : Nat} {x y z : Operand} {f : AV → AV → AV → M OpR} (hr : OpsRel σ tm a [x, y, z]) (h : ∀ u v s, VR σ u (a.eval x) → VR σ v (a.eval y) → VR σ s (a.eval z) → OSound P T hi σ g w a o (f u v s)) :
    OSound P T hi σ g w a o (ev3 n tm x y z f) := by
  unfold ev3
  cases e : opnd tm x with
  | none => exact OSound.no
  | some u => cases e2 : opnd tm y with
    | none => exact OSound.no
    | some v => cases e3 : opnd tm z with
      | none => exact OSound.no
      | some s => exact h u v s (hr x (by simp) u e) (hr y (by simp) v e2) (hr z (by simp) s e3)
theorem opnds_sound : ∀ (xs : List Operand) (vs : List AV), OpsRel σ tm a xs → opnds tm xs = some vs → VRs σ vs (xs.map a.eval)
  | [], vs, _, h => by simp only [opnds] at h; injection h with h; subst h; exact .nil
  | x :: xs, vs, hr, h => by
    unfold opnds at h
    split at h
    · rename_i v us h1 h2
      injection h with h; subst h
      exact .cons (hr x (by simp) v h1) (opnds_sound xs us (fun y hy => hr y (List.mem_cons_of_mem _ hy)) h2)
    · cases h
theorem partsA_sound : ∀ (xs : List (Nat × Operand)) (vs : List (Nat × AV)), OpsRel σ tm a (xs.map (·.2)) → partsA tm xs = some vs → PRs σ vs (xs.map fun (i, x) => (i, a.eval x))
  | [], vs, _, h => by simp only [partsA] at h; injection h with h; subst h; exact trivial
  | (i, x) :: xs, vs, hr, h => by
    unfold partsA at h
    split at h
    · rename_i v us h1 h2
      injection h with h; subst h
      exact ⟨rfl, hr x (by simp) v h1, partsA_sound xs us (fun y hy => hr y (List.mem_cons_of_mem _ hy)) h2⟩
    · cases h
theorem opndO_sound (x : Option Operand) (v : Option AV) (hr : OpsRel σ tm a x.toList) (h : opndO tm x = some v) : VRo σ v (x.map a.eval) := by
  cases x with
  | none => simp only [opndO] at h; injection h with h; subst h; exact trivial
  | some x =>
    simp only [opndO] at h
    split at h
    · rename_i u hu; injection h with h; subst h; exact hr x (by simp) u hu
    · cases h
theorem calleeA_sound (hP : PF P) {f : AV} {F : Value} {args : List AV} {As : List Value} {g0 : FuncId} {as : List AV} (h : calleeA P f args = some (g0, as)) (hf : VR σ f F) (ha : VRs σ args As) :
    ∃ D, DR σ (g0, as) D ∧ (∀ w : World, (Deferred.ofValue F As.toArray).run P w = .ok D w) ∧ (∀ w : World, (invoke D.target D.args).run P w = .ok (.enter g0 (D.args ++ (match D.target with | .fn _ c => c | _ => #[]))) w) ∧
      VRs σ as (D.args ++ (match D.target with | .fn _ c => c | _ => #[])).toList ∧ hasBody P g0 = true := by
  unfold calleeA at h
  split at h
  · rename_i gg first cap
    cases hb : hasBody P gg with
    | false => rw [hb] at h; cases h
    | true =>
      rw [hb] at h
      injection h with h
      injection h with h1 h2
      subst h1; subst h2
      cases hf with | func hF hC =>
      rename_i Fs Cs
      have hv : VRs σ (first ++ args ++ cap) (((Fs.toArray ++ As.toArray) ++ Cs.toArray).toList) := by
        simpa using (hF.app ha).app hC
      refine ⟨{ target := .fn (.func gg) Cs.toArray, args := Fs.toArray ++ As.toArray }, ⟨Cs.toArray, rfl, hv⟩, fun w => rfl, fun w => ?_, hv, hb⟩
      unfold hasBody at hb
      split at hb
      · rename_i fn hfn
        split at hb
        · rename_i c hc
          have hn := hP.noNum gg fn hfn (by simp [hc])
          simp [invoke, callFunc, hfn, hn, hc]
        · cases hb
      · cases hb
  · cases h
end
end Go.Ev
