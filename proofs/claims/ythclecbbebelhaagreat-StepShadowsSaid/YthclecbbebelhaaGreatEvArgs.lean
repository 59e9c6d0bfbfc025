/-
  A part of the evaluator of the program's code, or of what it was seen to do; its statements are Lean's own. No condition.
-/
import Derived.Test.YthclecbbebelhaaGreatEvSum
namespace Go.Ev
open Go

def G.asks (orc : List Bool) : G := { heap := .lf, next := 0, log := [], orc := orc, obl := [] }
/-- a call from nothing: what it returns, and all else is still -/
theorem args_run {P : Program} {Γ : Env} (hP : PF2 P) (hΓ : EnvS P Γ) {n : Nat} {f : FuncId} (hb : hasBody P f = true) {args : List AV} {orc : List Bool} {v : AV} {g' : G}
    (h1 : evF P Γ n (.call f args) (G.asks orc) = .val v g') (ho : Owes g') {Args : Array Value} (hv : VRs (fun _ => none) args Args.toList) (w : World) :
    Calls P f Args w fun e w' => (∃ V σ, e = .returned V ∧ VR σ v V) ∧ Still w w' := by
  have hs := (evF_sound hP hΓ n).call f hb args (G.asks orc) g' (by show (evF P Γ n (.call f args) (G.asks orc)).g? = _; rw [h1]; rfl) (fun _ _ => True) g'.next (fun _ => none) w Args
    { rel := ⟨fun i blk hg => (by cases hg), fun i blk o c b cap hg => (by cases hg), fun i j bi bj b c c' hg => (by cases hg)⟩
      fresh := fun _ _ _ => rfl
      hi := Nat.le_refl _
      inT := fun _ _ _ _ _ _ => trivial
      owes := ho } hv
  refine hs.mono fun e w' hw => ?_
  simp only [CallR, h1] at hw
  obtain ⟨σ', L, V, hp, rfl, hV⟩ := hw
  refine ⟨⟨V, σ', rfl, hV⟩, hp.fr.still fun b o hb hc => ?_⟩
  obtain ⟨i, c, hi, _⟩ := hc
  by_cases hlt : i < g'.next
  · rcases hp.nw i b c (Nat.zero_le _) hlt hi with h3 | ⟨_, _, _, h4⟩
    · omega
    · cases h4
  · rw [hp.ext i (.inr (by omega))] at hi; cases hi
/-- a call from nothing that says yes, and owes nothing -/
theorem args_yes {P : Program} {Γ : Env} (hP : PF2 P) (hΓ : EnvS P Γ) {n : Nat} {f : FuncId} (hb : hasBody P f = true) {args : List AV}
    (h : (evF P Γ n (.call f args) G.init).yes = true) {Args : Array Value} (hv : VRs (fun _ => none) args Args.toList) (w : World) :
    Calls P f Args w fun e w' => e = .returned (.bool true) ∧ Still w w' := by
  obtain ⟨g', h1, h2⟩ := Res.yes_spec h
  refine (args_run (orc := []) hP hΓ hb h1 (fun p hp => by rw [h2] at hp; cases hp) hv w).mono fun e w' ⟨⟨V, σ, he, hV⟩, hs⟩ => ?_
  cases hV
  exact ⟨he, hs⟩
end Go.Ev
