/-
  A part of the evaluator of the program's code, or of what it was seen to do; its statements are Lean's own. No condition.
-/
import Derived.Test.YthclecbbebelhaaGreatEvSym
import Derived.Test.YthclecbbebelhaaGreatEvRefl
namespace Go.Ev
open Go

/-! ### A number folded into 0 .. 63, by contract: the value is owed -/
def fewI (x : Int) : Int := if x < 0 then (IntKind.i64.wrap (0 - IntKind.i64.wrap (x + 1))).tmod 64 else x.tmod 64
def fewArgs : List AV → Option Int
  | [.sint .i64 x, .int .i64 (.ofNat m)] => match Nat.beq m 63 with
    | true => some x
    | false => none
  | _ => none
noncomputable def fewS (v : Int) (args : List AV) (g : G) : Res := match fewArgs args with
  | some x => match g with
    | ⟨h, nx, l, oc, ob⟩ => .val (.int .i64 v) ⟨h, nx, l, oc, (decide (fewI x = v), true) :: ob⟩
  | none => .no 301
theorem fewArgs_some {args : List AV} {x : Int} (h : fewArgs args = some x) : args = [.sint .i64 x, .int .i64 63] := by
  unfold fewArgs at h
  split at h
  · split at h
    · rename_i x' m hb
      injection h with h; subst h
      rw [of_beq hb]; rfl
    · cases h
  · cases h
/-- what is seen of a run that touches nothing -/
def Res.all : Res → Option (AV × Tr Blk × Nat × List Tch × List (Bool × Bool))
  | .val v g => some (v, g.heap, g.next, g.log, g.obl)
  | _ => none
structure FewRun (P : Program) (f : FuncId) : Prop where
  neg : ∀ (x : Int) h nx l ob, (evF P (fun _ => none) 1000 (.call f [.sint .i64 x, .int .i64 63]) ⟨h, nx, l, [true], ob⟩).all = some (.sint .i64 ((IntKind.i64.wrap (0 - IntKind.i64.wrap (x + 1))).tmod 64), h, nx, l, (decide (x < 0), true) :: ob)
  pos : ∀ (x : Int) h nx l ob, (evF P (fun _ => none) 1000 (.call f [.sint .i64 x, .int .i64 63]) ⟨h, nx, l, [false], ob⟩).all = some (.sint .i64 (x.tmod 64), h, nx, l, (decide (x < 0), false) :: ob)
theorem few_le (v : Int) (args : List AV) (g : G) : LeRes g (fewS v args g) := by
  unfold fewS
  split
  · obtain ⟨h, nx, l, oc, ob⟩ := g
    exact ⟨[], rfl, Nat.le_refl _, ⟨[_], rfl⟩, fun _ b _ h => ⟨b, h, rfl⟩, fun _ _ b _ _ h h' => ⟨b, h, h'⟩, fun _ h => by cases h⟩
  · trivial
theorem few_call {P : Program} (hP : PF2 P) {f : FuncId} (hb : hasBody P f = true) (hf : FewRun P f) (v : Int) : CallSf P f (fewS v) := by
  intro args g g' hg T hi σ w Args p hv
  unfold fewS at hg ⊢
  cases hx : fewArgs args with
  | none => rw [hx] at hg; cases hg
  | some x =>
    rw [hx] at hg
    obtain ⟨h, nx, l, oc, ob⟩ := g
    injection hg with hg; subst hg
    have ha := fewArgs_some hx
    subst ha
    have howe : fewI x = v := by
      have := p.owes (decide (fewI x = v), true) List.mem_cons_self
      simpa using this
    have hrest : ∀ q ∈ ob, q.1 = q.2 := fun q hq => p.owes q (List.mem_cons_of_mem _ hq)
    have key : ∀ (d : Bool) (e : Int), d = decide (x < 0) → e = fewI x → (evF P (fun _ => none) 1000 (.call f [.sint .i64 x, .int .i64 63]) ⟨h, nx, l, [d], ob⟩).all = some (.sint .i64 e, h, nx, l, (decide (x < 0), d) :: ob) →
        Calls P f Args w (CallR P T σ ⟨h, nx, l, oc, ob⟩ w (.val (.int .i64 v) ⟨h, nx, l, oc, (decide (fewI x = v), true) :: ob⟩)) := by
      intro d e hd he hr
      cases hres : evF P (fun _ => none) 1000 (.call f [.sint .i64 x, .int .i64 63]) ⟨h, nx, l, [d], ob⟩ with
      | no n => rw [hres] at hr; cases hr
      | fin y t ds g2 => rw [hres] at hr; cases hr
      | pan u g2 => rw [hres] at hr; cases hr
      | val u g2 =>
        rw [hres] at hr
        obtain ⟨h2, nx2, l2, oc2, ob2⟩ := g2
        simp only [Res.all] at hr
        injection hr with hr
        injection hr with e1 hr
        injection hr with e2 hr
        injection hr with e3 hr
        injection hr with e4 e5
        have e2 : h2 = h := e2
        have e3 : nx2 = nx := e3
        have e4 : l2 = l := e4
        have e5 : ob2 = (decide (x < 0), d) :: ob := e5
        subst e1; subst e2; subst e3; subst e4; subst e5
        have hc := (evF_sound hP (noEnv P) 1000).call f hb [.sint .i64 x, .int .i64 63] ⟨h2, nx2, l2, [d], ob⟩ ⟨h2, nx2, l2, oc2, (decide (x < 0), d) :: ob⟩ (by show (evF P _ 1000 _ _).g? = _; rw [hres]; rfl) T hi σ w Args
          { rel := p.rel.same rfl
            fresh := p.fresh
            hi := p.hi
            inT := fun L hL => by
              have hL : l2 = L ++ l2 := hL
              have : L = [] := by have := congrArg List.length hL; simp at this; exact this
              subst this; intro t ht; cases ht
            owes := fun q hq => by
              rcases List.mem_cons.1 hq with rfl | hq
              · exact hd.symm
              · exact hrest q hq } hv
        refine hc.mono fun en w' hw => ?_
        simp only [CallR, hres] at hw
        obtain ⟨σ', L, V, q, rfl, hV⟩ := hw
        have hL : L = [] := by
          have h1 : l2 = L ++ l2 := q.le.log
          have := congrArg List.length h1; simp at this; exact this
        subst hL
        cases hV
        refine ⟨σ', [], _, ⟨⟨rfl, Nat.le_refl _, ⟨[_], rfl⟩, fun _ b _ h => ⟨b, h, rfl⟩, fun _ _ b _ _ h h' => ⟨b, h, h'⟩, fun _ h => by cases h⟩, q.ext, q.rel.same rfl, q.fr, q.nw⟩, rfl, ?_⟩
        rw [he, howe]; exact .int _ _
    by_cases hneg : x < 0
    · exact key true _ (by simp [hneg]) (by simp [fewI, hneg]) (hf.neg x h nx l ob)
    · exact key false _ (by simp [hneg]) (by simp [fewI, hneg]) (hf.pos x h nx l ob)
theorem few_range {x : Int} (h1 : -9223372036854775808 ≤ x) (h2 : x ≤ 9223372036854775807) : 0 ≤ fewI x ∧ fewI x < 64 := by
  unfold fewI
  split
  · rename_i h
    have e1 : IntKind.i64.wrap (x + 1) = x + 1 := by rw [IntKind.wrap_i64]; omega
    have e2 : IntKind.i64.wrap (0 - (x + 1)) = 0 - (x + 1) := by rw [IntKind.wrap_i64]; omega
    rw [e1, e2]
    have h3 : 0 ≤ 0 - (x + 1) := by omega
    rw [Int.tmod_eq_emod_of_nonneg h3]
    omega
  · rename_i h
    have h3 : 0 ≤ x := by omega
    rw [Int.tmod_eq_emod_of_nonneg h3]
    omega
noncomputable def addFn (f : FuncId) (s : List AV → G → Res) (Γ : Env) : Env := fun k => match Nat.beq k f with | true => some s | false => Γ k
theorem addFn_ok {P : Program} {Γ : Env} (hΓ : EnvS P Γ) {f : FuncId} {s : List AV → G → Res} (hle : ∀ args g, LeRes g (s args g)) (hs : CallSf P f s) : EnvS P (addFn f s Γ) := hΓ.add hle hs
/-- what a run that says true owes -/
def Res.owed : Res → Option (List (Bool × Bool))
  | .val v g => match v with
    | .bool true => some g.obl
    | _ => none
  | _ => none
theorem args_owed {P : Program} {Γ : Env} (hP : PF2 P) (hΓ : EnvS P Γ) {n : Nat} {f : FuncId} (hb : hasBody P f = true) {args : List AV} {ob : List (Bool × Bool)}
    (h : (evF P Γ n (.call f args) G.init).owed = some ob) (ho : ∀ q ∈ ob, q.1 = q.2) {Args : Array Value} (hv : VRs (fun _ => none) args Args.toList) (w : World) :
    Calls P f Args w fun e w' => e = .returned (.bool true) ∧ Still w w' := by
  unfold Res.owed at h
  split at h
  · rename_i v g' h1
    split at h
    · injection h with h; subst h
      refine (args_run (orc := []) hP hΓ hb h1 ho hv w).mono fun e w' ⟨⟨V, σ, he, hV⟩, hs⟩ => ?_
      cases hV
      exact ⟨he, hs⟩
    · cases h
  · cases h
end Go.Ev
