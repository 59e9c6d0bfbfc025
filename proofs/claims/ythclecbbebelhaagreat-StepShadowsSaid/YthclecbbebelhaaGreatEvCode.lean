/-
  A part of the evaluator of the program's code, or of what it was seen to do; its statements are Lean's own. No condition.
-/
import Derived.Test.YthclecbbebelhaaGreatEvMono
import Derived.Scope
namespace Go.Ev
open Go

/-! ### Frames -/
def TR (σ : Sg) (tm : Ts AV) (tmps : Array Value) : Prop := ∀ t v, tm.get t = some v → ∃ V, tmps[t]? = some V ∧ VR σ v V
theorem TR.mono {σ σ' : Sg} (s : Sub σ σ') {tm : Ts AV} {tmps : Array Value} (h : TR σ tm tmps) : TR σ' tm tmps := fun t v e => let ⟨V, a, b⟩ := h t v e; ⟨V, a, b.mono s⟩
theorem TR.put {σ : Sg} {tm : Ts AV} {a : Act} (h : TR σ tm a.tmps) {v : AV} {V : Value} (hv : VR σ v V) {d : Option Tmp} (hd : ∀ k, d = some k → k < a.tmps.size) : putK tm d v (fun tm => TR σ tm (a.put d V).tmps) := by
  cases d with
  | none => exact h
  | some k =>
    simp only [putK, Ts.setK_eq]
    intro t u ht
    have hk := hd k rfl
    rcases Ts.get_set ht with ⟨rfl, rfl⟩ | ⟨hne, h1⟩
    · exact ⟨V, by simp [Act.put, hk], hv⟩
    · obtain ⟨U, h2, h3⟩ := h t u h1
      exact ⟨U, by simp only [Act.put]; rw [Array.getElem?_setIfInBounds_ne (fun e => hne e.symm)]; exact h2, h3⟩
noncomputable def args (l : List AV) : Nat → Ts AV → Ts AV := fun i t => argsK l i t id
theorem argsK_eq {β : Type} : ∀ (l : List AV) (i : Nat) (t : Ts AV) (k : Ts AV → β), argsK l i t k = k (args l i t)
  | [], _, _, _ => rfl
  | v :: l, i, t, k => by
    unfold args
    show Ts.setK t i v (fun t => argsK l (i + 1) t k) = k (Ts.setK t i v fun t => argsK l (i + 1) t id)
    rw [Ts.setK_eq, Ts.setK_eq, argsK_eq l, argsK_eq l]; rfl
theorem args_get : ∀ (l : List AV) (i : Nat) (t : Ts AV) (k : Nat) (x : AV), (args l i t).get k = some x → (∃ v, i ≤ k ∧ l[k - i]? = some v ∧ x = v) ∨ t.get k = some x
  | [], _, _, _, _, h => .inr h
  | v :: l, i, t, k, x, h => by
    have h' : (args l (i + 1) (t.set i v)).get k = some x := by
      unfold args at h
      have e : argsK (v :: l) i t id = Ts.setK t i v fun t => argsK l (i + 1) t id := rfl
      rw [e, Ts.setK_eq] at h; exact h
    rcases args_get l (i + 1) _ k x h' with ⟨u, h1, h2, h3⟩ | h1
    · refine .inl ⟨u, by omega, ?_, h3⟩
      obtain ⟨d, rfl⟩ : ∃ d, k = i + 1 + d := ⟨k - (i + 1), by omega⟩
      rw [show i + 1 + d - i = d + 1 from by omega]
      rw [show i + 1 + d - (i + 1) = d from by omega] at h2
      simpa using h2
    · rcases Ts.get_set h1 with ⟨rfl, rfl⟩ | ⟨_, h2⟩
      · exact .inl ⟨_, Nat.le_refl _, by simp, rfl⟩
      · exact .inr h2
theorem putK_eq {β : Type} (tm : Ts AV) (d : Option Tmp) (v : AV) (k : Ts AV → β) : putK tm d v k = k (putK tm d v id) := by
  cases d with
  | none => rfl
  | some d => simp only [putK, Ts.setK_eq]; rfl
theorem put_size (a : Act) (d : Option Tmp) (V : Value) : (a.put d V).tmps.size = a.tmps.size := by cases d <;> simp [Act.put]
theorem put_defers (a : Act) (d : Option Tmp) (V : Value) : (a.put d V).defers = a.defers := by cases d <;> rfl
theorem TR.ops {σ : Sg} {tm : Ts AV} {a : Act} (h : TR σ tm a.tmps) (xs : List Operand) : OpsRel σ tm a xs := by
  intro x _ v hv
  cases x with
  | tmp t =>
    obtain ⟨V, h1, h2⟩ := h t v hv
    have : a.eval (.tmp t) = V := by simp [Act.eval, h1]
    rw [this]; exact h2
  | const V => exact ofV_sound σ 6 V v hv
  | func f => injection hv with hv; subst hv; exact VR.func (As := []) (Cs := []) .nil .nil
  | global n => cases hv
def DRs (σ : Sg) : List (FuncId × List AV) → List Deferred → Prop
  | [], [] => True
  | d :: ds, D :: Ds => DR σ d D ∧ DRs σ ds Ds
  | _, _ => False
theorem DR.mono {σ σ' : Sg} (s : Sub σ σ') {d : FuncId × List AV} {D : Deferred} (h : DR σ d D) : DR σ' d D := let ⟨c, a, b⟩ := h; ⟨c, a, b.mono s⟩
theorem DRs.mono {σ σ' : Sg} (s : Sub σ σ') : ∀ {ds : List (FuncId × List AV)} {Ds : List Deferred}, DRs σ ds Ds → DRs σ' ds Ds
  | [], [], _ => trivial
  | _ :: _, _ :: _, ⟨a, b⟩ => ⟨a.mono s, DRs.mono s b⟩
  | [], _ :: _, h => by cases h
  | _ :: _, [], h => by cases h

def opsIn (N : Nat) : List Oper → Bool
  | [] => true
  | o :: os => (match o.dst with | some d => Nat.ble (d + 1) N | none => true) && opsIn N os
def codeIn (N : Nat) : Code → Bool
  | .region _ ops _ => opsIn N ops.toList
  | .seq a b => codeIn N a && codeIn N b
  | .cond _ a b => codeIn N a && codeIn N b
  | .block _ a => codeIn N a
  | .loop a => codeIn N a
  | .scope a => codeIn N a
  | _ => true
theorem opsIn_mem {N : Nat} {ops : List Oper} (h : opsIn N ops = true) : ∀ o ∈ ops, ∀ d, o.dst = some d → d < N := by
  induction ops with
  | nil => intro o ho; cases ho
  | cons p ps ih =>
    intro o ho d hd
    simp only [opsIn, Bool.and_eq_true] at h
    rcases List.mem_cons.1 ho with rfl | hm
    · have h1 := h.1
      rw [hd] at h1
      exact of_ble h1
    · exact ih h.2 o hm d hd
structure PF2 (P : Program) : Prop extends PF P where
  allIn : ∀ (f : Nat) fn c, P.funcs[f]? = some fn → fn.body = some c → codeIn fn.ntmps c = true

/-! ### What the runs of the parts owe -/
def LeRes (g : G) : Res → Prop
  | .no _ => True
  | .fin _ _ _ g' => ∃ L, Le g g' L
  | .val _ g' => ∃ L, Le g g' L
  | .pan _ g' => ∃ L, Le g g' L
def XR (σ : Sg) : X → Exit → Prop
  | .norm, e => e = .normal
  | .exit id, e => e = .exit id
  | .ret, e => e = .ret
  | .pan v, e => ∃ V, e = .panic [{ v := V, recovered := false }] ∧ VR σ v V
def CPost (P : Program) (T : Tp) (σ : Sg) (g : G) (w : World) (N : Nat) (x : X) (tm' : Ts AV) (ds' : List (FuncId × List AV)) (g' : G) : Exit → Act → World → Prop := fun e a' w' =>
  ∃ σ' L, Post P T σ g w σ' g' w' L ∧ XR σ' x e ∧ TR σ' tm' a'.tmps ∧ DRs σ' ds' a'.defers ∧ N ≤ a'.tmps.size
def CodeS (P : Program) (rec : Rec) : Prop := ∀ c tm ds g x tm' ds' g', rec (.code c tm ds) g = .fin x tm' ds' g' → ∀ T hi σ w a N, Pre P T hi σ g w g' → TR σ tm a.tmps → DRs σ ds a.defers → codeIn N c = true → N ≤ a.tmps.size →
  c.wp P (CPost P T σ g w N x tm' ds' g') a w
def CallR (P : Program) (T : Tp) (σ : Sg) (g : G) (w : World) (r : Res) : Ending → World → Prop := fun e w' =>
  match r with
  | .val v g' => ∃ σ' L V, Post P T σ g w σ' g' w' L ∧ e = .returned V ∧ VR σ' v V
  | .pan v g' => ∃ σ' L V, Post P T σ g w σ' g' w' L ∧ e = .panicked [{ v := V, recovered := false }] ∧ VR σ' v V
  | _ => False
def Res.g? : Res → Option G
  | .val _ g => some g
  | .pan _ g => some g
  | _ => none
def CallSf (P : Program) (f : FuncId) (s : List AV → G → Res) : Prop := ∀ args g g', (s args g).g? = some g' → ∀ T hi σ w Args, Pre P T hi σ g w g' → VRs σ args Args.toList →
  Calls P f Args w (CallR P T σ g w (s args g))
structure RecS (P : Program) (rec : Rec) : Prop where
  le : ∀ t g, LeRes g (rec t g)
  code : CodeS P rec
  call : ∀ f, hasBody P f = true → CallSf P f (fun args g => rec (.call f args) g)

/-! ### A single operation -/
theorem runOp_le {P : Program} {rec : Rec} (hr : ∀ t g, LeRes g (rec t g)) {o : Oper} {tm : Ts AV} : Mn (runOp rec P o tm) := by
  intro g r g' h
  unfold runOp at h
  cases e : evOp P tm o.op g with
  | no n => rw [e] at h; cases h
  | ok q g1 =>
    rw [e] at h
    obtain ⟨L, l1⟩ := Mn.evOp _ _ _ e
    cases q <;> simp only at h
    case val v => injection h with h1 h2; subst h2; exact ⟨L, l1⟩
    case pan v => injection h with h1 h2; subst h2; exact ⟨L, l1⟩
    case dfr f args => injection h with h1 h2; subst h2; exact ⟨L, l1⟩
    case call f args =>
      have := hr (.call f args) g1
      cases e2 : rec (.call f args) g1 with
      | no n => rw [e2] at h; cases h
      | fin x t d g2 => rw [e2] at h; cases h
      | val v g2 =>
        rw [e2] at h this
        injection h with h1 h2; subst h2
        obtain ⟨M, l2⟩ := this
        exact ⟨_, l1.trans l2⟩
      | pan v g2 =>
        rw [e2] at h this
        injection h with h1 h2; subst h2
        obtain ⟨M, l2⟩ := this
        exact ⟨_, l1.trans l2⟩
theorem wantedA_le {ops : List Oper} {o : Oper} {tm : Ts AV} : Mn (wantedA ops o tm) := by
  unfold wantedA
  split
  · exact Mn.pure
  · split
    · split
      · split
        · exact Mn.pure
        · exact Mn.ask.bind fun _ => Mn.pure
        · exact Mn.pure
        · exact Mn.no
      · exact Mn.pure
    · exact Mn.pure
/-- the first part of a run fits, if the whole does -/
theorem Pre.first {P : Program} {T : Tp} {hi : Nat} {σ : Sg} {g g1 g' : G} {w : World} {M : List Tch} (p : Pre P T hi σ g w g') (h : Le g1 g' M) : Pre P T hi σ g w g1 where
  rel := p.rel
  fresh := p.fresh
  hi := Nat.le_trans h.nx p.hi
  inT := fun L e => (p.inT (M ++ L) (by rw [h.log, e, List.append_assoc])).of_app.2
  owes := h.owes p.owes
theorem Pre.then {P : Program} {T : Tp} {hi : Nat} {σ σ1 : Sg} {g g1 g' : G} {w w1 : World} {L : List Tch} (p : Pre P T hi σ g w g') (q : Post P T σ g w σ1 g1 w1 L) : Pre P T hi σ1 g1 w1 g' where
  rel := q.rel
  fresh := q.ext.fresh p.fresh q.le.nx
  hi := p.hi
  inT := fun M e => (p.inT (M ++ L) (by rw [e, q.le.log, List.append_assoc])).of_app.1
  owes := p.owes

/-- what an operation's guard reads -/
def GRel (σ : Sg) (ops : Array Oper) (o : Oper) (tm : Ts AV) (a : Act) : Prop := ∀ j want oj d v, o.guard = some (j, want) → ops[j]? = some oj → oj.dst = some d → tm.get d = some v → ∃ V, a.tmps[d]? = some V ∧ VR σ v V
theorem wantedA_sound {P : Program} {T : Tp} {hi : Nat} {σ : Sg} {ops : Array Oper} {o : Oper} {tm : Ts AV} {g g' : G} {w : World} {a : Act} {b : Bool} (h : wantedA ops.toList o tm g = .ok b g') (p : Pre P T hi σ g w g') (hg : GRel σ ops o tm a) :
    Region.wanted o (yielded ops a.tmps) = b ∧ Post P T σ g w σ g' w [] := by
  unfold wantedA at h
  cases hgd : o.guard with
  | none => rw [hgd] at h; obtain ⟨rfl, rfl⟩ := pure_ok h; exact ⟨by simp [Region.wanted, hgd], Post.refl p.rel⟩
  | some jw =>
    obtain ⟨j, want⟩ := jw
    rw [hgd] at h
    simp only [Array.getElem?_toList] at h
    cases hj : ops[j]? with
    | none => rw [hj] at h; obtain ⟨rfl, rfl⟩ := pure_ok h; exact ⟨by simp [Region.wanted, hgd, yielded, hj], Post.refl p.rel⟩
    | some oj =>
      rw [hj] at h
      simp only at h
      cases hd : oj.dst with
      | none => rw [hd] at h; obtain ⟨rfl, rfl⟩ := pure_ok h; exact ⟨by simp [Region.wanted, hgd, yielded, hj, hd], Post.refl p.rel⟩
      | some d =>
        rw [hd] at h
        simp only at h
        cases ht : tm.get d with
        | none => rw [ht] at h; exact (no_ok h).elim
        | some v =>
        rw [ht] at h
        cases v <;> (try simp only at h) <;> first | (exact (no_ok h).elim; done) | skip
        · rename_i b'
          obtain ⟨rfl, rfl⟩ := pure_ok h
          obtain ⟨V, h1, h2⟩ := hg j want oj d _ hgd hj hd ht
          cases h2
          exact ⟨by simp [Region.wanted, hgd, yielded, hj, hd, h1], Post.refl p.rel⟩
        · rename_i b'
          obtain ⟨c, g1, q1, q2⟩ := bind_ok h
          obtain ⟨rfl, rfl⟩ := pure_ok q2
          obtain ⟨r, hr, rfl⟩ := ask_ok q1
          obtain ⟨V, h1, h2⟩ := hg j want oj d _ hgd hj hd ht
          cases h2
          have hbc : b' = c := p.owes (b', c) List.mem_cons_self
          subst hbc
          exact ⟨by simp [Region.wanted, hgd, yielded, hj, hd, h1], Post.asked p.rel⟩
        · rename_i vs
          cases vs with
          | cons x xs => exact (no_ok h).elim
          | nil =>
          obtain ⟨rfl, rfl⟩ := pure_ok h
          obtain ⟨V, h1, h2⟩ := hg j want oj d _ hgd hj hd ht
          cases h2 with | tup h3 =>
          cases h3
          exact ⟨by simp [Region.wanted, hgd, yielded, hj, hd, h1], Post.refl p.rel⟩

theorem opStep {P : Program} {rec : Rec} (hP : PF P) (hrec : RecS P rec) {T : Tp} {hi : Nat} {σ : Sg} {o : Oper} {tm : Ts AV} {g g' : G} {w : World} {a : Act} {r : OpV} {K : Act → World → Prop} {Q : Exit → Act → World → Prop}
    (h : runOp rec P o tm g = .ok r g') (p : Pre P T hi σ g w g') (hops : OpsRel σ tm a o.op.operands.toList)
    (hk : ∀ σ' w' L, Post P T σ g w σ' g' w' L → match r with
      | .val v => ∀ V, VR σ' v V → K (a.put o.dst V) w'
      | .pan v => ∀ V, VR σ' v V → Q (.panic [{ v := V, recovered := false }]) a w'
      | .dfr f args => ∀ D, DR σ' (f, args) D → hasBody P f = true → K ({ a with defers := D :: a.defers }.put o.dst undef) w') :
    o.wp P a w K Q := by
  unfold runOp at h
  cases e : evOp P tm o.op g with
  | no n => rw [e] at h; cases h
  | ok q g1 =>
    rw [e] at h
    have hle : ∃ M, Le g1 g' M := by
      cases q <;> simp only at h
      case val v => injection h with h1 h2; subst h2; exact ⟨_, Le.refl _⟩
      case pan v => injection h with h1 h2; subst h2; exact ⟨_, Le.refl _⟩
      case dfr f args => injection h with h1 h2; subst h2; exact ⟨_, Le.refl _⟩
      case call f args =>
        have := hrec.le (.call f args) g1
        cases e2 : rec (.call f args) g1 with
        | no n => rw [e2] at h; cases h
        | fin x t d g2 => rw [e2] at h; cases h
        | val v g2 => rw [e2] at h this; injection h with h1 h2; subst h2; exact this
        | pan v g2 => rw [e2] at h this; injection h with h1 h2; subst h2; exact this
    obtain ⟨M, hM⟩ := hle
    obtain ⟨σ1, w1, L1, p1, hres⟩ := evOp_sound hP hops q g1 e (p.first hM)
    cases q <;> simp only at h
    case val v =>
      injection h with h1 h2; subst h1; subst h2
      obtain ⟨V, v1, v2⟩ := hres
      rcases v2 with v2 | ⟨v2, rfl⟩
      · unfold Oper.wp; rw [v2]; exact hk σ1 w1 L1 p1 V v1
      · unfold Oper.wp; rw [v2]; exact hk σ1 w1 L1 p1 undef v1
    case pan v =>
      injection h with h1 h2; subst h1; subst h2
      obtain ⟨V, v1, v2⟩ := hres
      unfold Oper.wp; rw [v2]; exact hk σ1 w1 L1 p1 V v1
    case dfr f args =>
      injection h with h1 h2; subst h1; subst h2
      obtain ⟨D, v1, v2, v3⟩ := hres
      unfold Oper.wp; rw [v2]; exact hk σ1 w1 L1 p1 D v1 v3
    case call f args =>
      obtain ⟨As, v1, v2, hb⟩ := hres
      unfold Oper.wp; rw [v2]
      simp only [Oper.upon]
      cases e2 : rec (.call f args) g1 with
      | no n => rw [e2] at h; cases h
      | fin x t d g2 => rw [e2] at h; cases h
      | val v g2 =>
        rw [e2] at h
        injection h with h1 h2; subst h1; subst h2
        have := hrec.call f hb args g1 g2 (by show (rec (.call f args) g1).g? = _; rw [e2]; rfl) T hi σ1 w1 As (p.then p1) v1
        refine this.mono fun en w2 hw => ?_
        simp only [CallR, e2] at hw
        obtain ⟨σ2, L2, V, p2, rfl, hv⟩ := hw
        exact hk σ2 w2 _ (p1.trans p2 p.fresh p.hi) V hv
      | pan v g2 =>
        rw [e2] at h
        injection h with h1 h2; subst h1; subst h2
        have := hrec.call f hb args g1 g2 (by show (rec (.call f args) g1).g? = _; rw [e2]; rfl) T hi σ1 w1 As (p.then p1) v1
        refine this.mono fun en w2 hw => ?_
        simp only [CallR, e2] at hw
        obtain ⟨σ2, L2, V, p2, rfl, hv⟩ := hw
        exact hk σ2 w2 _ (p1.trans p2 p.fresh p.hi) V hv
end Go.Ev
