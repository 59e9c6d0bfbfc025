/-
  A part of the evaluator of the program's code, or of what it was seen to do; its statements are Lean's own. No condition.
-/
import Derived.Test.YthclecbbebelhaaGreatEvFast2
namespace Go.Ev
open Go

/-! ### Summaries: what a call with given arguments was seen to do, as a literal -/
/-- the number that a number of the summary stands for in the run -/
def rho (base : Nat) (is : List Nat) (j : Nat) : Option Nat := match Nat.ble base j with
  | true => is[j - base]?
  | false => none
def sameId (base : Nat) (is : List Nat) (j i : Nat) : Bool := match rho base is j with
  | some i' => Nat.beq i' i
  | none => false
def sameFn (a b : Fn) : Bool := match a with
  | .func f => match b with
    | .func f' => Nat.beq f f'
    | _ => false
  | _ => false
theorem sameFn_eq {a b : Fn} (h : sameFn a b = true) : a = b := by
  cases a <;> cases b <;> simp only [sameFn] at h <;> first | (cases h; done) | skip
  rw [of_beq h]
mutual
def sameV (ρ : Nat → Nat → Bool) : AV → AV → Bool
  | .bool a, y => match y with | .bool b => a == b | _ => false
  | .sbool a, y => match y with | .sbool b => a == b | _ => false
  | .int k n, y => match y with | .int k' m => sameK k k' && eqF n m | _ => false
  | .sint _ _, _ => false
  | .str _, _ => false
  | .nilPtr, y => match y with | .nilPtr => true | _ => false
  | .ptr i o, y => match y with | .ptr j p => ρ i j && Nat.beq o p | _ => false
  | .sptr _ _, _ => false
  | .nilSl, y => match y with | .nilSl => true | _ => false
  | .sl i o n c, y => match y with | .sl j p m d => ρ i j && Nat.beq o p && Nat.beq n m && Nat.beq c d | _ => false
  | .gsl i n, y => match y with | .gsl j m => ρ i j && Nat.beq n m | _ => false
  | .ssl _ _ _ _, _ => false
  | .nilMap, y => match y with | .nilMap => true | _ => false
  | .map i, y => match y with | .map j => ρ i j | _ => false
  | .nilFunc, y => match y with | .nilFunc => true | _ => false
  | .func fn as cs, y => match y with | .func fn' as' cs' => sameFn fn fn' && (sameVs ρ as as' && sameVs ρ cs cs') | _ => false
  | .nilIface, y => match y with | .nilIface => true | _ => false
  | .iface t v, y => match y with | .iface t' u => Nat.beq t t' && sameV ρ v u | _ => false
  | .agg cs, y => match y with | .agg ds => sameVs ρ cs ds | _ => false
  | .tup cs, y => match y with | .tup ds => sameVs ρ cs ds | _ => false
  | .rep _ _ _, _ => false
  | .nilChan, y => match y with | .nilChan => true | _ => false
  | .chan i, y => match y with | .chan j => ρ i j | _ => false
def sameVs (ρ : Nat → Nat → Bool) : List AV → List AV → Bool
  | [], y => match y with | [] => true | _ => false
  | v :: vs, y => match y with | u :: us => sameV ρ v u && sameVs ρ vs us | [] => false
end
/-- a summary's value stands for the same, where its numbers do -/
def Carries (σ σ' : Sg) (ρ : Nat → Nat → Bool) : Prop := ∀ j i, ρ j i = true → ∀ x, σ i = some x → σ' j = some x
mutual
theorem sameV_VR {σ σ' : Sg} {ρ : Nat → Nat → Bool} (hc : Carries σ σ' ρ) : ∀ {v u : AV} {V : Value}, sameV ρ v u = true → VR σ u V → VR σ' v V
  | .bool a, u, V, h, hv => by
    cases u <;> simp only [sameV] at h <;> first | (cases h; done) | skip
    cases hv; have := eq_of_beq h; subst this; exact .bool _
  | .sbool a, u, V, h, hv => by
    cases u <;> simp only [sameV] at h <;> first | (cases h; done) | skip
    cases hv; have := eq_of_beq h; subst this; exact .sbool _
  | .int k n, u, V, h, hv => by
    cases u <;> simp only [sameV, Bool.and_eq_true] at h <;> first | (cases h; done) | skip
    cases hv; have := sameK_eq h.1; subst this; have := h.2; rw [eqF_eq] at this; have := eq_of_beq this; subst this; exact .int _ _
  | .sint _ _, u, V, h, hv => by simp [sameV] at h
  | .str _, u, V, h, hv => by simp [sameV] at h
  | .nilPtr, u, V, h, hv => by
    cases u <;> simp only [sameV] at h <;> first | (cases h; done) | skip
    cases hv; exact .nilPtr
  | .ptr i o, u, V, h, hv => by
    cases u <;> simp only [sameV, Bool.and_eq_true] at h <;> first | (cases h; done) | skip
    cases hv with | ptr e => have := of_beq h.2; subst this; exact .ptr (hc _ _ h.1 _ e)
  | .sptr _ _, u, V, h, hv => by simp [sameV] at h
  | .nilSl, u, V, h, hv => by
    cases u <;> simp only [sameV] at h <;> first | (cases h; done) | skip
    cases hv; exact .nilSl
  | .sl i o n c, u, V, h, hv => by
    cases u <;> simp only [sameV, Bool.and_eq_true] at h <;> first | (cases h; done) | skip
    obtain ⟨⟨⟨h1, h2⟩, h3⟩, h4⟩ := h
    cases hv with | sl e =>
      have := of_beq h2; subst this
      have := of_beq h3; subst this
      have := of_beq h4; subst this
      exact .sl (hc _ _ h1 _ e)
  | .gsl i n, u, V, h, hv => by
    cases u <;> simp only [sameV, Bool.and_eq_true] at h <;> first | (cases h; done) | skip
    cases hv with | gsl e => have := of_beq h.2; subst this; exact .gsl (hc _ _ h.1 _ e)
  | .ssl _ _ _ _, u, V, h, hv => by simp [sameV] at h
  | .nilMap, u, V, h, hv => by
    cases u <;> simp only [sameV] at h <;> first | (cases h; done) | skip
    cases hv; exact .nilMap
  | .map i, u, V, h, hv => by
    cases u <;> simp only [sameV] at h <;> first | (cases h; done) | skip
    cases hv with | map e => exact .map (hc _ _ h _ e)
  | .nilFunc, u, V, h, hv => by
    cases u <;> simp only [sameV] at h <;> first | (cases h; done) | skip
    cases hv; exact .nilFunc
  | .func fn as cs, u, V, h, hv => by
    cases u <;> simp only [sameV, Bool.and_eq_true] at h <;> first | (cases h; done) | skip
    cases hv with | func a b => have := sameFn_eq h.1; subst this; exact .func (sameVs_VR hc h.2.1 a) (sameVs_VR hc h.2.2 b)
  | .nilIface, u, V, h, hv => by
    cases u <;> simp only [sameV] at h <;> first | (cases h; done) | skip
    cases hv; exact .nilIface
  | .iface t v, u, V, h, hv => by
    cases u <;> simp only [sameV, Bool.and_eq_true] at h <;> first | (cases h; done) | skip
    cases hv with | iface hv => have := of_beq h.1; subst this; exact .iface (sameV_VR hc h.2 hv)
  | .agg cs, u, V, h, hv => by
    cases u <;> simp only [sameV] at h <;> first | (cases h; done) | skip
    cases hv with | agg hv => exact .agg (sameVs_VR hc h hv)
  | .tup cs, u, V, h, hv => by
    cases u <;> simp only [sameV] at h <;> first | (cases h; done) | skip
    cases hv with | tup hv => exact .tup (sameVs_VR hc h hv)
  | .rep _ _ _, u, V, h, hv => by simp [sameV] at h
  | .nilChan, u, V, h, hv => by
    cases u <;> simp only [sameV] at h <;> first | (cases h; done) | skip
    cases hv; exact .nilChan
  | .chan i, u, V, h, hv => by
    cases u <;> simp only [sameV] at h <;> first | (cases h; done) | skip
    cases hv with | chan e => exact .chan (hc _ _ h _ e)
theorem sameVs_VR {σ σ' : Sg} {ρ : Nat → Nat → Bool} (hc : Carries σ σ' ρ) : ∀ {v u : List AV} {V : List Value}, sameVs ρ v u = true → VRs σ u V → VRs σ' v V
  | [], u, V, h, hv => by
    cases u <;> simp only [sameVs] at h <;> first | (cases h; done) | skip
    cases hv; exact .nil
  | v :: vs, u, V, h, hv => by
    cases u <;> simp only [sameVs, Bool.and_eq_true] at h <;> first | (cases h; done) | skip
    cases hv with | cons a b => exact .cons (sameV_VR hc h.1 a) (sameVs_VR hc h.2 b)
end
theorem sameVs_len {ρ : Nat → Nat → Bool} : ∀ {v u : List AV}, sameVs ρ v u = true → v.length = u.length
  | [], [], _ => rfl
  | _ :: vs, _ :: us, h => by simp only [sameVs, Bool.and_eq_true] at h; simp [sameVs_len h.2]
  | [], _ :: _, h => by simp [sameVs] at h
  | _ :: _, [], h => by simp [sameVs] at h
theorem sameVs_get {ρ : Nat → Nat → Bool} : ∀ {v u : List AV}, sameVs ρ v u = true → ∀ {o : Nat} {x : AV}, v[o]? = some x → ∃ y, u[o]? = some y ∧ sameV ρ x y = true
  | [], _, _, o, x, e => by simp at e
  | v :: vs, u :: us, h, 0, x, e => by
    simp only [sameVs, Bool.and_eq_true] at h
    simp at e; subst e; exact ⟨u, rfl, h.1⟩
  | v :: vs, u :: us, h, o + 1, x, e => by
    simp only [sameVs, Bool.and_eq_true] at h
    obtain ⟨y, h1, h2⟩ := sameVs_get h.2 (o := o) (x := x) (by simpa using e)
    exact ⟨y, by simpa using h1, h2⟩
  | _ :: _, [], h, _, _, _ => by simp [sameVs] at h

/-- trees of the same shape -/
def sameO (ρ : Nat → Nat → Bool) : Option AV → Option AV → Bool
  | none, none => true
  | some v, some u => sameV ρ v u
  | _, _ => false
def sameTr (ρ : Nat → Nat → Bool) : Tr AV → Tr AV → Bool
  | .lf, .lf => true
  | .nd l v r, .nd l' v' r' => sameTr ρ l l' && sameO ρ v v' && sameTr ρ r r'
  | _, _ => false
theorem sameTr_get {ρ : Nat → Nat → Bool} : ∀ {t u : Tr AV}, sameTr ρ t u = true → ∀ (p : Nat), sameO ρ (t.getP p) (u.getP p) = true
  | .lf, .lf, _, _ => rfl
  | .nd l v r, .nd l' v' r', h, p => by
    simp only [sameTr, Bool.and_eq_true] at h
    rw [Tr.getP_nd, Tr.getP_nd]
    split
    · exact h.1.2
    · split
      · exact sameTr_get h.1.1 _
      · exact sameTr_get h.2 _
  | .lf, .nd .., h, _ => by simp [sameTr] at h
  | .nd .., .lf, h, _ => by simp [sameTr] at h
def sameEs (ρ : Nat → Nat → Bool) : List (AV × AV) → List (AV × AV) → Bool
  | [], [] => true
  | (k, v) :: es, (k', v') :: es' => sameV ρ k k' && sameV ρ v v' && sameEs ρ es es'
  | _, _ => false
theorem sameEs_MRs {σ σ' : Sg} {ρ : Nat → Nat → Bool} (hc : Carries σ σ' ρ) : ∀ {es es' : List (AV × AV)} {Es : List MapEntry}, sameEs ρ es es' = true → MRs σ es' Es → MRs σ' es Es
  | [], [], [], _, _ => trivial
  | [], [], _ :: _, _, h => by cases h
  | (k, v) :: es, (k', v') :: es', E :: Es, h, hm => by
    simp only [sameEs, Bool.and_eq_true] at h
    exact ⟨sameV_VR hc h.1.1 hm.1, sameV_VR hc h.1.2 hm.2.1, sameEs_MRs hc h.2 hm.2.2⟩
  | _ :: _, _ :: _, [], _, h => by cases h
  | [], _ :: _, _, h, _ => by simp [sameEs] at h
  | _ :: _, [], _, h, _ => by simp [sameEs] at h
def sameB (ρ : Nat → Nat → Bool) : Blk → Blk → Bool
  | .cells e l, y => match y with | .cells e' l' => Nat.beq e e' && sameVs ρ l l' | _ => false
  | .grown e l, y => match y with | .grown e' l' => Nat.beq e e' && sameVs ρ l l' | _ => false
  | .seq .., _ => false
  | .big e t d n, y => match y with | .big e' t' d' n' => Nat.beq e e' && Nat.beq n n' && sameV ρ d d' && sameTr ρ t t' | _ => false
  | .map es, y => match y with | .map es' => sameEs ρ es es' | _ => false
  | .chan n k, y => match y with | .chan n' k' => Nat.beq n n' && Nat.beq k k' | _ => false
  | .pmap _, _ => false
theorem sameB_sh {ρ : Nat → Nat → Bool} {b b' : Blk} (h : sameB ρ b b' = true) : b.sh = b'.sh := by
  cases b <;> cases b' <;> simp only [sameB, Bool.and_eq_true] at h <;> first | (cases h; done) | skip
  · have := of_beq h.1; subst this; simp [Blk.sh, sameVs_len h.2]
  · have := of_beq h.1; subst this; simp [Blk.sh, sameVs_len h.2]
  · have := of_beq h.1.1.1; subst this; have := of_beq h.1.1.2; subst this; rfl
  · rfl
  · rfl
theorem sameB_ct {σ σ' : Sg} {ρ : Nat → Nat → Bool} (hc : Carries σ σ' ρ) {b b' : Blk} (h : sameB ρ b b' = true) {o : Nat} {c : Ct} (e : b.ct o = some c) :
    ∃ c', b'.ct o = some c' ∧ ∀ ob k, CtR σ c' ob k → CtR σ' c ob k := by
  have cell : ∀ {x y : AV}, sameV ρ x y = true → ∀ ob k, CtR σ (.cell y) ob k → CtR σ' (.cell x) ob k := fun hxy ob k ⟨a, b, c, V, h1, h2, h3⟩ => ⟨a, b, c, V, h1, h2, sameV_VR hc hxy h3⟩
  have rows : ∀ {l l' : List AV}, sameVs ρ l l' = true → (l[o]?).map Ct.cell = some c → ∃ c', (l'[o]?).map Ct.cell = some c' ∧ ∀ ob k, CtR σ c' ob k → CtR σ' c ob k := by
    intro l l' hl e
    cases hx : l[o]? with
    | none => rw [hx] at e; cases e
    | some x =>
      rw [hx] at e; injection e with e; subst e
      obtain ⟨y, h1, h2⟩ := sameVs_get hl hx
      exact ⟨.cell y, by rw [h1]; rfl, cell h2⟩
  cases b <;> cases b' <;> simp only [sameB, Bool.and_eq_true] at h <;> first | (cases h; done) | skip
  · exact rows h.2 e
  · exact rows h.2 e
  · rename_i e1 t d n e2 t' d' n'
    have := of_beq h.1.1.2; subst this
    simp only [Blk.ct] at e ⊢
    split at e
    · rename_i hlt
      rw [if_pos hlt]
      injection e with e; subst e
      refine ⟨_, rfl, cell ?_⟩
      have := sameTr_get h.2 (o + 1)
      unfold Tr.get
      show sameV ρ ((t.getP (o + 1)).getD d) ((t'.getP (o + 1)).getD d') = true
      cases h1 : t.getP (o + 1) <;> cases h2 : t'.getP (o + 1) <;> rw [h1, h2] at this <;> simp only [sameO] at this
      · exact h.1.2
      · cases this
      · cases this
      · exact this
    · cases e
  · rename_i es es'
    simp only [Blk.ct] at e ⊢
    split at e
    · rename_i h0
      rw [if_pos h0]
      injection e with e; subst e
      exact ⟨_, rfl, fun ob k ⟨Es, cl, h1, h2⟩ => ⟨Es, cl, h1, sameEs_MRs hc h h2⟩⟩
    · cases e
  · have := of_beq h.1; subst this; have := of_beq h.2; subst this
    exact ⟨c, e, fun ob k hh => by
      simp only [Blk.ct] at e
      split at e
      · injection e with e; subst e; exact hh
      · cases e⟩
end Go.Ev
