/-
  A part of the evaluator of the program's code, or of what it was seen to do; its statements are Lean's own. No condition.
-/
import Derived.Test.YthclecbbebelhaaGreatEvMemo
namespace Go.Ev
open Go

structure Sum where
  args : List AV
  base : Nat
  is : List Nat
  v : AV
  bs : List Blk
noncomputable def blksFit (ρ : Nat → Nat → Bool) (h : Tr Blk) : List Nat → List Blk → Bool
  | [], [] => true
  | i :: is, b :: bs => (match h.get i with | some b' => sameB ρ b b' | none => false) && blksFit ρ h is bs
  | _, _ => false
def notIn (i : Nat) : List Nat → Bool
  | [] => true
  | j :: js => !(Nat.beq i j) && notIn i js
def apartIds : List Nat → Bool
  | [] => true
  | i :: is => notIn i is && apartIds is
noncomputable def Sum.fits (s : Sum) : Res → Bool
  | .val v g => g.obl.isEmpty && (sameV (sameId s.base s.is) s.v v && (blksFit (sameId s.base s.is) g.heap s.is s.bs && apartIds s.is))
  | _ => false
noncomputable def layK {β : Type} (bs : List Blk) : Nat → Tr Blk → List Tch → (Tr Blk → List Tch → Nat → β) → β :=
  List.rec (motive := fun _ => Nat → Tr Blk → List Tch → (Tr Blk → List Tch → Nat → β) → β) (fun i h l k => k h l i)
    (fun b _ ih i h l k => h.setK i b fun h => natK (Nat.add i (nat_lit 1)) fun i' => ih i' h (⟨i, 0, 0, true⟩ :: l) k) bs
noncomputable def sumG (s : Sum) (g : G) : Res := match g with
  | ⟨h, _, l, oc, ob⟩ => layK s.bs s.base h l fun h l n => .val s.v ⟨h, n, l, oc, ob⟩
noncomputable def sumS : List Sum → List AV → G → Res
  | [], _, _ => .no 300
  | s :: ss, args, g => match sameVs (fun _ _ => false) s.args args && Nat.ble g.next s.base with
    | true => sumG s g
    | false => sumS ss args g

/-! ### What is laid -/
noncomputable def layH : List Blk → Nat → Tr Blk → Tr Blk
  | [], _, h => h
  | b :: bs, i, h => layH bs (i + 1) (h.set i b)
def layL : List Blk → Nat → List Tch
  | [], _ => []
  | _ :: bs, i => layL bs (i + 1) ++ [⟨i, 0, 0, true⟩]
theorem layK_eq {β : Type} : ∀ (bs : List Blk) (i : Nat) (h : Tr Blk) (l : List Tch) (k : Tr Blk → List Tch → Nat → β), layK bs i h l k = k (layH bs i h) (layL bs i ++ l) (i + bs.length)
  | [], i, h, l, k => rfl
  | b :: bs, i, h, l, k => by
    show h.setK i b (fun h => natK (i + 1) fun i' => layK bs i' h (⟨i, 0, 0, true⟩ :: l) k) = _
    rw [Tr.setK_eq, natK_eq, layK_eq bs, layH, layL, List.append_assoc, List.length_cons]
    congr 1
    omega
theorem layH_get : ∀ (bs : List Blk) (i : Nat) (h : Tr Blk) (j : Nat) (blk : Blk), (layH bs i h).get j = some blk → (∃ k, j = i + k ∧ bs[k]? = some blk) ∨ ((j < i ∨ i + bs.length ≤ j) ∧ h.get j = some blk)
  | [], i, h, j, blk, e => .inr ⟨by simp; omega, e⟩
  | b :: bs, i, h, j, blk, e => by
    rcases layH_get bs (i + 1) _ j blk e with ⟨k, h1, h2⟩ | ⟨h1, h2⟩
    · exact .inl ⟨k + 1, by omega, by simpa using h2⟩
    · rcases Tr.get_set h2 with ⟨rfl, rfl⟩ | ⟨hne, h3⟩
      · exact .inl ⟨0, rfl, rfl⟩
      · exact .inr ⟨by simp only [List.length_cons]; omega, h3⟩
theorem layL_mem : ∀ (bs : List Blk) (i : Nat) (t : Tch), t ∈ layL bs i → t.n = 0 ∧ t.w = true ∧ i ≤ t.i ∧ t.i < i + bs.length
  | [], _, _, h => by cases h
  | b :: bs, i, t, h => by
    rcases List.mem_append.1 h with h | h
    · obtain ⟨a, b, c, d⟩ := layL_mem bs (i + 1) t h
      exact ⟨a, b, by omega, by simp only [List.length_cons]; omega⟩
    · simp at h; subst h; exact ⟨rfl, rfl, Nat.le_refl _, by simp⟩
theorem layL_all : ∀ (bs : List Blk) (i k : Nat), k < bs.length → covA (layL bs i) (i + k)
  | b :: bs, i, 0, _ => ⟨⟨i, 0, 0, true⟩, by simp [layL], rfl, rfl, rfl⟩
  | b :: bs, i, k + 1, h => by
    obtain ⟨t, h1, h2, h3, h4⟩ := layL_all bs (i + 1) k (by simpa using h)
    exact ⟨t, List.mem_append_left _ h1, h2, by rw [h3]; omega, h4⟩
theorem sumG_eq (s : Sum) (g : G) : sumG s g = .val s.v ⟨layH s.bs s.base g.heap, s.base + s.bs.length, layL s.bs s.base ++ g.log, g.orc, g.obl⟩ := by
  cases g; simp only [sumG, layK_eq]
theorem sumG_le {s : Sum} {g : G} (h : g.next ≤ s.base) : Le g ⟨layH s.bs s.base g.heap, s.base + s.bs.length, layL s.bs s.base ++ g.log, g.orc, g.obl⟩ (layL s.bs s.base) where
  log := rfl
  nx := by show g.next ≤ s.base + s.bs.length; omega
  ob := ⟨[], rfl⟩
  sh := fun i b' hn hg => by
    rcases layH_get _ _ _ _ _ hg with ⟨k, h1, h2⟩ | ⟨_, h2⟩
    · exact absurd (h1 ▸ layL_all _ _ k (List.getElem?_eq_some_iff.1 h2).1) hn
    · exact ⟨b', h2, rfl⟩
  ct := fun i o b' c hn hg hc => by
    rcases layH_get _ _ _ _ _ hg with ⟨k, h1, h2⟩ | ⟨_, h2⟩
    · exact absurd ((h1 ▸ layL_all _ _ k (List.getElem?_eq_some_iff.1 h2).1 : covA _ i).covW o) hn
    · exact ⟨b', h2, hc⟩
  ex := fun t ht _ => by
    obtain ⟨_, _, h1, h2⟩ := layL_mem _ _ _ ht
    exact .inr ⟨by omega, h2⟩

theorem notIn_spec : ∀ {i : Nat} {l : List Nat}, notIn i l = true → ∀ (k : Nat), l[k]? ≠ some i
  | i, j :: js, h, k, e => by
    simp only [notIn, Bool.and_eq_true, Bool.not_eq_true'] at h
    cases k with
    | zero => simp at e; exact of_beqf h.1 e.symm
    | succ k => exact notIn_spec h.2 k (by simpa using e)
theorem apartIds_inj : ∀ {l : List Nat}, apartIds l = true → ∀ {a b i : Nat}, l[a]? = some i → l[b]? = some i → a = b
  | j :: js, h, 0, 0, _, _, _ => rfl
  | j :: js, h, 0, b + 1, i, e1, e2 => by
    simp only [apartIds, Bool.and_eq_true] at h
    simp at e1; subst e1
    exact absurd (by simpa using e2) (notIn_spec h.1 b)
  | j :: js, h, a + 1, 0, i, e1, e2 => by
    simp only [apartIds, Bool.and_eq_true] at h
    simp at e2; subst e2
    exact absurd (by simpa using e1) (notIn_spec h.1 a)
  | j :: js, h, a + 1, b + 1, i, e1, e2 => by
    simp only [apartIds, Bool.and_eq_true] at h
    exact congrArg (· + 1) (apartIds_inj h.2 (by simpa using e1) (by simpa using e2))
theorem blksFit_get {ρ : Nat → Nat → Bool} {h : Tr Blk} : ∀ {is : List Nat} {bs : List Blk}, blksFit ρ h is bs = true → ∀ {k : Nat} {b : Blk}, bs[k]? = some b → ∃ i b', is[k]? = some i ∧ h.get i = some b' ∧ sameB ρ b b' = true
  | [], [], _, k, b, e => by simp at e
  | i :: is, b :: bs, hf, 0, x, e => by
    simp only [blksFit, Bool.and_eq_true] at hf
    simp at e; subst e
    cases hg : h.get i with
    | none => rw [hg] at hf; cases hf.1
    | some b' => rw [hg] at hf; exact ⟨i, b', rfl, hg, hf.1⟩
  | i :: is, b :: bs, hf, k + 1, x, e => by
    simp only [blksFit, Bool.and_eq_true] at hf
    obtain ⟨j, b', h1, h2⟩ := blksFit_get hf.2 (k := k) (b := x) (by simpa using e)
    exact ⟨j, b', by simpa using h1, h2⟩
  | [], _ :: _, hf, _, _, _ => by simp [blksFit] at hf
  | _ :: _, [], hf, _, _, _ => by simp [blksFit] at hf
theorem blksFit_len {ρ : Nat → Nat → Bool} {h : Tr Blk} : ∀ {is : List Nat} {bs : List Blk}, blksFit ρ h is bs = true → is.length = bs.length
  | [], [], _ => rfl
  | i :: is, b :: bs, hf => by simp only [blksFit, Bool.and_eq_true] at hf; simp [blksFit_len hf.2]
  | [], _ :: _, hf => by simp [blksFit] at hf
  | _ :: _, [], hf => by simp [blksFit] at hf
def sgS (base : Nat) (is : List Nat) (σ σ0 : Sg) : Sg := fun j => match rho base is j with
  | some i => σ0 i
  | none => σ j
theorem rho_in {base : Nat} {is : List Nat} {j i : Nat} (h : rho base is j = some i) : base ≤ j ∧ j < base + is.length ∧ is[j - base]? = some i := by
  unfold rho at h
  split at h
  · rename_i hb
    have := of_ble hb
    have h2 := (List.getElem?_eq_some_iff.1 h).1
    exact ⟨this, by omega, h⟩
  · cases h
theorem rho_at {base : Nat} {is : List Nat} {k i : Nat} (h : is[k]? = some i) : rho base is (base + k) = some i := by
  unfold rho
  have : Nat.ble base (base + k) = true := Nat.ble_eq_true_of_le (by omega)
  rw [this]
  simpa using h
theorem rho_out {base : Nat} {is : List Nat} {j : Nat} (h : j < base ∨ base + is.length ≤ j) : rho base is j = none := by
  cases e : rho base is j with
  | none => rfl
  | some i => have := rho_in e; omega

theorem sumG_sound {P : Program} {f : FuncId} {s0 : List AV → G → Res} (hs : CallSf P f s0) {s : Sum} (hf : s.fits (s0 s.args G.init) = true)
    {args : List AV} {g : G} (ha : sameVs (fun _ _ => false) s.args args = true) (hb : g.next ≤ s.base)
    {T : Tp} {hi : Nat} {σ : Sg} {w : World} {Args : Array Value} (p : Pre P T hi σ g w ⟨layH s.bs s.base g.heap, s.base + s.bs.length, layL s.bs s.base ++ g.log, g.orc, g.obl⟩) (hv : VRs σ args Args.toList) :
    Calls P f Args w (CallR P T σ g w (sumG s g)) := by
  cases hr : s0 s.args G.init with
  | no n => rw [hr] at hf; cases hf
  | fin x t d g2 => rw [hr] at hf; cases hf
  | pan v g2 => rw [hr] at hf; cases hf
  | val v1 g1 =>
  rw [hr] at hf
  simp only [Sum.fits, Bool.and_eq_true, List.isEmpty_iff] at hf
  obtain ⟨hob, hsv, hfit, hap⟩ := hf
  have hlen := blksFit_len hfit
  have hA : VRs (fun _ => none) s.args Args.toList := sameVs_VR (fun _ _ h => by cases h) ha hv
  have hc := hs s.args G.init g1 (by rw [hr]; rfl) (fun _ _ => True) g1.next (fun _ => none) w Args
    { rel := ⟨fun i blk hg => (by cases hg), fun i blk o c b cap hg => (by cases hg), fun i j bi bj b c c' hg => (by cases hg)⟩
      fresh := fun _ _ _ => rfl
      hi := Nat.le_refl _
      inT := fun _ _ _ _ _ _ => trivial
      owes := fun p hp => by rw [hob] at hp; cases hp } hA
  refine hc.mono fun e w' hw => ?_
  simp only [CallR, hr] at hw
  obtain ⟨σ0, L0, V, q, rfl, hV⟩ := hw
  rw [sumG_eq]
  have hnew : ∀ i b c, σ0 i = some (b, c) → w.heap.size ≤ b := by
    intro i b c hi
    by_cases hlt : i < g1.next
    · rcases q.nw i b c (Nat.zero_le _) hlt hi with h3 | ⟨_, _, _, h4⟩
      · exact h3
      · cases h4
    · rw [q.ext i (.inr (by omega))] at hi; cases hi
  have hnc : ∀ b o, b < w.heap.size → ¬ Chg σ0 L0 b o := fun b o hlt ⟨i, c, hi, _⟩ => by have := hnew i b c hi; omega
  have hsame : ∀ b : Nat, b < w.heap.size → w'.heap[b]? = w.heap[b]? := fun b hb => q.fr.same b hb fun o => hnc b o hb
  have hcar : Carries σ0 (sgS s.base s.is σ σ0) (sameId s.base s.is) := by
    intro j i hji x hx
    unfold sameId at hji
    split at hji
    · rename_i i' e
      have := of_beq hji; subst this
      unfold sgS; rw [e]; exact hx
    · cases hji
  have hhi : s.base + s.bs.length ≤ hi := p.hi
  have hsub : Sub σ (sgS s.base s.is σ σ0) := by
    intro j x hx
    have hout : j < s.base ∨ s.base + s.is.length ≤ j := by
      rcases Nat.lt_or_ge j s.base with h1 | h1
      · exact .inl h1
      · rcases Nat.lt_or_ge j (s.base + s.is.length) with h2 | h2
        · rw [p.fresh j (by omega) (by omega)] at hx; cases hx
        · exact .inr h2
    unfold sgS; rw [rho_out hout]; exact hx
  have hold : ∀ j, (j < s.base ∨ s.base + s.bs.length ≤ j) → sgS s.base s.is σ σ0 j = σ j := fun j hj => by
    unfold sgS; rw [rho_out (by omega)]
  have hlive : ∀ i blk b cap, g.heap.get i = some blk → (∃ o, T i o) → σ i = some (b, cap) → b < w.heap.size := by
    intro i blk b cap hg ht hi
    obtain ⟨b', cap', h1, h2⟩ := p.rel.sh i blk hg ht
    rw [hi] at h1; injection h1 with h1; injection h1 with h1 h1'; subst h1; subst h1'
    cases hw : w.heap[b]? with
    | some o => exact (Array.getElem?_eq_some_iff.1 hw).1
    | none =>
      rw [hw] at h2
      cases hsh : blk.sh <;> rw [hsh] at h2
      · obtain ⟨c, fz, h3, _⟩ := h2; cases h3
      · obtain ⟨c, fz, h3, _⟩ := h2; cases h3
      · obtain ⟨c, fz, h3, _⟩ := h2; cases h3
      · obtain ⟨c, fz, h3, _⟩ := h2; cases h3
      · obtain ⟨c, cl, h3⟩ := h2; cases h3
      · obtain ⟨n, q, s, r, h3⟩ := h2; cases h3
  refine ⟨sgS s.base s.is σ σ0, layL s.bs s.base, V, ⟨sumG_le hb, fun j hj => ?_, ⟨?_, ?_, ?_⟩, ⟨q.fr.size, q.fr.tape, q.fr.os, q.fr.output, fun b hb _ => hsame b hb, ?_, ?_, ?_⟩, ?_⟩, rfl, sameV_VR hcar hsv hV⟩
  · have : j < g.next ∨ s.base + s.bs.length ≤ j := hj
    exact hold j (by omega)
  · intro i blk hg ht
    rcases layH_get _ _ _ _ _ hg with ⟨k, rfl, h2⟩ | ⟨h1, h2⟩
    · obtain ⟨i1, b1, h3, h4, h5⟩ := blksFit_get hfit h2
      obtain ⟨b, cap, h6, h7⟩ := q.rel.sh i1 b1 h4 ⟨0, trivial⟩
      refine ⟨b, cap, ?_, ?_⟩
      · unfold sgS; rw [rho_at h3]; exact h6
      · rw [sameB_sh h5]; exact h7
    · obtain ⟨b, cap, h3, h4⟩ := p.rel.sh i blk h2 ht
      exact ⟨b, cap, hsub _ _ h3, by rw [hsame b (hlive i blk b cap h2 ht h3)]; exact h4⟩
  · intro i blk o c b cap hg hct ht hi
    rcases layH_get _ _ _ _ _ hg with ⟨k, rfl, h2⟩ | ⟨h1, h2⟩
    · obtain ⟨i1, b1, h3, h4, h5⟩ := blksFit_get hfit h2
      obtain ⟨c', h6, h7⟩ := sameB_ct hcar h5 hct
      unfold sgS at hi; rw [rho_at h3] at hi
      exact h7 _ _ (q.rel.ct i1 b1 o c' b cap h4 h6 trivial hi)
    · rw [hold i h1] at hi
      rw [hsame b (hlive i blk b cap h2 ⟨o, ht⟩ hi)]
      exact (p.rel.ct i blk o c b cap h2 hct ht hi).mono hsub
  · intro i j bi bj b c c' hgi hgj hti htj hi hj
    rcases layH_get _ _ _ _ _ hgi with ⟨k, rfl, h2⟩ | ⟨h1, h2⟩
    · obtain ⟨i1, b1, h3, h4, h5⟩ := blksFit_get hfit h2
      unfold sgS at hi; rw [rho_at h3] at hi
      rcases layH_get _ _ _ _ _ hgj with ⟨k', rfl, h2'⟩ | ⟨h1', h2'⟩
      · obtain ⟨i2, b2, h3', h4', h5'⟩ := blksFit_get hfit h2'
        unfold sgS at hj; rw [rho_at h3'] at hj
        have := q.rel.inj i1 i2 b1 b2 b c c' h4 h4' ⟨0, trivial⟩ ⟨0, trivial⟩ hi hj
        subst this
        rw [apartIds_inj hap h3 h3']
      · rw [hold j h1'] at hj
        have := hlive j bj b c' h2' htj hj
        have := hnew i1 b c hi
        omega
    · rw [hold i h1] at hi
      rcases layH_get _ _ _ _ _ hgj with ⟨k', rfl, h2'⟩ | ⟨h1', h2'⟩
      · obtain ⟨i2, b2, h3', h4', h5'⟩ := blksFit_get hfit h2'
        unfold sgS at hj; rw [rho_at h3'] at hj
        have := hlive i bi b c h2 hti hi
        have := hnew i2 b c' hj
        omega
      · rw [hold j h1'] at hj
        exact p.rel.inj i j bi bj b c c' h2 h2' hti htj hi hj
  · intro b c e fz h
    obtain ⟨c', h1, h2, h3⟩ := q.fr.cells b c e fz h
    have hlt : b < w.heap.size := (Array.getElem?_eq_some_iff.1 h).1
    exact ⟨c', h1, h2, fun o _ => h3 o (hnc b o hlt)⟩
  · intro b es cl h
    obtain ⟨es', cl', h1, h2⟩ := q.fr.maps b es cl h
    have hlt : b < w.heap.size := (Array.getElem?_eq_some_iff.1 h).1
    exact ⟨es', cl', h1, fun _ => h2 (hnc b 0 hlt)⟩
  · intro b n Q s' r h
    obtain ⟨Q', s2, r2, h1, h2⟩ := q.fr.oth b n Q s' r h
    have hlt : b < w.heap.size := (Array.getElem?_eq_some_iff.1 h).1
    exact ⟨Q', s2, r2, h1, fun _ => h2 (hnc b 0 hlt)⟩
  · intro j b c h1 h2 h3
    cases e : rho s.base s.is j with
    | none =>
      unfold sgS at h3; rw [e] at h3
      have h2 : j < s.base + s.bs.length := h2
      rw [p.fresh j h1 (by omega)] at h3; cases h3
    | some i =>
      unfold sgS at h3; rw [e] at h3
      exact .inl (hnew i b c h3)
theorem sumS_le (ss : List Sum) (args : List AV) (g : G) : LeRes g (sumS ss args g) := by
  induction ss with
  | nil => trivial
  | cons s ss ih =>
    rw [sumS]
    split
    · rename_i h
      simp only [Bool.and_eq_true] at h
      rw [sumG_eq]
      exact ⟨_, sumG_le (of_ble h.2)⟩
    · exact ih
theorem sumS_sound {P : Program} {f : FuncId} {s0 : List AV → G → Res} (hs : CallSf P f s0) {ss : List Sum} (hf : ∀ s ∈ ss, s.fits (s0 s.args G.init) = true) : CallSf P f (sumS ss) := by
  induction ss with
  | nil => intro args g g' h; cases h
  | cons s ss ih =>
    intro args g g' h T hi σ w Args p hv
    simp only [sumS] at h ⊢
    split at h
    · rename_i h1
      simp only [Bool.and_eq_true] at h1
      rw [sumG_eq] at h
      injection h with h; subst h
      exact sumG_sound hs (hf s List.mem_cons_self) h1.1 (of_ble h1.2) p hv
    · rename_i h1
      exact ih (fun s hs => hf s (List.mem_cons_of_mem _ hs)) args g g' h T hi σ w Args p hv

/-! ### Environments from summaries -/
theorem EnvS.add {P : Program} {Γ : Env} (hΓ : EnvS P Γ) {f : FuncId} {s : List AV → G → Res} (hle : ∀ args g, LeRes g (s args g)) (hs : CallSf P f s) :
    EnvS P (fun k => match Nat.beq k f with | true => some s | false => Γ k) where
  le := fun k t h args g => by
    split at h
    · injection h with h; subst h; exact hle args g
    · exact hΓ.le k t h args g
  call := fun k t h => by
    split at h
    · rename_i e
      have := of_beq e; subst this
      injection h with h; subst h; exact hs
    · exact hΓ.call k t h
noncomputable def addS (f : FuncId) (ss : List Sum) (Γ : Env) : Env := fun k => match Nat.beq k f with | true => some (sumS ss) | false => Γ k
/-- a function's summaries, each seen by a run -/
theorem addS_ok {P : Program} {Γ Γ0 : Env} (hΓ : EnvS P Γ) (hP : PF2 P) (h0 : EnvS P Γ0) {f : FuncId} (hb : hasBody P f = true) {ss : List Sum}
    (h : ∀ s ∈ ss, ∃ n, s.fits (evF P Γ0 n (.call f s.args) G.init) = true) : EnvS P (addS f ss Γ) := by
  refine hΓ.add (sumS_le ss) ?_
  intro args g g' hg T hi σ w Args p hv
  induction ss with
  | nil => cases hg
  | cons s ss ih =>
    simp only [sumS] at hg ⊢
    split at hg
    · rename_i h1
      obtain ⟨n, hn⟩ := h s List.mem_cons_self
      simp only [Bool.and_eq_true] at h1
      rw [sumG_eq] at hg
      injection hg with hg; subst hg
      exact sumG_sound ((evF_sound hP h0 n).call f hb) hn h1.1 (of_ble h1.2) p hv
    · rename_i h1
      exact ih (fun s hs => h s (List.mem_cons_of_mem _ hs)) hg
/-- do they all fit one run? -/
noncomputable def fitAll : List Sum → Res → Bool
  | [], _ => true
  | s :: ss, r => s.fits r && fitAll ss r
theorem fitAll_cons (s : Sum) (ss : List Sum) (r : Res) : fitAll (s :: ss) r = (s.fits r && fitAll ss r) := rfl
theorem fitAll_mem {r : Res} {ss : List Sum} (h : fitAll ss r = true) : ∀ s ∈ ss, s.fits r = true := by
  induction ss with
  | nil => intro s hs; cases hs
  | cons s ss ih =>
    rw [fitAll_cons, Bool.and_eq_true] at h
    intro t ht
    rcases List.mem_cons.1 ht with e | ht
    · rw [e]; exact h.1
    · exact ih h.2 t ht
/-- a function's summaries, seen by one run -/
theorem addS_one {P : Program} {Γ Γ0 : Env} (hΓ : EnvS P Γ) (hP : PF2 P) (h0 : EnvS P Γ0) {f : FuncId} (hb : hasBody P f = true) {n : Nat} {args : List AV} {ss : List Sum} (ha : ∀ s ∈ ss, s.args = args)
    (h : fitAll ss (evF P Γ0 n (.call f args) G.init) = true) : EnvS P (addS f ss Γ) :=
  addS_ok hΓ hP h0 hb fun s hs => ⟨n, by rw [ha s hs]; exact fitAll_mem h s hs⟩
end Go.Ev
