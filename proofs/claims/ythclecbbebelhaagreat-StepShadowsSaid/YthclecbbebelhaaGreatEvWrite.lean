/-
  A part of the evaluator of the program's code, or of what it was seen to do; its statements are Lean's own. No condition.
-/
import Derived.Test.YthclecbbebelhaaGreatEvPrim
namespace Go.Ev
open Go

/-! ### Writing -/
theorem write_ok {i o : Nat} {vs : List AV} {g g' : G} {u : Unit} (h : write i o vs g = .ok u g') :
    ∃ blk blk', g.heap.get i = some blk ∧ allOne vs = true ∧ writeB blk o vs = some blk' ∧ g' = ⟨g.heap.set i blk', g.next, ⟨i, o, vs.length, true⟩ :: g.log, g.orc, g.obl⟩ := by
  obtain ⟨hp, nx, l, oc, ob⟩ := g
  simp only [write] at h
  cases e : hp.get i with
  | none => rw [e] at h; cases h
  | some blk =>
    rw [e] at h
    simp only at h
    cases e1 : allOne vs with
    | false => rw [e1] at h; cases h
    | true =>
      rw [e1] at h
      simp only at h
      cases e2 : writeB blk o vs with
      | none => rw [e2] at h; cases h
      | some blk' =>
        rw [e2] at h
        simp only [Tr.setK_eq, natK_eq] at h
        injection h with h1 h2
        exact ⟨blk, blk', rfl, rfl, e2, h2.symm⟩
theorem lay_some {l : List AV} {o : Nat} {vs r : List AV} (h : lay l o vs = some r) :
    o + vs.length ≤ l.length ∧ r.length = l.length ∧ ∀ k, r[k]? = if o ≤ k ∧ k < o + vs.length then vs[k - o]? else l[k]? := by
  unfold lay at h
  split at h
  · rename_i hb
    have hb := of_ble hb
    rw [listK_eq] at h
    injection h with h; subst h
    refine ⟨hb, by simp; omega, fun k => ?_⟩
    have e1 : min o l.length = o := by omega
    by_cases h1 : k < o
    · rw [List.getElem?_append_left (by simp; omega), List.getElem?_take_of_lt h1, if_neg (by omega)]
    · rw [List.getElem?_append_right (by simp; omega)]
      simp only [List.length_take, e1]
      by_cases h2 : k < o + vs.length
      · rw [List.getElem?_append_left (by omega), if_pos (by omega)]
      · rw [List.getElem?_append_right (by omega), List.getElem?_drop, if_neg (by omega)]
        congr 1; omega
  · cases h
noncomputable def twrite (t : Tr AV) : Nat → List AV → Tr AV
  | _, [] => t
  | o, v :: vs => twrite (t.set o v) (o + 1) vs
theorem twriteK_eq {β : Type} : ∀ (vs : List AV) (t : Tr AV) (o : Nat) (k : Tr AV → β), twriteK t o vs k = k (twrite t o vs)
  | [], _, _, _ => rfl
  | v :: vs, t, o, k => by
    show t.setK o v (fun t => twriteK t (o + 1) vs k) = _
    rw [Tr.setK_eq, twriteK_eq vs]; rfl
theorem twrite_get : ∀ (vs : List AV) (t : Tr AV) (o k : Nat) (x : AV), (twrite t o vs).get k = some x → (∃ v, o ≤ k ∧ vs[k - o]? = some v ∧ x = v) ∨ ((k < o ∨ o + vs.length ≤ k) ∧ t.get k = some x)
  | [], _, _, _, _, h => .inr ⟨by simp; omega, h⟩
  | v :: vs, t, o, k, x, h => by
    rcases twrite_get vs (t.set o v) (o + 1) k x h with ⟨u, h1, h2, h3⟩ | ⟨h1, h2⟩
    · exact .inl ⟨u, by omega, by rw [show k - o = (k - (o + 1)) + 1 from by omega]; simpa using h2, h3⟩
    · rcases Tr.get_set h2 with ⟨h3, h4⟩ | ⟨h3, h4⟩
      · exact .inl ⟨v, by omega, by subst h3; simp, h4⟩
      · refine .inr ⟨?_, h4⟩; simp; omega

namespace Tr
variable {α : Type}
theorem getP_pathP_same (a : Option α) : ∀ (f p : Nat), 1 ≤ p → p < 2 ^ f → getP (pathP a f p) p = a
  | 0, p, h, h' => by simp at h'; omega
  | f + 1, p, h, h' => by
    rw [pathP]
    have h2 : 2 ^ (f + 1) = 2 * 2 ^ f := by rw [Nat.pow_succ]; omega
    by_cases h1 : p = 1
    · rw [if_pos h1, getP_nd, if_pos h1]
    · rw [if_neg h1]
      by_cases h3 : p % 2 = 0
      · rw [if_pos h3, getP_nd, if_neg h1, if_pos h3]; exact getP_pathP_same a f (p / 2) (by omega) (by omega)
      · rw [if_neg h3, getP_nd, if_neg h1, if_neg h3]; exact getP_pathP_same a f (p / 2) (by omega) (by omega)
theorem getP_setP_same (a : Option α) : ∀ (t : Tr α) (p : Nat), 1 ≤ p → p < 2 ^ 40 → getP (setP a t p) p = a
  | lf, p, h, h' => getP_pathP_same a 40 p h h'
  | nd l v r, p, h, h' => by
    rw [setP]
    by_cases h1 : p = 1
    · rw [if_pos h1, getP_nd, if_pos h1]
    · rw [if_neg h1]
      by_cases h3 : p % 2 = 0
      · rw [if_pos h3, getP_nd, if_neg h1, if_pos h3]; exact getP_setP_same a l (p / 2) (by omega) (by omega)
      · rw [if_neg h3, getP_nd, if_neg h1, if_neg h3]; exact getP_setP_same a r (p / 2) (by omega) (by omega)
theorem get_set_same (t : Tr α) (n : Nat) (a : α) (h : n < 2 ^ 39) : (t.set n a).get n = some a := by
  have : getP (setP (some a) t (n + 1)) (n + 1) = some a := getP_setP_same _ t _ (by omega) (by omega)
  unfold set setK; rw [setPK_eq]; exact this
end Tr
theorem twrite_same : ∀ (vs : List AV) (t : Tr AV) (o k : Nat), o + vs.length < 2 ^ 39 → (twrite t o vs).get k = if o ≤ k ∧ k < o + vs.length then vs[k - o]? else t.get k
  | [], _, o, k, _ => by rw [if_neg (by simp only [List.length_nil]; omega)]; rfl
  | v :: vs, t, o, k, h => by
    simp only [List.length_cons] at h ⊢
    rw [twrite, twrite_same vs (t.set o v) (o + 1) k (by omega)]
    by_cases h1 : k = o
    · subst h1
      rw [if_neg (by omega), if_pos (by omega), Tr.get_set_same _ _ _ (by omega)]; simp
    · rw [Tr.get_set_ne _ _ h1]
      by_cases h2 : o + 1 ≤ k ∧ k < o + 1 + vs.length
      · rw [if_pos h2, if_pos (by omega), show k - o = (k - (o + 1)) + 1 from by omega]; simp
      · rw [if_neg h2, if_neg (by omega)]

/-- what a writing leaves: its shape, and the cells that were laid -/
theorem writeB_some {blk blk' : Blk} {o : Nat} {vs : List AV} (h : writeB blk o vs = some blk') :
    blk'.sh = blk.sh ∧ (∃ e m, (blk.sh = .cells e m ∨ blk.sh = .grown e m ∨ blk.sh = .big e m) ∧ o + vs.length ≤ m) ∧
    (∀ k, blk'.ct k = if o ≤ k ∧ k < o + vs.length then (vs[k - o]?).map .cell else blk.ct k) := by
  have key : ∀ (l r : List AV), lay l o vs = some r → r.length = l.length ∧ o + vs.length ≤ l.length ∧ ∀ k, (r[k]?).map Ct.cell = if o ≤ k ∧ k < o + vs.length then (vs[k - o]?).map Ct.cell else (l[k]?).map Ct.cell := by
    intro l r h
    obtain ⟨a, b, c⟩ := lay_some h
    exact ⟨b, a, fun k => by rw [c k]; split <;> rfl⟩
  cases blk with
  | cells e l =>
    simp only [writeB] at h
    cases hl : lay l o vs with
    | none => rw [hl] at h; cases h
    | some r =>
      rw [hl] at h; injection h with h; subst h
      obtain ⟨a, b, c⟩ := key l r hl
      exact ⟨by simp [Blk.sh, a], ⟨e, l.length, .inl rfl, b⟩, c⟩
  | grown e l =>
    simp only [writeB] at h
    cases hl : lay l o vs with
    | none => rw [hl] at h; cases h
    | some r =>
      rw [hl] at h; injection h with h; subst h
      obtain ⟨a, b, c⟩ := key l r hl
      exact ⟨by simp [Blk.sh, a], ⟨e, l.length, .inr (.inl rfl), b⟩, c⟩
  | seq e k f m => cases h
  | map es => cases h
  | chan => cases h
  | pmap es => cases h
  | big e t d m =>
    simp only [writeB] at h
    split at h
    · rename_i hb
      have hb := of_ble hb
      split at h
      · rename_i hm
        have hm := of_ble hm
        rw [twriteK_eq] at h
        injection h with h; subst h
        refine ⟨rfl, ⟨e, m, .inr (.inr rfl), hb⟩, fun k => ?_⟩
        simp only [Blk.ct]
        rw [twrite_same vs t o k (by omega)]
        by_cases h1 : o ≤ k ∧ k < o + vs.length
        · rw [if_pos h1, if_pos h1, if_pos (by omega)]
          have : k - o < vs.length := by omega
          simp [List.getElem?_eq_getElem this]
        · rw [if_neg h1, if_neg h1]
      · cases h
    · cases h

theorem allOne_mem : ∀ {vs : List AV}, allOne vs = true → ∀ v ∈ vs, v.oneCell = true
  | v :: vs, h, u, hu => by
    unfold allOne at h
    cases e : v.oneCell with
    | false => rw [e] at h; cases h
    | true =>
      rw [e] at h
      cases hu with
      | head => exact e
      | tail _ hm => exact allOne_mem h u hm

/-- one cell is written -/
theorem run_store {α : Type} {P : Program} {w : World} {b o : Nat} {c : Array Value} {e : TypeId} {fz : Nat × Nat} (h : w.heap[b]? = some (.cells c e fz)) (hf : noFz fz)
    (ho : o < c.size) {V : Value} (hv : oneV V = true) (k : Sem α) : (Sem.store .plain ⟨b, o, none⟩ V k).run P w = k.run P (w.setCell ⟨b, o, none⟩ V) := by
  have h1 : w.cell? ⟨b, o, none⟩ = some c[o] := by rw [cell_of h]; simp [ho]
  have h2 := frozen_of (o := o) h hf
  cases V <;> first | (simp [oneV] at hv; done) | simp only [Sem.run, h1, h2, Bool.false_eq_true, if_false]
theorem heap_setCell {w : World} {b o : Nat} {c : Array Value} {e : TypeId} {fz : Nat × Nat} (h : w.heap[b]? = some (.cells c e fz)) (V : Value) :
    (w.setCell ⟨b, o, none⟩ V).heap[b]? = some (.cells (c.setIfInBounds o V) e fz) ∧ (∀ x, x ≠ b → (w.setCell ⟨b, o, none⟩ V).heap[x]? = w.heap[x]?) ∧ (w.setCell ⟨b, o, none⟩ V).heap.size = w.heap.size := by
  refine ⟨?_, fun x hx => ?_, ?_⟩
  · simp [World.setCell, Array.getElem?_modify, h]
  · simp only [World.setCell, Array.getElem?_modify]
    rw [if_neg (fun e => hx e.symm)]
  · simp [World.setCell]
theorem run_storeCells {P : Program} {b o : Nat} {e : TypeId} {fz : Nat × Nat} (hf : noFz fz) :
    ∀ (Vs : List Value) (i : Nat) (w : World) (c : Array Value), w.heap[b]? = some (.cells c e fz) → o + i + Vs.length ≤ c.size → (∀ V ∈ Vs, oneV V = true) →
    ∃ w' c', (storeCells ⟨b, o, none⟩ Vs i).run P w = .ok () w' ∧ w'.heap[b]? = some (.cells c' e fz) ∧ c'.size = c.size ∧
      (∀ k, c'[k]? = if o + i ≤ k ∧ k < o + i + Vs.length then Vs[k - (o + i)]? else c[k]?) ∧ (∀ x, x ≠ b → w'.heap[x]? = w.heap[x]?) ∧ w'.heap.size = w.heap.size ∧
      w'.tape = w.tape ∧ w'.os = w.os ∧ w'.output = w.output
  | [], i, w, c, h, _, _ => ⟨w, c, by simp [storeCells, Sem.run, pure, Pure.pure], h, rfl, fun k => by rw [if_neg (by simp only [List.length_nil]; omega)], fun _ _ => rfl, rfl, rfl, rfl, rfl⟩
  | V :: Vs, i, w, c, h, hb, hv => by
    simp only [List.length_cons] at hb
    obtain ⟨h1, h2, h3⟩ := heap_setCell (o := o + i) h V
    obtain ⟨w', c', r1, r2, r3, r4, r5, r6, r7, r8, r9⟩ := run_storeCells (P := P) (b := b) (o := o) hf Vs (i + 1) (w.setCell ⟨b, o + i, none⟩ V) (c.setIfInBounds (o + i) V) h1 (by rw [Array.size_setIfInBounds]; omega)
      (fun U hU => hv U (List.mem_cons_of_mem _ hU))
    refine ⟨w', c', ?_, r2, by rw [r3]; simp, fun k => ?_, fun x hx => (r5 x hx).trans (h2 x hx), r6.trans h3, r7, r8, r9⟩
    · show ((store ((⟨b, o, none⟩ : Addr).add i) V).bind fun _ => storeCells ⟨b, o, none⟩ Vs (i + 1)).run P w = _
      rw [addr_add]
      simp only [store, Sem.bind]
      rw [run_store h hf (by omega) (hv V (List.mem_cons_self)), r1]
    · rw [r4 k]
      simp only [List.length_cons]
      by_cases h4 : o + (i + 1) ≤ k ∧ k < o + (i + 1) + Vs.length
      · rw [if_pos h4, if_pos (by omega), show k - (o + i) = (k - (o + (i + 1))) + 1 from by omega]; simp
      · rw [if_neg h4]
        by_cases h5 : k = o + i
        · subst h5
          have : o + i < c.size := by omega
          rw [if_pos (by omega)]
          simp [this]
        · rw [if_neg (by omega), Array.getElem?_setIfInBounds_ne (fun e => h5 e.symm)]

theorem write_le {i o : Nat} {vs : List AV} {g g' : G} {u : Unit} (h : write i o vs g = .ok u g') : Le g g' [⟨i, o, vs.length, true⟩] := by
  obtain ⟨blk, blk', hg, ha, hw, rfl⟩ := write_ok h
  obtain ⟨hsh, _, hct⟩ := writeB_some hw
  refine ⟨rfl, Nat.le_refl _, ⟨[], rfl⟩, fun j bj _ hj => ?_, fun j k bj ct hn hj hc => ?_, fun t ht _ => by simp at ht; subst ht; exact .inl ⟨blk, hg⟩⟩
  · rcases Tr.get_set hj with ⟨rfl, rfl⟩ | ⟨_, h⟩
    · exact ⟨blk, hg, hsh.symm⟩
    · exact ⟨bj, h, rfl⟩
  · rcases Tr.get_set hj with ⟨rfl, rfl⟩ | ⟨_, h⟩
    · refine ⟨blk, hg, ?_⟩
      rw [hct k] at hc
      by_cases h5 : o ≤ k ∧ k < o + vs.length
      · exact absurd ⟨_, List.mem_cons_self, rfl, rfl, .inr h5⟩ hn
      · rw [if_neg h5] at hc; exact hc
    · exact ⟨bj, h, hc⟩
/-- the memory behind a writing -/
theorem write_sound {P : Program} {σ : Sg} {T : Tp} {g g' : G} {w : World} {i o : Nat} {vs : List AV} {Vs : List Value} {u : Unit} (h : write i o vs g = .ok u g') (rl : Rel P σ T g w)
    (hV : VRs σ vs Vs) (ht : inT T [⟨i, o, vs.length, true⟩]) :
    ∃ b cap w', σ i = some (b, cap) ∧ (storeCells ⟨b, o, none⟩ Vs 0).run P w = .ok () w' ∧ Post P T σ g w σ g' w' [⟨i, o, vs.length, true⟩] := by
  have hle := write_le h
  obtain ⟨blk, blk', hg, ha, hw, rfl⟩ := write_ok h
  obtain ⟨hsh, ⟨e, m, hs, hb⟩, hct⟩ := writeB_some hw
  obtain ⟨b, cap, c, fz, h1, h2, h3, h4⟩ := rl.cellsOf hg ht.some hs
  have hlen := hV.length
  have hone : ∀ V ∈ Vs, oneV V = true := by
    intro V hm
    obtain ⟨k, hk⟩ := List.getElem?_of_mem hm
    have hlt : k < vs.length := by have := (List.getElem?_eq_some_iff.1 hk).1; omega
    obtain ⟨V', h5, h6⟩ := hV.get (List.getElem?_eq_getElem hlt)
    rw [hk] at h5; injection h5 with h5; subst h5
    rw [h6.oneCell]
    exact allOne_mem ha _ (List.getElem_mem hlt)
  obtain ⟨w', c', r1, r2, r3, r4, r5, r6, r7, r8, r9⟩ := run_storeCells (P := P) (b := b) (o := o) h3 Vs 0 w c h2 (by omega) hone
  simp only [Nat.add_zero] at r4
  have htt : ∀ k, o ≤ k → k < o + vs.length → covW [⟨i, o, vs.length, true⟩] i k := fun k a b => ⟨_, List.mem_cons_self, rfl, rfl, .inr ⟨a, b⟩⟩
  have hsame : ∀ x cp, σ i = some (x, cp) → x = b := fun x cp e => by rw [h1] at e; injection e with e; injection e with e _; exact e.symm
  have hold : ∀ j bj, (g.heap.set i blk').get j = some bj → (j = i ∧ bj = blk') ∨ (j ≠ i ∧ g.heap.get j = some bj) := fun j bj hj => Tr.get_set hj
  have hdom : ∀ j bj, (g.heap.set i blk').get j = some bj → ∃ b0, g.heap.get j = some b0 ∧ b0.sh = bj.sh := fun j bj hj => by
    rcases hold j bj hj with ⟨rfl, rfl⟩ | ⟨_, h⟩
    · exact ⟨blk, hg, hsh.symm⟩
    · exact ⟨bj, h, rfl⟩
  have hne : ∀ j bj x cp, j ≠ i → g.heap.get j = some bj → (∃ o, T j o) → σ j = some (x, cp) → x ≠ b := fun j bj x cp hji hj hT hσ e => by
    subst e; exact hji (rl.inj j i bj blk x cp cap hj hg hT ht.some hσ h1)
  have hfr : ∀ x, x ≠ b → w'.heap[x]? = w.heap[x]? := r5
  refine ⟨b, cap, w', h1, r1, ?_⟩
  refine { le := hle, ext := fun _ _ => rfl, rel := ⟨fun j bj hj hT => ?_, fun j bj k ct x cp hj hc hT hσ => ?_, fun j j' bj bj' x c1 c2 hj hj' hT hT' hσ hσ' => ?_⟩,
           fr := ⟨Nat.le_of_eq r6.symm, r7, r8, r9, fun x hx hn => ?_, fun x cx ex fx hx => ?_, fun x es cl hx => ?_, fun x n1 n2 n3 n4 hx => ?_⟩, nw := fun _ _ _ h1 h2 _ => absurd h1 (Nat.not_le_of_lt h2) }
  · rcases hold j bj hj with ⟨rfl, rfl⟩ | ⟨hji, h⟩
    · obtain ⟨b0, cap0, h5, h6⟩ := rl.sh j blk hg hT
      rw [h1] at h5; injection h5 with h5; injection h5 with h5 h5'; subst h5; subst h5'
      refine ⟨b, cap, h1, ?_⟩
      rw [r2, hsh]
      rw [h2] at h6
      cases hq : blk.sh with
      | map => rw [hq] at hs; simp at hs
      | chan => rw [hq] at hs; simp at hs
      | seq a b => rw [hq] at hs; simp at hs
      | cells a d => rw [hq] at h6; obtain ⟨c0, f0, h7, h8, h9⟩ := h6; injection h7 with h7; injection h7 with h7 h7' h7''; subst h7; subst h7'; subst h7''; exact ⟨c', fz, rfl, h3, by rw [r3]; exact h9⟩
      | grown a d => rw [hq] at h6; obtain ⟨c0, f0, h7, h8, h9, h10⟩ := h6; injection h7 with h7; injection h7 with h7 h7' h7''; subst h7; subst h7'; subst h7''; exact ⟨c', fz, rfl, h3, by rw [r3]; exact h9, by rw [r3]; exact h10⟩
      | big a d => rw [hq] at h6; obtain ⟨c0, f0, h7, h8, h9⟩ := h6; injection h7 with h7; injection h7 with h7 h7' h7''; subst h7; subst h7'; subst h7''; exact ⟨c', fz, rfl, h3, by rw [r3]; exact h9⟩
    · obtain ⟨b0, cap0, h5, h6⟩ := rl.sh j bj h hT
      exact ⟨b0, cap0, h5, by rw [hfr b0 (hne j bj b0 cap0 hji h hT h5)]; exact h6⟩
  · rcases hold j bj hj with ⟨rfl, rfl⟩ | ⟨hji, h⟩
    · have hx := hsame x cp hσ
      subst hx
      rw [hct k] at hc
      by_cases h5 : o ≤ k ∧ k < o + vs.length
      · rw [if_pos h5] at hc
        cases hv : vs[k - o]? with
        | none => rw [hv] at hc; cases hc
        | some v =>
          rw [hv] at hc; injection hc with hc; subst hc
          obtain ⟨V, h6, h7⟩ := hV.get hv
          exact ⟨c', e, fz, V, r2, by rw [r4 k, if_pos (by omega)]; exact h6, h7⟩
      · rw [if_neg h5] at hc
        have h6 := rl.ct j blk k ct x cp hg hc hT hσ
        cases ct with
        | map es =>
          obtain ⟨E, cl, h7, _⟩ := h6
          rw [h2] at h7; cases h7
        | pmap es =>
          obtain ⟨E, cl, E', h7, _⟩ := h6
          rw [h2] at h7; cases h7
        | chan n k =>
          obtain ⟨E, cl, E', h7, _⟩ := h6
          rw [h2] at h7; cases h7
        | cell v =>
          obtain ⟨c0, e0, f0, V, h7, h8, h9⟩ := h6
          rw [h2] at h7; injection h7 with h7; injection h7 with h7 h7' h7''; subst h7; subst h7'; subst h7''
          exact ⟨c', e, fz, V, r2, by rw [r4 k, if_neg (by omega)]; exact h8, h9⟩
    · rw [hfr x (hne j bj x cp hji h ⟨k, hT⟩ hσ)]
      exact rl.ct j bj k ct x cp h hc hT hσ
  · obtain ⟨b0, h5, _⟩ := hdom j bj hj
    obtain ⟨b1, h6, _⟩ := hdom j' bj' hj'
    exact rl.inj j j' b0 b1 x c1 c2 h5 h6 hT hT' hσ hσ'
  · by_cases hxb : x = b
    · subst hxb
      by_cases hl : vs.length = 0
      · exact absurd ⟨i, cap, h1, ⟨_, List.mem_cons_self, rfl, rfl, .inl hl⟩⟩ (hn 0)
      · exact absurd ⟨i, cap, h1, htt o (Nat.le_refl _) (by omega)⟩ (hn o)
    · exact hfr x hxb
  · by_cases hxb : x = b
    · subst hxb
      rw [h2] at hx; injection hx with hx; injection hx with hx hx' hx''; subst hx; subst hx'; subst hx''
      refine ⟨c', r2, r3, fun k hk => ?_⟩
      rw [r4 k]
      by_cases h5 : o ≤ k ∧ k < o + vs.length
      · exact absurd ⟨i, cap, h1, htt k h5.1 h5.2⟩ hk
      · rw [if_neg (by omega)]
    · exact ⟨cx, by rw [hfr x hxb]; exact hx, rfl, fun _ _ => rfl⟩
  · by_cases hxb : x = b
    · subst hxb; rw [h2] at hx; cases hx
    · exact ⟨es, cl, by rw [hfr x hxb]; exact hx, fun _ => ⟨rfl, rfl⟩⟩
  · by_cases hxb : x = b
    · subst hxb; rw [h2] at hx; cases hx
    · exact ⟨n2, n3, n4, by rw [hfr x hxb]; exact hx, fun _ => ⟨rfl, rfl, rfl⟩⟩
end Go.Ev
