/-
  A part of the evaluator of the program's code, or of what it was seen to do; its statements are Lean's own. No condition.
-/
import Derived.Test.YthclecbbebelhaaGreatEvSeq
namespace Go.Ev
open Go

/-! ### Regions in any order: the generic walk -/
def unl (n : Nat) (listed : Array Bool) : Nat := ((List.range n).filter fun i => !listed.getD i true).length
theorem unl_zero {n : Nat} {listed : Array Bool} (h : unl n listed = 0) : ∀ i, i < n → listed.getD i true = true := by
  intro i hi
  unfold unl at h
  have h := List.eq_nil_of_length_eq_zero h
  rw [List.filter_eq_nil_iff] at h
  have := h i (List.mem_range.2 hi)
  simpa using this
theorem getD_set (listed : Array Bool) (i j : Nat) (d : Bool) (hi : i < listed.size) : (listed.setIfInBounds i true).getD j d = if j = i then true else listed.getD j d := by
  by_cases h : j = i
  · subst h; simp [hi]
  · rw [if_neg h]; simp [Array.getElem?_setIfInBounds_ne (fun e => h e.symm)]
theorem unl_set {n : Nat} {listed : Array Bool} {i : Nat} (hs : listed.size = n) (hi : i < n) (hf : listed.getD i true = false) : unl n (listed.setIfInBounds i true) < unl n listed := by
  unfold unl
  have e : ((List.range n).filter fun j => !(listed.setIfInBounds i true).getD j true) = ((List.range n).filter fun j => !listed.getD j true).filter fun j => j != i := by
    rw [List.filter_filter]
    apply List.filter_congr
    intro j _
    rw [getD_set listed i j true (by omega)]
    by_cases h : j = i
    · subst h; simp
    · simp [h]
  rw [e]
  rw [List.length_filter_lt_length_iff_exists]
  refine ⟨i, ?_, by simp⟩
  rw [List.mem_filter]; exact ⟨List.mem_range.2 hi, by rw [hf]; rfl⟩
theorem wpAny_inv {P : Program} {ops : Array Oper} {Q : Exit → Act → World → Prop} (Inv : Array Bool → Act → World → Prop)
    (hstep : ∀ listed a w i, listed.size = ops.size → Inv listed a w → i ∈ Region.ready .any ops listed → wpOp P ops Q i (Inv (listed.setIfInBounds i true)) a w)
    (hend : ∀ listed a w, listed.size = ops.size → Inv listed a w → Region.ready .any ops listed = [] → Q .normal a w) :
    ∀ (fuel : Nat) (listed : Array Bool) (a : Act) (w : World), unl ops.size listed ≤ fuel → listed.size = ops.size → Inv listed a w → wpAny P .any ops Q fuel listed a w := by
  intro fuel
  induction fuel with
  | zero =>
    intro listed a w hu hs hI
    have hnil : Region.ready .any ops listed = [] := by
      have := unl_zero (Nat.le_zero.1 hu)
      cases hr : Region.ready .any ops listed with
      | nil => rfl
      | cons i r =>
        have hm : i ∈ Region.ready .any ops listed := by rw [hr]; exact List.mem_cons_self
        obtain ⟨h0, o, ho, _⟩ := mem_ready.1 hm
        have hlt := (Array.getElem?_eq_some_iff.1 ho).1
        rw [this i hlt] at h0; cases h0
    exact ⟨hnil, hend listed a w hs hI hnil⟩
  | succ fuel ih =>
    intro listed a w hu hs hI
    refine ⟨fun h => hend listed a w hs hI h, fun i hi => ?_⟩
    obtain ⟨h0, o, ho, _⟩ := mem_ready.1 hi
    have hlt := (Array.getElem?_eq_some_iff.1 ho).1
    refine wpOp_mono (fun a' w' h => ih _ a' w' ?_ (by simpa using hs) h) (hstep listed a w i hs hI hi)
    have := unl_set (n := ops.size) hs hlt h0
    omega

/-! ### What the static question tells -/
theorem edgeBits_spec {ms : List Nat} {i : Nat} : ∀ {es : List Edge} {b : Nat}, edgeBits ms i es = some b →
    (∀ e ∈ es, Region.binds .any e = true → e.on < i) ∧ (∀ j, b.testBit j = true → ∃ e ∈ es, Region.binds .any e = true ∧ (j = e.on ∨ ∃ m, ms[e.on]? = some m ∧ m.testBit j = true))
  | [], b, h => by
    simp only [edgeBits] at h; injection h with h; subst h
    refine ⟨?_, ?_⟩
    · intro e he; cases he
    · intro j hj; rw [Nat.zero_testBit] at hj; cases hj
  | e :: es, b, h => by
    unfold edgeBits at h
    split at h
    · rename_i hb
      obtain ⟨h1, h2⟩ := edgeBits_spec h
      refine ⟨fun e' he' hb' => ?_, fun j hj => ?_⟩
      · rcases List.mem_cons.1 he' with rfl | hm
        · rw [hb] at hb'; cases hb'
        · exact h1 e' hm hb'
      · obtain ⟨e', a, c⟩ := h2 j hj
        exact ⟨e', List.mem_cons_of_mem _ a, c⟩
    · rename_i hb
      split at h
      · rename_i m r hlt hm hr
        injection h with h; subst h
        obtain ⟨h1, h2⟩ := edgeBits_spec hr
        refine ⟨fun e' he' hb' => ?_, fun j hj => ?_⟩
        · rcases List.mem_cons.1 he' with rfl | hm'
          · exact of_ble hlt
          · exact h1 e' hm' hb'
        · have hj' : ((2 ^ e.on ||| m) ||| r).testBit j = true := hj
          rw [Nat.testBit_or, Nat.testBit_or, Bool.or_eq_true, Bool.or_eq_true] at hj'
          rcases hj' with (h3 | h3) | h3
          · rw [Nat.testBit_two_pow] at h3
            exact ⟨e, List.mem_cons_self, hb, .inl (by have := of_decide_eq_true h3; exact this.symm)⟩
          · exact ⟨e, List.mem_cons_self, hb, .inr ⟨m, hm, h3⟩⟩
          · obtain ⟨e', a, c⟩ := h2 j h3
            exact ⟨e', List.mem_cons_of_mem _ a, c⟩
      · cases h
theorem bitsFrom_spec : ∀ (l : List Oper) (i : Nat) (ms ms' : List Nat), ms.length = i → bitsFrom ms i l = some ms' →
    ms'.length = i + l.length ∧ (∀ j, j < i → ms'[j]? = ms[j]?) ∧
    ∀ k o, l[k]? = some o → ∃ b, ms'[i + k]? = some b ∧ (∀ e ∈ o.after, Region.binds .any e = true → e.on < i + k) ∧
      (∀ j, b.testBit j = true → ∃ e ∈ o.after, Region.binds .any e = true ∧ (j = e.on ∨ ∃ m, ms'[e.on]? = some m ∧ m.testBit j = true))
  | [], i, ms, ms', hl, h => by
    simp only [bitsFrom] at h; injection h with h; subst h
    exact ⟨by simpa using hl, fun _ _ => rfl, fun k o hk => by simp at hk⟩
  | o :: os, i, ms, ms', hl, h => by
    unfold bitsFrom at h
    split at h
    · rename_i b hb
      obtain ⟨h1, h2, h3⟩ := bitsFrom_spec os (i + 1) (ms ++ [b]) ms' (by simp [hl]) h
      obtain ⟨e1, e2⟩ := edgeBits_spec hb
      refine ⟨by rw [h1, List.length_cons]; omega, fun j hj => ?_, fun k o' hk => ?_⟩
      · rw [h2 j (by omega), List.getElem?_append_left (by omega)]
      · cases k with
        | zero =>
          simp at hk; subst hk
          refine ⟨b, ?_, fun e he hb => e1 e (by simpa using he) hb, fun j hj => ?_⟩
          · rw [h2 (i + 0) (by omega), List.getElem?_append_right (by omega)]; simp [hl]
          · obtain ⟨e, a, c, d⟩ := e2 j hj
            refine ⟨e, by simpa using a, c, ?_⟩
            rcases d with d | ⟨m, d1, d2⟩
            · exact .inl d
            · refine .inr ⟨m, ?_, d2⟩
              have := e1 e a c
              rw [h2 e.on (by omega), List.getElem?_append_left (by omega)]; exact d1
        | succ k =>
          obtain ⟨b', a, c, d⟩ := h3 k o' (by simpa using hk)
          rw [show i + 1 + k = i + (k + 1) from by omega] at a c
          exact ⟨b', a, c, d⟩
    · cases h
theorem apartFrom_spec {ops : Array Oper} {ms : List Nat} {i : Nat} {oi : Oper} : ∀ (l : List Oper) (j : Nat), apartFrom ops ms i oi l j = true → ∀ k o, l[k]? = some o → ∃ m, ms[j + k]? = some m ∧ (m.testBit i = true ∨ oi.apart ops o = true)
  | [], _, _, k, o, hk => by simp at hk
  | p :: ps, j, h, k, o, hk => by
    simp only [apartFrom, Bool.and_eq_true] at h
    cases k with
    | zero =>
      simp at hk; subst hk
      have h1 := h.1
      split at h1
      · rename_i m hm
        exact ⟨m, hm, by simpa using h1⟩
      · cases h1
    | succ k =>
      obtain ⟨m, a, b⟩ := apartFrom_spec ps (j + 1) h.2 k o (by simpa using hk)
      rw [show j + 1 + k = j + (k + 1) from by omega] at a
      exact ⟨m, a, b⟩
theorem allApart_spec {ops : Array Oper} {ms : List Nat} : ∀ (l : List Oper) (i : Nat), allApart ops ms l i = true → ∀ j k oj ok, j < k → l[j]? = some oj → l[k]? = some ok → ∃ m, ms[i + k]? = some m ∧ (m.testBit (i + j) = true ∨ oj.apart ops ok = true)
  | [], _, _, j, k, oj, ok, _, hj, _ => by simp at hj
  | p :: ps, i, h, j, k, oj, ok, hjk, hj, hk => by
    simp only [allApart, Bool.and_eq_true] at h
    obtain ⟨k, rfl⟩ : ∃ k', k = k' + 1 := ⟨k - 1, by omega⟩
    have hk' : ps[k]? = some ok := by simpa using hk
    cases j with
    | zero =>
      simp at hj; subst hj
      obtain ⟨m, a, b⟩ := apartFrom_spec ps (i + 1) h.1 k ok hk'
      rw [show i + 1 + k = i + (k + 1) from by omega] at a
      exact ⟨m, a, b⟩
    | succ j =>
      obtain ⟨m, a, b⟩ := allApart_spec ps (i + 1) h.2 j k oj ok (by omega) (by simpa using hj) hk'
      rw [show i + 1 + k = i + (k + 1) from by omega] at a
      rw [show i + 1 + j = i + (j + 1) from by omega] at b
      exact ⟨m, a, b⟩
/-- all that is needed of the static question -/
structure Stat (ops : Array Oper) (ms : List Nat) : Prop where
  bits : ∀ (k : Nat) o, ops[k]? = some o → ∃ b, ms[k]? = some b ∧ (∀ e ∈ o.after, Region.binds .any e = true → e.on < k) ∧
    (∀ j, b.testBit j = true → ∃ e ∈ o.after, Region.binds .any e = true ∧ (j = e.on ∨ ∃ m, ms[e.on]? = some m ∧ m.testBit j = true))
  apart : ∀ (j k : Nat) oj ok m, j < k → ops[j]? = some oj → ops[k]? = some ok → ms[k]? = some m → m.testBit j = true ∨ oj.apart ops ok = true
theorem static_spec {ops : Array Oper} {ms : List Nat} (h : static ops = some ms) : Stat ops ms := by
  unfold static at h
  split at h
  · rename_i ms' hb
    split at h
    · rename_i hc
      injection h with h; subst h
      simp only [Bool.and_eq_true] at hc
      obtain ⟨_, _, h3⟩ := bitsFrom_spec ops.toList 0 [] ms' rfl hb
      refine ⟨fun k o ho => ?_, fun j k oj ok m hjk hj hk hm => ?_⟩
      · have := h3 k o (by simpa using ho)
        simpa using this
      · obtain ⟨m', a, b⟩ := allApart_spec ops.toList 0 hc.2 j k oj ok hjk (by simpa using hj) (by simpa using hk)
        rw [Nat.zero_add] at a b
        rw [hm] at a; injection a with a; subst a
        exact b
    · cases h
  · cases h
end Go.Ev
