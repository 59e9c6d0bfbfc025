/-
  A part of the evaluator of the program's code, or of what it was seen to do; its statements are Lean's own. No condition.
-/
import Derived.Test.YthclecbbebelhaaGreatEvPar2
namespace Go.Ev
open Go

def Bit (ms : List Nat) (j k : Nat) : Prop := ∃ m, ms[k]? = some m ∧ m.testBit j = true
/-- all that is known of the run in the order of the text -/
structure PT (P : Program) (ops : Array Oper) (ms : List Nat) (tms : Nat → Ts AV) (gs : Nat → G) (vs : Nat → AV) (T : Tp) (hi : Nat) (σ0 : Sg) (w0 : World) : Prop where
  st : Stat ops ms
  apL : ∀ j k, j < k → k < ops.size → Bit ms j k ∨ logsApart (gs (j + 1)).log (gs (k + 1)).log = true
  le : ∀ k, k < ops.size → Le (noLog (gs k)) (gs (k + 1)) (gs (k + 1)).log
  put : ∀ k o, ops[k]? = some o → tms (k + 1) = putK (tms k) o.dst (vs k) id
  rel0 : Rel P σ0 T (gs 0) w0
  fresh0 : Fresh σ0 (gs 0) hi
  hiN : (gs ops.size).next ≤ hi
  inT : ∀ k, k < ops.size → inT T (gs (k + 1)).log
  owes : Owes (gs ops.size)

section
variable {P : Program} {ops : Array Oper} {ms : List Nat} {tms : Nat → Ts AV} {gs : Nat → G} {vs : Nat → AV} {T : Tp} {hi : Nat} {σ0 : Sg} {w0 : World}

theorem PT.nx (h : PT P ops ms tms gs vs T hi σ0 w0) {j k : Nat} (hjk : j ≤ k) (hk : k ≤ ops.size) : (gs j).next ≤ (gs k).next := by
  induction k with
  | zero => have : j = 0 := by omega
            subst this; exact Nat.le_refl _
  | succ k ih =>
    rcases Nat.lt_or_ge k j with h1 | h1
    · have : j = k + 1 := by omega
      subst this; exact Nat.le_refl _
    · have := (h.le k (by omega)).nx
      rw [noLog_eq] at this
      exact Nat.le_trans (ih h1 (by omega)) this
theorem PT.owesAt (h : PT P ops ms tms gs vs T hi σ0 w0) : ∀ {d k : Nat}, k + d = ops.size → Owes (gs k)
  | 0, k, e => by have := h.owes; rw [← e] at this; exact this
  | d + 1, k, e => by
    have h1 := h.owesAt (d := d) (k := k + 1) (by omega)
    have := (h.le k (by omega)).owes h1
    rw [noLog_eq] at this
    exact this

/-- who writes a temporary -/
def Wr (ops : Array Oper) (j : Nat) (t : Tmp) : Prop := ∃ o, ops[j]? = some o ∧ o.dst = some t
/-- the listed ones are closed under waiting -/
def Closed (ops : Array Oper) (ms : List Nat) (S : Nat → Prop) : Prop := ∀ k, S k → k < ops.size ∧ ∀ j, Bit ms j k → S j
/-- the version k of a thing is the one that lies there now, if the writers are these -/
def Valid (n : Nat) (S : Nat → Prop) (W : Nat → Prop) (k : Nat) : Prop := (∀ j, j < k → W j → S j) ∧ (∀ j, k ≤ j → j < n → W j → ¬ S j)

structure Inv (P : Program) (ops : Array Oper) (ms : List Nat) (tms : Nat → Ts AV) (gs : Nat → G) (T : Tp) (σ0 : Sg) (w0 : World) (a0 : Act) (S : Nat → Prop) (σ : Sg) (a : Act) (w : World) : Prop where
  cl : Closed ops ms S
  tmp : ∀ k t v, k ≤ ops.size → Valid ops.size S (fun j => Wr ops j t) k → (tms k).get t = some v → ∃ V, a.tmps[t]? = some V ∧ VR σ v V
  sh : ∀ k i blk, k ≤ ops.size → Valid ops.size S (fun j => covA (gs (j + 1)).log i) k → (gs k).heap.get i = some blk → (∃ o, T i o) → ∃ b cap, σ i = some (b, cap) ∧ ShR P cap blk.sh w.heap[b]?
  ct : ∀ k i blk o c b cap, k ≤ ops.size → Valid ops.size S (fun j => covW (gs (j + 1)).log i o) k → (gs k).heap.get i = some blk → blk.ct o = some c → T i o → σ i = some (b, cap) → CtR σ c w.heap[b]? o
  inj : ∀ k k' i j bi bj b c c', k ≤ ops.size → k' ≤ ops.size → Valid ops.size S (fun m => covA (gs (m + 1)).log i) k → Valid ops.size S (fun m => covA (gs (m + 1)).log j) k' →
    (gs k).heap.get i = some bi → (gs k').heap.get j = some bj → (∃ o, T i o) → (∃ o, T j o) → σ i = some (b, c) → σ j = some (b, c') → i = j
  out : ∀ i, (i < (gs 0).next ∨ (gs ops.size).next ≤ i) → σ i = σ0 i
  no : ∀ k i, k < ops.size → ¬ S k → (gs k).next ≤ i → i < (gs (k + 1)).next → σ i = none
  fr : Fr σ (Lsum gs ops.size) w0 w
  nw : ∀ j b c, (gs 0).next ≤ j → j < (gs ops.size).next → σ j = some (b, c) → w0.heap.size ≤ b ∨ ∃ i c', covA (Lsum gs ops.size) i ∧ σ0 i = some (b, c')
  df : a.defers = a0.defers
  sz : a.tmps.size = a0.tmps.size

theorem Fr.weaken {σ : Sg} {L L' : List Tch} {w w' : World} (h : Fr σ L w w') (hs : ∀ t ∈ L, t ∈ L') : Fr σ L' w w' := by
  have hc : ∀ b o, Chg σ L b o → Chg σ L' b o := fun b o ⟨i, c, e, t, m, r⟩ => ⟨i, c, e, t, hs t m, r⟩
  refine ⟨h.size, h.tape, h.os, h.output, fun b hb hn => h.same b hb fun o c => hn o (hc b o c), fun b c e fz hb => ?_, fun b es cl hb => ?_, fun b n q s r hb => ?_⟩
  · obtain ⟨c', h1, h2, h3⟩ := h.cells b c e fz hb
    exact ⟨c', h1, h2, fun o ho => h3 o fun c => ho (hc b o c)⟩
  · obtain ⟨es', cl', h1, h2⟩ := h.maps b es cl hb
    exact ⟨es', cl', h1, fun ho => h2 fun c => ho (hc b 0 c)⟩
  · obtain ⟨q', s', r', h1, h2⟩ := h.oth b n q s r hb
    exact ⟨q', s', r', h1, fun ho => h2 fun c => ho (hc b 0 c)⟩
theorem Fr.join {σ σ' : Sg} {L M : List Tch} {w w1 w2 : World} (s : Sub σ σ') (a : Fr σ L w w1) (b : Fr σ' M w1 w2) (hs : ∀ t ∈ M, t ∈ L) : Fr σ' L w w2 := by
  refine (Fr.trans s a b).weaken fun t ht => ?_
  rcases List.mem_append.1 ht with h | h
  · exact hs t h
  · exact h
theorem ShR.keep {σ : Sg} {L : List Tch} {w w' : World} (f : Fr σ L w w') {cap b : Nat} {s : Sh} (h : ShR P cap s w.heap[b]?) : ShR P cap s w'.heap[b]? := by
  cases s with
  | cells e n => obtain ⟨c, fz, h1, h2, h3⟩ := h; obtain ⟨c', q1, q2, _⟩ := f.cells b c e fz h1; exact ⟨c', fz, q1, h2, q2.trans h3⟩
  | grown e n => obtain ⟨c, fz, h1, h2, h3, h4⟩ := h; obtain ⟨c', q1, q2, _⟩ := f.cells b c e fz h1; exact ⟨c', fz, q1, h2, by omega, fun s hs => q2.trans (h4 s hs)⟩
  | seq e n => obtain ⟨c, fz, h1, h2⟩ := h; obtain ⟨c', q1, q2, _⟩ := f.cells b c e fz h1; exact ⟨c', fz, q1, by omega⟩
  | big e n => obtain ⟨c, fz, h1, h2, h3⟩ := h; obtain ⟨c', q1, q2, _⟩ := f.cells b c e fz h1; exact ⟨c', fz, q1, h2, q2.trans h3⟩
  | map => obtain ⟨es, cl, h1⟩ := h; obtain ⟨es', cl', q1, _⟩ := f.maps b es cl h1; exact ⟨es', cl', q1⟩
  | chan => obtain ⟨n, q, s, r, h1⟩ := h; obtain ⟨q', s', r', h2, _⟩ := f.oth b n q s r h1; exact ⟨n, q', s', r', h2⟩
theorem mem_Lsum {gs : Nat → G} {t : Tch} : ∀ {n k : Nat}, k < n → t ∈ (gs (k + 1)).log → t ∈ Lsum gs n
  | 0, _, h, _ => by omega
  | n + 1, k, h, ht => by
    rcases Nat.lt_or_ge k n with h1 | h1
    · exact List.mem_append_right _ (mem_Lsum h1 ht)
    · have : k = n := by omega
      subst this; exact List.mem_append_left _ ht

/-! ### Logs that are apart -/
theorem logsApart_spec {a b : List Tch} (h : logsApart a b = true) {x y : Tch} (hx : x ∈ a) (hy : y ∈ b) (hw : x.w = true ∨ y.w = true) : x.meets y = false := by
  unfold logsApart at h
  rw [List.all_eq_true] at h
  have h1 := h x hx
  rw [List.all_eq_true] at h1
  have h2 := h1 y hy
  have : (x.w || y.w) = true := by rcases hw with h | h <;> simp [h]
  rw [this] at h2
  simpa using h2
theorem meets_all {x y : Tch} (hi : x.i = y.i) (h : x.n = 0 ∨ y.n = 0) : x.meets y = true := by
  unfold Tch.meets
  rw [beq_t hi]
  rcases h with h | h <;> simp [h]
theorem ble_t {a b : Nat} (h : a ≤ b) : Nat.ble a b = true := Nat.ble_eq_true_of_le h
theorem meets_at {x y : Tch} {o : Nat} (hi : x.i = y.i) (hx : x.at o) (hy : y.at o) : x.meets y = true := by
  rcases hx with hx | ⟨h1, h2⟩
  · exact meets_all hi (.inl hx)
  · rcases hy with hy | ⟨h3, h4⟩
    · exact meets_all hi (.inr hy)
    · unfold Tch.meets
      rw [beq_t hi, ble_t (show x.o + 1 ≤ y.o + y.n by omega), ble_t (show y.o + 1 ≤ x.o + x.n by omega)]
      simp
/-- who writes what the other touches, waits -/
theorem PT.orderA (h : PT P ops ms tms gs vs T hi σ0 w0) {j k : Nat} {i : Nat} {t : Tch} (hk : k < ops.size) (hj : j < ops.size) (hne : j ≠ k) (hc : covA (gs (j + 1)).log i) (ht : t ∈ (gs (k + 1)).log) (hi' : t.i = i) : (j < k ∧ Bit ms j k) ∨ (k < j ∧ Bit ms k j) := by
  obtain ⟨u, hu, hw, hui, hu0⟩ := hc
  rcases Nat.lt_or_ge j k with h1 | h1
  · rcases h.apL j k h1 hk with h2 | h2
    · exact .inl ⟨h1, h2⟩
    · have := logsApart_spec h2 hu ht (.inl hw)
      rw [meets_all (hui.trans hi'.symm) (.inl hu0)] at this; cases this
  · rcases h.apL k j (by omega) hj with h2 | h2
    · exact .inr ⟨by omega, h2⟩
    · have := logsApart_spec h2 ht hu (.inr hw)
      rw [meets_all (hi'.trans hui.symm) (.inr hu0)] at this; cases this
theorem PT.orderC (h : PT P ops ms tms gs vs T hi σ0 w0) {j k : Nat} {i o : Nat} {t : Tch} (hk : k < ops.size) (hj : j < ops.size) (hne : j ≠ k) (hc : covW (gs (j + 1)).log i o) (ht : t ∈ (gs (k + 1)).log) (hi' : t.i = i) (hat : t.at o) : (j < k ∧ Bit ms j k) ∨ (k < j ∧ Bit ms k j) := by
  obtain ⟨u, hu, hw, hui, hu0⟩ := hc
  rcases Nat.lt_or_ge j k with h1 | h1
  · rcases h.apL j k h1 hk with h2 | h2
    · exact .inl ⟨h1, h2⟩
    · have := logsApart_spec h2 hu ht (.inl hw)
      rw [meets_at (hui.trans hi'.symm) hu0 hat] at this; cases this
  · rcases h.apL k j (by omega) hj with h2 | h2
    · exact .inr ⟨by omega, h2⟩
    · have := logsApart_spec h2 ht hu (.inr hw)
      rw [meets_at (hi'.trans hui.symm) hat hu0] at this; cases this
theorem PT.orderT (h : PT P ops ms tms gs vs T hi σ0 w0) {j k : Nat} {t : Tmp} {ok : Oper} (hk : ops[k]? = some ok) (_ : j < ops.size) (hne : j ≠ k) (hc : Wr ops j t) (ht : t ∈ ok.looksAt ops ∨ ok.dst = some t) : (j < k ∧ Bit ms j k) ∨ (k < j ∧ Bit ms k j) := by
  obtain ⟨oj, hoj, hd⟩ := hc
  rcases Nat.lt_or_ge j k with h1 | h1
  · obtain ⟨m, hm, _⟩ := h.st.bits k ok hk
    rcases h.st.apart j k oj ok m h1 hoj hk hm with h2 | h2
    · exact .inl ⟨h1, m, hm, h2⟩
    · obtain ⟨q1, q2, q3⟩ := Oper.apart_spec h2
      rcases ht with ht | ht
      · exact absurd ht (q1 t hd)
      · exact absurd ht (q2 t hd)
  · obtain ⟨m, hm, _⟩ := h.st.bits j oj hoj
    rcases h.st.apart k j ok oj m (by omega) hk hoj hm with h2 | h2
    · exact .inr ⟨by omega, m, hm, h2⟩
    · obtain ⟨q1, q2, q3⟩ := Oper.apart_spec h2
      rcases ht with ht | ht
      · exact absurd ht (q3 t hd)
      · exact absurd hd (q2 t ht)
/-- what m touches is valid for m when m is ready -/
theorem valid_of {n : Nat} {S W : Nat → Prop} {m : Nat} (hcl : ∀ k, S k → ∀ j, Bit ms j k → S j) (hm : ¬ S m) (hb : ∀ j, Bit ms j m → S j) (h : ∀ j, j < n → j ≠ m → W j → (j < m ∧ Bit ms j m) ∨ (m < j ∧ Bit ms m j)) (hmn : m < n) : Valid n S W m := by
  refine ⟨fun j hj hw => ?_, fun j hj hn hw hs => ?_⟩
  · rcases h j (by omega) (by omega) hw with ⟨_, h1⟩ | ⟨h1, _⟩
    · exact hb j h1
    · omega
  · by_cases e : j = m
    · subst e; exact hm hs
    · rcases h j hn e hw with ⟨h1, _⟩ | ⟨_, h1⟩
      · omega
      · exact hm (hcl j hs m h1)
/-- the versions behind a step that writes -/
theorem valid_after {n : Nat} {S W : Nat → Prop} {m k : Nat} (hcl : ∀ k, S k → ∀ j, Bit ms j k → S j) (hm : ¬ S m) (hw : W m) (hmn : m < n) (h : ∀ j, j < n → j ≠ m → W j → (j < m ∧ Bit ms j m) ∨ (m < j ∧ Bit ms m j))
    (v : Valid n (fun j => S j ∨ j = m) W k) (hkn : k ≤ n) : m < k ∧ ∀ j, m < j → j < k → ¬ W j := by
  have hmk : m < k := by
    rcases Nat.lt_or_ge m k with h1 | h1
    · exact h1
    · exact absurd (.inr rfl) (v.2 m h1 hmn hw)
  refine ⟨hmk, fun j h1 h2 h3 => ?_⟩
  have hs : S j := (v.1 j h2 h3).resolve_right (by omega)
  rcases h j (by omega) (by omega) h3 with ⟨h4, _⟩ | ⟨_, h4⟩
  · omega
  · exact hm (hcl j hs m h4)
theorem valid_before {n : Nat} {S W : Nat → Prop} {m k : Nat} (hw : ¬ W m) (v : Valid n (fun j => S j ∨ j = m) W k) : Valid n S W k :=
  ⟨fun j h1 h2 => (v.1 j h1 h2).resolve_right fun e => hw (e ▸ h2), fun j h1 h2 h3 hs => v.2 j h1 h2 h3 (.inl hs)⟩
/-- a thing that is not written in between reads the same -/
theorem PT.shBack (h : PT P ops ms tms gs vs T hi σ0 w0) {i : Nat} {k0 : Nat} : ∀ {k : Nat} {blk : Blk}, k0 ≤ k → k ≤ ops.size → (∀ j, k0 ≤ j → j < k → ¬ covA (gs (j + 1)).log i) → (gs k).heap.get i = some blk → ∃ b, (gs k0).heap.get i = some b ∧ b.sh = blk.sh
  | 0, blk, h1, h2, h3, h4 => by
    have : k0 = 0 := by omega
    subst this; exact ⟨blk, h4, rfl⟩
  | k + 1, blk, h1, h2, h3, h4 => by
    rcases Nat.lt_or_ge k k0 with h5 | h5
    · have : k0 = k + 1 := by omega
      subst this; exact ⟨blk, h4, rfl⟩
    · obtain ⟨b, q1, q2⟩ := (h.le k (by omega)).sh i blk (h3 k h5 (by omega)) h4
      rw [noLog_eq] at q1
      obtain ⟨b', q3, q4⟩ := h.shBack h5 (by omega) (fun j hj hk => h3 j hj (by omega)) q1
      exact ⟨b', q3, q4.trans q2⟩
theorem PT.ctBack (h : PT P ops ms tms gs vs T hi σ0 w0) {i o : Nat} {c : Ct} {k0 : Nat} : ∀ {k : Nat} {blk : Blk}, k0 ≤ k → k ≤ ops.size → (∀ j, k0 ≤ j → j < k → ¬ covW (gs (j + 1)).log i o) → (gs k).heap.get i = some blk → blk.ct o = some c → ∃ b, (gs k0).heap.get i = some b ∧ b.ct o = some c
  | 0, blk, h1, h2, h3, h4, h6 => by
    have : k0 = 0 := by omega
    subst this; exact ⟨blk, h4, h6⟩
  | k + 1, blk, h1, h2, h3, h4, h6 => by
    rcases Nat.lt_or_ge k k0 with h5 | h5
    · have : k0 = k + 1 := by omega
      subst this; exact ⟨blk, h4, h6⟩
    · obtain ⟨b, q1, q2⟩ := (h.le k (by omega)).ct i o blk c (h3 k h5 (by omega)) h4 h6
      rw [noLog_eq] at q1
      exact h.ctBack h5 (by omega) (fun j hj hk => h3 j hj (by omega)) q1 q2
theorem PT.tmBack (h : PT P ops ms tms gs vs T hi σ0 w0) {t : Tmp} {v : AV} {k0 : Nat} : ∀ {k : Nat}, k0 ≤ k → k ≤ ops.size → (∀ j, k0 ≤ j → j < k → ¬ Wr ops j t) → (tms k).get t = some v → (tms k0).get t = some v
  | 0, h1, h2, h3, h4 => by
    have : k0 = 0 := by omega
    subst this; exact h4
  | k + 1, h1, h2, h3, h4 => by
    rcases Nat.lt_or_ge k k0 with h5 | h5
    · have : k0 = k + 1 := by omega
      subst this; exact h4
    · refine h.tmBack h5 (by omega) (fun j hj hk => h3 j hj (by omega)) ?_
      obtain ⟨o, ho⟩ : ∃ o, ops[k]? = some o := ⟨ops[k], Array.getElem?_eq_some_iff.2 ⟨by omega, rfl⟩⟩
      rw [h.put k o ho] at h4
      cases hd : o.dst with
      | none => rw [hd] at h4; exact h4
      | some d =>
        rw [hd] at h4
        simp only [putK, Ts.setK_eq] at h4
        rcases Ts.get_set h4 with ⟨rfl, _⟩ | ⟨_, h6⟩
        · exact absurd ⟨o, ho, hd⟩ (h3 k h5 (by omega))
        · exact h6
/-- where a block that lies there comes from -/
theorem PT.born (h : PT P ops ms tms gs vs T hi σ0 w0) {i : Nat} : ∀ {k : Nat} {blk : Blk}, k ≤ ops.size → (gs k).heap.get i = some blk → (∃ b, (gs 0).heap.get i = some b) ∨ ∃ j, j < k ∧ (gs j).next ≤ i ∧ i < (gs (j + 1)).next ∧ covA (gs (j + 1)).log i
  | 0, blk, _, hb => .inl ⟨blk, hb⟩
  | k + 1, blk, hk, hb => by
    by_cases hc : covA (gs (k + 1)).log i
    · obtain ⟨t, ht, hw, hti, h0⟩ := hc
      rcases (h.le k (by omega)).ex t ht hw with ⟨b, h1⟩ | ⟨h1, h2⟩
      · rw [noLog_eq, hti] at h1
        rcases h.born (by omega) h1 with h3 | ⟨j, h3, h4⟩
        · exact .inl h3
        · exact .inr ⟨j, by omega, h4⟩
      · rw [noLog_eq, hti] at h1; rw [hti] at h2
        exact .inr ⟨k, by omega, h1, h2, t, ht, hw, hti, h0⟩
    · obtain ⟨b, h1, _⟩ := (h.le k (by omega)).sh i blk hc hb
      rw [noLog_eq] at h1
      rcases h.born (by omega) h1 with h3 | ⟨j, h3, h4⟩
      · exact .inl h3
      · exact .inr ⟨j, by omega, h4⟩
/-- a block of the range of m that lies there was made by m -/
theorem PT.made (h : PT P ops ms tms gs vs T hi σ0 w0) {i m k : Nat} {blk : Blk} (hm : m < ops.size) (hk : k ≤ ops.size) (hb : (gs k).heap.get i = some blk) (ht : ∃ o, T i o) (h1 : (gs m).next ≤ i) (h2 : i < (gs (m + 1)).next) : covA (gs (m + 1)).log i := by
  rcases h.born hk hb with ⟨b, h3⟩ | ⟨j, h3, h4, h5, h6⟩
  · obtain ⟨b', cap, h4, _⟩ := h.rel0.sh i b h3 ht
    have a1 := h.nx (Nat.zero_le m) (Nat.le_of_lt hm)
    have a2 := h.nx (show m + 1 ≤ ops.size by omega) (Nat.le_refl _)
    have a3 := h.hiN
    rw [h.fresh0 i (by omega) (by omega)] at h4; cases h4
  · have : j = m := by
      rcases Nat.lt_trichotomy j m with h7 | h7 | h7
      · have := h.nx (show j + 1 ≤ m by omega) (by omega); omega
      · exact h7
      · have := h.nx (show m + 1 ≤ j by omega) (by omega); omega
    subst this; exact h6
end
end Go.Ev
