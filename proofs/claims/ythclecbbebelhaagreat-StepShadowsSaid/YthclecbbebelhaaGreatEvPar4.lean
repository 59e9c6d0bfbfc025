/-
  A part of the evaluator of the program's code, or of what it was seen to do; its statements are Lean's own. No condition.
-/
import Derived.Test.YthclecbbebelhaaGreatEvPar3
namespace Go.Ev
open Go

section
variable {P : Program} {ops : Array Oper} {ms : List Nat} {tms : Nat → Ts AV} {gs : Nat → G} {vs : Nat → AV} {T : Tp} {hi : Nat} {σ0 : Sg} {w0 : World} {a0 : Act} {S : Nat → Prop} {σ : Sg} {a : Act} {w : World}

/-- the cells that step m touches -/
def Tm (gs : Nat → G) (m : Nat) : Tp := fun i o => ∃ t ∈ (gs (m + 1)).log, t.i = i ∧ t.at o
theorem Tm.of_covA {m i : Nat} (h : covA (gs (m + 1)).log i) (o : Nat) : Tm gs m i o := let ⟨t, a, _, c, d⟩ := h; ⟨t, a, c, .inl d⟩
theorem Tm.of_covW {m i o : Nat} (h : covW (gs (m + 1)).log i o) : Tm gs m i o := let ⟨t, a, _, c, d⟩ := h; ⟨t, a, c, d⟩
theorem PT.tmT (H : PT P ops ms tms gs vs T hi σ0 w0) {m i o : Nat} (hm : m < ops.size) (h : Tm gs m i o) : T i o := by
  obtain ⟨t, ht, rfl, hat⟩ := h; exact H.inT m hm t ht o hat
theorem Inv.bits (I : Inv P ops ms tms gs T σ0 w0 a0 S σ a w) : ∀ k, S k → ∀ j, Bit ms j k → S j := fun k hk => (I.cl k hk).2
theorem Inv.validA (H : PT P ops ms tms gs vs T hi σ0 w0) (I : Inv P ops ms tms gs T σ0 w0 a0 S σ a w) {m : Nat} (hm : m < ops.size) (hS : ¬ S m) (hb : ∀ j, Bit ms j m → S j) {i : Nat} {t : Tch} (ht : t ∈ (gs (m + 1)).log) (hi : t.i = i) :
    Valid ops.size S (fun j => covA (gs (j + 1)).log i) m :=
  valid_of I.bits hS hb (fun _ hj hne hc => H.orderA hm hj hne hc ht hi) hm
theorem Inv.validC (H : PT P ops ms tms gs vs T hi σ0 w0) (I : Inv P ops ms tms gs T σ0 w0 a0 S σ a w) {m : Nat} (hm : m < ops.size) (hS : ¬ S m) (hb : ∀ j, Bit ms j m → S j) {i o : Nat} (h : Tm gs m i o) :
    Valid ops.size S (fun j => covW (gs (j + 1)).log i o) m := by
  obtain ⟨t, ht, hi, hat⟩ := h
  exact valid_of I.bits hS hb (fun _ hj hne hc => H.orderC hm hj hne hc ht hi hat) hm
/-- step m may run -/
theorem Inv.pre (H : PT P ops ms tms gs vs T hi σ0 w0) (I : Inv P ops ms tms gs T σ0 w0 a0 S σ a w) {m : Nat} (hm : m < ops.size) (hS : ¬ S m) (hb : ∀ j, Bit ms j m → S j) :
    Pre P (Tm gs m) (gs (m + 1)).next σ (noLog (gs m)) w (gs (m + 1)) where
  rel := by
    rw [noLog_eq]
    refine ⟨fun i blk hg ht => ?_, fun i blk o c b cap hg hc ht hs => ?_, fun i j bi bj b c c' h1 h2 h3 h4 h5 h6 => ?_⟩
    · obtain ⟨o, t, ht, hti, hat⟩ := ht
      exact I.sh m i blk (Nat.le_of_lt hm) (I.validA H hm hS hb ht hti) hg ⟨o, H.tmT hm ⟨t, ht, hti, hat⟩⟩
    · exact I.ct m i blk o c b cap (Nat.le_of_lt hm) (I.validC H hm hS hb ht) hg hc (H.tmT hm ht) hs
    · obtain ⟨o, t, ht, hti, hat⟩ := h3
      obtain ⟨o', t', ht', hti', hat'⟩ := h4
      exact I.inj m m i j bi bj b c c' (Nat.le_of_lt hm) (Nat.le_of_lt hm) (I.validA H hm hS hb ht hti) (I.validA H hm hS hb ht' hti') h1 h2
        ⟨o, H.tmT hm ⟨t, ht, hti, hat⟩⟩ ⟨o', H.tmT hm ⟨t', ht', hti', hat'⟩⟩ h5 h6
  fresh := fun j h1 h2 => I.no m j hm hS (by rw [noLog_eq] at h1; exact h1) h2
  hi := Nat.le_refl _
  inT := fun L e t ht o hat => by
    rw [noLog_eq, List.append_nil] at e
    exact ⟨t, by rw [e]; exact ht, rfl, hat⟩
  owes := H.owesAt (d := ops.size - (m + 1)) (by omega)
theorem Inv.opsRel (H : PT P ops ms tms gs vs T hi σ0 w0) (I : Inv P ops ms tms gs T σ0 w0 a0 S σ a w) {m : Nat} {o : Oper} (ho : ops[m]? = some o) (hS : ¬ S m) (hb : ∀ j, Bit ms j m → S j) :
    OpsRel σ (tms m) a o.op.operands.toList ∧ GRel σ ops o (tms m) a := by
  have hm : m < ops.size := (Array.getElem?_eq_some_iff.1 ho).1
  have key : ∀ t v, t ∈ o.looksAt ops → (tms m).get t = some v → ∃ V, a.tmps[t]? = some V ∧ VR σ v V := fun t v ht hv =>
    I.tmp m t v (Nat.le_of_lt hm) (valid_of I.bits hS hb (fun _ hj hne hc => H.orderT ho hj hne hc (.inl ht)) hm) hv
  refine ⟨fun x hx v hv => ?_, fun j want oj d v hg hj hd hv => ?_⟩
  · cases x with
    | tmp t =>
      obtain ⟨V, h1, h2⟩ := key t v (by
        unfold Oper.looksAt
        exact List.mem_append_left _ (List.mem_filterMap.2 ⟨.tmp t, hx, rfl⟩)) hv
      have : a.eval (.tmp t) = V := by simp [Act.eval, h1]
      rw [this]; exact h2
    | const V => exact ofV_sound σ 6 V v hv
    | func f => injection hv with hv; subst hv; exact VR.func (As := []) (Cs := []) .nil .nil
    | global n => cases hv
  · refine key d v ?_ hv
    unfold Oper.looksAt
    refine List.mem_append_right _ ?_
    simp [hg, hj, hd]
theorem Valid.A_of_C {n k i o : Nat} {S : Nat → Prop} (v : Valid n S (fun j => covW (gs (j + 1)).log i o) k) : Valid n S (fun j => covA (gs (j + 1)).log i) k :=
  ⟨fun j h1 h2 => v.1 j h1 (h2.covW o), fun j h1 h2 h3 => v.2 j h1 h2 (h3.covW o)⟩
/-- a place that step m brings about lies there or is new -/
theorem PT.exAt (H : PT P ops ms tms gs vs T hi σ0 w0) {m i : Nat} (hm : m < ops.size) {t : Tch} (ht : t ∈ (gs (m + 1)).log) (hw : t.w = true) (hti : t.i = i) (hr : ¬ ((gs m).next ≤ i ∧ i < (gs (m + 1)).next)) : ∃ b, (gs m).heap.get i = some b := by
  subst hti
  rcases (H.le m hm).ex t ht hw with ⟨b, h1⟩ | h1
  · rw [noLog_eq] at h1; exact ⟨b, h1⟩
  · rw [noLog_eq] at h1; exact absurd h1 hr

theorem Inv.next (H : PT P ops ms tms gs vs T hi σ0 w0) (I : Inv P ops ms tms gs T σ0 w0 a0 S σ a w) {m : Nat} {o : Oper} (ho : ops[m]? = some o) (hS : ¬ S m) (hb : ∀ j, Bit ms j m → S j)
    {σ' : Sg} {w' : World} {V : Value} (hp : Post P (Tm gs m) σ (noLog (gs m)) w σ' (gs (m + 1)) w' (gs (m + 1)).log) (hV : VR σ' (vs m) V) (hd : ∀ k, o.dst = some k → k < a.tmps.size) :
    Inv P ops ms tms gs T σ0 w0 a0 (fun j => S j ∨ j = m) σ' (a.put o.dst V) w' := by
  have hm : m < ops.size := (Array.getElem?_eq_some_iff.1 ho).1
  have hpre := I.pre H hm hS hb
  have hsub : Sub σ σ' := hp.ext.sub hpre.fresh hpre.hi
  have hext : ∀ j, ¬ ((gs m).next ≤ j ∧ j < (gs (m + 1)).next) → σ' j = σ j := fun j hj => hp.ext j (by rw [noLog_eq]; show j < (gs m).next ∨ _; omega)
  have hno : ∀ j, (gs m).next ≤ j → j < (gs (m + 1)).next → σ j = none := fun j => I.no m j hm hS
  -- what is known of a block that step m writes whole or in part, if it is not its own
  have hwr : ∀ i t b c, t ∈ (gs (m + 1)).log → t.w = true → t.i = i → σ i = some (b, c) → ∃ blk, (gs m).heap.get i = some blk ∧ Valid ops.size S (fun j => covA (gs (j + 1)).log i) m ∧ ∃ o, T i o := by
    intro i t b c ht hw hti hs
    have hr : ¬ ((gs m).next ≤ i ∧ i < (gs (m + 1)).next) := fun hr => by rw [hno i hr.1 hr.2] at hs; cases hs
    obtain ⟨blk, h1⟩ := H.exAt hm ht hw hti hr
    refine ⟨blk, h1, I.validA H hm hS hb ht hti, ?_⟩
    obtain ⟨o', hat⟩ : ∃ o', t.at o' := by
      by_cases h0 : t.n = 0
      · exact ⟨0, .inl h0⟩
      · exact ⟨t.o, .inr ⟨Nat.le_refl _, by omega⟩⟩
    exact ⟨o', H.tmT hm ⟨t, ht, hti, hat⟩⟩
  -- the new version of a block
  have hnewSh : ∀ k i blk, k ≤ ops.size → covA (gs (m + 1)).log i → Valid ops.size (fun j => S j ∨ j = m) (fun j => covA (gs (j + 1)).log i) k → (gs k).heap.get i = some blk → ∃ b1, (gs (m + 1)).heap.get i = some b1 ∧ b1.sh = blk.sh := by
    intro k i blk hk hc hv hg
    obtain ⟨t, ht, hw, hti, h0⟩ := hc
    obtain ⟨hmk, hbt⟩ := valid_after (ms := ms) I.bits hS (W := fun j => covA (gs (j + 1)).log i) ⟨t, ht, hw, hti, h0⟩ hm (fun _ hj hne hc => H.orderA hm hj hne hc ht hti) hv hk
    exact H.shBack hmk hk (fun j h1 h2 => hbt j (by omega) h2) hg
  -- an old block is not one of the range of m
  have hrange : ∀ k i blk, k ≤ ops.size → ¬ covA (gs (m + 1)).log i → (gs k).heap.get i = some blk → (∃ o, T i o) → ¬ ((gs m).next ≤ i ∧ i < (gs (m + 1)).next) :=
    fun k i blk hk hc hg ht hr => hc (H.made hm hk hg ht hr.1 hr.2)
  -- a block of step m's σ' over an old block
  have hshare : ∀ k i j blk b c c', k ≤ ops.size → ¬ covA (gs (m + 1)).log j → Valid ops.size S (fun m => covA (gs (m + 1)).log j) k → (gs k).heap.get j = some blk → (∃ o, T j o) → σ j = some (b, c') → σ' i = some (b, c) →
      (∃ t ∈ (gs (m + 1)).log, t.w = true ∧ t.i = i) → i = j := by
    intro k i j blk b c c' hk hc hv hg ht hs hs' ⟨t, htm, hw, hti⟩
    by_cases hr : (gs m).next ≤ i ∧ i < (gs (m + 1)).next
    · obtain ⟨b2, cap2, h1, h2⟩ := I.sh k j blk hk hv hg ht
      rw [hs] at h1; injection h1 with h1; injection h1 with h1 h3; subst h1; subst h3
      rcases hp.nw i b c (by rw [noLog_eq]; exact hr.1) hr.2 hs' with h4 | ⟨i2, c2, h4, h5⟩
      · have := h2.lt; omega
      · obtain ⟨t2, q1, q2, q3, q4⟩ := h4
        obtain ⟨blk2, h6, h7, h8⟩ := hwr i2 t2 b c2 q1 q2 q3 h5
        have := I.inj m k i2 j blk2 blk b c2 c' (Nat.le_of_lt hm) hk h7 hv h6 hg h8 ht h5 hs
        subst this
        exact absurd ⟨t2, q1, q2, q3, q4⟩ hc
    · rw [hext i hr] at hs'
      obtain ⟨blk2, h6, h7, h8⟩ := hwr i t b c htm hw hti hs'
      exact I.inj m k i j blk2 blk b c c' (Nat.le_of_lt hm) hk h7 hv h6 hg h8 ht hs' hs
  refine ⟨?_, ?_, ?_, ?_, ?_, ?_, ?_, ?_, ?_, ?_, ?_⟩
  · -- closed
    rintro k (hk | rfl)
    · exact ⟨(I.cl k hk).1, fun j hj => .inl ((I.cl k hk).2 j hj)⟩
    · exact ⟨hm, fun j hj => .inl (hb j hj)⟩
  · -- temporaries
    intro k t v hk hv hg
    by_cases hw : Wr ops m t
    · obtain ⟨hmk, hbt⟩ := valid_after (ms := ms) I.bits hS (W := fun j => Wr ops j t) hw hm (fun j hj hne hc => H.orderT ho hj hne hc (.inr (by obtain ⟨o', h1, h2⟩ := hw; rw [ho] at h1; injection h1 with h1; subst h1; exact h2))) hv hk
      have h1 := H.tmBack hmk hk (fun j h1 h2 => hbt j (by omega) h2) hg
      obtain ⟨o', h2, h3⟩ := hw
      rw [ho] at h2; injection h2 with h2; subst h2
      rw [H.put m o ho, h3] at h1
      simp only [putK, Ts.setK_eq] at h1
      rcases Ts.get_set h1 with ⟨_, rfl⟩ | ⟨h4, _⟩
      · exact ⟨V, by rw [h3]; simp [Act.put, hd t h3], hV⟩
      · exact absurd rfl h4
    · obtain ⟨U, h1, h2⟩ := I.tmp k t v hk (valid_before hw hv) hg
      refine ⟨U, ?_, h2.mono hsub⟩
      cases h3 : o.dst with
      | none => exact h1
      | some d =>
        have : d ≠ t := fun e => hw ⟨o, ho, by rw [h3, e]⟩
        simp only [Act.put]
        rw [Array.getElem?_setIfInBounds_ne this]; exact h1
  · -- shapes
    intro k i blk hk hv hg ht
    by_cases hc : covA (gs (m + 1)).log i
    · obtain ⟨b1, h1, h2⟩ := hnewSh k i blk hk hc hv hg
      obtain ⟨b, cap, h3, h4⟩ := hp.rel.sh i b1 h1 ⟨0, Tm.of_covA hc 0⟩
      rw [h2] at h4
      exact ⟨b, cap, h3, h4⟩
    · obtain ⟨b, cap, h1, h2⟩ := I.sh k i blk hk (valid_before hc hv) hg ht
      exact ⟨b, cap, hsub _ _ h1, h2.keep hp.fr⟩
  · -- contents
    intro k i blk o' c b cap hk hv hg hct ht hs
    by_cases hc : covW (gs (m + 1)).log i o'
    · obtain ⟨t, htm, hw, hti, hat⟩ := hc
      obtain ⟨hmk, hbt⟩ := valid_after (ms := ms) I.bits hS (W := fun j => covW (gs (j + 1)).log i o') ⟨t, htm, hw, hti, hat⟩ hm (fun _ hj hne hc => H.orderC hm hj hne hc htm hti hat) hv hk
      obtain ⟨b1, h1, h2⟩ := H.ctBack hmk hk (fun j h1 h2 => hbt j (by omega) h2) hg hct
      exact hp.rel.ct i b1 o' c b cap h1 h2 ⟨t, htm, hti, hat⟩ hs
    · have hv' := valid_before (W := fun j => covW (gs (j + 1)).log i o') hc hv
      have hcA : ¬ covA (gs (m + 1)).log i := fun h => hc (h.covW o')
      obtain ⟨b2, cap2, h1, h2⟩ := I.sh k i blk hk hv'.A_of_C hg ⟨o', ht⟩
      have h3 := hsub _ _ h1
      rw [hs] at h3; injection h3 with h3; injection h3 with h3 h4; subst h3; subst h4
      have h5 := I.ct k i blk o' c b cap hk hv' hg hct ht h1
      have hnc : ¬ Chg σ' (gs (m + 1)).log b o' := by
        rintro ⟨i2, c2, h6, t, q1, q2, q3, q4⟩
        have := hshare k i2 i blk b c2 cap hk hcA hv'.A_of_C hg ⟨o', ht⟩ h1 h6 ⟨t, q1, q2, q3⟩
        subst this
        exact hc ⟨t, q1, q2, q3, q4⟩
      cases c with
      | cell v =>
        obtain ⟨cs, e, fz, U, q1, q2, q3⟩ := h5
        obtain ⟨cs', r1, r2, r3⟩ := hp.fr.cells b cs e fz q1
        exact ⟨cs', e, fz, U, r1, by rw [r3 o' hnc]; exact q2, q3.mono hsub⟩
      | map es =>
        obtain ⟨Es, cl, q1, q2⟩ := h5
        have h0 : o' = 0 := by
          cases blk with
          | map x => by_cases hne : o' = 0
                     · exact hne
                     · simp [Blk.ct, hne] at hct
          | cells e l => simp only [Blk.ct] at hct; cases h : l[o']? <;> rw [h] at hct <;> cases hct
          | grown e l => simp only [Blk.ct] at hct; cases h : l[o']? <;> rw [h] at hct <;> cases hct
          | seq e k f n => simp only [Blk.ct] at hct; split at hct <;> cases hct
          | big e t d n => simp only [Blk.ct] at hct; split at hct <;> cases hct
          | chan n k => simp only [Blk.ct] at hct; split at hct <;> cases hct
          | pmap x => simp only [Blk.ct] at hct; split at hct <;> cases hct
        subst h0
        obtain ⟨Es', cl', r1, r2⟩ := hp.fr.maps b Es cl q1
        obtain ⟨r3, r4⟩ := r2 hnc
        subst r3
        exact ⟨Es', cl', r1, q2.mono hsub⟩
      | pmap es =>
        obtain ⟨Es, cl, Fs, q1, q2, q3⟩ := h5
        have h0 : o' = 0 := by
          cases blk with
          | pmap x => by_cases hne : o' = 0
                      · exact hne
                      · simp [Blk.ct, hne] at hct
          | map x => simp only [Blk.ct] at hct; split at hct <;> cases hct
          | cells e l => simp only [Blk.ct] at hct; cases h : l[o']? <;> rw [h] at hct <;> cases hct
          | grown e l => simp only [Blk.ct] at hct; cases h : l[o']? <;> rw [h] at hct <;> cases hct
          | seq e k f n => simp only [Blk.ct] at hct; split at hct <;> cases hct
          | big e t d n => simp only [Blk.ct] at hct; split at hct <;> cases hct
          | chan n k => simp only [Blk.ct] at hct; split at hct <;> cases hct
        subst h0
        obtain ⟨Es', cl', r1, r2⟩ := hp.fr.maps b Es cl q1
        obtain ⟨r3, r4⟩ := r2 hnc
        subst r3
        exact ⟨Es', cl', Fs, r1, q2, q3.mono hsub⟩
      | chan n k =>
        obtain ⟨Q, s, r, q1, q2⟩ := h5
        have h0 : o' = 0 := by
          cases blk with
          | chan a d => by_cases hne : o' = 0
                        · exact hne
                        · simp [Blk.ct, hne] at hct
          | pmap x => simp only [Blk.ct] at hct; split at hct <;> cases hct
          | map x => simp only [Blk.ct] at hct; split at hct <;> cases hct
          | cells e l => simp only [Blk.ct] at hct; cases h : l[o']? <;> rw [h] at hct <;> cases hct
          | grown e l => simp only [Blk.ct] at hct; cases h : l[o']? <;> rw [h] at hct <;> cases hct
          | seq e k f n => simp only [Blk.ct] at hct; split at hct <;> cases hct
          | big e t d n => simp only [Blk.ct] at hct; split at hct <;> cases hct
        subst h0
        obtain ⟨Q', s', r', u1, u2⟩ := hp.fr.oth b n Q s r q1
        obtain ⟨u3, u4, u5⟩ := u2 hnc
        subst u3
        exact ⟨Q', s', r', u1, q2⟩
  · -- no two over one
    intro k k' i j bi bj b c c' hk hk' hv hv' hg hg' ht ht' hs hs'
    by_cases hc : covA (gs (m + 1)).log i
    · by_cases hc' : covA (gs (m + 1)).log j
      · obtain ⟨b1, h1, _⟩ := hnewSh k i bi hk hc hv hg
        obtain ⟨b2, h2, _⟩ := hnewSh k' j bj hk' hc' hv' hg'
        exact hp.rel.inj i j b1 b2 b c c' h1 h2 ⟨0, Tm.of_covA hc 0⟩ ⟨0, Tm.of_covA hc' 0⟩ hs hs'
      · rw [hext j (hrange k' j bj hk' hc' hg' ht')] at hs'
        obtain ⟨t, q1, q2, q3, _⟩ := hc
        exact hshare k' i j bj b c c' hk' hc' (valid_before hc' hv') hg' ht' hs' hs ⟨t, q1, q2, q3⟩
    · by_cases hc' : covA (gs (m + 1)).log j
      · rw [hext i (hrange k i bi hk hc hg ht)] at hs
        obtain ⟨t, q1, q2, q3, _⟩ := hc'
        exact (hshare k j i bi b c' c hk hc (valid_before hc hv) hg ht hs hs' ⟨t, q1, q2, q3⟩).symm
      · rw [hext i (hrange k i bi hk hc hg ht)] at hs
        rw [hext j (hrange k' j bj hk' hc' hg' ht')] at hs'
        exact I.inj k k' i j bi bj b c c' hk hk' (valid_before hc hv) (valid_before hc' hv') hg hg' ht ht' hs hs'
  · -- outside
    intro i hi'
    have h1 := H.nx (Nat.zero_le m) (Nat.le_of_lt hm)
    have h2 := H.nx (show m + 1 ≤ ops.size by omega) (Nat.le_refl _)
    rw [hext i (by omega)]; exact I.out i hi'
  · -- not yet made
    intro k i hk hn h1 h2
    have hne : k ≠ m := fun e => hn (.inr e)
    rw [hext i (fun hr => by
      rcases Nat.lt_or_ge k m with h3 | h3
      · have := H.nx (show k + 1 ≤ m by omega) (by omega); omega
      · have := H.nx (show m + 1 ≤ k by omega) (by omega); omega)]
    exact I.no k i hk (fun h => hn (.inl h)) h1 h2
  · exact Fr.join hsub I.fr hp.fr fun t ht => mem_Lsum hm ht
  · -- new blocks
    intro j b c h1 h2 hs
    by_cases hr : (gs m).next ≤ j ∧ j < (gs (m + 1)).next
    · rcases hp.nw j b c (by rw [noLog_eq]; exact hr.1) hr.2 hs with h4 | ⟨i2, c2, h4, h5⟩
      · exact .inl (Nat.le_trans I.fr.size h4)
      · by_cases hr2 : i2 < (gs 0).next ∨ (gs ops.size).next ≤ i2
        · rw [I.out i2 hr2] at h5
          obtain ⟨t2, q1, q2, q3, q4⟩ := h4
          exact .inr ⟨i2, c2, ⟨t2, mem_Lsum hm q1, q2, q3, q4⟩, h5⟩
        · exact I.nw i2 b c2 (by omega) (by omega) h5
    · rw [hext j hr] at hs; exact I.nw j b c h1 h2 hs
  · rw [put_defers]; exact I.df
  · rw [put_size]; exact I.sz
end
end Go.Ev
