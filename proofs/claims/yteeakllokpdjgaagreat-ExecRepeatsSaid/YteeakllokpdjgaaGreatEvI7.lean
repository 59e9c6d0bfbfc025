/-
  A part of the evaluator of the program's code, or of what it was seen to do; its statements are Lean's own. No condition.
-/
import Derived.Test.YteeakllokpdjgaaGreatEvI6
namespace Go.Ev
open Go

/-! ### A region that ends at one row: all before it is done ahead of it, all behind waits for it -/
section
variable {P : Program}
theorem wpQ {o : Oper} {a : Act} {w : World} {K K' : Act → World → Prop} {Q Q' : Exit → Act → World → Prop} (hk : ∀ a w, K a w → K' a w) (hq : ∀ e a w, e ≠ .normal → Q e a w → Q' e a w)
    (hh : o.wp P a w K Q) : o.wp P a w K' Q' := by
  have hl : LetsOut Q → LetsOut Q' := fun ⟨a, w, h⟩ => ⟨a, w, hq _ _ _ (fun e => by cases e) h⟩
  unfold Oper.wp at *
  generalize (execOp a.eval o).run P w = r at *
  cases r with
  | ok n w' =>
    cases n <;> simp only [Oper.upon] at hh ⊢ <;>
      first
        | exact hk _ _ hh
        | exact Calls.mono hh (fun e w'' he => by cases e <;> first | exact hk _ _ he | exact hq _ _ _ (fun e => by cases e) he | exact hl he)
        | exact Rows.mono hh (fun _ _ he => hk _ _ he)
  | halt x w' => cases x <;> simp only [Oper.upon] at hh ⊢ <;> first | exact hq _ _ _ (fun e => by cases e) hh | exact hh
theorem wpOpQ {ops pre : Array Oper} {i k : Nat} (ho : pre[i]? = ops[i]?) (hpre : ∀ j, j < k → pre[j]? = ops[j]?) (hg : ∀ o, pre[i]? = some o → ∀ j want, o.guard = some (j, want) → j < k)
    {a : Act} {w : World} {K K' : Act → World → Prop} {Q Q' : Exit → Act → World → Prop} (hk : ∀ a w, K a w → K' a w) (hq : ∀ e a w, e ≠ .normal → Q e a w → Q' e a w)
    (hh : wpOp P pre Q i K a w) : wpOp P ops Q' i K' a w := by
  have hl : LetsOut Q → LetsOut Q' := fun ⟨a, w, h⟩ => ⟨a, w, hq _ _ _ (fun e => by cases e) h⟩
  unfold wpOp at *
  cases h : ops[i]? with
  | none => rw [h] at ho; rw [ho] at hh; exact hk _ _ hh
  | some o =>
    rw [h] at ho; rw [ho] at hh
    simp only at hh ⊢
    have hw : Region.wanted o (yielded pre a.tmps) = Region.wanted o (yielded ops a.tmps) := by
      unfold Region.wanted
      cases e : o.guard with
      | none => rfl
      | some jw =>
        obtain ⟨j, want⟩ := jw
        simp only
        rw [show yielded pre a.tmps j = yielded ops a.tmps j from by unfold yielded; rw [hpre j (hg o ho j want e)]]
    rw [hw] at hh
    split
    · rename_i hc
      rw [if_pos hc] at hh
      exact hh.imp (wpQ hk hq) fun ⟨x, y⟩ => ⟨x, hl y⟩
    · rename_i hc
      rw [if_neg hc] at hh
      exact hk _ _ hh
structure StopS (ops : Array Oper) (ms : List Nat) (k : Nat) : Prop where
  back : ∀ (j : Nat) o, k < j → ops[j]? = some o → ∃ e ∈ o.after, Region.binds .any e = true ∧ k ≤ e.on
  all : ∀ j, j < k → ∃ b, ms[k]? = some b ∧ b.testBit j = true
  gd : ∀ (j : Nat) o, j ≤ k → ops[j]? = some o → ∀ i want, o.guard = some (i, want) → i < k
theorem getD_tf {l : Array Bool} {j : Nat} (h : j < l.size) : l.getD j true = l.getD j false := by simp [h]
structure SInv (ops : Array Oper) (ms : List Nat) (k : Nat) (listed1 listed : Array Bool) : Prop where
  s1 : listed1.size = k
  s2 : listed.size = ops.size
  eq : ∀ j, j < k → listed1.getD j false = listed.getD j false
  hi : ∀ j, k ≤ j → listed.getD j false = false
  bits : ∀ i, listed.getD i false = true → ∀ m, ms[i]? = some m → ∀ j, m.testBit j = true → listed.getD j false = true
section
variable {ops pre : Array Oper} {ms : List Nat} {k : Nat} {listed1 listed : Array Bool}
theorem SInv.le (I : SInv ops ms k listed1 listed) (hS : StopS ops ms k) {i : Nat} (h : i ∈ Region.ready .any ops listed) : i ≤ k := by
  obtain ⟨_, o, ho, hes⟩ := mem_ready.1 h
  rcases Nat.lt_or_ge k i with hlt | hge
  · obtain ⟨e, he, hb, hke⟩ := hS.back i o hlt ho
    have := hes e he hb
    rw [I.hi _ hke] at this; cases this
  · exact hge
theorem SInv.lt1 (_I : SInv ops ms k listed1 listed) (hp : pre.size = k) {i : Nat} (h : i ∈ Region.ready .any pre listed1) : i < k := by
  obtain ⟨_, o, ho, _⟩ := mem_ready.1 h
  have := (Array.getElem?_eq_some_iff.1 ho).1
  omega
theorem SInv.iff (I : SInv ops ms k listed1 listed) (hst : Stat ops ms) (hk : k < ops.size) (hpre : ∀ j, j < k → pre[j]? = ops[j]?) {i : Nat} (hi : i < k) :
    i ∈ Region.ready .any ops listed ↔ i ∈ Region.ready .any pre listed1 := by
  have h1 : listed1.getD i true = listed.getD i true := by rw [getD_tf (by rw [I.s1]; exact hi), getD_tf (by rw [I.s2]; omega), I.eq i hi]
  have hed : ∀ o, ops[i]? = some o → ∀ e ∈ o.after, Region.binds .any e = true → listed1.getD e.on false = listed.getD e.on false := fun o ho e he hb => by
    obtain ⟨b, _, h2, _⟩ := hst.bits i o ho
    exact I.eq _ (Nat.lt_trans (h2 e he hb) hi)
  rw [mem_ready, mem_ready, h1, hpre i hi]
  constructor
  · rintro ⟨a, o, ho, hes⟩
    exact ⟨a, o, ho, fun e he hb => by rw [hed o ho e he hb]; exact hes e he hb⟩
  · rintro ⟨a, o, ho, hes⟩
    exact ⟨a, o, ho, fun e he hb => by rw [← hed o ho e he hb]; exact hes e he hb⟩
theorem SInv.kIn (I : SInv ops ms k listed1 listed) (hst : Stat ops ms) (hk : k < ops.size) (hpre : ∀ j, j < k → pre[j]? = ops[j]?) (h : Region.ready .any pre listed1 = []) : k ∈ Region.ready .any ops listed := by
  have hall : ∀ d j, j ≤ d → j < k → listed1.getD j false = true := by
    intro d
    induction d with
    | zero =>
      intro j hj hlt
      by_cases hc : listed1.getD j false = true
      · exact hc
      · exfalso
        have ho : ops[j]? = some ops[j] := by simp [show j < ops.size from by omega]
        have : j ∈ Region.ready .any pre listed1 := mem_ready.2 ⟨by rw [getD_tf (by rw [I.s1]; exact hlt)]; simpa using hc, _, (hpre j hlt).trans ho, fun e he hb => by
          obtain ⟨b, _, h2, _⟩ := hst.bits j _ ho
          have := h2 e he hb
          omega⟩
        rw [h] at this; cases this
    | succ d ih =>
      intro j hj hlt
      by_cases hc : listed1.getD j false = true
      · exact hc
      · exfalso
        have ho : ops[j]? = some ops[j] := by simp [show j < ops.size from by omega]
        have : j ∈ Region.ready .any pre listed1 := mem_ready.2 ⟨by rw [getD_tf (by rw [I.s1]; exact hlt)]; simpa using hc, _, (hpre j hlt).trans ho, fun e he hb => by
          obtain ⟨b, _, h2, _⟩ := hst.bits j _ ho
          have := h2 e he hb
          exact ih e.on (by omega) (by omega)⟩
        rw [h] at this; cases this
  have ho : ops[k]? = some ops[k] := by simp [hk]
  refine mem_ready.2 ⟨by rw [getD_tf (by rw [I.s2]; exact hk)]; exact I.hi k (Nat.le_refl _), _, ho, fun e he hb => ?_⟩
  obtain ⟨b, _, h2, _⟩ := hst.bits k _ ho
  have := h2 e he hb
  rw [← I.eq _ this]
  exact hall e.on _ (Nat.le_refl _) this
theorem SInv.kOut (I : SInv ops ms k listed1 listed) (hst : Stat ops ms) (hS : StopS ops ms k) (hp : pre.size = k) (h : k ∈ Region.ready .any ops listed) : Region.ready .any pre listed1 = [] := by
  cases hr : Region.ready .any pre listed1 with
  | nil => rfl
  | cons i r =>
    exfalso
    have hi : i ∈ Region.ready .any pre listed1 := by rw [hr]; exact List.mem_cons_self
    have hlt := I.lt1 hp hi
    obtain ⟨h0, _⟩ := mem_ready.1 hi
    rw [getD_tf (by rw [I.s1]; exact hlt), I.eq i hlt] at h0
    obtain ⟨_, o, ho, hes⟩ := mem_ready.1 h
    obtain ⟨b, hb, hbi⟩ := hS.all i hlt
    obtain ⟨b', hb', _, h3⟩ := hst.bits k o ho
    rw [hb] at hb'; injection hb' with hb'; subst hb'
    obtain ⟨e, he, hbd, h4⟩ := h3 i hbi
    have h5 := hes e he hbd
    rcases h4 with rfl | ⟨m, hm, hmi⟩
    · rw [h5] at h0; cases h0
    · rw [I.bits e.on h5 m hm i hmi] at h0; cases h0
theorem SInv.next (I : SInv ops ms k listed1 listed) (hst : Stat ops ms) (hk : k < ops.size) {i : Nat} (hi : i < k) (h : i ∈ Region.ready .any ops listed) : SInv ops ms k (listed1.setIfInBounds i true) (listed.setIfInBounds i true) := by
  have h1 : i < listed1.size := by rw [I.s1]; exact hi
  have h2 : i < listed.size := by rw [I.s2]; omega
  refine ⟨by simpa using I.s1, by simpa using I.s2, fun j hj => ?_, fun j hj => ?_, fun j hj m hm x hx => ?_⟩
  · rw [getD_set _ _ _ _ h1, getD_set _ _ _ _ h2, I.eq j hj]
  · rw [getD_set _ _ _ _ h2, if_neg (by omega)]; exact I.hi j hj
  · rw [getD_set _ _ _ _ h2] at hj ⊢
    split
    · rfl
    · by_cases hji : j = i
      · subst hji
        obtain ⟨_, o, ho, hes⟩ := mem_ready.1 h
        obtain ⟨b, hb, _, h3⟩ := hst.bits j o ho
        rw [hm] at hb; injection hb with hb; subst hb
        obtain ⟨e, he, hbd, h4⟩ := h3 x hx
        have h5 := hes e he hbd
        rcases h4 with rfl | ⟨m', hm', hmx⟩
        · exact h5
        · exact I.bits e.on h5 m' hm' x hmx
      · rw [if_neg hji] at hj
        exact I.bits j hj m hm x hx
theorem stop_any (hst : Stat ops ms) (hS : StopS ops ms k) (hk : k < ops.size) (hp : pre.size = k) (hpre : ∀ j, j < k → pre[j]? = ops[j]?)
    {Q1 Q : Exit → Act → World → Prop} (hq : ∀ e a w, e ≠ .normal → Q1 e a w → Q e a w) (hn : ∀ a w, Q1 .normal a w → wpOp P ops Q k (fun _ _ => False) a w) :
    ∀ (f1 : Nat) (listed1 listed : Array Bool) (a : Act) (w : World) (fuel : Nat), SInv ops ms k listed1 listed → f1 < fuel → wpAny P .any pre Q1 f1 listed1 a w → wpAny P .any ops Q fuel listed a w := by
  intro f1
  induction f1 with
  | zero =>
    rintro listed1 listed a w (_ | fuel) I hf h
    · omega
    obtain ⟨h1, h2⟩ := h
    have hkin := I.kIn hst hk hpre h1
    refine ⟨fun hr => (by rw [hr] at hkin; cases hkin), fun i hi => ?_⟩
    have hle := I.le hS hi
    rcases Nat.lt_or_ge i k with hlt | hge
    · have := (I.iff hst hk hpre hlt).1 hi
      rw [h1] at this; cases this
    · obtain rfl : i = k := by omega
      exact wpOp_mono (fun _ _ h => h.elim) (hn a w h2)
  | succ f1 ih =>
    rintro listed1 listed a w (_ | fuel) I hf h
    · omega
    obtain ⟨h1, h2⟩ := h
    refine ⟨fun hr => ?_, fun i hi => ?_⟩
    · by_cases hnil : Region.ready .any pre listed1 = []
      · have hkin := I.kIn hst hk hpre hnil
        rw [hr] at hkin; cases hkin
      · cases hc : Region.ready .any pre listed1 with
        | nil => exact absurd hc hnil
        | cons i r =>
          have hi : i ∈ Region.ready .any pre listed1 := by rw [hc]; exact List.mem_cons_self
          have := (I.iff hst hk hpre (I.lt1 hp hi)).2 hi
          rw [hr] at this; cases this
    · have hle := I.le hS hi
      rcases Nat.lt_or_ge i k with hlt | hge
      · have hi1 := (I.iff hst hk hpre hlt).1 hi
        refine wpOpQ (hpre i hlt) hpre (fun o ho j want hgd => hS.gd i o hle (by rw [← hpre i hlt]; exact ho) j want hgd) (fun a w h => ?_) hq (h2 i hi1)
        exact ih _ _ a w fuel (I.next hst hk hlt hi) (by omega) h
      · obtain rfl : i = k := by omega
        have hnil := I.kOut hst hS hp hi
        exact wpOp_mono (fun _ _ h => h.elim) (hn a w (h1 hnil))
end
theorem opsIn_sub {N : Nat} {l : List Oper} (h : opsIn N l = true) : ∀ {l' : List Oper}, (∀ o ∈ l', o ∈ l) → opsIn N l' = true
  | [], _ => rfl
  | o :: os, hs => by
    simp only [opsIn, Bool.and_eq_true]
    refine ⟨?_, opsIn_sub h fun o' ho => hs o' (List.mem_cons_of_mem _ ho)⟩
    cases e : o.dst with
    | none => rfl
    | some d => exact Nat.ble_eq_true_of_le (opsIn_mem h o (hs o List.mem_cons_self) d e)
section
variable {rec : Rec} {T : Tp} {hi : Nat} {σ : Sg} {ops : Array Oper} {ms : List Nat} {w : World} {a : Act}
/-- the run that ends at row k -/
theorem stop_sound (hP : PF P) (hrec : RecS P rec) (hst : Stat ops ms) {k : Nat} (hS : StopS ops ms k) {ok : Oper} (hok : ops[k]? = some ok) {pre pre2 : Array Oper} (hp : pre.size = k) (hpre : ∀ j, j < k → pre[j]? = ops[j]?)
    (hp2 : pre2.size = k + 1) (hpre2 : ∀ j, j < k + 1 → pre2[j]? = ops[j]?) {ms1 : List Nat} (hst1 : Stat pre ms1) {N : Nat} {tm tm1 tm2 : Ts AV} {g g1 g2 : G} {fs : List Foot} {ds ds2 : List (FuncId × List AV)} {v : AV}
    (h1 : evPar rec P pre.toList ms1 pre.toList 0 [] tm g = .ok (tm1, fs) g1) (h2 : evSeq rec P pre2.toList [ok] tm1 ds (joinG g fs g1) = .fin (.pan v) tm2 ds2 g2)
    (p : Pre P T hi σ g w g2) (ht : TR σ tm a.tmps) (hd : DRs σ ds a.defers) (hin : opsIn N ops.toList = true) (hN : N ≤ a.tmps.size) :
    wpAny P .any ops (CPost P T σ g w N (.pan v) tm2 ds2 g2) ops.size (Array.replicate ops.size false) a (drewn w) := by
  have hk : k < ops.size := (Array.getElem?_eq_some_iff.1 hok).1
  have hle := evSeq_le (P := P) hrec.le (ops := pre2.toList) [ok] tm1 ds (joinG g fs g1)
  rw [h2] at hle
  obtain ⟨M, hM⟩ := hle
  have hin1 : opsIn N pre.toList = true := opsIn_sub hin fun o ho => by
    rw [Array.mem_toList_iff] at ho
    obtain ⟨j, hj⟩ := Array.getElem?_of_mem ho
    have hlt := (Array.getElem?_eq_some_iff.1 hj).1
    rw [hpre j (by omega)] at hj
    rw [Array.mem_toList_iff]; exact Array.mem_of_getElem? hj
  have hin2 : opsIn N [ok] = true := opsIn_sub hin fun o ho => by
    rw [List.mem_singleton] at ho; subst ho
    rw [Array.mem_toList_iff]; exact Array.mem_of_getElem? hok
  have hpar := par_any (a := a) hP hrec hst1 h1 (p.first hM) ht hd hin1 hN
  rw [hp] at hpar
  refine stop_any hst hS hk hp hpre (Q1 := CPost P T σ g w N .norm tm1 ds (joinG g fs g1)) (fun e a w hne q => ?_) (fun a1 w1 q => ?_) k _ _ a (drewn w) ops.size ?_ hk hpar
  · obtain ⟨_, _, _, q2, _⟩ := q
    exact absurd q2 hne
  · obtain ⟨σ1, L, q1, _, q3, q4, q5⟩ := q
    have hal : ∀ j : Nat, [ok][j]? = pre2[k + j]? := fun j => by
      cases j with
      | zero => rw [Nat.add_zero, hpre2 k (by omega), hok]; rfl
      | succ j => simp only [List.getElem?_cons_succ, List.getElem?_nil]; rw [Array.getElem?_eq_none (by omega)]
    have hs := evSeq_sound hP hrec p.fresh [ok] k hal tm1 ds (joinG g fs g1) (.pan v) tm2 ds2 g2 h2 σ1 w1 a1 L q1 (p.then q1) q3 q4 hin2 q5
    have hs : wpOps P pre2 (CPost P T σ g w N (.pan v) tm2 ds2 g2) [k] a1 w1 := hs
    rw [wpOps_cons] at hs
    refine wpOpQ (hpre2 k (by omega)) hpre2 (fun o ho j want hgd => ?_) (fun a w h => ?_) (fun _ _ _ _ h => h) hs
    · have := hS.gd k o (Nat.le_refl _) (by rw [← hpre2 k (by omega)]; exact ho) j want hgd
      omega
    · obtain ⟨_, _, _, ⟨_, h, _⟩, _⟩ := h
      cases h
  · have h0 : ∀ n j : Nat, (Array.replicate n false).getD j false = false := fun n j => by
      by_cases hj : j < n <;> simp [hj]
    exact ⟨by simp, by simp, fun j _ => by rw [h0, h0], fun j _ => h0 _ _, fun i hi => by rw [h0] at hi; cases hi⟩
end
/-! ### The question, and the run -/
noncomputable section
def backOk (k : Nat) : List Oper → Bool
  | [] => true
  | o :: os => (o.after.toList.any fun e => Region.binds .any e && Nat.ble k e.on) && backOk k os
def gdsOk (k : Nat) : List Oper → Bool
  | [] => true
  | o :: os => (match o.guard with
    | some (i, _) => Nat.blt i k
    | none => true) && gdsOk k os
def bitsAll (b : Nat) : Nat → Bool
  | 0 => true
  | j + 1 => b.testBit j && bitsAll b j
def isCall (o : Oper) : Bool := match o.op with
  | .call _ => true
  | _ => false
def stopOk (ops : List Oper) (ms : List Nat) (k : Nat) (o : Oper) : Bool := isCall o && (backOk k (ops.drop (k + 1)) && (gdsOk k (ops.take (k + 1)) && match ms[k]? with
  | some b => bitsAll b k
  | none => false))
theorem and_eq_true' {a b : Bool} (h : (a && b) = true) : a = true ∧ b = true := by cases a <;> cases b <;> first | exact ⟨rfl, rfl⟩ | cases h
theorem backOk_spec {k : Nat} : ∀ (l : List Oper), backOk k l = true → ∀ o ∈ l, ∃ e ∈ o.after, Region.binds .any e = true ∧ k ≤ e.on
  | [], _, o', ho => nomatch ho
  | o :: os, h, o', ho => by
    unfold backOk at h
    obtain ⟨h1, h2⟩ := and_eq_true' h
    rcases List.mem_cons.1 ho with rfl | ho
    · obtain ⟨e, he, hb⟩ := List.any_eq_true.1 h1
      obtain ⟨hb1, hb2⟩ := and_eq_true' hb
      exact ⟨e, by simpa using he, hb1, of_ble hb2⟩
    · exact backOk_spec os h2 o' ho
theorem gdsOk_spec {k : Nat} : ∀ (l : List Oper), gdsOk k l = true → ∀ o ∈ l, ∀ i want, o.guard = some (i, want) → i < k
  | [], _, o', ho => nomatch ho
  | o :: os, h, o', ho => by
    unfold gdsOk at h
    obtain ⟨h1, h2⟩ := and_eq_true' h
    rcases List.mem_cons.1 ho with rfl | ho
    · intro i want hg
      rw [hg] at h1; simpa [Nat.blt_eq] using h1
    · exact gdsOk_spec os h2 o' ho
theorem bitsAll_spec {b : Nat} : ∀ {k : Nat}, bitsAll b k = true → ∀ j, j < k → b.testBit j = true
  | k + 1, h, j, hj => by
    simp only [bitsAll, Bool.and_eq_true] at h
    rcases Nat.lt_or_ge j k with h1 | h1
    · exact bitsAll_spec h.2 j h1
    · rw [show j = k from by omega]; exact h.1
theorem stopOk_spec {ops : Array Oper} {ms : List Nat} {k : Nat} {o : Oper} (h : stopOk ops.toList ms k o = true) : StopS ops ms k := by
  simp only [stopOk, Bool.and_eq_true] at h
  obtain ⟨_, h1, h2, h3⟩ := h
  refine ⟨fun j o hj ho => ?_, fun j hj => ?_, fun j o hj ho i want hg => ?_⟩
  · refine backOk_spec _ h1 o (List.mem_of_getElem? (i := j - (k + 1)) ?_)
    rw [List.getElem?_drop, show k + 1 + (j - (k + 1)) = j from by omega]; simpa using ho
  · split at h3
    · rename_i b hb; exact ⟨b, hb, bitsAll_spec h3 j hj⟩
    · cases h3
  · refine gdsOk_spec _ h2 o (List.mem_of_getElem? (i := j) ?_) i want hg
    rw [List.getElem?_take, if_pos (by omega)]; simpa using ho
/-- the rows at which the region may end -/
def stopsOf (ops : List Oper) (ms : List Nat) : List Oper → Nat → List (Nat × Oper)
  | [], _ => []
  | o :: os, k => match stopOk ops ms k o with
    | true => (k, o) :: stopsOf ops ms os (k + 1)
    | false => stopsOf ops ms os (k + 1)
theorem stopsOf_spec {ops : Array Oper} {ms : List Nat} : ∀ {l : List Oper} {i : Nat}, (∀ j : Nat, l[j]? = ops[i + j]?) → ∀ q ∈ stopsOf ops.toList ms l i, ops[q.1]? = some q.2 ∧ StopS ops ms q.1
  | [], _, _, q, hq => by cases hq
  | o :: os, i, hal, q, hq => by
    have ho : ops[i]? = some o := by have := hal 0; simpa using this.symm
    have hal' : ∀ j : Nat, os[j]? = ops[i + 1 + j]? := fun j => by have := hal (j + 1); rw [show i + 1 + j = i + (j + 1) from by omega]; simpa using this
    unfold stopsOf at hq
    split at hq
    · rename_i hs
      rcases List.mem_cons.1 hq with rfl | hq
      · exact ⟨ho, stopOk_spec hs⟩
      · exact stopsOf_spec hal' q hq
    · exact stopsOf_spec hal' q hq
end
end
end Go.Ev

namespace Go.Ev
open Go
noncomputable section
def parRegM (P : Program) (ops : List Oper) (ms : List Nat) : Bx Sc := Bx.rec (motive := fun _ => Bx Sc)
  (fun f => .mk fun rec tm ds g => Out.rec (motive := fun _ => Res) (fun q g' => Prod.rec (motive := fun _ => Res) (fun tm fs =>
      G.rec (motive := fun _ => Res) (fun h nx _ oc ob => .fin .norm tm ds ⟨h, nx, joinLogs fs g.log, oc, ob⟩) g') q) (fun w => .no w) (f rec [] tm g)) (parC P ops ms ops 0)
def parRegC (P : Program) (ops : Array Oper) : Bx Sc := Option.rec (motive := fun _ => Bx Sc) (.mk fun _ _ _ _ => .no 180) (fun ms => parRegM P ops.toList ms) (static ops)
theorem parRegC_spec (P : Program) (ops : Array Oper) (rec : Rec) (tm : Ts AV) (ds : List (FuncId × List AV)) (g : G) : runSc (parRegC P ops) rec tm ds g = evRegP rec P ops.toList tm ds g (static ops) := by
  unfold parRegC
  cases hs : static ops with
  | none => rfl
  | some ms =>
    have hl : ∀ j, 0 ≤ j → j < 0 + ops.toList.length → ∃ m, ms[j]? = some m := by
      intro j _ hj
      have hj : j < ops.size := by simpa using hj
      obtain ⟨m, h, _⟩ := (static_spec hs).bits j ops[j] (by simp [hj])
      exact ⟨m, h⟩
    have := parC_spec P ops.toList ms rec ops.toList 0 hl
    have h2 := congrFun (congrFun (congrFun this []) tm) g
    simp only [evRegP]
    rw [← h2]
    show runSc (parRegM P ops.toList ms) rec tm ds g = _
    unfold parRegM
    cases parC P ops.toList ms ops.toList 0 with
    | mk f =>
      show Out.rec (motive := fun _ => Res) _ _ (f rec [] tm g) = match f rec [] tm g with
        | .ok (tm, fs) g' => .fin .norm tm ds (joinG g fs g')
        | .no w => .no w
      cases f rec [] tm g with
      | no w => rfl
      | ok q g' => obtain ⟨tm', fs⟩ := q; cases g'; rfl
/-- a region in any order; a map's literal is laid at once -/
def litSc (D : LitD) : Bx Sc := .mk fun _ tm ds g => litRun D tm ds g
def parRegL (P : Program) (ops : Array Oper) : Bx Sc := Option.rec (motive := fun _ => Bx Sc) (parRegC P ops)
  (fun D => Option.rec (motive := fun _ => Bx Sc) (.mk fun _ _ _ _ => .no 180) (fun _ => litSc D) (static ops)) (litOf P ops.toList)
theorem parRegL_spec (P : Program) (ops : Array Oper) (rec : Rec) : (∀ tm ds g, runSc (parRegL P ops) rec tm ds g = evRegP rec P ops.toList tm ds g (static ops)) ∨
    ∃ D ms, litOf P ops.toList = some D ∧ static ops = some ms ∧ ∀ tm ds g, runSc (parRegL P ops) rec tm ds g = litRun D tm ds g := by
  unfold parRegL
  cases hl : litOf P ops.toList with
  | none => exact .inl fun tm ds g => parRegC_spec P ops rec tm ds g
  | some D =>
    cases hs : static ops with
    | none => exact .inl fun tm ds g => rfl
    | some ms => exact .inr ⟨D, ms, rfl, rfl, fun tm ds g => rfl⟩
def thenF (next : Next) (r : Res) : Res := Res.rec (motive := fun _ => Res) (fun w => .no w)
  (fun x tm ds g => X.rec (motive := fun _ => Res) (next tm ds g) (fun id => .fin (.exit id) tm ds g) (.fin .ret tm ds g) (fun v => .fin (.pan v) tm ds g) x) (fun v g => .val v g) (fun v g => .pan v g) r
theorem thenF_eq (next : Next) (r : Res) : thenF next r = thenDo next r := by
  cases r with
  | fin x => cases x <;> rfl
  | _ => rfl
/-! a region that ends at one row -/
def onPan (k r : Res) : Res := Res.rec (motive := fun _ => Res) (fun _ => k) (fun x tm ds g => X.rec (motive := fun _ => Res) k (fun _ => k) k (fun v => .fin (.pan v) tm ds g) x) (fun _ _ => k) (fun _ _ => k) r
def on154 (k r : Res) : Res := Res.rec (motive := fun _ => Res) (fun w => Bool.rec (motive := fun _ => Res) (.no w) k (Nat.beq w (nat_lit 154))) (fun x tm ds g => .fin x tm ds g) (fun v g => .val v g) (fun v g => .pan v g) r
theorem onPan_cases (k r : Res) : onPan k r = k ∨ ∃ v tm ds g, r = .fin (.pan v) tm ds g ∧ onPan k r = r := by
  cases r with
  | fin x tm ds g => cases x <;> first | exact .inl rfl | exact .inr ⟨_, _, _, _, rfl, rfl⟩
  | _ => exact .inl rfl
theorem on154_cases (k r : Res) : on154 k r = r ∨ (r = .no 154 ∧ on154 k r = k) := by
  cases r with
  | no w =>
    show Bool.rec (motive := fun _ => Res) (.no w) k (Nat.beq w (nat_lit 154)) = .no w ∨ _
    cases e : Nat.beq w (nat_lit 154) with
    | false => exact .inl rfl
    | true => exact .inr ⟨by rw [of_beq e], by show Bool.rec (motive := fun _ => Res) (.no w) k (Nat.beq w (nat_lit 154)) = k; rw [e]⟩
  | _ => exact .inl rfl
def stop1 (P : Program) (ops : List Oper) (q : Nat × Oper) : Bx Sc := Prod.rec (motive := fun _ => Bx Sc) (fun k o =>
  Bx.rec (motive := fun _ => Bx Sc) (fun f => Bx.rec (motive := fun _ => Bx Sc) (fun h => .mk fun rec tm ds g => thenF (fun tm ds g => h rec tm ds g) (f rec tm ds g)) (seqC P (ops.take (Nat.succ k)) [o])) (parRegC P (ops.take k).toArray)) q
def StopRun (P : Program) (ops : List Oper) (rec : Rec) (q : Nat × Oper) (tm : Ts AV) (ds : List (FuncId × List AV)) (g : G) : Res :=
  thenDo (fun tm ds g => evSeq rec P (ops.take (q.1 + 1)) [q.2] tm ds g) (evRegP rec P (ops.take q.1).toArray.toList tm ds g (static (ops.take q.1).toArray))
theorem stop1_spec (P : Program) (ops : List Oper) (q : Nat × Oper) (rec : Rec) (tm : Ts AV) (ds : List (FuncId × List AV)) (g : G) : runSc (stop1 P ops q) rec tm ds g = StopRun P ops rec q tm ds g := by
  obtain ⟨k, o⟩ := q
  have h1 := parRegC_spec P (ops.take k).toArray rec tm ds g
  have h2 := seqC_spec P (ops.take (k + 1)) rec [o]
  unfold StopRun
  rw [← thenF_eq, ← h1]
  have h3 : (fun tm ds g => evSeq rec P (ops.take (k + 1)) [o] tm ds g) = runSc (seqC P (ops.take (k + 1)) [o]) rec := h2.symm
  rw [h3]
  show runSc (Bx.rec (motive := fun _ => Bx Sc) (fun f => Bx.rec (motive := fun _ => Bx Sc) (fun h => .mk fun rec tm ds g => thenF (fun tm ds g => h rec tm ds g) (f rec tm ds g)) (seqC P (ops.take (Nat.succ k)) [o])) (parRegC P (ops.take k).toArray)) rec tm ds g = _
  cases parRegC P (ops.take k).toArray with
  | mk f =>
    show runSc (Bx.rec (motive := fun _ => Bx Sc) (fun h => .mk fun rec tm ds g => thenF (fun tm ds g => h rec tm ds g) (f rec tm ds g)) (seqC P (ops.take (k + 1)) [o])) rec tm ds g = _
    cases seqC P (ops.take (k + 1)) [o] with
    | mk h => rfl
def stopAll (P : Program) (ops : List Oper) (l : List (Nat × Oper)) : Bx Sc :=
  List.rec (motive := fun _ => Bx Sc) (.mk fun _ _ _ _ => .no 154) (fun q _ ih => .mk fun rec tm ds g => onPan (runSc ih rec tm ds g) (runSc (stop1 P ops q) rec tm ds g)) l
theorem stopAll_spec (P : Program) (ops : List Oper) (rec : Rec) (tm : Ts AV) (ds : List (FuncId × List AV)) (g : G) : ∀ l, runSc (stopAll P ops l) rec tm ds g = .no 154 ∨
    ∃ q ∈ l, ∃ v tm2 ds2 g2, StopRun P ops rec q tm ds g = .fin (.pan v) tm2 ds2 g2 ∧ runSc (stopAll P ops l) rec tm ds g = .fin (.pan v) tm2 ds2 g2
  | [] => .inl rfl
  | q :: l => by
    have e : runSc (stopAll P ops (q :: l)) rec tm ds g = onPan (runSc (stopAll P ops l) rec tm ds g) (runSc (stop1 P ops q) rec tm ds g) := rfl
    rw [e]
    rcases onPan_cases (runSc (stopAll P ops l) rec tm ds g) (runSc (stop1 P ops q) rec tm ds g) with h | ⟨v, tm2, ds2, g2, h1, h2⟩
    · rw [h]
      rcases stopAll_spec P ops rec tm ds g l with h | ⟨q', hq', h⟩
      · exact .inl h
      · exact .inr ⟨q', List.mem_cons_of_mem _ hq', h⟩
    · rw [h2, h1]
      rw [stop1_spec] at h1
      exact .inr ⟨q, List.mem_cons_self, v, tm2, ds2, g2, h1, rfl⟩
def parRegT (P : Program) (ops : Array Oper) (l : List (Nat × Oper)) : Bx Sc := List.rec (motive := fun _ => Bx Sc) (parRegL P ops)
  (fun q l _ => Bx.rec (motive := fun _ => Bx Sc) (fun f => .mk fun rec tm ds g => on154 (runSc (stopAll P ops.toList (q :: l)) rec tm ds g) (f rec tm ds g)) (parRegL P ops)) l
def parRegS (P : Program) (ops : Array Oper) : Bx Sc := Option.rec (motive := fun _ => Bx Sc) (parRegL P ops) (fun ms => parRegT P ops (stopsOf ops.toList ms ops.toList 0)) (static ops)
theorem parRegS_spec (P : Program) (ops : Array Oper) (rec : Rec) (tm : Ts AV) (ds : List (FuncId × List AV)) (g : G) : runSc (parRegS P ops) rec tm ds g = runSc (parRegL P ops) rec tm ds g ∨
    ∃ ms, static ops = some ms ∧ ∃ q : Nat × Oper, ops[q.1]? = some q.2 ∧ StopS ops ms q.1 ∧ ∃ v tm2 ds2 g2, StopRun P ops.toList rec q tm ds g = .fin (.pan v) tm2 ds2 g2 ∧ runSc (parRegS P ops) rec tm ds g = .fin (.pan v) tm2 ds2 g2 := by
  unfold parRegS
  cases hs : static ops with
  | none => exact .inl rfl
  | some ms =>
    show runSc (parRegT P ops (stopsOf ops.toList ms ops.toList 0)) rec tm ds g = _ ∨ ∃ ms', _ ∧ ∃ q : Nat × Oper, _ ∧ _ ∧ ∃ v tm2 ds2 g2, _ ∧ runSc (parRegT P ops (stopsOf ops.toList ms ops.toList 0)) rec tm ds g = _
    have hsp := stopsOf_spec (ops := ops) (ms := ms) (l := ops.toList) (i := 0) (fun j => by simp)
    cases hl : stopsOf ops.toList ms ops.toList 0 with
    | nil => exact .inl rfl
    | cons q l =>
      have e : runSc (parRegT P ops (q :: l)) rec tm ds g = on154 (runSc (stopAll P ops.toList (q :: l)) rec tm ds g) (runSc (parRegL P ops) rec tm ds g) := by
        show runSc (Bx.rec (motive := fun _ => Bx Sc) (fun f => .mk fun rec tm ds g => on154 (runSc (stopAll P ops.toList (q :: l)) rec tm ds g) (f rec tm ds g)) (parRegL P ops)) rec tm ds g = _
        cases parRegL P ops with
        | mk f => rfl
      rw [e]
      rcases on154_cases (runSc (stopAll P ops.toList (q :: l)) rec tm ds g) (runSc (parRegL P ops) rec tm ds g) with h | ⟨h1, h2⟩
      · exact .inl h
      · rw [h2]
        rcases stopAll_spec P ops.toList rec tm ds g (q :: l) with h | ⟨q', hq', v, tm2, ds2, g2, h3, h4⟩
        · rw [h, h1]; exact .inl rfl
        · obtain ⟨h5, h6⟩ := hsp q' (by rw [hl]; exact hq')
          exact .inr ⟨ms, rfl, q', h5, h6, v, tm2, ds2, g2, h3, h4⟩
inductive B3 where
  | t
  | f
  | s (b : Bool)
  | x
def asB (v : AV) : B3 := match v with
  | .bool b => Bool.rec (motive := fun _ => B3) .f .t b
  | .sbool b => .s b
  | _ => .x
def condF (t e : G → Res) (g : G) (o : Option AV) : Res := Option.rec (motive := fun _ => Res) (.no 181)
  (fun v => B3.rec (motive := fun _ => Res) (t g) (e g) (fun s => evCondS t e (ask s g)) (.no 181) (asB v)) o
theorem condF_eq (t e : G → Res) (g : G) (o : Option AV) : condF t e g o = evCond t e g o := by
  cases o with
  | none => rfl
  | some v =>
    cases v <;> first | rfl | skip
    rename_i b; cases b <;> rfl
def condJ (a b : Code) (t e : G → Res) (tm : Ts AV) (ds : List (FuncId × List AV)) (g : G) (o : Option AV) : Res := Option.rec (motive := fun _ => Res) (.no 181)
  (fun v => B3.rec (motive := fun _ => Res) (t g) (e g) (fun s => Option.rec (motive := fun _ => Res) (evCondS t e (ask s g)) (fun tm3 => .fin .norm tm3 ds g) (joinC s a b tm)) (.no 181) (asB v)) o
theorem condJ_eq (a b : Code) (t e : G → Res) (tm : Ts AV) (ds : List (FuncId × List AV)) (g : G) (o : Option AV) :
    condJ a b t e tm ds g o = evCond t e g o ∨ ∃ s tm3, o = some (.sbool s) ∧ joinC s a b tm = some tm3 ∧ condJ a b t e tm ds g o = .fin .norm tm3 ds g := by
  cases o with
  | none => exact .inl rfl
  | some v =>
    cases v <;> first | exact .inl rfl | skip
    · rename_i b; cases b <;> exact .inl rfl
    · rename_i s
      cases h : joinC s a b tm with
      | none => left; simp only [condJ, asB, h]; rfl
      | some tm3 => right; exact ⟨s, tm3, rfl, h, by simp only [condJ, asB, h]⟩
def codeC (P : Program) (c : Code) : Bx Sc := Code.rec (motive := fun _ => Bx Sc)
  (.mk fun _ tm ds g => .fin .norm tm ds g)
  (fun _ ops draw => Bool.rec (motive := fun _ => Bx Sc) (seqC P ops.toList ops.toList) (parRegS P ops) draw)
  (fun _ _ a b => .mk fun rec tm ds g => thenF (fun tm ds g => Bx.rec (motive := fun _ => Res) (fun h => h rec tm ds g) b) (Bx.rec (motive := fun _ => Res) (fun h => h rec tm ds g) a))
  (fun c ca cb a b => Bx.rec (motive := fun _ => Bx Sc) (fun gc => Bool.rec (motive := fun _ => Bx Sc)
    (.mk fun rec tm ds g => condF (fun g => Bx.rec (motive := fun _ => Res) (fun h => h rec tm ds g) a) (fun g => Bx.rec (motive := fun _ => Res) (fun h => h rec tm ds g) b) g (gc tm))
    (.mk fun rec tm ds g => condJ ca cb (fun g => Bx.rec (motive := fun _ => Res) (fun h => h rec tm ds g) a) (fun g => Bx.rec (motive := fun _ => Res) (fun h => h rec tm ds g) b) tm ds g (gc tm)) (flatC ca && flatC cb)) (getC c))
  (fun id _ a => .mk fun rec tm ds g => inBlockA id (Bx.rec (motive := fun _ => Res) (fun h => h rec tm ds g) a))
  (fun c a => .mk fun rec tm ds g => thenF (fun tm ds g => rec (.code (.loop c) tm ds) g) (Bx.rec (motive := fun _ => Res) (fun h => h rec tm ds g) a))
  (fun _ _ _ _ _ _ => .mk fun _ _ _ _ => .no 182)
  (fun id => .mk fun _ tm ds g => .fin (.exit id) tm ds g)
  (fun _ a => a)
  (fun _ => .mk fun _ tm ds g => .fin .norm tm ds g)
  (fun _ => .mk fun _ _ _ _ => .no 182)
  (.mk fun _ tm ds g => .fin .ret tm ds g)
  (fun _ => .mk fun _ _ _ _ => .no 182) c
def runC (P : Program) (c : Code) (rec : Rec) : Next := runSc (codeC P c) rec
end
noncomputable section
theorem pureOp_ev {P : Program} {tm : Ts AV} {op : Op} {v : AV} (h : pureOp tm op = some v) (g : G) : evOp P tm op g = .ok (.val v) g := by
  unfold pureOp at h
  split at h
  · simp only [evOp, ev1, h]; rfl
  · simp only [evOp, ev1, h]; rfl
  · split at h
    · rename_i a ha
      split at h
      · rename_i b hb
        split at h
        · rename_i u hu
          split at h
          · cases h
          · rename_i hc
            injection h with h; subst h
            simp only [evOp, ev2, ha, hb, vl, M.bind, binA, hu, conc, hc]; rfl
        · cases h
      · cases h
    · cases h
  · split at h
    · rename_i a ha
      simp only [evOp, ev1, ha, h]; rfl
    · cases h
  · cases h
theorem pureOps_ev {P : Program} {rec : Rec} {ops : List Oper} : ∀ (l : List Oper) (tm tm' : Ts AV), pureOps l tm = some tm' → ∀ ds g, evSeq rec P ops l tm ds g = .fin .norm tm' ds g
  | [], tm, tm', h, ds, g => by simp only [pureOps] at h; injection h with h; subst h; rfl
  | o :: os, tm, tm', h, ds, g => by
    unfold pureOps at h
    split at h
    · rename_i hg
      split at h
      · rename_i v hv
        rw [putK_eq] at h
        have ih := pureOps_ev os _ tm' h ds g (P := P) (rec := rec) (ops := ops)
        rw [evSeq_cons]
        have hw : wantedA ops o tm g = .ok true g := by unfold wantedA; rw [hg]; rfl
        rw [hw]
        simp only [evSeqW]
        have hr : runOp rec P o tm g = .ok (.val v) g := by unfold runOp; rw [pureOp_ev hv]
        rw [hr]
        simp only [evSeqR, evSeqV]
        rw [putK_eq]; exact ih
      · cases h
    · cases h
theorem pureC_run {P : Program} {rec : Rec} : ∀ (c : Code) (tm tm' : Ts AV), pureC c tm = some tm' → ∀ ds g, runC P c rec tm ds g = .fin .norm tm' ds g
  | .skip, tm, tm', h, ds, g => by simp only [pureC] at h; injection h with h; subst h; rfl
  | .region id ops draw, tm, tm', h, ds, g => by
    simp only [pureC] at h
    cases draw with
    | true => cases h
    | false =>
      have := congrFun (congrFun (congrFun (seqC_spec P ops.toList rec ops.toList) tm) ds) g
      exact this.trans (pureOps_ev _ _ _ h ds g)
  | .seq a b, tm, tm', h, ds, g => by
    simp only [pureC] at h
    cases ha : pureC a tm with
    | none => rw [ha] at h; cases h
    | some tm1 =>
      rw [ha] at h
      show thenF (fun tm ds g => runC P b rec tm ds g) (runC P a rec tm ds g) = _
      rw [pureC_run a tm tm1 ha]
      exact pureC_run b tm1 tm' h ds g
  | .cond .., _, _, h, _, _ => by simp [pureC] at h
  | .block .., _, _, h, _, _ => by simp [pureC] at h
  | .loop .., _, _, h, _, _ => by simp [pureC] at h
  | .rangeFunc .., _, _, h, _, _ => by simp [pureC] at h
  | .exit .., _, _, h, _, _ => by simp [pureC] at h
  | .scope .., _, _, h, _, _ => by simp [pureC] at h
  | .label .., _, _, h, _, _ => by simp [pureC] at h
  | .goto .., _, _, h, _, _ => by simp [pureC] at h
  | .ret, _, _, h, _, _ => by simp [pureC] at h
  | .refuse .., _, _, h, _, _ => by simp [pureC] at h
end
noncomputable section
def codeRec (P : Program) (rec : Rec) : Rec := fun t g => Task.rec (motive := fun _ => Res)
  (fun c tm ds => Bx.rec (motive := fun _ => Res) (fun h => h rec tm ds g) (codeC P c)) (fun f args => rec (.call f args) g) t
def bodyF (P : Program) (Γ : Env) (rec : Rec) : Rec := fun t g => Task.rec (motive := fun _ => Res)
  (fun c tm ds => Bx.rec (motive := fun _ => Res) (fun h => h rec tm ds g) (codeC P c))
  (fun f args => Option.rec (motive := fun _ => Res) (evCallF (codeRec P rec) P args g P.funcs[f]?) (fun s => s args g) (Γ f)) t
def evF (P : Program) (Γ : Env) (n : Nat) : Rec := Nat.rec (motive := fun _ => Rec) (fun _ _ => .no 0) (fun _ ih => bodyF P Γ ih) n

/-! ### It is sound -/
section
variable {P : Program} {rec : Rec} {Γ : Env}
theorem rounds_up {c : Code} {Q : Exit → Act → World → Prop} : ∀ {n : Nat} {a : Act} {w : World}, Code.rounds P c Q n a w → Code.rounds P c Q (n + 1) a w
  | 0, _, _, h => h.elim
  | n + 1, a, w, h => by
    rw [rounds_succ] at h ⊢
    refine wp_mono h fun e a w h => ?_
    cases e with
    | normal => exact rounds_up h
    | _ => exact h
def LoopM (P : Program) (rec : Rec) (m : Nat) : Prop := ∀ c tm ds g x tm' ds' g', rec (.code (.loop c) tm ds) g = .fin x tm' ds' g' → ∀ T hi σ w a N, Pre P T hi σ g w g' → TR σ tm a.tmps → DRs σ ds a.defers → codeIn N c = true → N ≤ a.tmps.size →
    Code.rounds P c (CPost P T σ g w N x tm' ds' g') m a w
structure Good (P : Program) (rec : Rec) (m : Nat) (c : Code) : Prop where
  le : ∀ tm ds g, LeRes g (runC P c rec tm ds g)
  code : ∀ tm ds g x tm' ds' g', runC P c rec tm ds g = .fin x tm' ds' g' → ∀ T hi σ w a N, Pre P T hi σ g w g' → TR σ tm a.tmps → DRs σ ds a.defers → codeIn N c = true → N ≤ a.tmps.size →
    c.wp P (CPost P T σ g w N x tm' ds' g') a w
  loop : ∀ b, c = .loop b → ∀ tm ds g x tm' ds' g', runC P c rec tm ds g = .fin x tm' ds' g' → ∀ T hi σ w a N, Pre P T hi σ g w g' → TR σ tm a.tmps → DRs σ ds a.defers → codeIn N b = true → N ≤ a.tmps.size →
    Code.rounds P b (CPost P T σ g w N x tm' ds' g') m a w
open Classical in
def recAt (P : Program) (rec : Rec) (S : Code → Prop) : Rec := fun t g => match t with
  | .code c tm ds => if S c then runC P c rec tm ds g else rec (.code c tm ds) g
  | .call f args => rec (.call f args) g
theorem recAt_in {S : Code → Prop} {c : Code} (h : S c) (tm : Ts AV) (ds : List (FuncId × List AV)) (g : G) : recAt P rec S (.code c tm ds) g = runC P c rec tm ds g := by
  simp [recAt, h]
theorem recAt_out {S : Code → Prop} {c : Code} (h : ¬ S c) (tm : Ts AV) (ds : List (FuncId × List AV)) (g : G) : recAt P rec S (.code c tm ds) g = rec (.code c tm ds) g := by
  simp [recAt, h]
theorem recAt_none : recAt P rec (fun _ => False) = rec := by
  funext t g
  cases t with
  | code c tm ds => exact recAt_out id tm ds g
  | call f args => rfl
theorem recAt_all : codeRec P rec = recAt P rec (fun _ => True) := by
  funext t g
  cases t with
  | code c tm ds => exact (recAt_in trivial tm ds g).symm
  | call f args => rfl
theorem recAt_L (hrec : RecS P rec) {m : Nat} (hm : LoopM P rec m) {S : Code → Prop} (hS : ∀ c, S c → Good P rec (m + 1) c) : RecL P (recAt P rec S) where
  le := fun t g => by
    cases t with
    | code c tm ds =>
      by_cases h : S c
      · rw [recAt_in h]; exact (hS c h).le tm ds g
      · rw [recAt_out h]; exact hrec.le _ _
    | call f args => exact hrec.le (.call f args) g
  code := fun c tm ds g x tm' ds' g' h => by
    by_cases hs : S c
    · rw [recAt_in hs] at h; exact (hS c hs).code tm ds g x tm' ds' g' h
    · rw [recAt_out hs] at h; exact hrec.code c tm ds g x tm' ds' g' h
  call := fun f hb => hrec.call f hb
  loop := ⟨m + 1, fun c tm ds g x tm' ds' g' h => by
    by_cases hs : S (.loop c)
    · rw [recAt_in hs] at h; exact (hS _ hs).loop c rfl tm ds g x tm' ds' g' h
    · rw [recAt_out hs] at h
      exact fun T hi σ w a N p ht hd hin hN => rounds_up (hm c tm ds g x tm' ds' g' h T hi σ w a N p ht hd hin hN)⟩
theorem good_of (hP : PF2 P) (hrec : RecS P rec) {m : Nat} (hm : LoopM P rec m) {S : Code → Prop} (hS : ∀ c, S c → Good P rec (m + 1) c) {c : Code}
    (heq : ∀ tm ds g, runC P c rec tm ds g = evCode (recAt P rec S) P c tm ds g) (hn : ∀ b, c ≠ .loop b) : Good P rec (m + 1) c where
  le := fun tm ds g => by rw [heq]; exact evCode_le (recAt_L hrec hm hS).le c tm ds g
  code := fun tm ds g x tm' ds' g' h => codeS_body (Γ := fun _ => none) hP (recAt_L hrec hm hS) c tm ds g x tm' ds' g' (by rw [← h, heq]; rfl)
  loop := fun b hb => absurd hb (hn b)
theorem loop_ne (c : Code) : Code.loop c ≠ c := by
  intro h
  have := congrArg (fun c : Code => SizeOf.sizeOf c) h
  simp at this
theorem good (hP : PF2 P) (hrec : RecS P rec) {m : Nat} (hm : LoopM P rec m) : ∀ c, Good P rec (m + 1) c := by
  have none : ∀ c, False → Good P rec (m + 1) c := fun _ h => h.elim
  intro c
  induction c with
  | skip => exact good_of hP hrec hm none (S := fun _ => False) (fun _ _ _ => rfl) (fun _ h => by cases h)
  | region id ops draw =>
    cases draw with
    | false =>
      refine good_of hP hrec hm none (S := fun _ => False) (fun tm ds g => ?_) (fun _ h => by cases h)
      rw [recAt_none]
      exact congrFun (congrFun (congrFun (seqC_spec P ops.toList rec ops.toList) tm) ds) g
    | true =>
      have hL : (∀ tm ds g, LeRes g (runSc (parRegL P ops) rec tm ds g)) ∧ ∀ tm ds g x tm' ds' g', runSc (parRegL P ops) rec tm ds g = .fin x tm' ds' g' → ∀ T hi σ w a N, Pre P T hi σ g w g' → TR σ tm a.tmps → DRs σ ds a.defers → opsIn N ops.toList = true → N ≤ a.tmps.size →
          (Code.region id ops true).wp P (CPost P T σ g w N x tm' ds' g') a w := by
        rcases parRegL_spec P ops rec with hold | ⟨D, ms, hl, hst, hnew⟩
        · refine ⟨fun tm ds g => by rw [hold]; exact evRegP_le hrec.le, fun tm ds g x tm' ds' g' hr T hi σ w a N p ht hd hin hN => ?_⟩
          rw [hold] at hr
          cases hs : static ops with
          | none => rw [hs] at hr; cases hr
          | some ms =>
            rw [hs] at hr
            simp only [evRegP] at hr
            cases e : evPar rec P ops.toList ms ops.toList 0 [] tm g with
            | no n => rw [e] at hr; cases hr
            | ok q g1 =>
              obtain ⟨tm1, fs⟩ := q
              rw [e] at hr
              injection hr with h1 h2 h3 h4; subst h1; subst h2; subst h3; subst h4
              exact par_sound hP.toPF hrec hP.mixed (static_spec hs) e p ht hd hin hN
        · refine ⟨fun tm ds g => by rw [hnew]; exact litRun_le D tm ds g, fun tm ds g x tm' ds' g' hr T hi σ w a N p ht hd hin hN => ?_⟩
          rw [hnew] at hr
          exact lit_sound hP.mixed (static_spec hst) hl hr p ht hd hin hN
      have hle2 : ∀ (q : Nat × Oper) (tm : Ts AV) (ds : List (FuncId × List AV)) (g : G), LeRes g (StopRun P ops.toList rec q tm ds g) := fun q tm ds g =>
        thenDo_le (evRegP_le hrec.le) fun tm ds g => evSeq_le hrec.le _ tm ds g
      have hrun : ∀ tm ds g, runC P (.region id ops true) rec tm ds g = runSc (parRegS P ops) rec tm ds g := fun _ _ _ => rfl
      refine ⟨fun tm ds g => ?_, fun tm ds g x tm' ds' g' hr T hi σ w a N p ht hd hin hN => ?_, fun b hb => by cases hb⟩
      · rw [hrun]
        rcases parRegS_spec P ops rec tm ds g with e | ⟨_, _, q, _, _, v, tm2, ds2, g2, e1, e2⟩
        · rw [e]; exact hL.1 tm ds g
        · rw [e2, ← e1]; exact hle2 q tm ds g
      · rw [hrun] at hr
        rcases parRegS_spec P ops rec tm ds g with e | ⟨ms, hs, ⟨k, ok⟩, hok, hS, v, tm2, ds2, g2, e1, e2⟩
        · rw [e] at hr; exact hL.2 tm ds g _ _ _ _ hr T hi σ w a N p ht hd hin hN
        · rw [e2] at hr
          injection hr with h1 h2 h3 h4; subst h1; subst h2; subst h3; subst h4
          have hok : ops[k]? = some ok := hok
          have hk : k < ops.size := (Array.getElem?_eq_some_iff.1 hok).1
          unfold StopRun at e1
          simp only at e1
          cases hsp : static (ops.toList.take k).toArray with
          | none => rw [hsp] at e1; cases e1
          | some ms1 =>
            rw [hsp] at e1
            simp only [evRegP] at e1
            cases e : evPar rec P (ops.toList.take k) ms1 (ops.toList.take k) 0 [] tm g with
            | no n => rw [e] at e1; cases e1
            | ok q g1 =>
              obtain ⟨tm1, fs⟩ := q
              rw [e] at e1
              have e1 : evSeq rec P (ops.toList.take (k + 1)) [ok] tm1 ds (joinG g fs g1) = .fin (.pan v) tm2 ds2 g2 := e1
              have hpre : ∀ m, ∀ j, j < m → (ops.toList.take m).toArray[j]? = ops[j]? := fun m j hj => by
                simp [hj]
              exact wp_region_any hP.mixed (stop_sound (pre := (ops.toList.take k).toArray) (pre2 := (ops.toList.take (k + 1)).toArray) hP.toPF hrec (static_spec hs) hS hok (by simp; omega) (hpre k) (by simp; omega) (hpre (k + 1)) (static_spec hsp) e e1 p ht hd hin hN)
  | seq a b iha ihb =>
    refine good_of hP hrec hm (S := fun c => c = a ∨ c = b) (fun c h => h.elim (fun e => e ▸ iha) (fun e => e ▸ ihb)) (fun tm ds g => ?_) (fun _ h => by cases h)
    show thenF (fun tm ds g => runC P b rec tm ds g) (runC P a rec tm ds g) = thenDo (fun tm ds g => recAt P rec _ (.code b tm ds) g) (recAt P rec _ (.code a tm ds) g)
    rw [thenF_eq, recAt_in (.inl rfl)]
    congr 1
    funext tm ds g
    exact (recAt_in (S := fun c => c = a ∨ c = b) (.inr rfl) tm ds g).symm
  | cond c a b iha ihb =>
    have hL := recAt_L hrec hm (S := fun c => c = a ∨ c = b) (fun c h => h.elim (fun e => e ▸ iha) (fun e => e ▸ ihb))
    have hold : ∀ tm ds g, evCond (fun g => runC P a rec tm ds g) (fun g => runC P b rec tm ds g) g (opnd tm c) = evCode (recAt P rec fun c => c = a ∨ c = b) P (.cond c a b) tm ds g := by
      intro tm ds g
      show _ = evCond (recAt P rec (fun c => c = a ∨ c = b) (.code a tm ds)) (recAt P rec (fun c => c = a ∨ c = b) (.code b tm ds)) g (opnd tm c)
      congr 1
      · funext g; exact (recAt_in (S := fun c => c = a ∨ c = b) (.inl rfl) tm ds g).symm
      · funext g; exact (recAt_in (S := fun c => c = a ∨ c = b) (.inr rfl) tm ds g).symm
    have hnew : ∀ tm ds g, runC P (.cond c a b) rec tm ds g = evCond (fun g => runC P a rec tm ds g) (fun g => runC P b rec tm ds g) g (opnd tm c) ∨
        ∃ s tm3, opnd tm c = some (.sbool s) ∧ joinC s a b tm = some tm3 ∧ runC P (.cond c a b) rec tm ds g = .fin .norm tm3 ds g := by
      intro tm ds g
      have hr : runC P (.cond c a b) rec tm ds g = runSc (Bx.rec (motive := fun _ => Bx Sc) (fun gc => Bool.rec (motive := fun _ => Bx Sc)
          (.mk fun rec tm ds g => condF (fun g => runC P a rec tm ds g) (fun g => runC P b rec tm ds g) g (gc tm))
          (.mk fun rec tm ds g => condJ a b (fun g => runC P a rec tm ds g) (fun g => runC P b rec tm ds g) tm ds g (gc tm)) (flatC a && flatC b)) (getC c)) rec tm ds g := rfl
      obtain ⟨gc, e, h⟩ := getC_spec c
      rw [hr, e]
      simp only
      cases flatC a && flatC b with
      | false =>
        left
        show condF (fun g => runC P a rec tm ds g) (fun g => runC P b rec tm ds g) g (gc tm) = _
        rw [condF_eq, h]
      | true =>
        show condJ a b (fun g => runC P a rec tm ds g) (fun g => runC P b rec tm ds g) tm ds g (gc tm) = _ ∨ ∃ s tm3, opnd tm c = some (.sbool s) ∧ joinC s a b tm = some tm3 ∧ condJ a b (fun g => runC P a rec tm ds g) (fun g => runC P b rec tm ds g) tm ds g (gc tm) = .fin .norm tm3 ds g
        rw [h]
        exact condJ_eq a b _ _ tm ds g _
    refine ⟨fun tm ds g => ?_, fun tm ds g x tm' ds' g' hr => ?_, fun b hb => by cases hb⟩
    · rcases hnew tm ds g with e | ⟨s, tm3, _, _, e⟩
      · rw [e, hold]; exact evCode_le hL.le _ tm ds g
      · rw [e]; exact ⟨[], Le.refl g⟩
    · rcases hnew tm ds g with e | ⟨s, tm3, e1, e2, e⟩
      · rw [e, hold] at hr
        exact codeS_body (Γ := fun _ => Option.none) hP hL _ tm ds g x tm' ds' g' hr
      · rw [e] at hr
        injection hr with h1 h2 h3 h4; subst h1; subst h2; subst h3; subst h4
        intro T hi σ w act N p ht hd hin hN
        simp only [codeIn, Bool.and_eq_true] at hin
        obtain ⟨tm1, tm2, j1, j2, j3, j4⟩ := joinC_spec e2
        have hv := opnd_sound ht e1
        have hev : act.eval c = .bool s := by generalize act.eval c = X at hv; cases hv; rfl
        cases s with
        | true =>
          refine wp_cond_true hev (wp_mono (iha.code tm ds g _ _ _ _ (pureC_run a tm tm1 j1 ds g) T hi σ w act N p ht hd hin.1 hN) fun e a w q => ?_)
          obtain ⟨σ', L, q1, q2, q3, q4⟩ := q
          exact ⟨σ', L, q1, q2, j3 rfl _ _ q3, q4⟩
        | false =>
          refine wp_cond_false hev (wp_mono (ihb.code tm ds g _ _ _ _ (pureC_run b tm tm2 j2 ds g) T hi σ w act N p ht hd hin.2 hN) fun e a w q => ?_)
          obtain ⟨σ', L, q1, q2, q3, q4⟩ := q
          exact ⟨σ', L, q1, q2, j4 rfl _ _ q3, q4⟩
  | block id a iha =>
    refine good_of hP hrec hm (S := fun c => c = a) (fun c h => by subst h; exact iha) (fun tm ds g => ?_) (fun _ h => by cases h)
    show inBlockA id (runC P a rec tm ds g) = inBlockA id (recAt P rec _ (.code a tm ds) g)
    rw [recAt_in (S := fun c => c = a) rfl]
  | scope a iha =>
    refine good_of hP hrec hm (S := fun c => c = a) (fun c h => by subst h; exact iha) (fun tm ds g => ?_) (fun _ h => by cases h)
    show runC P a rec tm ds g = recAt P rec (fun c => c = a) (.code a tm ds) g
    rw [recAt_in (S := fun c => c = a) rfl]
  | loop b ih =>
    have heq : ∀ tm ds g, runC P (.loop b) rec tm ds g = evCode (recAt P rec fun c => c = b) P (.loop b) tm ds g := by
      intro tm ds g
      show thenF (fun tm ds g => rec (.code (.loop b) tm ds) g) (runC P b rec tm ds g) = thenDo (fun tm ds g => recAt P rec _ (.code (.loop b) tm ds) g) (recAt P rec _ (.code b tm ds) g)
      rw [thenF_eq, recAt_in (S := fun c => c = b) rfl]
      congr 1
      funext tm ds g
      exact (recAt_out (S := fun c => c = b) (loop_ne b) tm ds g).symm
    have hL := recAt_L hrec hm (S := fun c => c = b) (fun c h => by subst h; exact ih)
    refine ⟨fun tm ds g => by rw [heq]; exact evCode_le hL.le _ tm ds g, fun tm ds g x tm' ds' g' h => codeS_body (Γ := fun _ => Option.none) hP hL _ tm ds g x tm' ds' g' (by rw [← h, heq]; rfl), ?_⟩
    intro b' hb tm ds g x tm' ds' g' h T hi σ w a N p ht hd hin hN
    injection hb with hb; subst hb
    rw [heq] at h
    have h : thenDo (fun tm ds g => recAt P rec (fun c => c = b) (.code (.loop b) tm ds) g) (recAt P rec (fun c => c = b) (.code b tm ds) g) = .fin x tm' ds' g' := h
    rw [rounds_succ]
    refine then_sound hL.toRecS (next := fun tm ds g => recAt P rec (fun c => c = b) (.code (.loop b) tm ds) g) h (fun _ _ _ => hL.le _ _) p ht hd hin hN ?_
    intro tm1 ds1 g1 σ1 w1 a1 L h1 q1 q2 q3 q4 q5
    rw [recAt_out (S := fun c => c = b) (loop_ne b)] at h1
    exact rounds_mono (fun e a w q => q.from q1 p.fresh p.hi) (hm b tm1 ds1 g1 _ _ _ _ h1 T hi σ1 w1 a1 N q2 q3 q4 hin q5)
  | rangeFunc => exact good_of hP hrec hm none (S := fun _ => False) (fun _ _ _ => rfl) (fun _ h => by cases h)
  | exit id => exact good_of hP hrec hm none (S := fun _ => False) (fun _ _ _ => rfl) (fun _ h => by cases h)
  | label l => exact good_of hP hrec hm none (S := fun _ => False) (fun _ _ _ => rfl) (fun _ h => by cases h)
  | goto l => exact good_of hP hrec hm none (S := fun _ => False) (fun _ _ _ => rfl) (fun _ h => by cases h)
  | ret => exact good_of hP hrec hm none (S := fun _ => False) (fun _ _ _ => rfl) (fun _ h => by cases h)
  | refuse r => exact good_of hP hrec hm none (S := fun _ => False) (fun _ _ _ => rfl) (fun _ h => by cases h)
theorem bodyF_sound (hP : PF2 P) (hΓ : EnvS P Γ) (hrec : RecL P rec) : RecL P (bodyF P Γ rec) := by
  obtain ⟨m, hm⟩ := hrec.loop
  have hg := good hP hrec.toRecS (m := m) hm
  have hall : RecL P (codeRec P rec) := by rw [recAt_all]; exact recAt_L hrec.toRecS hm (fun c _ => hg c)
  refine { le := fun t g => ?_, code := fun c tm ds g x tm' ds' g' h => (hg c).code tm ds g x tm' ds' g' h, call := fun f _ => ?_, loop := ⟨m + 1, fun c tm ds g x tm' ds' g' h => (hg (.loop c)).loop c rfl tm ds g x tm' ds' g' h⟩ }
  · cases t with
    | code c tm ds => exact (hg c).le tm ds g
    | call f args =>
      show LeRes g (Option.rec (motive := fun _ => Res) (evCallF (codeRec P rec) P args g P.funcs[f]?) (fun s => s args g) (Γ f))
      cases e : Γ f with
      | none => exact evCallF_le hall.le
      | some s => exact hΓ.le f s e args g
  · show CallSf P f (fun args g => Option.rec (motive := fun _ => Res) (evCallF (codeRec P rec) P args g P.funcs[f]?) (fun s => s args g) (Γ f))
    cases e : Γ f with
    | none => exact call_sound hP hall.toRecS
    | some s => exact hΓ.call f s e
theorem evF_sound (hP : PF2 P) (hΓ : EnvS P Γ) : ∀ n, RecL P (evF P Γ n)
  | 0 => ⟨⟨fun _ _ => trivial, fun c tm ds g x tm' ds' g' h => (by cases h), fun f _ args g g' h => (by cases h)⟩, 0, fun c tm ds g x tm' ds' g' h => (by cases h)⟩
  | n + 1 => bodyF_sound hP hΓ (evF_sound hP hΓ n)
end
end
end Go.Ev

namespace Go.Ev
open Go

/-! ### Summaries: what a call with given arguments was seen to do, as a literal -/
/-- the number that a number of the summary stands for in the run -/
def rho (base : Nat) (is : List Nat) (j : Nat) : Option Nat := match Nat.ble base j with
  | true => is[j - base]?
  | false => none
def sameId (base : Nat) (is : List Nat) (j i : Nat) : Bool := match rho base is j with
  | some i' => Nat.beq i' i
  | none => false
def sameFn (a b : Fn) : Bool := match a with
  | .func f => match b with
    | .func f' => Nat.beq f f'
    | _ => false
  | _ => false
theorem sameFn_eq {a b : Fn} (h : sameFn a b = true) : a = b := by
  cases a <;> cases b <;> simp only [sameFn] at h <;> first | (cases h; done) | skip
  rw [of_beq h]
mutual
def sameV (ρ : Nat → Nat → Bool) : AV → AV → Bool
  | .bool a, y => match y with | .bool b => a == b | _ => false
  | .sbool a, y => match y with | .sbool b => a == b | _ => false
  | .int k n, y => match y with | .int k' m => sameK k k' && eqF n m | _ => false
  | .sint _ _, _ => false
  | .str _, _ => false
  | .nilPtr, y => match y with | .nilPtr => true | _ => false
  | .ptr i o, y => match y with | .ptr j p => ρ i j && Nat.beq o p | _ => false
  | .sptr _ _, _ => false
  | .nilSl, y => match y with | .nilSl => true | _ => false
  | .sl i o n c, y => match y with | .sl j p m d => ρ i j && Nat.beq o p && Nat.beq n m && Nat.beq c d | _ => false
  | .gsl i n, y => match y with | .gsl j m => ρ i j && Nat.beq n m | _ => false
  | .ssl _ _ _ _, _ => false
  | .nilMap, y => match y with | .nilMap => true | _ => false
  | .map i, y => match y with | .map j => ρ i j | _ => false
  | .nilFunc, y => match y with | .nilFunc => true | _ => false
  | .func fn as cs, y => match y with | .func fn' as' cs' => sameFn fn fn' && (sameVs ρ as as' && sameVs ρ cs cs') | _ => false
  | .nilIface, y => match y with | .nilIface => true | _ => false
  | .iface t v, y => match y with | .iface t' u => Nat.beq t t' && sameV ρ v u | _ => false
  | .agg cs, y => match y with | .agg ds => sameVs ρ cs ds | _ => false
  | .tup cs, y => match y with | .tup ds => sameVs ρ cs ds | _ => false
  | .rep _ _ _, _ => false
  | .nilChan, y => match y with | .nilChan => true | _ => false
  | .chan i, y => match y with | .chan j => ρ i j | _ => false
def sameVs (ρ : Nat → Nat → Bool) : List AV → List AV → Bool
  | [], y => match y with | [] => true | _ => false
  | v :: vs, y => match y with | u :: us => sameV ρ v u && sameVs ρ vs us | [] => false
end
/-- a summary's value stands for the same, where its numbers do -/
def Carries (σ σ' : Sg) (ρ : Nat → Nat → Bool) : Prop := ∀ j i, ρ j i = true → ∀ x, σ i = some x → σ' j = some x
mutual
theorem sameV_VR {σ σ' : Sg} {ρ : Nat → Nat → Bool} (hc : Carries σ σ' ρ) : ∀ {v u : AV} {V : Value}, sameV ρ v u = true → VR σ u V → VR σ' v V
  | .bool a, u, V, h, hv => by
    cases u <;> simp only [sameV] at h <;> first | (cases h; done) | skip
    cases hv; have := eq_of_beq h; subst this; exact .bool _
  | .sbool a, u, V, h, hv => by
    cases u <;> simp only [sameV] at h <;> first | (cases h; done) | skip
    cases hv; have := eq_of_beq h; subst this; exact .sbool _
  | .int k n, u, V, h, hv => by
    cases u <;> simp only [sameV, Bool.and_eq_true] at h <;> first | (cases h; done) | skip
    cases hv; have := sameK_eq h.1; subst this; have := h.2; rw [eqF_eq] at this; have := eq_of_beq this; subst this; exact .int _ _
  | .sint _ _, u, V, h, hv => by simp [sameV] at h
  | .str _, u, V, h, hv => by simp [sameV] at h
  | .nilPtr, u, V, h, hv => by
    cases u <;> simp only [sameV] at h <;> first | (cases h; done) | skip
    cases hv; exact .nilPtr
  | .ptr i o, u, V, h, hv => by
    cases u <;> simp only [sameV, Bool.and_eq_true] at h <;> first | (cases h; done) | skip
    cases hv with | ptr e => have := of_beq h.2; subst this; exact .ptr (hc _ _ h.1 _ e)
  | .sptr _ _, u, V, h, hv => by simp [sameV] at h
  | .nilSl, u, V, h, hv => by
    cases u <;> simp only [sameV] at h <;> first | (cases h; done) | skip
    cases hv; exact .nilSl
  | .sl i o n c, u, V, h, hv => by
    cases u <;> simp only [sameV, Bool.and_eq_true] at h <;> first | (cases h; done) | skip
    obtain ⟨⟨⟨h1, h2⟩, h3⟩, h4⟩ := h
    cases hv with | sl e =>
      have := of_beq h2; subst this
      have := of_beq h3; subst this
      have := of_beq h4; subst this
      exact .sl (hc _ _ h1 _ e)
  | .gsl i n, u, V, h, hv => by
    cases u <;> simp only [sameV, Bool.and_eq_true] at h <;> first | (cases h; done) | skip
    cases hv with | gsl e => have := of_beq h.2; subst this; exact .gsl (hc _ _ h.1 _ e)
  | .ssl _ _ _ _, u, V, h, hv => by simp [sameV] at h
  | .nilMap, u, V, h, hv => by
    cases u <;> simp only [sameV] at h <;> first | (cases h; done) | skip
    cases hv; exact .nilMap
  | .map i, u, V, h, hv => by
    cases u <;> simp only [sameV] at h <;> first | (cases h; done) | skip
    cases hv with | map e => exact .map (hc _ _ h _ e)
  | .nilFunc, u, V, h, hv => by
    cases u <;> simp only [sameV] at h <;> first | (cases h; done) | skip
    cases hv; exact .nilFunc
  | .func fn as cs, u, V, h, hv => by
    cases u <;> simp only [sameV, Bool.and_eq_true] at h <;> first | (cases h; done) | skip
    cases hv with | func a b => have := sameFn_eq h.1; subst this; exact .func (sameVs_VR hc h.2.1 a) (sameVs_VR hc h.2.2 b)
  | .nilIface, u, V, h, hv => by
    cases u <;> simp only [sameV] at h <;> first | (cases h; done) | skip
    cases hv; exact .nilIface
  | .iface t v, u, V, h, hv => by
    cases u <;> simp only [sameV, Bool.and_eq_true] at h <;> first | (cases h; done) | skip
    cases hv with | iface hv => have := of_beq h.1; subst this; exact .iface (sameV_VR hc h.2 hv)
  | .agg cs, u, V, h, hv => by
    cases u <;> simp only [sameV] at h <;> first | (cases h; done) | skip
    cases hv with | agg hv => exact .agg (sameVs_VR hc h hv)
  | .tup cs, u, V, h, hv => by
    cases u <;> simp only [sameV] at h <;> first | (cases h; done) | skip
    cases hv with | tup hv => exact .tup (sameVs_VR hc h hv)
  | .rep _ _ _, u, V, h, hv => by simp [sameV] at h
  | .nilChan, u, V, h, hv => by
    cases u <;> simp only [sameV] at h <;> first | (cases h; done) | skip
    cases hv; exact .nilChan
  | .chan i, u, V, h, hv => by
    cases u <;> simp only [sameV] at h <;> first | (cases h; done) | skip
    cases hv with | chan e => exact .chan (hc _ _ h _ e)
theorem sameVs_VR {σ σ' : Sg} {ρ : Nat → Nat → Bool} (hc : Carries σ σ' ρ) : ∀ {v u : List AV} {V : List Value}, sameVs ρ v u = true → VRs σ u V → VRs σ' v V
  | [], u, V, h, hv => by
    cases u <;> simp only [sameVs] at h <;> first | (cases h; done) | skip
    cases hv; exact .nil
  | v :: vs, u, V, h, hv => by
    cases u <;> simp only [sameVs, Bool.and_eq_true] at h <;> first | (cases h; done) | skip
    cases hv with | cons a b => exact .cons (sameV_VR hc h.1 a) (sameVs_VR hc h.2 b)
end
theorem sameVs_len {ρ : Nat → Nat → Bool} : ∀ {v u : List AV}, sameVs ρ v u = true → v.length = u.length
  | [], [], _ => rfl
  | _ :: vs, _ :: us, h => by simp only [sameVs, Bool.and_eq_true] at h; simp [sameVs_len h.2]
  | [], _ :: _, h => by simp [sameVs] at h
  | _ :: _, [], h => by simp [sameVs] at h
theorem sameVs_get {ρ : Nat → Nat → Bool} : ∀ {v u : List AV}, sameVs ρ v u = true → ∀ {o : Nat} {x : AV}, v[o]? = some x → ∃ y, u[o]? = some y ∧ sameV ρ x y = true
  | [], _, _, o, x, e => by simp at e
  | v :: vs, u :: us, h, 0, x, e => by
    simp only [sameVs, Bool.and_eq_true] at h
    simp at e; subst e; exact ⟨u, rfl, h.1⟩
  | v :: vs, u :: us, h, o + 1, x, e => by
    simp only [sameVs, Bool.and_eq_true] at h
    obtain ⟨y, h1, h2⟩ := sameVs_get h.2 (o := o) (x := x) (by simpa using e)
    exact ⟨y, by simpa using h1, h2⟩
  | _ :: _, [], h, _, _, _ => by simp [sameVs] at h

/-- trees of the same shape -/
def sameO (ρ : Nat → Nat → Bool) : Option AV → Option AV → Bool
  | none, none => true
  | some v, some u => sameV ρ v u
  | _, _ => false
def sameTr (ρ : Nat → Nat → Bool) : Tr AV → Tr AV → Bool
  | .lf, .lf => true
  | .nd l v r, .nd l' v' r' => sameTr ρ l l' && sameO ρ v v' && sameTr ρ r r'
  | _, _ => false
theorem sameTr_get {ρ : Nat → Nat → Bool} : ∀ {t u : Tr AV}, sameTr ρ t u = true → ∀ (p : Nat), sameO ρ (t.getP p) (u.getP p) = true
  | .lf, .lf, _, _ => rfl
  | .nd l v r, .nd l' v' r', h, p => by
    simp only [sameTr, Bool.and_eq_true] at h
    rw [Tr.getP_nd, Tr.getP_nd]
    split
    · exact h.1.2
    · split
      · exact sameTr_get h.1.1 _
      · exact sameTr_get h.2 _
  | .lf, .nd .., h, _ => by simp [sameTr] at h
  | .nd .., .lf, h, _ => by simp [sameTr] at h
def sameEs (ρ : Nat → Nat → Bool) : List (AV × AV) → List (AV × AV) → Bool
  | [], [] => true
  | (k, v) :: es, (k', v') :: es' => sameV ρ k k' && sameV ρ v v' && sameEs ρ es es'
  | _, _ => false
theorem sameEs_MRs {σ σ' : Sg} {ρ : Nat → Nat → Bool} (hc : Carries σ σ' ρ) : ∀ {es es' : List (AV × AV)} {Es : List MapEntry}, sameEs ρ es es' = true → MRs σ es' Es → MRs σ' es Es
  | [], [], [], _, _ => trivial
  | [], [], _ :: _, _, h => by cases h
  | (k, v) :: es, (k', v') :: es', E :: Es, h, hm => by
    simp only [sameEs, Bool.and_eq_true] at h
    exact ⟨sameV_VR hc h.1.1 hm.1, sameV_VR hc h.1.2 hm.2.1, sameEs_MRs hc h.2 hm.2.2⟩
  | _ :: _, _ :: _, [], _, h => by cases h
  | [], _ :: _, _, h, _ => by simp [sameEs] at h
  | _ :: _, [], _, h, _ => by simp [sameEs] at h
def sameB (ρ : Nat → Nat → Bool) : Blk → Blk → Bool
  | .cells e l, y => match y with | .cells e' l' => Nat.beq e e' && sameVs ρ l l' | _ => false
  | .grown e l, y => match y with | .grown e' l' => Nat.beq e e' && sameVs ρ l l' | _ => false
  | .seq .., _ => false
  | .big e t d n, y => match y with | .big e' t' d' n' => Nat.beq e e' && Nat.beq n n' && sameV ρ d d' && sameTr ρ t t' | _ => false
  | .map es, y => match y with | .map es' => sameEs ρ es es' | _ => false
  | .chan n k, y => match y with | .chan n' k' => Nat.beq n n' && Nat.beq k k' | _ => false
  | .pmap _, _ => false
theorem sameB_sh {ρ : Nat → Nat → Bool} {b b' : Blk} (h : sameB ρ b b' = true) : b.sh = b'.sh := by
  cases b <;> cases b' <;> simp only [sameB, Bool.and_eq_true] at h <;> first | (cases h; done) | skip
  · have := of_beq h.1; subst this; simp [Blk.sh, sameVs_len h.2]
  · have := of_beq h.1; subst this; simp [Blk.sh, sameVs_len h.2]
  · have := of_beq h.1.1.1; subst this; have := of_beq h.1.1.2; subst this; rfl
  · rfl
  · rfl
theorem sameB_ct {σ σ' : Sg} {ρ : Nat → Nat → Bool} (hc : Carries σ σ' ρ) {b b' : Blk} (h : sameB ρ b b' = true) {o : Nat} {c : Ct} (e : b.ct o = some c) :
    ∃ c', b'.ct o = some c' ∧ ∀ ob k, CtR σ c' ob k → CtR σ' c ob k := by
  have cell : ∀ {x y : AV}, sameV ρ x y = true → ∀ ob k, CtR σ (.cell y) ob k → CtR σ' (.cell x) ob k := fun hxy ob k ⟨a, b, c, V, h1, h2, h3⟩ => ⟨a, b, c, V, h1, h2, sameV_VR hc hxy h3⟩
  have rows : ∀ {l l' : List AV}, sameVs ρ l l' = true → (l[o]?).map Ct.cell = some c → ∃ c', (l'[o]?).map Ct.cell = some c' ∧ ∀ ob k, CtR σ c' ob k → CtR σ' c ob k := by
    intro l l' hl e
    cases hx : l[o]? with
    | none => rw [hx] at e; cases e
    | some x =>
      rw [hx] at e; injection e with e; subst e
      obtain ⟨y, h1, h2⟩ := sameVs_get hl hx
      exact ⟨.cell y, by rw [h1]; rfl, cell h2⟩
  cases b <;> cases b' <;> simp only [sameB, Bool.and_eq_true] at h <;> first | (cases h; done) | skip
  · exact rows h.2 e
  · exact rows h.2 e
  · rename_i e1 t d n e2 t' d' n'
    have := of_beq h.1.1.2; subst this
    simp only [Blk.ct] at e ⊢
    split at e
    · rename_i hlt
      rw [if_pos hlt]
      injection e with e; subst e
      refine ⟨_, rfl, cell ?_⟩
      have := sameTr_get h.2 (o + 1)
      unfold Tr.get
      show sameV ρ ((t.getP (o + 1)).getD d) ((t'.getP (o + 1)).getD d') = true
      cases h1 : t.getP (o + 1) <;> cases h2 : t'.getP (o + 1) <;> rw [h1, h2] at this <;> simp only [sameO] at this
      · exact h.1.2
      · cases this
      · cases this
      · exact this
    · cases e
  · rename_i es es'
    simp only [Blk.ct] at e ⊢
    split at e
    · rename_i h0
      rw [if_pos h0]
      injection e with e; subst e
      exact ⟨_, rfl, fun ob k ⟨Es, cl, h1, h2⟩ => ⟨Es, cl, h1, sameEs_MRs hc h h2⟩⟩
    · cases e
  · have := of_beq h.1; subst this; have := of_beq h.2; subst this
    exact ⟨c, e, fun ob k hh => by
      simp only [Blk.ct] at e
      split at e
      · injection e with e; subst e; exact hh
      · cases e⟩
end Go.Ev

namespace Go.Ev
open Go

structure Sum where
  args : List AV
  base : Nat
  is : List Nat
  v : AV
  bs : List Blk
noncomputable def blksFit (ρ : Nat → Nat → Bool) (h : Tr Blk) : List Nat → List Blk → Bool
  | [], [] => true
  | i :: is, b :: bs => (match h.get i with | some b' => sameB ρ b b' | none => false) && blksFit ρ h is bs
  | _, _ => false
def notIn (i : Nat) : List Nat → Bool
  | [] => true
  | j :: js => !(Nat.beq i j) && notIn i js
def apartIds : List Nat → Bool
  | [] => true
  | i :: is => notIn i is && apartIds is
noncomputable def Sum.fits (s : Sum) : Res → Bool
  | .val v g => g.obl.isEmpty && (sameV (sameId s.base s.is) s.v v && (blksFit (sameId s.base s.is) g.heap s.is s.bs && apartIds s.is))
  | _ => false
noncomputable def layK {β : Type} (bs : List Blk) : Nat → Tr Blk → List Tch → (Tr Blk → List Tch → Nat → β) → β :=
  List.rec (motive := fun _ => Nat → Tr Blk → List Tch → (Tr Blk → List Tch → Nat → β) → β) (fun i h l k => k h l i)
    (fun b _ ih i h l k => h.setK i b fun h => natK (Nat.add i (nat_lit 1)) fun i' => ih i' h (⟨i, 0, 0, true⟩ :: l) k) bs
noncomputable def sumG (s : Sum) (g : G) : Res := match g with
  | ⟨h, _, l, oc, ob⟩ => layK s.bs s.base h l fun h l n => .val s.v ⟨h, n, l, oc, ob⟩
noncomputable def sumS : List Sum → List AV → G → Res
  | [], _, _ => .no 300
  | s :: ss, args, g => match sameVs (fun _ _ => false) s.args args && Nat.ble g.next s.base with
    | true => sumG s g
    | false => sumS ss args g

/-! ### What is laid -/
noncomputable def layH : List Blk → Nat → Tr Blk → Tr Blk
  | [], _, h => h
  | b :: bs, i, h => layH bs (i + 1) (h.set i b)
def layL : List Blk → Nat → List Tch
  | [], _ => []
  | _ :: bs, i => layL bs (i + 1) ++ [⟨i, 0, 0, true⟩]
theorem layK_eq {β : Type} : ∀ (bs : List Blk) (i : Nat) (h : Tr Blk) (l : List Tch) (k : Tr Blk → List Tch → Nat → β), layK bs i h l k = k (layH bs i h) (layL bs i ++ l) (i + bs.length)
  | [], i, h, l, k => rfl
  | b :: bs, i, h, l, k => by
    show h.setK i b (fun h => natK (i + 1) fun i' => layK bs i' h (⟨i, 0, 0, true⟩ :: l) k) = _
    rw [Tr.setK_eq, natK_eq, layK_eq bs, layH, layL, List.append_assoc, List.length_cons]
    congr 1
    omega
theorem layH_get : ∀ (bs : List Blk) (i : Nat) (h : Tr Blk) (j : Nat) (blk : Blk), (layH bs i h).get j = some blk → (∃ k, j = i + k ∧ bs[k]? = some blk) ∨ ((j < i ∨ i + bs.length ≤ j) ∧ h.get j = some blk)
  | [], i, h, j, blk, e => .inr ⟨by simp; omega, e⟩
  | b :: bs, i, h, j, blk, e => by
    rcases layH_get bs (i + 1) _ j blk e with ⟨k, h1, h2⟩ | ⟨h1, h2⟩
    · exact .inl ⟨k + 1, by omega, by simpa using h2⟩
    · rcases Tr.get_set h2 with ⟨rfl, rfl⟩ | ⟨hne, h3⟩
      · exact .inl ⟨0, rfl, rfl⟩
      · exact .inr ⟨by simp only [List.length_cons]; omega, h3⟩
theorem layL_mem : ∀ (bs : List Blk) (i : Nat) (t : Tch), t ∈ layL bs i → t.n = 0 ∧ t.w = true ∧ i ≤ t.i ∧ t.i < i + bs.length
  | [], _, _, h => by cases h
  | b :: bs, i, t, h => by
    rcases List.mem_append.1 h with h | h
    · obtain ⟨a, b, c, d⟩ := layL_mem bs (i + 1) t h
      exact ⟨a, b, by omega, by simp only [List.length_cons]; omega⟩
    · simp at h; subst h; exact ⟨rfl, rfl, Nat.le_refl _, by simp⟩
theorem layL_all : ∀ (bs : List Blk) (i k : Nat), k < bs.length → covA (layL bs i) (i + k)
  | b :: bs, i, 0, _ => ⟨⟨i, 0, 0, true⟩, by simp [layL], rfl, rfl, rfl⟩
  | b :: bs, i, k + 1, h => by
    obtain ⟨t, h1, h2, h3, h4⟩ := layL_all bs (i + 1) k (by simpa using h)
    exact ⟨t, List.mem_append_left _ h1, h2, by rw [h3]; omega, h4⟩
theorem sumG_eq (s : Sum) (g : G) : sumG s g = .val s.v ⟨layH s.bs s.base g.heap, s.base + s.bs.length, layL s.bs s.base ++ g.log, g.orc, g.obl⟩ := by
  cases g; simp only [sumG, layK_eq]
theorem sumG_le {s : Sum} {g : G} (h : g.next ≤ s.base) : Le g ⟨layH s.bs s.base g.heap, s.base + s.bs.length, layL s.bs s.base ++ g.log, g.orc, g.obl⟩ (layL s.bs s.base) where
  log := rfl
  nx := by show g.next ≤ s.base + s.bs.length; omega
  ob := ⟨[], rfl⟩
  sh := fun i b' hn hg => by
    rcases layH_get _ _ _ _ _ hg with ⟨k, h1, h2⟩ | ⟨_, h2⟩
    · exact absurd (h1 ▸ layL_all _ _ k (List.getElem?_eq_some_iff.1 h2).1) hn
    · exact ⟨b', h2, rfl⟩
  ct := fun i o b' c hn hg hc => by
    rcases layH_get _ _ _ _ _ hg with ⟨k, h1, h2⟩ | ⟨_, h2⟩
    · exact absurd ((h1 ▸ layL_all _ _ k (List.getElem?_eq_some_iff.1 h2).1 : covA _ i).covW o) hn
    · exact ⟨b', h2, hc⟩
  ex := fun t ht _ => by
    obtain ⟨_, _, h1, h2⟩ := layL_mem _ _ _ ht
    exact .inr ⟨by omega, h2⟩

theorem notIn_spec : ∀ {i : Nat} {l : List Nat}, notIn i l = true → ∀ (k : Nat), l[k]? ≠ some i
  | i, j :: js, h, k, e => by
    simp only [notIn, Bool.and_eq_true, Bool.not_eq_true'] at h
    cases k with
    | zero => simp at e; exact of_beqf h.1 e.symm
    | succ k => exact notIn_spec h.2 k (by simpa using e)
theorem apartIds_inj : ∀ {l : List Nat}, apartIds l = true → ∀ {a b i : Nat}, l[a]? = some i → l[b]? = some i → a = b
  | j :: js, h, 0, 0, _, _, _ => rfl
  | j :: js, h, 0, b + 1, i, e1, e2 => by
    simp only [apartIds, Bool.and_eq_true] at h
    simp at e1; subst e1
    exact absurd (by simpa using e2) (notIn_spec h.1 b)
  | j :: js, h, a + 1, 0, i, e1, e2 => by
    simp only [apartIds, Bool.and_eq_true] at h
    simp at e2; subst e2
    exact absurd (by simpa using e1) (notIn_spec h.1 a)
  | j :: js, h, a + 1, b + 1, i, e1, e2 => by
    simp only [apartIds, Bool.and_eq_true] at h
    exact congrArg (· + 1) (apartIds_inj h.2 (by simpa using e1) (by simpa using e2))
theorem blksFit_get {ρ : Nat → Nat → Bool} {h : Tr Blk} : ∀ {is : List Nat} {bs : List Blk}, blksFit ρ h is bs = true → ∀ {k : Nat} {b : Blk}, bs[k]? = some b → ∃ i b', is[k]? = some i ∧ h.get i = some b' ∧ sameB ρ b b' = true
  | [], [], _, k, b, e => by simp at e
  | i :: is, b :: bs, hf, 0, x, e => by
    simp only [blksFit, Bool.and_eq_true] at hf
    simp at e; subst e
    cases hg : h.get i with
    | none => rw [hg] at hf; cases hf.1
    | some b' => rw [hg] at hf; exact ⟨i, b', rfl, hg, hf.1⟩
  | i :: is, b :: bs, hf, k + 1, x, e => by
    simp only [blksFit, Bool.and_eq_true] at hf
    obtain ⟨j, b', h1, h2⟩ := blksFit_get hf.2 (k := k) (b := x) (by simpa using e)
    exact ⟨j, b', by simpa using h1, h2⟩
  | [], _ :: _, hf, _, _, _ => by simp [blksFit] at hf
  | _ :: _, [], hf, _, _, _ => by simp [blksFit] at hf
theorem blksFit_len {ρ : Nat → Nat → Bool} {h : Tr Blk} : ∀ {is : List Nat} {bs : List Blk}, blksFit ρ h is bs = true → is.length = bs.length
  | [], [], _ => rfl
  | i :: is, b :: bs, hf => by simp only [blksFit, Bool.and_eq_true] at hf; simp [blksFit_len hf.2]
  | [], _ :: _, hf => by simp [blksFit] at hf
  | _ :: _, [], hf => by simp [blksFit] at hf
def sgS (base : Nat) (is : List Nat) (σ σ0 : Sg) : Sg := fun j => match rho base is j with
  | some i => σ0 i
  | none => σ j
theorem rho_in {base : Nat} {is : List Nat} {j i : Nat} (h : rho base is j = some i) : base ≤ j ∧ j < base + is.length ∧ is[j - base]? = some i := by
  unfold rho at h
  split at h
  · rename_i hb
    have := of_ble hb
    have h2 := (List.getElem?_eq_some_iff.1 h).1
    exact ⟨this, by omega, h⟩
  · cases h
theorem rho_at {base : Nat} {is : List Nat} {k i : Nat} (h : is[k]? = some i) : rho base is (base + k) = some i := by
  unfold rho
  have : Nat.ble base (base + k) = true := Nat.ble_eq_true_of_le (by omega)
  rw [this]
  simpa using h
theorem rho_out {base : Nat} {is : List Nat} {j : Nat} (h : j < base ∨ base + is.length ≤ j) : rho base is j = none := by
  cases e : rho base is j with
  | none => rfl
  | some i => have := rho_in e; omega

theorem sumG_sound {P : Program} {f : FuncId} {s0 : List AV → G → Res} (hs : CallSf P f s0) {s : Sum} (hf : s.fits (s0 s.args G.init) = true)
    {args : List AV} {g : G} (ha : sameVs (fun _ _ => false) s.args args = true) (hb : g.next ≤ s.base)
    {T : Tp} {hi : Nat} {σ : Sg} {w : World} {Args : Array Value} (p : Pre P T hi σ g w ⟨layH s.bs s.base g.heap, s.base + s.bs.length, layL s.bs s.base ++ g.log, g.orc, g.obl⟩) (hv : VRs σ args Args.toList) :
    Calls P f Args w (CallR P T σ g w (sumG s g)) := by
  cases hr : s0 s.args G.init with
  | no n => rw [hr] at hf; cases hf
  | fin x t d g2 => rw [hr] at hf; cases hf
  | pan v g2 => rw [hr] at hf; cases hf
  | val v1 g1 =>
  rw [hr] at hf
  simp only [Sum.fits, Bool.and_eq_true, List.isEmpty_iff] at hf
  obtain ⟨hob, hsv, hfit, hap⟩ := hf
  have hlen := blksFit_len hfit
  have hA : VRs (fun _ => none) s.args Args.toList := sameVs_VR (fun _ _ h => by cases h) ha hv
  have hc := hs s.args G.init g1 (by rw [hr]; rfl) (fun _ _ => True) g1.next (fun _ => none) w Args
    { rel := ⟨fun i blk hg => (by cases hg), fun i blk o c b cap hg => (by cases hg), fun i j bi bj b c c' hg => (by cases hg)⟩
      fresh := fun _ _ _ => rfl
      hi := Nat.le_refl _
      inT := fun _ _ _ _ _ _ => trivial
      owes := fun p hp => by rw [hob] at hp; cases hp } hA
  refine hc.mono fun e w' hw => ?_
  simp only [CallR, hr] at hw
  obtain ⟨σ0, L0, V, q, rfl, hV⟩ := hw
  rw [sumG_eq]
  have hnew : ∀ i b c, σ0 i = some (b, c) → w.heap.size ≤ b := by
    intro i b c hi
    by_cases hlt : i < g1.next
    · rcases q.nw i b c (Nat.zero_le _) hlt hi with h3 | ⟨_, _, _, h4⟩
      · exact h3
      · cases h4
    · rw [q.ext i (.inr (by omega))] at hi; cases hi
  have hnc : ∀ b o, b < w.heap.size → ¬ Chg σ0 L0 b o := fun b o hlt ⟨i, c, hi, _⟩ => by have := hnew i b c hi; omega
  have hsame : ∀ b : Nat, b < w.heap.size → w'.heap[b]? = w.heap[b]? := fun b hb => q.fr.same b hb fun o => hnc b o hb
  have hcar : Carries σ0 (sgS s.base s.is σ σ0) (sameId s.base s.is) := by
    intro j i hji x hx
    unfold sameId at hji
    split at hji
    · rename_i i' e
      have := of_beq hji; subst this
      unfold sgS; rw [e]; exact hx
    · cases hji
  have hhi : s.base + s.bs.length ≤ hi := p.hi
  have hsub : Sub σ (sgS s.base s.is σ σ0) := by
    intro j x hx
    have hout : j < s.base ∨ s.base + s.is.length ≤ j := by
      rcases Nat.lt_or_ge j s.base with h1 | h1
      · exact .inl h1
      · rcases Nat.lt_or_ge j (s.base + s.is.length) with h2 | h2
        · rw [p.fresh j (by omega) (by omega)] at hx; cases hx
        · exact .inr h2
    unfold sgS; rw [rho_out hout]; exact hx
  have hold : ∀ j, (j < s.base ∨ s.base + s.bs.length ≤ j) → sgS s.base s.is σ σ0 j = σ j := fun j hj => by
    unfold sgS; rw [rho_out (by omega)]
  have hlive : ∀ i blk b cap, g.heap.get i = some blk → (∃ o, T i o) → σ i = some (b, cap) → b < w.heap.size := by
    intro i blk b cap hg ht hi
    obtain ⟨b', cap', h1, h2⟩ := p.rel.sh i blk hg ht
    rw [hi] at h1; injection h1 with h1; injection h1 with h1 h1'; subst h1; subst h1'
    cases hw : w.heap[b]? with
    | some o => exact (Array.getElem?_eq_some_iff.1 hw).1
    | none =>
      rw [hw] at h2
      cases hsh : blk.sh <;> rw [hsh] at h2
      · obtain ⟨c, fz, h3, _⟩ := h2; cases h3
      · obtain ⟨c, fz, h3, _⟩ := h2; cases h3
      · obtain ⟨c, fz, h3, _⟩ := h2; cases h3
      · obtain ⟨c, fz, h3, _⟩ := h2; cases h3
      · obtain ⟨c, cl, h3⟩ := h2; cases h3
      · obtain ⟨n, q, s, r, h3⟩ := h2; cases h3
  refine ⟨sgS s.base s.is σ σ0, layL s.bs s.base, V, ⟨sumG_le hb, fun j hj => ?_, ⟨?_, ?_, ?_⟩, ⟨q.fr.size, q.fr.tape, q.fr.os, q.fr.output, fun b hb _ => hsame b hb, ?_, ?_, ?_⟩, ?_⟩, rfl, sameV_VR hcar hsv hV⟩
  · have : j < g.next ∨ s.base + s.bs.length ≤ j := hj
    exact hold j (by omega)
  · intro i blk hg ht
    rcases layH_get _ _ _ _ _ hg with ⟨k, rfl, h2⟩ | ⟨h1, h2⟩
    · obtain ⟨i1, b1, h3, h4, h5⟩ := blksFit_get hfit h2
      obtain ⟨b, cap, h6, h7⟩ := q.rel.sh i1 b1 h4 ⟨0, trivial⟩
      refine ⟨b, cap, ?_, ?_⟩
      · unfold sgS; rw [rho_at h3]; exact h6
      · rw [sameB_sh h5]; exact h7
    · obtain ⟨b, cap, h3, h4⟩ := p.rel.sh i blk h2 ht
      exact ⟨b, cap, hsub _ _ h3, by rw [hsame b (hlive i blk b cap h2 ht h3)]; exact h4⟩
  · intro i blk o c b cap hg hct ht hi
    rcases layH_get _ _ _ _ _ hg with ⟨k, rfl, h2⟩ | ⟨h1, h2⟩
    · obtain ⟨i1, b1, h3, h4, h5⟩ := blksFit_get hfit h2
      obtain ⟨c', h6, h7⟩ := sameB_ct hcar h5 hct
      unfold sgS at hi; rw [rho_at h3] at hi
      exact h7 _ _ (q.rel.ct i1 b1 o c' b cap h4 h6 trivial hi)
    · rw [hold i h1] at hi
      rw [hsame b (hlive i blk b cap h2 ⟨o, ht⟩ hi)]
      exact (p.rel.ct i blk o c b cap h2 hct ht hi).mono hsub
  · intro i j bi bj b c c' hgi hgj hti htj hi hj
    rcases layH_get _ _ _ _ _ hgi with ⟨k, rfl, h2⟩ | ⟨h1, h2⟩
    · obtain ⟨i1, b1, h3, h4, h5⟩ := blksFit_get hfit h2
      unfold sgS at hi; rw [rho_at h3] at hi
      rcases layH_get _ _ _ _ _ hgj with ⟨k', rfl, h2'⟩ | ⟨h1', h2'⟩
      · obtain ⟨i2, b2, h3', h4', h5'⟩ := blksFit_get hfit h2'
        unfold sgS at hj; rw [rho_at h3'] at hj
        have := q.rel.inj i1 i2 b1 b2 b c c' h4 h4' ⟨0, trivial⟩ ⟨0, trivial⟩ hi hj
        subst this
        rw [apartIds_inj hap h3 h3']
      · rw [hold j h1'] at hj
        have := hlive j bj b c' h2' htj hj
        have := hnew i1 b c hi
        omega
    · rw [hold i h1] at hi
      rcases layH_get _ _ _ _ _ hgj with ⟨k', rfl, h2'⟩ | ⟨h1', h2'⟩
      · obtain ⟨i2, b2, h3', h4', h5'⟩ := blksFit_get hfit h2'
        unfold sgS at hj; rw [rho_at h3'] at hj
        have := hlive i bi b c h2 hti hi
        have := hnew i2 b c' hj
        omega
      · rw [hold j h1'] at hj
        exact p.rel.inj i j bi bj b c c' h2 h2' hti htj hi hj
  · intro b c e fz h
    obtain ⟨c', h1, h2, h3⟩ := q.fr.cells b c e fz h
    have hlt : b < w.heap.size := (Array.getElem?_eq_some_iff.1 h).1
    exact ⟨c', h1, h2, fun o _ => h3 o (hnc b o hlt)⟩
  · intro b es cl h
    obtain ⟨es', cl', h1, h2⟩ := q.fr.maps b es cl h
    have hlt : b < w.heap.size := (Array.getElem?_eq_some_iff.1 h).1
    exact ⟨es', cl', h1, fun _ => h2 (hnc b 0 hlt)⟩
  · intro b n Q s' r h
    obtain ⟨Q', s2, r2, h1, h2⟩ := q.fr.oth b n Q s' r h
    have hlt : b < w.heap.size := (Array.getElem?_eq_some_iff.1 h).1
    exact ⟨Q', s2, r2, h1, fun _ => h2 (hnc b 0 hlt)⟩
  · intro j b c h1 h2 h3
    cases e : rho s.base s.is j with
    | none =>
      unfold sgS at h3; rw [e] at h3
      have h2 : j < s.base + s.bs.length := h2
      rw [p.fresh j h1 (by omega)] at h3; cases h3
    | some i =>
      unfold sgS at h3; rw [e] at h3
      exact .inl (hnew i b c h3)
theorem sumS_le (ss : List Sum) (args : List AV) (g : G) : LeRes g (sumS ss args g) := by
  induction ss with
  | nil => trivial
  | cons s ss ih =>
    rw [sumS]
    split
    · rename_i h
      simp only [Bool.and_eq_true] at h
      rw [sumG_eq]
      exact ⟨_, sumG_le (of_ble h.2)⟩
    · exact ih
theorem sumS_sound {P : Program} {f : FuncId} {s0 : List AV → G → Res} (hs : CallSf P f s0) {ss : List Sum} (hf : ∀ s ∈ ss, s.fits (s0 s.args G.init) = true) : CallSf P f (sumS ss) := by
  induction ss with
  | nil => intro args g g' h; cases h
  | cons s ss ih =>
    intro args g g' h T hi σ w Args p hv
    simp only [sumS] at h ⊢
    split at h
    · rename_i h1
      simp only [Bool.and_eq_true] at h1
      rw [sumG_eq] at h
      injection h with h; subst h
      exact sumG_sound hs (hf s List.mem_cons_self) h1.1 (of_ble h1.2) p hv
    · rename_i h1
      exact ih (fun s hs => hf s (List.mem_cons_of_mem _ hs)) args g g' h T hi σ w Args p hv

/-! ### Environments from summaries -/
theorem EnvS.add {P : Program} {Γ : Env} (hΓ : EnvS P Γ) {f : FuncId} {s : List AV → G → Res} (hle : ∀ args g, LeRes g (s args g)) (hs : CallSf P f s) :
    EnvS P (fun k => match Nat.beq k f with | true => some s | false => Γ k) where
  le := fun k t h args g => by
    split at h
    · injection h with h; subst h; exact hle args g
    · exact hΓ.le k t h args g
  call := fun k t h => by
    split at h
    · rename_i e
      have := of_beq e; subst this
      injection h with h; subst h; exact hs
    · exact hΓ.call k t h
noncomputable def addS (f : FuncId) (ss : List Sum) (Γ : Env) : Env := fun k => match Nat.beq k f with | true => some (sumS ss) | false => Γ k
/-- a function's summaries, each seen by a run -/
theorem addS_ok {P : Program} {Γ Γ0 : Env} (hΓ : EnvS P Γ) (hP : PF2 P) (h0 : EnvS P Γ0) {f : FuncId} (hb : hasBody P f = true) {ss : List Sum}
    (h : ∀ s ∈ ss, ∃ n, s.fits (evF P Γ0 n (.call f s.args) G.init) = true) : EnvS P (addS f ss Γ) := by
  refine hΓ.add (sumS_le ss) ?_
  intro args g g' hg T hi σ w Args p hv
  induction ss with
  | nil => cases hg
  | cons s ss ih =>
    simp only [sumS] at hg ⊢
    split at hg
    · rename_i h1
      obtain ⟨n, hn⟩ := h s List.mem_cons_self
      simp only [Bool.and_eq_true] at h1
      rw [sumG_eq] at hg
      injection hg with hg; subst hg
      exact sumG_sound ((evF_sound hP h0 n).call f hb) hn h1.1 (of_ble h1.2) p hv
    · rename_i h1
      exact ih (fun s hs => h s (List.mem_cons_of_mem _ hs)) hg
/-- do they all fit one run? -/
noncomputable def fitAll : List Sum → Res → Bool
  | [], _ => true
  | s :: ss, r => s.fits r && fitAll ss r
theorem fitAll_cons (s : Sum) (ss : List Sum) (r : Res) : fitAll (s :: ss) r = (s.fits r && fitAll ss r) := rfl
theorem fitAll_mem {r : Res} {ss : List Sum} (h : fitAll ss r = true) : ∀ s ∈ ss, s.fits r = true := by
  induction ss with
  | nil => intro s hs; cases hs
  | cons s ss ih =>
    rw [fitAll_cons, Bool.and_eq_true] at h
    intro t ht
    rcases List.mem_cons.1 ht with e | ht
    · rw [e]; exact h.1
    · exact ih h.2 t ht
/-- a function's summaries, seen by one run -/
theorem addS_one {P : Program} {Γ Γ0 : Env} (hΓ : EnvS P Γ) (hP : PF2 P) (h0 : EnvS P Γ0) {f : FuncId} (hb : hasBody P f = true) {n : Nat} {args : List AV} {ss : List Sum} (ha : ∀ s ∈ ss, s.args = args)
    (h : fitAll ss (evF P Γ0 n (.call f args) G.init) = true) : EnvS P (addS f ss Γ) :=
  addS_ok hΓ hP h0 hb fun s hs => ⟨n, by rw [ha s hs]; exact fitAll_mem h s hs⟩
end Go.Ev

namespace Go.Ev
open Go

def G.asks (orc : List Bool) : G := { heap := .lf, next := 0, log := [], orc := orc, obl := [] }
/-- a call from nothing: what it returns, and all else is still -/
theorem args_run {P : Program} {Γ : Env} (hP : PF2 P) (hΓ : EnvS P Γ) {n : Nat} {f : FuncId} (hb : hasBody P f = true) {args : List AV} {orc : List Bool} {v : AV} {g' : G}
    (h1 : evF P Γ n (.call f args) (G.asks orc) = .val v g') (ho : Owes g') {Args : Array Value} (hv : VRs (fun _ => none) args Args.toList) (w : World) :
    Calls P f Args w fun e w' => (∃ V σ, e = .returned V ∧ VR σ v V) ∧ Still w w' := by
  have hs := (evF_sound hP hΓ n).call f hb args (G.asks orc) g' (by show (evF P Γ n (.call f args) (G.asks orc)).g? = _; rw [h1]; rfl) (fun _ _ => True) g'.next (fun _ => none) w Args
    { rel := ⟨fun i blk hg => (by cases hg), fun i blk o c b cap hg => (by cases hg), fun i j bi bj b c c' hg => (by cases hg)⟩
      fresh := fun _ _ _ => rfl
      hi := Nat.le_refl _
      inT := fun _ _ _ _ _ _ => trivial
      owes := ho } hv
  refine hs.mono fun e w' hw => ?_
  simp only [CallR, h1] at hw
  obtain ⟨σ', L, V, hp, rfl, hV⟩ := hw
  refine ⟨⟨V, σ', rfl, hV⟩, hp.fr.still fun b o hb hc => ?_⟩
  obtain ⟨i, c, hi, _⟩ := hc
  by_cases hlt : i < g'.next
  · rcases hp.nw i b c (Nat.zero_le _) hlt hi with h3 | ⟨_, _, _, h4⟩
    · omega
    · cases h4
  · rw [hp.ext i (.inr (by omega))] at hi; cases hi
/-- a call from nothing that says yes, and owes nothing -/
theorem args_yes {P : Program} {Γ : Env} (hP : PF2 P) (hΓ : EnvS P Γ) {n : Nat} {f : FuncId} (hb : hasBody P f = true) {args : List AV}
    (h : (evF P Γ n (.call f args) G.init).yes = true) {Args : Array Value} (hv : VRs (fun _ => none) args Args.toList) (w : World) :
    Calls P f Args w fun e w' => e = .returned (.bool true) ∧ Still w w' := by
  obtain ⟨g', h1, h2⟩ := Res.yes_spec h
  refine (args_run (orc := []) hP hΓ hb h1 (fun p hp => by rw [h2] at hp; cases hp) hv w).mono fun e w' ⟨⟨V, σ, he, hV⟩, hs⟩ => ?_
  cases hV
  exact ⟨he, hs⟩
end Go.Ev
