/-
  A part of the evaluator of the program's code, or of what it was seen to do; its statements are Lean's own. No condition.
-/
import Derived.Test.YthclecbbebelhaaGreatEvFast
namespace Go.Ev
open Go

/-! ### Branches that only reckon: both are reckoned, and joined -/
noncomputable section
/-- an operation that only reckons with whole numbers -/
def pureOp (tm : Ts AV) (op : Op) : Option AV := match op with
  | .move x => opnd tm x
  | .assign x => opnd tm x
  | .binOp op _ x y _ => match opnd tm x with
    | some a => match opnd tm y with
      | some b => match arith op a b with
        | some v => match concOf op a b v with
          | some _ => none
          | none => some v
        | none => none
      | none => none
    | none => none
  | .unOp op _ x => match opnd tm x with
    | some a => unA op a
    | none => none
  | _ => none
def pureOps : List Oper → Ts AV → Option (Ts AV)
  | [], tm => some tm
  | o :: os, tm => match o.guard with
    | none => match pureOp tm o.op with
      | some v => putK tm o.dst v fun tm => pureOps os tm
      | none => none
    | some _ => none
def pureC : Code → Ts AV → Option (Ts AV)
  | .skip, tm => some tm
  | .region _ ops draw, tm => match draw with
    | false => pureOps ops.toList tm
    | true => none
  | .seq a b, tm => match pureC a tm with
    | some tm => pureC b tm
    | none => none
  | _, _ => none
def dstsL : List Oper → List Tmp
  | [] => []
  | o :: os => match o.dst with
    | some d => d :: dstsL os
    | none => dstsL os
def dstsC : Code → List Tmp
  | .region _ ops _ => dstsL ops.toList
  | .seq a b => dstsC a ++ dstsC b
  | _ => []
/-- is the code of this kind? -/
def flatOp (o : Oper) : Bool := match o.guard with
  | none => match o.op with
    | .move _ => true
    | .assign _ => true
    | .binOp _ _ _ _ _ => true
    | .unOp _ _ _ => true
    | _ => false
  | some _ => false
def flatL : List Oper → Bool
  | [] => true
  | o :: os => flatOp o && flatL os
def flatC : Code → Bool
  | .skip => true
  | .region _ ops draw => match draw with
    | false => flatL ops.toList
    | true => false
  | .seq a b => flatC a && flatC b
  | _ => false
/-- what is read behind was there before, or was laid -/
theorem putK_get {tm : Ts AV} {d : Option Tmp} {v x : AV} {t : Nat} (h : (putK tm d v id).get t = some x) (hd : ∀ k, d = some k → t ≠ k) : tm.get t = some x := by
  cases d with
  | none => exact h
  | some k =>
    have h : (Ts.setK tm k v id).get t = some x := h
    rw [Ts.setK_eq] at h
    rcases Ts.get_set h with ⟨rfl, _⟩ | ⟨_, h⟩
    · exact absurd rfl (hd _ rfl)
    · exact h
theorem look_lay_keep {α : Type} (t : Ts α) (a b c a' b' c' : D8) (v x : α) (h : ¬ (a' = a ∧ b' = b ∧ c' = c)) (hx : look t a' b' c' = some x) : look (lay3 t a b c v) a' b' c' = some x := by
  unfold look at hx
  cases ht : t.at a' with
  | none => rw [ht] at hx; cases hx
  | some u =>
    rw [ht] at hx
    simp only at hx
    cases hu : u.at b' with
    | none => rw [hu] at hx; cases hx
    | some w =>
      rw [hu] at hx
      simp only at hx
      cases hw : w.at c' with
      | none => rw [hw] at hx; cases hx
      | some y =>
        rw [hw] at hx
        simp only at hx
        subst hx
        have n1 : t ≠ .e := fun e => by rw [e, at_e] at ht; cases ht
        have n2 : u ≠ .e := fun e => by rw [e, at_e] at hu; cases hu
        have n3 : w ≠ .e := fun e => by rw [e, at_e] at hw; cases hw
        unfold look lay3
        by_cases ha : a' = a
        · subst ha
          simp only [at_lay_same, ht, Option.getD_some]
          by_cases hb : b' = b
          · subst hb
            simp only [at_lay_same, hu, Option.getD_some]
            have hc : c' ≠ c := fun e => h ⟨rfl, rfl, e⟩
            rw [at_lay_ne _ _ _ _ _ hc]
            cases w with
            | e => exact absurd rfl n3
            | n => simp only [hw]
          · rw [at_lay_ne _ _ _ _ _ hb]
            cases u with
            | e => exact absurd rfl n2
            | n => simp only [hu, hw]
        · rw [at_lay_ne _ _ _ _ _ ha]
          cases t with
          | e => exact absurd rfl n1
          | n => simp only [ht, hu, hw]
theorem get_set_keep {α : Type} {t : Ts α} {n m : Nat} {v x : α} (hne : m ≠ n) (h : Ts.get t m = some x) : Ts.get (Ts.set t n v) m = some x := by
  unfold Ts.set Ts.setK acc
  unfold Ts.get acc at h ⊢
  cases hm : Nat.ble m 511 with
  | false => rw [hm] at h; cases h
  | true =>
    rw [hm] at h
    obtain ⟨gm, sm, em, hgm, _⟩ := accAt_spec (α := α) (dig (Nat.div m 64)) (dig (Nat.mod (Nat.div m 8) 8)) (dig (Nat.mod m 8))
    simp only [em, hgm] at h ⊢
    have hm' : m ≤ 511 := Nat.le_of_ble_eq_true hm
    cases hn : Nat.ble n 511 with
    | false => exact h
    | true =>
      obtain ⟨gn, sn, en, _, hsn⟩ := accAt_spec (α := α) (dig (Nat.div n 64)) (dig (Nat.mod (Nat.div n 8) 8)) (dig (Nat.mod n 8))
      simp only [en, hsn, id]
      have hn' : n ≤ 511 := Nat.le_of_ble_eq_true hn
      refine look_lay_keep _ _ _ _ _ _ _ _ _ ?_ h
      rintro ⟨h1, h2, h3⟩
      have q1 : m / 64 = n / 64 := dig_inj (by omega) (by omega) h1
      have q2 : m / 8 % 8 = n / 8 % 8 := dig_inj (by omega) (by omega) h2
      have q3 : m % 8 = n % 8 := dig_inj (by omega) (by omega) h3
      exact hne (by omega)
theorem putK_keep {tm : Ts AV} {d : Option Tmp} {v x : AV} {t : Nat} (h : tm.get t = some x) (hd : ∀ k, d = some k → t ≠ k) : (putK tm d v id).get t = some x := by
  cases d with
  | none => exact h
  | some k =>
    show (Ts.setK tm k v id).get t = some x
    rw [Ts.setK_eq]
    exact get_set_keep (hd _ rfl) h
theorem pureOps_keep : ∀ (l : List Oper) (tm tm' : Ts AV), pureOps l tm = some tm' → ∀ t x, t ∉ dstsL l → tm.get t = some x → tm'.get t = some x
  | [], tm, tm', h, t, x, _, hx => by simp only [pureOps] at h; injection h with h; subst h; exact hx
  | o :: os, tm, tm', h, t, x, hn, hx => by
    unfold pureOps at h
    split at h
    · split at h
      · rename_i v hv
        rw [putK_eq] at h
        have hn' : t ∉ dstsL os ∧ ∀ k, o.dst = some k → t ≠ k := by
          unfold dstsL at hn
          cases hd : o.dst with
          | none => rw [hd] at hn; exact ⟨hn, fun k hk => by cases hk⟩
          | some d =>
            rw [hd] at hn
            simp only [List.mem_cons, not_or] at hn
            exact ⟨hn.2, fun k hk => by injection hk with hk; subst hk; exact hn.1⟩
        exact pureOps_keep os _ tm' h t x hn'.1 (putK_keep hx hn'.2)
      · cases h
    · cases h
theorem pureC_keep : ∀ (c : Code) (tm tm' : Ts AV), pureC c tm = some tm' → ∀ t x, t ∉ dstsC c → tm.get t = some x → tm'.get t = some x
  | .skip, tm, tm', h, t, x, _, hx => by simp only [pureC] at h; injection h with h; subst h; exact hx
  | .region id ops draw, tm, tm', h, t, x, hn, hx => by
    simp only [pureC] at h
    cases draw with
    | true => cases h
    | false => exact pureOps_keep _ _ _ h t x hn hx
  | .seq a b, tm, tm', h, t, x, hn, hx => by
    simp only [pureC] at h
    cases ha : pureC a tm with
    | none => rw [ha] at h; cases h
    | some tm1 =>
      rw [ha] at h
      simp only [dstsC, List.mem_append, not_or] at hn
      exact pureC_keep b tm1 tm' h t x hn.2 (pureC_keep a tm tm1 ha t x hn.1 hx)
  | .cond .., _, _, h, _, _, _, _ => by simp [pureC] at h
  | .block .., _, _, h, _, _, _, _ => by simp [pureC] at h
  | .loop .., _, _, h, _, _, _, _ => by simp [pureC] at h
  | .rangeFunc .., _, _, h, _, _, _, _ => by simp [pureC] at h
  | .exit .., _, _, h, _, _, _, _ => by simp [pureC] at h
  | .scope .., _, _, h, _, _, _, _ => by simp [pureC] at h
  | .label .., _, _, h, _, _, _, _ => by simp [pureC] at h
  | .goto .., _, _, h, _, _, _, _ => by simp [pureC] at h
  | .ret, _, _, h, _, _, _, _ => by simp [pureC] at h
  | .refuse .., _, _, h, _, _, _, _ => by simp [pureC] at h
/-- two values, one of which it is -/
def joinV (s : Bool) (a b : AV) : Option AV := match a with
  | .int k n => match b with
    | .int k' m => match sameK k k' with
      | true => some (.sint k (Bool.rec (motive := fun _ => Int) m n s))
      | false => none
    | .sint k' m => match sameK k k' with
      | true => some (.sint k (Bool.rec (motive := fun _ => Int) m n s))
      | false => none
    | _ => none
  | .sint k n => match b with
    | .int k' m => match sameK k k' with
      | true => some (.sint k (Bool.rec (motive := fun _ => Int) m n s))
      | false => none
    | .sint k' m => match sameK k k' with
      | true => some (.sint k (Bool.rec (motive := fun _ => Int) m n s))
      | false => none
    | _ => none
  | _ => none
theorem joinV_true {σ : Sg} {a b v : AV} {V : Value} (h : joinV true a b = some v) (hv : VR σ a V) : VR σ v V := by
  unfold joinV at h
  cases a <;> simp only at h <;> first | (cases h; done) | skip
  all_goals
    cases b <;> simp only at h <;> first | (cases h; done) | skip
    all_goals
      split at h
      · injection h with h; subst h; cases hv; exact .sint _ _
      · cases h
theorem joinV_false {σ : Sg} {a b v : AV} {V : Value} (h : joinV false a b = some v) (hv : VR σ b V) : VR σ v V := by
  unfold joinV at h
  cases a <;> simp only at h <;> first | (cases h; done) | skip
  all_goals
    cases b <;> simp only at h <;> first | (cases h; done) | skip
    all_goals
      split at h
      · rename_i e
        have := sameK_eq e
        subst this
        injection h with h; subst h; cases hv; exact .sint _ _
      · cases h
/-- the slots that either branch laid: joined; a slot that one branch alone has, and that was empty before, is forgotten -/
def joinT (s : Bool) (tm tm1 tm2 : Ts AV) : List Tmp → Ts AV → Option (Ts AV)
  | [], acc => some acc
  | d :: ds, acc => match tm1.get d, tm2.get d with
    | some a, some b => match joinV s a b with
      | some v => Ts.setK acc d v fun acc => joinT s tm tm1 tm2 ds acc
      | none => none
    | _, _ => match tm.get d with
      | none => joinT s tm tm1 tm2 ds acc
      | some _ => none
theorem joinT_get {s : Bool} {tm tm1 tm2 : Ts AV} : ∀ (ds : List Tmp) (acc r : Ts AV), joinT s tm tm1 tm2 ds acc = some r → ∀ t x, r.get t = some x →
    (t ∈ ds ∧ ∃ a b, tm1.get t = some a ∧ tm2.get t = some b ∧ joinV s a b = some x) ∨ (acc.get t = some x ∧ (t ∈ ds → tm.get t = none))
  | [], acc, r, h, t, x, hx => by
    simp only [joinT] at h; injection h with h; subst h
    exact .inr ⟨hx, fun h => by cases h⟩
  | d :: ds, acc, r, h, t, x, hx => by
    unfold joinT at h
    split at h
    · rename_i a b ha hb
      split at h
      · rename_i v hv
        rw [Ts.setK_eq] at h
        rcases joinT_get ds _ r h t x hx with ⟨h1, h2⟩ | ⟨h1, h2⟩
        · exact .inl ⟨List.mem_cons_of_mem _ h1, h2⟩
        · rcases Ts.get_set h1 with ⟨rfl, rfl⟩ | ⟨hne, h3⟩
          · exact .inl ⟨List.mem_cons_self, a, b, ha, hb, hv⟩
          · refine .inr ⟨h3, fun hm => ?_⟩
            rcases List.mem_cons.1 hm with rfl | hm
            · exact absurd rfl hne
            · exact h2 hm
      · cases h
    · split at h
      · rename_i hn
        rcases joinT_get ds _ r h t x hx with ⟨h1, h2⟩ | ⟨h1, h2⟩
        · exact .inl ⟨List.mem_cons_of_mem _ h1, h2⟩
        · refine .inr ⟨h1, fun hm => ?_⟩
          rcases List.mem_cons.1 hm with rfl | hm
          · exact hn
          · exact h2 hm
      · cases h
def joinC (s : Bool) (a b : Code) (tm : Ts AV) : Option (Ts AV) := match pureC a tm with
  | some tm1 => match pureC b tm with
    | some tm2 => joinT s tm tm1 tm2 (dstsC a ++ dstsC b) tm
    | none => none
  | none => none
theorem joinC_spec {s : Bool} {a b : Code} {tm tm3 : Ts AV} (h : joinC s a b tm = some tm3) : ∃ tm1 tm2, pureC a tm = some tm1 ∧ pureC b tm = some tm2 ∧
    (s = true → ∀ σ tmps, TR σ tm1 tmps → TR σ tm3 tmps) ∧ (s = false → ∀ σ tmps, TR σ tm2 tmps → TR σ tm3 tmps) := by
  unfold joinC at h
  cases ha : pureC a tm with
  | none => rw [ha] at h; cases h
  | some tm1 =>
    rw [ha] at h
    cases hb : pureC b tm with
    | none => rw [hb] at h; cases h
    | some tm2 =>
      rw [hb] at h
      simp only at h
      refine ⟨tm1, tm2, rfl, rfl, fun hs σ tmps ht t x hx => ?_, fun hs σ tmps ht t x hx => ?_⟩
      · rcases joinT_get _ _ _ h t x hx with ⟨_, u, v, h1, h2, h3⟩ | ⟨h1, h2⟩
        · subst hs
          obtain ⟨V, e1, e2⟩ := ht t u h1
          exact ⟨V, e1, joinV_true h3 e2⟩
        · by_cases hm : t ∈ dstsC a ++ dstsC b
          · rw [h2 hm] at h1; cases h1
          · exact ht t x (pureC_keep a tm tm1 ha t x (fun h => hm (List.mem_append_left _ h)) h1)
      · rcases joinT_get _ _ _ h t x hx with ⟨_, u, v, h1, h2, h3⟩ | ⟨h1, h2⟩
        · subst hs
          obtain ⟨V, e1, e2⟩ := ht t v h2
          exact ⟨V, e1, joinV_false h3 e2⟩
        · by_cases hm : t ∈ dstsC a ++ dstsC b
          · rw [h2 hm] at h1; cases h1
          · exact ht t x (pureC_keep b tm tm2 hb t x (fun h => hm (List.mem_append_right _ h)) h1)
end
end Go.Ev
