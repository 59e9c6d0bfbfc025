/-
  The temporaries of a frame: a tree of fan-out eight and depth three, its paths made once for each slot.
-/
namespace Go.Ev

inductive O8 (α : Type) where
  | e
  | n (a b c d f g h i : α)
inductive D8 where
  | d0 | d1 | d2 | d3 | d4 | d5 | d6 | d7
/-- reads the child; sets the child -/
abbrev Get8 : Type 1 := ∀ (α β : Type), β → (α → β) → O8 α → β
abbrev Set8 : Type 1 := ∀ (α β V : Type), α → (α → V → (α → β) → β) → O8 α → V → (O8 α → β) → β
noncomputable section
def g0 : Get8 := fun _ β z nx t => O8.rec (motive := fun _ => β) z (fun a _ _ _ _ _ _ _ => nx a) t
def g1 : Get8 := fun _ β z nx t => O8.rec (motive := fun _ => β) z (fun _ a _ _ _ _ _ _ => nx a) t
def g2 : Get8 := fun _ β z nx t => O8.rec (motive := fun _ => β) z (fun _ _ a _ _ _ _ _ => nx a) t
def g3 : Get8 := fun _ β z nx t => O8.rec (motive := fun _ => β) z (fun _ _ _ a _ _ _ _ => nx a) t
def g4 : Get8 := fun _ β z nx t => O8.rec (motive := fun _ => β) z (fun _ _ _ _ a _ _ _ => nx a) t
def g5 : Get8 := fun _ β z nx t => O8.rec (motive := fun _ => β) z (fun _ _ _ _ _ a _ _ => nx a) t
def g6 : Get8 := fun _ β z nx t => O8.rec (motive := fun _ => β) z (fun _ _ _ _ _ _ a _ => nx a) t
def g7 : Get8 := fun _ β z nx t => O8.rec (motive := fun _ => β) z (fun _ _ _ _ _ _ _ a => nx a) t
def s0 : Set8 := fun _ β _ z nx t v k => O8.rec (motive := fun _ => β) (nx z v fun x => k (.n x z z z z z z z)) (fun a b c d f g h i => nx a v fun x => k (.n x b c d f g h i)) t
def s1 : Set8 := fun _ β _ z nx t v k => O8.rec (motive := fun _ => β) (nx z v fun x => k (.n z x z z z z z z)) (fun a b c d f g h i => nx b v fun x => k (.n a x c d f g h i)) t
def s2 : Set8 := fun _ β _ z nx t v k => O8.rec (motive := fun _ => β) (nx z v fun x => k (.n z z x z z z z z)) (fun a b c d f g h i => nx c v fun x => k (.n a b x d f g h i)) t
def s3 : Set8 := fun _ β _ z nx t v k => O8.rec (motive := fun _ => β) (nx z v fun x => k (.n z z z x z z z z)) (fun a b c d f g h i => nx d v fun x => k (.n a b c x f g h i)) t
def s4 : Set8 := fun _ β _ z nx t v k => O8.rec (motive := fun _ => β) (nx z v fun x => k (.n z z z z x z z z)) (fun a b c d f g h i => nx f v fun x => k (.n a b c d x g h i)) t
def s5 : Set8 := fun _ β _ z nx t v k => O8.rec (motive := fun _ => β) (nx z v fun x => k (.n z z z z z x z z)) (fun a b c d f g h i => nx g v fun x => k (.n a b c d f x h i)) t
def s6 : Set8 := fun _ β _ z nx t v k => O8.rec (motive := fun _ => β) (nx z v fun x => k (.n z z z z z z x z)) (fun a b c d f g h i => nx h v fun x => k (.n a b c d f g x i)) t
def s7 : Set8 := fun _ β _ z nx t v k => O8.rec (motive := fun _ => β) (nx z v fun x => k (.n z z z z z z z x)) (fun a b c d f g h i => nx i v fun x => k (.n a b c d f g h x)) t
def pick {R : Type 1} (d : D8) (k : Get8 → Set8 → R) : R := D8.rec (motive := fun _ => R)
  (k (fun _ β z nx t => O8.rec (motive := fun _ => β) z (fun a _ _ _ _ _ _ _ => nx a) t)
    (fun _ β _ z nx t v k => O8.rec (motive := fun _ => β) (nx z v fun x => k (.n x z z z z z z z)) (fun a b c d f g h i => nx a v fun x => k (.n x b c d f g h i)) t))
  (k (fun _ β z nx t => O8.rec (motive := fun _ => β) z (fun _ a _ _ _ _ _ _ => nx a) t)
    (fun _ β _ z nx t v k => O8.rec (motive := fun _ => β) (nx z v fun x => k (.n z x z z z z z z)) (fun a b c d f g h i => nx b v fun x => k (.n a x c d f g h i)) t))
  (k (fun _ β z nx t => O8.rec (motive := fun _ => β) z (fun _ _ a _ _ _ _ _ => nx a) t)
    (fun _ β _ z nx t v k => O8.rec (motive := fun _ => β) (nx z v fun x => k (.n z z x z z z z z)) (fun a b c d f g h i => nx c v fun x => k (.n a b x d f g h i)) t))
  (k (fun _ β z nx t => O8.rec (motive := fun _ => β) z (fun _ _ _ a _ _ _ _ => nx a) t)
    (fun _ β _ z nx t v k => O8.rec (motive := fun _ => β) (nx z v fun x => k (.n z z z x z z z z)) (fun a b c d f g h i => nx d v fun x => k (.n a b c x f g h i)) t))
  (k (fun _ β z nx t => O8.rec (motive := fun _ => β) z (fun _ _ _ _ a _ _ _ => nx a) t)
    (fun _ β _ z nx t v k => O8.rec (motive := fun _ => β) (nx z v fun x => k (.n z z z z x z z z)) (fun a b c d f g h i => nx f v fun x => k (.n a b c d x g h i)) t))
  (k (fun _ β z nx t => O8.rec (motive := fun _ => β) z (fun _ _ _ _ _ a _ _ => nx a) t)
    (fun _ β _ z nx t v k => O8.rec (motive := fun _ => β) (nx z v fun x => k (.n z z z z z x z z)) (fun a b c d f g h i => nx g v fun x => k (.n a b c d f x h i)) t))
  (k (fun _ β z nx t => O8.rec (motive := fun _ => β) z (fun _ _ _ _ _ _ a _ => nx a) t)
    (fun _ β _ z nx t v k => O8.rec (motive := fun _ => β) (nx z v fun x => k (.n z z z z z z x z)) (fun a b c d f g h i => nx h v fun x => k (.n a b c d f g x i)) t))
  (k (fun _ β z nx t => O8.rec (motive := fun _ => β) z (fun _ _ _ _ _ _ _ a => nx a) t)
    (fun _ β _ z nx t v k => O8.rec (motive := fun _ => β) (nx z v fun x => k (.n z z z z z z z x)) (fun a b c d f g h i => nx i v fun x => k (.n a b c d f g h x)) t)) d
def dig (n : Nat) : D8 := match n with
  | 0 => .d0 | 1 => .d1 | 2 => .d2 | 3 => .d3 | 4 => .d4 | 5 => .d5 | 6 => .d6 | _ => .d7
def D8.val : D8 → Nat
  | .d0 => 0 | .d1 => 1 | .d2 => 2 | .d3 => 3 | .d4 => 4 | .d5 => 5 | .d6 => 6 | .d7 => 7
abbrev Ts (α : Type) := O8 (O8 (O8 (Option α)))
inductive Acc (α : Type) : Type 1 where
  | mk (get : Ts α → Option α) (set : ∀ (β : Type), Ts α → α → (Ts α → β) → β)
def leaf (α β : Type) : Option α → α → (Option α → β) → β := fun _ v k => k (some v)
def accAt (α : Type) (a b c : D8) : Acc α := pick a fun ga sa => pick b fun gb sb => pick c fun gc sc =>
  .mk (ga _ _ none (gb _ _ none (gc _ _ none fun x => x))) (fun β => sa _ β α .e (sb _ β α .e (sc _ β α none (leaf α β))))
def accNo (α : Type) : Acc α := .mk (fun _ => none) (fun _ t _ k => k t)
def acc (α : Type) (n : Nat) : Acc α := Bool.rec (motive := fun _ => Acc α) (accNo α) (accAt α (dig (Nat.div n 64)) (dig (Nat.mod (Nat.div n 8) 8)) (dig (Nat.mod n 8))) (Nat.ble n 511)
def Acc.get {α : Type} : Acc α → Ts α → Option α
  | .mk g _ => g
def Acc.set {α : Type} : Acc α → (β : Type) → Ts α → α → (Ts α → β) → β
  | .mk _ s => s
def Ts.get {α : Type} (t : Ts α) (n : Nat) : Option α := Acc.rec (motive := fun _ => Option α) (fun g _ => g t) (acc α n)
def Ts.setK {α β : Type} (t : Ts α) (n : Nat) (v : α) (k : Ts α → β) : β := Acc.rec (motive := fun _ => β) (fun _ s => s β t v k) (acc α n)
def Ts.set {α : Type} (t : Ts α) (n : Nat) (v : α) : Ts α := Ts.setK t n v id
end

/-! ### The laws -/
section
variable {α β : Type}
def O8.at (t : O8 α) (d : D8) : Option α := match t, d with
  | .e, _ => none
  | .n a _ _ _ _ _ _ _, .d0 => some a
  | .n _ a _ _ _ _ _ _, .d1 => some a
  | .n _ _ a _ _ _ _ _, .d2 => some a
  | .n _ _ _ a _ _ _ _, .d3 => some a
  | .n _ _ _ _ a _ _ _, .d4 => some a
  | .n _ _ _ _ _ a _ _, .d5 => some a
  | .n _ _ _ _ _ _ a _, .d6 => some a
  | .n _ _ _ _ _ _ _ a, .d7 => some a
noncomputable def O8.lay (z : α) (t : O8 α) (d : D8) (x : α) : O8 α := match d with
  | .d0 => s0 α _ Unit z (fun _ _ k => k x) t () id
  | .d1 => s1 α _ Unit z (fun _ _ k => k x) t () id
  | .d2 => s2 α _ Unit z (fun _ _ k => k x) t () id
  | .d3 => s3 α _ Unit z (fun _ _ k => k x) t () id
  | .d4 => s4 α _ Unit z (fun _ _ k => k x) t () id
  | .d5 => s5 α _ Unit z (fun _ _ k => k x) t () id
  | .d6 => s6 α _ Unit z (fun _ _ k => k x) t () id
  | .d7 => s7 α _ Unit z (fun _ _ k => k x) t () id
theorem at_lay_same (z : α) (t : O8 α) (d : D8) (x : α) : (O8.lay z t d x).at d = some x := by
  cases d <;> cases t <;> rfl
theorem at_lay_ne (z : α) (t : O8 α) (d e : D8) (x : α) (h : e ≠ d) : (O8.lay z t d x).at e = match t with | .e => some z | t => t.at e := by
  cases d <;> cases e <;> first | exact absurd rfl h | (cases t <;> rfl)
/-- what the chosen reader and writer do -/
theorem pick_get {R : Type 1} (d : D8) (k : Get8 → Set8 → R) : ∃ (g : Get8) (s : Set8), pick d k = k g s ∧ (∀ (α β : Type) z nx (t : O8 α), g α β z nx t = match t.at d with | some a => nx a | none => z) ∧
    (∀ (α β V : Type) z nx (t : O8 α) v k', s α β V z nx t v k' = nx ((t.at d).getD z) v fun x => k' (O8.lay z t d x)) := by
  cases d
  · exact ⟨g0, s0, rfl, fun α β z nx t => by cases t <;> rfl, fun α β V z nx t v k' => by cases t <;> rfl⟩
  · exact ⟨g1, s1, rfl, fun α β z nx t => by cases t <;> rfl, fun α β V z nx t v k' => by cases t <;> rfl⟩
  · exact ⟨g2, s2, rfl, fun α β z nx t => by cases t <;> rfl, fun α β V z nx t v k' => by cases t <;> rfl⟩
  · exact ⟨g3, s3, rfl, fun α β z nx t => by cases t <;> rfl, fun α β V z nx t v k' => by cases t <;> rfl⟩
  · exact ⟨g4, s4, rfl, fun α β z nx t => by cases t <;> rfl, fun α β V z nx t v k' => by cases t <;> rfl⟩
  · exact ⟨g5, s5, rfl, fun α β z nx t => by cases t <;> rfl, fun α β V z nx t v k' => by cases t <;> rfl⟩
  · exact ⟨g6, s6, rfl, fun α β z nx t => by cases t <;> rfl, fun α β V z nx t v k' => by cases t <;> rfl⟩
  · exact ⟨g7, s7, rfl, fun α β z nx t => by cases t <;> rfl, fun α β V z nx t v k' => by cases t <;> rfl⟩
/-- the three children on the way -/
def look (t : Ts α) (a b c : D8) : Option α := match t.at a with
  | some u => match u.at b with
    | some w => match w.at c with
      | some x => x
      | none => none
    | none => none
  | none => none
noncomputable def lay3 (t : Ts α) (a b c : D8) (v : α) : Ts α :=
  let u := (t.at a).getD .e
  let w := (u.at b).getD .e
  O8.lay .e t a (O8.lay .e u b (O8.lay none w c (some v)))
theorem accAt_spec (a b c : D8) : ∃ (g : Ts α → Option α) (s : ∀ (β : Type), Ts α → α → (Ts α → β) → β), accAt α a b c = .mk g s ∧ (∀ t, g t = look t a b c) ∧ (∀ (β : Type) t v k, s β t v k = k (lay3 t a b c v)) := by
  unfold accAt
  obtain ⟨ga, sa, e1, h1, h2⟩ := pick_get a (fun ga sa => pick b fun gb sb => pick c fun gc sc => (.mk (ga _ _ none (gb _ _ none (gc _ _ none fun x => x))) (fun β => sa _ β α .e (sb _ β α .e (sc _ β α none (leaf α β)))) : Acc α))
  obtain ⟨gb, sb, e2, h3, h4⟩ := pick_get b (fun gb sb => pick c fun gc sc => (.mk (ga _ _ none (gb _ _ none (gc _ _ none fun x => x))) (fun β => sa _ β α .e (sb _ β α .e (sc _ β α none (leaf α β)))) : Acc α))
  obtain ⟨gc, sc, e3, h5, h6⟩ := pick_get c (fun gc sc => (.mk (ga _ _ none (gb _ _ none (gc _ _ none fun x => x))) (fun β => sa _ β α .e (sb _ β α .e (sc _ β α none (leaf α β)))) : Acc α))
  rw [e1, e2, e3]
  refine ⟨_, _, rfl, fun t => ?_, fun β t v k => ?_⟩
  · rw [h1]; unfold look
    cases t.at a with
    | none => rfl
    | some u =>
      simp only
      rw [h3]
      cases u.at b with
      | none => rfl
      | some w =>
        simp only
        rw [h5]
        cases w.at c <;> rfl
  · rw [h2, h4, h6]; rfl
theorem look_lay_same (t : Ts α) (a b c : D8) (v : α) : look (lay3 t a b c v) a b c = some v := by
  unfold look lay3
  simp only [at_lay_same]
theorem at_e (d : D8) : (O8.e : O8 α).at d = none := by cases d <;> rfl
theorem look_lay_ne (t : Ts α) (a b c a' b' c' : D8) (v x : α) (h : ¬ (a' = a ∧ b' = b ∧ c' = c)) (hx : look (lay3 t a b c v) a' b' c' = some x) : look t a' b' c' = some x := by
  unfold look lay3 at *
  by_cases ha : a' = a
  · subst ha
    simp only [at_lay_same] at hx
    by_cases hb : b' = b
    · subst hb
      simp only [at_lay_same] at hx
      have hc : c' ≠ c := fun e => h ⟨rfl, rfl, e⟩
      rw [at_lay_ne _ _ _ _ _ hc] at hx
      cases ht : t.at a' with
      | none => rw [ht] at hx; simp only [Option.getD_none, at_e] at hx; cases hx
      | some u =>
        rw [ht] at hx
        simp only [Option.getD_some] at hx ⊢
        cases hu : u.at b' with
        | none => rw [hu] at hx; simp only [Option.getD_none] at hx; cases hx
        | some w =>
          rw [hu] at hx
          simp only [Option.getD_some] at hx ⊢
          cases w with
          | e => simp only at hx; cases hx
          | n => exact hx
    · rw [at_lay_ne _ _ _ _ _ hb] at hx
      cases ht : t.at a' with
      | none => rw [ht] at hx; simp only [Option.getD_none, at_e] at hx; cases hx
      | some u =>
        rw [ht] at hx
        simp only [Option.getD_some] at hx ⊢
        cases u with
        | e => simp only [at_e] at hx; cases hx
        | n => exact hx
  · rw [at_lay_ne _ _ _ _ _ ha] at hx
    cases t with
    | e => simp only [at_e] at hx; cases hx
    | n => exact hx
theorem dig_inj {m n : Nat} (hm : m < 8) (hn : n < 8) (h : dig m = dig n) : m = n := by
  have key : ∀ k, k < 8 → (dig k).val = k := by decide
  rw [← key m hm, ← key n hn, h]
theorem Ts.setK_eq (t : Ts α) (n : Nat) (v : α) (k : Ts α → β) : Ts.setK t n v k = k (Ts.set t n v) := by
  unfold Ts.set Ts.setK acc
  cases Nat.ble n 511 with
  | false => rfl
  | true =>
    obtain ⟨g, s, e, _, h⟩ := accAt_spec (α := α) (dig (Nat.div n 64)) (dig (Nat.mod (Nat.div n 8) 8)) (dig (Nat.mod n 8))
    simp only [e, h]; rfl
theorem Ts.get_set {t : Ts α} {n m : Nat} {v x : α} (h : Ts.get (Ts.set t n v) m = some x) : (m = n ∧ x = v) ∨ (m ≠ n ∧ Ts.get t m = some x) := by
  unfold Ts.set Ts.setK acc at h
  unfold Ts.get acc at h ⊢
  cases hm : Nat.ble m 511 with
  | false => rw [hm] at h; cases h
  | true =>
    rw [hm] at h
    obtain ⟨gm, sm, em, hgm, _⟩ := accAt_spec (α := α) (dig (Nat.div m 64)) (dig (Nat.mod (Nat.div m 8) 8)) (dig (Nat.mod m 8))
    simp only [em, hgm] at h ⊢
    have hm' : m ≤ 511 := Nat.le_of_ble_eq_true hm
    cases hn : Nat.ble n 511 with
    | false =>
      rw [hn] at h
      refine .inr ⟨fun e => ?_, h⟩
      subst e; rw [hm] at hn; cases hn
    | true =>
      rw [hn] at h
      obtain ⟨gn, sn, en, _, hsn⟩ := accAt_spec (α := α) (dig (Nat.div n 64)) (dig (Nat.mod (Nat.div n 8) 8)) (dig (Nat.mod n 8))
      simp only [en, hsn, id] at h
      have hn' : n ≤ 511 := Nat.le_of_ble_eq_true hn
      by_cases e : m = n
      · subst e
        rw [look_lay_same] at h
        injection h with h
        exact .inl ⟨rfl, h.symm⟩
      · refine .inr ⟨e, look_lay_ne _ _ _ _ _ _ _ _ _ ?_ h⟩
        rintro ⟨h1, h2, h3⟩
        have q1 : m / 64 = n / 64 := dig_inj (by omega) (by omega) h1
        have q2 : m / 8 % 8 = n / 8 % 8 := dig_inj (by omega) (by omega) h2
        have q3 : m % 8 = n % 8 := dig_inj (by omega) (by omega) h3
        omega
theorem Ts.get_e (n : Nat) : Ts.get (.e : Ts α) n = none := by
  unfold Ts.get acc
  cases Nat.ble n 511 with
  | false => rfl
  | true =>
    obtain ⟨g, s, e, h, _⟩ := accAt_spec (α := α) (dig (Nat.div n 64)) (dig (Nat.mod (Nat.div n 8) 8)) (dig (Nat.mod n 8))
    simp only [e, h]
    unfold look
    rw [at_e]
end
end Go.Ev
