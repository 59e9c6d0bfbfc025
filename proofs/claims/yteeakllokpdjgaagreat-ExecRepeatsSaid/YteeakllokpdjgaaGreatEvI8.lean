/-
  A part of the evaluator of the program's code, or of what it was seen to do; its statements are Lean's own. No condition.
-/
import Derived.Test.YteeakllokpdjgaaGreatEvI7
import Derived.Test.YteeakllokpdjgaaGreatEvI1
import Derived.Calls
import Derived.Conc.CrowdComm
namespace Go.Ev
open Go

/-! ### What is held against itself is the same -/
section
variable {P : Program} {h : Tr Blk}
theorem eqF_refl (a : Int) : eqF a a = true := by rw [eqF_eq]; simp
theorem and_b {x : Eqr} {y : Option Eqr} {r : Eqr} (h : x.and y = some r) (hx : x.b = true) (hy : ∀ z, y = some z → z.b = true) : r.b = true := by
  unfold Eqr.and at h
  split at h
  · split at h
    · rename_i e; rw [hx] at e; cases e
    · cases y with
      | none => cases h
      | some z => injection h with h; subst h; exact hy z rfl
  · cases y with
    | none => cases h
    | some z =>
      injection h with h; subst h
      have := hy z rfl
      simp [hx, this]
theorem sameDoE_b {k k' : IntKind} {q r : Eqr} (h : sameDoE k k' q = some r) (hq : q.b = true) : r.b = true := by
  unfold sameDoE at h
  split at h
  · injection h with h; subst h; exact hq
  · cases h
theorem leaf_refl {d : TypeDesc} {x : AV} {r : Eqr} (e : leafEq P h d x x = some r) : r.b = true := by
  unfold leafEq at e
  split at e
  · cases x <;> simp only [boolEq] at e <;> first | (cases e; done) | (injection e with e; subst e; simp [Eqr.con, Eqr.nam])
  · cases x <;> simp only [intEq] at e <;> first | (cases e; done) | exact sameDoE_b e (by simp [Eqr.con, Eqr.nam, eqF_refl])
  · cases x <;> simp only [strEq] at e <;> first | (cases e; done) | skip
    rename_i s
    injection e with e; subst e
    obtain ⟨d⟩ := s
    show (d == d) = true
    simp
  · rename_i el
    cases x <;> simp only [ptrEq] at e <;> first | (cases e; done) | (injection e with e; subst e; rfl) | skip
    split at e
    · unfold placeEq at e
      rw [beq_t rfl] at e
      simp only at e
      injection e with e; subst e
      simp [Eqr.con]
    · cases e
  · cases x <;> simp only [funcEq] at e <;> first | (cases e; done) | (injection e with e; subst e; rfl)
  · cases x <;> simp only [ifaceEq] at e <;> first | (cases e; done) | (injection e with e; subst e; rfl)
  · cases x <;> simp only [sliceEq] at e <;> first | (cases e; done) | (injection e with e; subst e; rfl)
  · cases x <;> simp only [mapEq] at e <;> first | (cases e; done) | (injection e with e; subst e; rfl)
  · cases e
theorem fields_refl {eq : TypeId → AV → AV → Option Eqr} (he : ∀ t x r, eq t x x = some r → r.b = true) (xs : List AV) : ∀ (fs : List Field) (r : Eqr), eqFields eq P xs xs fs = some r → r.b = true
  | [], r, e => by simp only [eqFields] at e; injection e with e; subst e; rfl
  | f :: fs, r, e => by
    have ih := fields_refl he xs fs
    unfold eqFields at e
    split at e
    · exact ih r e
    · cases hp : partA P f.type xs f.offset with
      | none => rw [hp] at e; cases e
      | some x =>
        rw [hp] at e
        simp only at e
        cases hq : eq f.type x x with
        | none => rw [hq] at e; cases e
        | some q =>
          rw [hq] at e
          simp only at e
          have hb := he _ _ _ hq
          split at e
          · injection e with e; subst e; exact hb
          · exact and_b e hb fun z hz => ih z hz
theorem elems_refl {eq : TypeId → AV → AV → Option Eqr} (he : ∀ t x r, eq t x x = some r → r.b = true) (t : TypeId) (s : Nat) (xs : List AV) : ∀ (n i : Nat) (r : Eqr), eqElems eq P t s xs xs n i = some r → r.b = true
  | 0, _, r, e => by simp only [eqElems] at e; injection e with e; subst e; rfl
  | n + 1, i, r, e => by
    have ih := elems_refl he t s xs n (i + 1)
    unfold eqElems at e
    cases hp : partA P t xs (i * s) with
    | none => rw [hp] at e; cases e
    | some x =>
      rw [hp] at e
      simp only at e
      cases hq : eq t x x with
      | none => rw [hq] at e; cases e
      | some q =>
        rw [hq] at e
        simp only at e
        have hb := he _ _ _ hq
        split at e
        · injection e with e; subst e; exact hb
        · exact and_b e hb fun z hz => ih z hz
theorem aeq_refl : ∀ (d : Nat) (t : TypeId) (x : AV) (r : Eqr), aeq P h d t x x = some r → r.b = true
  | 0, _, _, _, e => by simp [aeq] at e
  | d + 1, t, x, r, e => by
    have ih := aeq_refl d
    unfold aeq at e
    split at e
    · cases x <;> simp only at e <;> first | (cases e; done) | skip
      split at e
      · cases e
      · exact fields_refl ih _ _ _ e
    · cases x <;> simp only at e <;> first | (cases e; done) | skip
      split at e
      · exact elems_refl ih _ _ _ _ _ _ e
      · cases e
    · exact leaf_refl e
    · cases e
end
def eqrB : Option Eqr → Bool
  | some r => r.b
  | none => false
def Res.sb : Res → Bool
  | .val v g => match v with
    | .bool b => b && g.obl.isEmpty
    | .sbool b => b && g.obl.isEmpty
    | _ => false
  | _ => false
theorem Res.sb_spec {r : Res} (h : r.sb = true) : ∃ v g, r = .val v g ∧ (v = .bool true ∨ v = .sbool true) ∧ g.obl = [] := by
  unfold Res.sb at h
  split at h
  · rename_i v g
    split at h
    · rename_i b; simp only [Bool.and_eq_true, List.isEmpty_iff] at h; exact ⟨_, g, rfl, .inl (by rw [h.1]), h.2⟩
    · rename_i b; simp only [Bool.and_eq_true, List.isEmpty_iff] at h; exact ⟨_, g, rfl, .inr (by rw [h.1]), h.2⟩
    · cases h
  · cases h
/-- a call from nothing that says yes, be it by a test over names -/
theorem args_sb {P : Program} {Γ : Env} (hP : PF2 P) (hΓ : EnvS P Γ) {n : Nat} {f : FuncId} (hb : hasBody P f = true) {args : List AV}
    (h : (evF P Γ n (.call f args) G.init).sb = true) {Args : Array Value} (hv : VRs (fun _ => none) args Args.toList) (w : World) :
    Calls P f Args w fun e w' => e = .returned (.bool true) ∧ Still w w' := by
  obtain ⟨v, g', h1, hvv, h2⟩ := Res.sb_spec h
  refine (args_run (orc := []) hP hΓ hb h1 (fun p hp => by rw [h2] at hp; cases hp) hv w).mono fun e w' ⟨⟨V, σ, he, hV⟩, hs⟩ => ?_
  rcases hvv with rfl | rfl <;> cases hV <;> exact ⟨he, hs⟩
end Go.Ev

namespace Go.Ev
open Go

/-! ### Arguments that are nothing but whole numbers and truths: their cells as names -/
abbrev Shp := List (Option IntKind)
inductive ShM : Shp → List Value → Prop
  | nil : ShM [] []
  | b {s : Shp} {vs : List Value} (x : Bool) : ShM s vs → ShM (none :: s) (.bool x :: vs)
  | i {s : Shp} {vs : List Value} (k : IntKind) (n : Int) : ShM s vs → ShM (some k :: s) (.int k n :: vs)
def sameLen (s : Shp) (n : Nat) : Bool := Nat.beq s.length n
mutual
def shapeT (P : Program) : Nat → TypeId → Option Shp
  | 0, _ => none
  | f + 1, t => match P.underlying t with
    | some .bool => some [none]
    | some (.int k) => some [some k]
    | some (.struct fs) => match shapeFs P f fs.toList 0 with
      | some s => if sameLen s (P.cellsOf t) then some s else none
      | none => none
    | some (.array n e) => match shapeT P f e with
      | some s => if sameLen s (P.cellsOf e) && Nat.beq (n * s.length) (P.cellsOf t) then some (List.replicate n s).flatten else none
      | none => none
    | _ => none
def shapeFs (P : Program) : Nat → List Field → Nat → Option Shp
  | 0, _, _ => none
  | _ + 1, [], _ => some []
  | f + 1, x :: xs, o => match shapeT P f x.type, shapeFs P f xs (o + P.cellsOf x.type) with
    | some s, some r => if Nat.beq x.offset o && sameLen s (P.cellsOf x.type) then some (s ++ r) else none
    | _, _ => none
end
theorem ShM.len {s : Shp} {l : List Value} (h : ShM s l) : s.length = l.length := by
  induction h with
  | nil => rfl
  | b x _ ih => simp [ih]
  | i k n _ ih => simp [ih]
theorem ShM.app {s s' : Shp} {l l' : List Value} (h : ShM s l) (h' : ShM s' l') : ShM (s ++ s') (l ++ l') := by
  induction h with
  | nil => exact h'
  | b x _ ih => exact .b x ih
  | i k n _ ih => exact .i k n ih
theorem mapM_mem {α β : Type} {f : α → Option β} : ∀ {l : List α} {r : List β}, l.mapM f = some r → ∀ x ∈ l, ∃ y, f x = some y := by
  intro l
  induction l with
  | nil => intro r _ x hx; cases hx
  | cons a l ih =>
    intro r h x hx
    rw [List.mapM_cons] at h
    cases e1 : f a with
    | none => rw [e1] at h; cases h
    | some y =>
      rw [e1] at h
      cases e2 : l.mapM f with
      | none => rw [e2] at h; cases h
      | some ys =>
        rcases List.mem_cons.1 hx with rfl | hx
        · exact ⟨y, e1⟩
        · exact ih e2 x hx
section
variable {H : Type} {enc : TypeId × Value → H} {P : Program} {w : World} {base : Nat} {spare : Nat → Bool} {held : Bool}
theorem rep_shape {s : Shp} {cs : List Value} : ∀ (n i : Nat), (∀ j, j < n → ShM s ((cs.drop ((i + j) * s.length)).take s.length)) → cs.length = (i + n) * s.length → ShM (List.replicate n s).flatten (cs.drop (i * s.length))
  | 0, i, _, hl => by
    have : cs.drop (i * s.length) = [] := by rw [List.drop_eq_nil_iff]; rw [hl]; simp
    rw [this]; exact .nil
  | n + 1, i, h, hl => by
    have h0 := h 0 (by omega)
    have ih := rep_shape n (i + 1) (fun j hj => by have := h (j + 1) (by omega); rw [show i + 1 + j = i + (j + 1) from by omega]; exact this) (by rw [hl]; congr 1; omega)
    rw [List.replicate_succ, List.flatten_cons]
    have e : cs.drop (i * s.length) = (cs.drop (i * s.length)).take s.length ++ cs.drop ((i + 1) * s.length) := by
      rw [show (i + 1) * s.length = i * s.length + s.length from by rw [Nat.add_mul]; omega]
      rw [← List.drop_drop, List.take_append_drop]
    rw [e]
    exact ShM.app (by simpa using h0) ih
mutual
theorem trod_shape : ∀ (f fuel : Nat) (t : TypeId) (cs : List Value) (x : DataW H × List MemPlace) (s : Shp), shapeT P f t = some s → DataW.trod enc P w base spare held fuel t cs = some x → ShM s cs
  | 0, _, _, _, _, _, h, _ => by simp [shapeT] at h
  | _ + 1, 0, _, _, _, _, _, h => by simp [DataW.trod] at h
  | f + 1, fuel + 1, t, cs, x, s, hs, h => by
    unfold shapeT at hs
    unfold DataW.trod at h
    cases hu : P.underlying t with
    | none => rw [hu] at hs; cases hs
    | some d =>
      rw [hu] at hs h
      cases d <;> simp only at hs <;> first | (cases hs; done) | skip
      case bool =>
        injection hs with hs; subst hs
        rcases cs with _ | ⟨v, _ | ⟨v', vs⟩⟩
        · cases h
        · cases v <;> first | exact .b _ .nil | (cases h; done)
        · cases v <;> cases h
      case int k =>
        injection hs with hs; subst hs
        rcases cs with _ | ⟨v, _ | ⟨v', vs⟩⟩
        · cases h
        · cases v <;> first | (cases h; done) | skip
          rename_i k' n
          simp only at h
          split at h
          · rename_i hk
            obtain ⟨rfl, _⟩ := hk
            exact .i _ _ .nil
          · cases h
        · cases v <;> cases h
      case struct fs =>
        cases hf : shapeFs P f fs.toList 0 with
        | none => rw [hf] at hs; cases hs
        | some r =>
          rw [hf] at hs
          simp only at hs
          split at hs
          · rename_i hl
            injection hs with hs; subst hs
            simp only at h
            split at h
            · rename_i hc
              cases hm : (fs.toList.mapM fun f => DataW.trod enc P w base spare held fuel f.type ((cs.drop f.offset).take (P.cellsOf f.type))) with
              | none => rw [hm] at h; cases h
              | some xs =>
                have := fields_shape f fuel fs.toList 0 cs r hf (fun y hy => mapM_mem hm y hy) (by rw [hc, ← of_beq hl]; simp)
                simpa using this
            · cases h
          · cases hs
      case array n e =>
        cases he : shapeT P f e with
        | none => rw [he] at hs; cases hs
        | some r =>
          rw [he] at hs
          simp only at hs
          split at hs
          · rename_i hl
            injection hs with hs; subst hs
            simp only [Bool.and_eq_true] at hl
            have hl1 : r.length = P.cellsOf e := of_beq hl.1
            have hl2 := of_beq hl.2
            simp only at h
            split at h
            · rename_i hc
              cases hm : ((List.range n).mapM fun i => DataW.trod enc P w base spare held fuel e ((cs.drop (i * P.cellsOf e)).take (P.cellsOf e))) with
              | none => rw [hm] at h; cases h
              | some xs =>
                have := rep_shape (s := r) (cs := cs) n 0 (fun j hj => by
                  obtain ⟨y, hy⟩ := mapM_mem hm j (List.mem_range.2 hj)
                  rw [Nat.zero_add, hl1]
                  exact trod_shape f fuel e _ y r he hy) (by rw [hc, ← hl2]; simp)
                simpa using this
            · cases h
          · cases hs
theorem fields_shape : ∀ (f fuel : Nat) (fs : List Field) (o : Nat) (cs : List Value) (r : Shp), shapeFs P f fs o = some r →
    (∀ y ∈ fs, ∃ x, DataW.trod enc P w base spare held fuel y.type ((cs.drop y.offset).take (P.cellsOf y.type)) = some x) → cs.length = o + r.length → ShM r (cs.drop o)
  | 0, _, _, _, _, _, h, _, _ => by simp [shapeFs] at h
  | f + 1, _, [], o, cs, r, h, _, hl => by
    simp only [shapeFs] at h
    injection h with h; subst h
    have : cs.drop o = [] := by rw [List.drop_eq_nil_iff]; rw [hl]; simp
    rw [this]; exact .nil
  | f + 1, fuel, y :: ys, o, cs, r, h, hm, hl => by
    unfold shapeFs at h
    cases h1 : shapeT P f y.type with
    | none => rw [h1] at h; cases h
    | some s =>
      rw [h1] at h
      cases h2 : shapeFs P f ys (o + P.cellsOf y.type) with
      | none => rw [h2] at h; cases h
      | some r' =>
        rw [h2] at h
        simp only at h
        split at h
        · rename_i hb
          injection h with h; subst h
          simp only [Bool.and_eq_true] at hb
          have hb1 := of_beq hb.1
          have hb2 : s.length = P.cellsOf y.type := of_beq hb.2
          obtain ⟨x, hx⟩ := hm y List.mem_cons_self
          have hd := trod_shape f fuel y.type _ x s h1 hx
          rw [hb1] at hd
          have ih := fields_shape f fuel ys (o + P.cellsOf y.type) cs r' h2 (fun z hz => hm z (List.mem_cons_of_mem _ hz)) (by rw [hl, List.length_append, hb2]; omega)
          have e : cs.drop o = (cs.drop o).take (P.cellsOf y.type) ++ cs.drop (o + P.cellsOf y.type) := by
            rw [← List.drop_drop, List.take_append_drop]
          rw [e]
          exact hd.app ih
        · cases h
end
variable {w' : World} {base' : Nat} {spare' : Nat → Bool} {held' : Bool}
theorem fs_shape : ∀ (f : Nat) (fs : List Field) (o : Nat) (r : Shp), shapeFs P f fs o = some r → ∀ y ∈ fs, ∃ f' s, f' < f ∧ shapeT P f' y.type = some s
  | 0, _, _, _, h, _, _ => by simp [shapeFs] at h
  | _ + 1, [], _, _, _, _, hy => by cases hy
  | f + 1, x :: xs, o, r, h, y, hy => by
    unfold shapeFs at h
    cases h1 : shapeT P f x.type with
    | none => rw [h1] at h; cases h
    | some s =>
      rw [h1] at h
      cases h2 : shapeFs P f xs (o + P.cellsOf x.type) with
      | none => rw [h2] at h; cases h
      | some r' =>
        rcases List.mem_cons.1 hy with rfl | hy
        · exact ⟨f, s, by omega, h1⟩
        · obtain ⟨f', s', a, b⟩ := fs_shape f xs _ r' h2 y hy
          exact ⟨f', s', by omega, b⟩
theorem mapM_cong {α β : Type} {f g : α → Option β} : ∀ {l : List α}, (∀ x ∈ l, f x = g x) → l.mapM f = l.mapM g := by
  intro l
  induction l with
  | nil => intro _; rfl
  | cons a l ih =>
    intro h
    rw [List.mapM_cons, List.mapM_cons, h a List.mem_cons_self, ih fun x hx => h x (List.mem_cons_of_mem _ hx)]
/-- what holds no places reads alike in every world -/
theorem trod_world : ∀ (m f fuel : Nat) (t : TypeId) (cs : List Value) (s : Shp), f < m → shapeT P f t = some s → DataW.trod enc P w base spare held fuel t cs = DataW.trod enc P w' base' spare' held' fuel t cs
  | 0, _, _, _, _, _, h, _ => by omega
  | _ + 1, 0, _, _, _, _, _, h => by simp [shapeT] at h
  | _ + 1, _ + 1, 0, _, _, _, _, _ => rfl
  | m + 1, f + 1, fuel + 1, t, cs, s, hm, hs => by
    unfold shapeT at hs
    unfold DataW.trod
    cases hu : P.underlying t with
    | none => simp only [hu] at hs; cases hs
    | some d =>
      rw [hu] at hs
      cases d <;> simp only at hs <;> first | (cases hs; done) | skip
      case bool => rcases cs with _ | ⟨v, _ | ⟨v', vs⟩⟩ <;> first | rfl | (cases v <;> rfl)
      case int k => rcases cs with _ | ⟨v, _ | ⟨v', vs⟩⟩ <;> first | rfl | (cases v <;> rfl)
      case struct fs =>
        cases hf : shapeFs P f fs.toList 0 with
        | none => rw [hf] at hs; cases hs
        | some r =>
          simp only
          rw [mapM_cong (l := fs.toList) (f := fun f => DataW.trod enc P w base spare held fuel f.type ((cs.drop f.offset).take (P.cellsOf f.type))) (g := fun f => DataW.trod enc P w' base' spare' held' fuel f.type ((cs.drop f.offset).take (P.cellsOf f.type))) fun y hy => by
            obtain ⟨f', s', h1, h2⟩ := fs_shape f _ _ _ hf y hy
            exact trod_world m f' fuel y.type _ s' (by omega) h2]
      case array n e =>
        cases he : shapeT P f e with
        | none => rw [he] at hs; cases hs
        | some r =>
          simp only
          rw [mapM_cong (l := List.range n) (f := fun i => DataW.trod enc P w base spare held fuel e ((cs.drop (i * P.cellsOf e)).take (P.cellsOf e))) (g := fun i => DataW.trod enc P w' base' spare' held' fuel e ((cs.drop (i * P.cellsOf e)).take (P.cellsOf e))) fun i _ => trod_world m f fuel e _ r (by omega) he]
theorem Trod_world {f : Nat} {t : TypeId} {s : Shp} (hs : shapeT P f t = some s) {v : Value} {d : DataW H} {ps : List MemPlace} (h : DataW.Trod enc P w base spare held t v d ps) : DataW.Trod enc P w' base' spare' held' t v d ps := by
  obtain ⟨fuel, h⟩ := h
  exact ⟨fuel, by rw [← h]; exact (trod_world (f + 1) f fuel t _ s (by omega) hs).symm⟩
end

/-! ### The names -/
def symV (c : Nat → Int) (b : Nat → Bool) : Nat → Shp → List Value
  | _, [] => []
  | i, none :: r => .bool (b i) :: symV c b (i + 1) r
  | i, some k :: r => .int k (c i) :: symV c b (i + 1) r
def symL (c : Nat → Int) (b : Nat → Bool) : Nat → Shp → List AV
  | _, [] => []
  | i, none :: r => .sbool (b i) :: symL c b (i + 1) r
  | i, some k :: r => .sint k (c i) :: symL c b (i + 1) r
theorem sym_VRs (σ : Sg) (c : Nat → Int) (b : Nat → Bool) : ∀ (s : Shp) (i : Nat), VRs σ (symL c b i s) (symV c b i s)
  | [], _ => .nil
  | none :: r, i => .cons (.sbool _) (sym_VRs σ c b r (i + 1))
  | some k :: r, i => .cons (.sint k _) (sym_VRs σ c b r (i + 1))
theorem symV_cong {c c' : Nat → Int} {b b' : Nat → Bool} : ∀ (s : Shp) (i : Nat), (∀ j, i ≤ j → c j = c' j ∧ b j = b' j) → symV c b i s = symV c' b' i s
  | [], _, _ => rfl
  | none :: r, i, h => by simp only [symV]; rw [(h i (Nat.le_refl _)).2, symV_cong r (i + 1) fun j hj => h j (by omega)]
  | some k :: r, i, h => by simp only [symV]; rw [(h i (Nat.le_refl _)).1, symV_cong r (i + 1) fun j hj => h j (by omega)]
theorem ShM.sym {s : Shp} {l : List Value} (h : ShM s l) : ∀ i, ∃ c b, l = symV c b i s := by
  induction h with
  | nil => exact fun i => ⟨fun _ => 0, fun _ => false, rfl⟩
  | b x _ ih =>
    intro i
    obtain ⟨c, b, e⟩ := ih (i + 1)
    refine ⟨c, fun j => if j = i then x else b j, ?_⟩
    simp only [symV, if_pos]
    rw [e]
    congr 1
    exact symV_cong _ (i + 1) fun j hj => ⟨rfl, by rw [if_neg (by omega)]⟩
  | i k n _ ih =>
    intro i
    obtain ⟨c, b, e⟩ := ih (i + 1)
    refine ⟨fun j => if j = i then n else c j, b, ?_⟩
    simp only [symV, if_pos]
    rw [e]
    congr 1
    exact symV_cong _ (i + 1) fun j hj => ⟨by rw [if_neg (by omega)], rfl⟩
/-- an argument of a type that holds no places, and of more than one cell: its value, by names -/
theorem open_plain {H : Type} {enc : TypeId × Value → H} {P : Program} {w : World} {base : Nat} {spare : Nat → Bool} {held : Bool} {f : Nat} {t : TypeId} {s : Shp} (hs : shapeT P f t = some s) (h1 : s.length ≠ 1)
    {v : Value} {d : DataW H} {ps : List MemPlace} (h : DataW.Trod enc P w base spare held t v d ps) : ∃ c b, v = .agg (symV c b 0 s).toArray := by
  obtain ⟨fuel, h⟩ := h
  have hm := trod_shape f fuel t _ _ s hs h
  obtain ⟨c, b, e⟩ := hm.sym 0
  have hl := hm.len
  refine ⟨c, b, ?_⟩
  cases v <;> first | (simp only [Value.cells] at e; rw [← e]; done) | (exfalso; simp [Value.cells] at hl; omega)
end Go.Ev

namespace Go.Ev
open Go

/-! ### A number folded into 0 .. 63, by contract: the value is owed -/
noncomputable def fewI (M : Nat) (x : Int) : Int := (Bool.rec (motive := fun _ => Int) x (IntKind.i64.wrap (0 - IntKind.i64.wrap (x + 1))) (decide (x < 0))).tmod (Int.ofNat (M + 1))
def fewArgs (M : Nat) : List AV → Option Int
  | [.sint .i64 x, .int .i64 (.ofNat m)] => match Nat.beq m M with
    | true => some x
    | false => none
  | _ => none
noncomputable def fewS (M : Nat) (v : Int) (args : List AV) (g : G) : Res := match fewArgs M args with
  | some x => match g with
    | ⟨h, nx, l, oc, ob⟩ => .val (.int .i64 v) ⟨h, nx, l, oc, (decide (fewI M x = v), true) :: ob⟩
  | none => .no 301
theorem fewArgs_some {M : Nat} {args : List AV} {x : Int} (h : fewArgs M args = some x) : args = [.sint .i64 x, .int .i64 (.ofNat M)] := by
  unfold fewArgs at h
  split at h
  · split at h
    · rename_i x' m hb
      injection h with h; subst h
      rw [of_beq hb]
    · cases h
  · cases h
/-- what is seen of a run that touches nothing -/
def Res.all : Res → Option (AV × Tr Blk × Nat × List Tch × List (Bool × Bool))
  | .val v g => some (v, g.heap, g.next, g.log, g.obl)
  | _ => none
def FewRun (P : Program) (f : FuncId) (M : Nat) : Prop :=
  ∀ (x : Int) h nx l oc ob, (evF P (fun _ => none) 1000 (.call f [.sint .i64 x, .int .i64 (.ofNat M)]) ⟨h, nx, l, oc, ob⟩).all = some (.sint .i64 (fewI M x), h, nx, l, ob)
theorem few_le (M : Nat) (v : Int) (args : List AV) (g : G) : LeRes g (fewS M v args g) := by
  unfold fewS
  split
  · obtain ⟨h, nx, l, oc, ob⟩ := g
    exact ⟨[], rfl, Nat.le_refl _, ⟨[_], rfl⟩, fun _ b _ h => ⟨b, h, rfl⟩, fun _ _ b _ _ h h' => ⟨b, h, h'⟩, fun _ h => by cases h⟩
  · trivial
theorem few_call {P : Program} (hP : PF2 P) {f : FuncId} (hb : hasBody P f = true) {M : Nat} (hf : FewRun P f M) (v : Int) : CallSf P f (fewS M v) := by
  intro args g g' hg T hi σ w Args p hv
  unfold fewS at hg ⊢
  cases hx : fewArgs M args with
  | none => rw [hx] at hg; cases hg
  | some x =>
    rw [hx] at hg
    obtain ⟨h, nx, l, oc, ob⟩ := g
    injection hg with hg; subst hg
    have ha := fewArgs_some hx
    subst ha
    have howe : fewI M x = v := by
      have := p.owes (decide (fewI M x = v), true) List.mem_cons_self
      simpa using this
    have hrest : ∀ q ∈ ob, q.1 = q.2 := fun q hq => p.owes q (List.mem_cons_of_mem _ hq)
    have hr := hf x h nx l oc ob
    show Calls P f Args w (CallR P T σ ⟨h, nx, l, oc, ob⟩ w (.val (.int .i64 v) ⟨h, nx, l, oc, (decide (fewI M x = v), true) :: ob⟩))
    cases hres : evF P (fun _ => none) 1000 (.call f [.sint .i64 x, .int .i64 (.ofNat M)]) ⟨h, nx, l, oc, ob⟩ with
    | no n => rw [hres] at hr; cases hr
    | fin y t ds g2 => rw [hres] at hr; cases hr
    | pan u g2 => rw [hres] at hr; cases hr
    | val u g2 =>
      rw [hres] at hr
      obtain ⟨h2, nx2, l2, oc2, ob2⟩ := g2
      simp only [Res.all] at hr
      injection hr with hr
      injection hr with e1 hr
      injection hr with e2 hr
      injection hr with e3 hr
      injection hr with e4 e5
      have e2 : h2 = h := e2
      have e3 : nx2 = nx := e3
      have e4 : l2 = l := e4
      have e5 : ob2 = ob := e5
      subst e1; subst e2; subst e3; subst e4; subst e5
      have hc := (evF_sound hP (noEnv P) 1000).call f hb [.sint .i64 x, .int .i64 (.ofNat M)] ⟨h2, nx2, l2, oc, ob2⟩ ⟨h2, nx2, l2, oc2, ob2⟩ (by show (evF P _ 1000 _ _).g? = _; rw [hres]; rfl) T hi σ w Args
        { rel := p.rel.same rfl
          fresh := p.fresh
          hi := p.hi
          inT := fun L hL => by
            have hL : l2 = L ++ l2 := hL
            have : L = [] := by have := congrArg List.length hL; simp at this; exact this
            subst this; intro t ht; cases ht
          owes := hrest } hv
      refine hc.mono fun en w' hw => ?_
      simp only [CallR, hres] at hw
      obtain ⟨σ', L, V, q, rfl, hV⟩ := hw
      have hL : L = [] := by
        have h1 : l2 = L ++ l2 := q.le.log
        have := congrArg List.length h1; simp at this; exact this
      subst hL
      cases hV
      refine ⟨σ', [], _, ⟨⟨rfl, Nat.le_refl _, ⟨[_], rfl⟩, fun _ b _ h => ⟨b, h, rfl⟩, fun _ _ b _ _ h h' => ⟨b, h, h'⟩, fun _ h => by cases h⟩, q.ext, q.rel.same rfl, q.fr, q.nw⟩, rfl, ?_⟩
      rw [howe]; exact .int _ _
theorem few_range {M : Nat} {x : Int} (h1 : -9223372036854775808 ≤ x) (h2 : x ≤ 9223372036854775807) : 0 ≤ fewI M x ∧ fewI M x < Int.ofNat (M + 1) := by
  have key : ∀ y : Int, 0 ≤ y → 0 ≤ y.tmod (Int.ofNat (M + 1)) ∧ y.tmod (Int.ofNat (M + 1)) < Int.ofNat (M + 1) := fun y hy => by
    have hp : (0 : Int) < Int.ofNat (M + 1) := by simp
    rw [Int.tmod_eq_emod_of_nonneg hy]
    exact ⟨Int.emod_nonneg _ (by omega), Int.emod_lt_of_pos _ hp⟩
  unfold fewI
  by_cases h : x < 0
  · rw [show decide (x < 0) = true from by simp [h]]
    show 0 ≤ (IntKind.i64.wrap (0 - IntKind.i64.wrap (x + 1))).tmod _ ∧ _
    have e1 : IntKind.i64.wrap (x + 1) = x + 1 := by rw [IntKind.wrap_i64]; omega
    have e2 : IntKind.i64.wrap (0 - (x + 1)) = 0 - (x + 1) := by rw [IntKind.wrap_i64]; omega
    rw [e1, e2]
    exact key _ (by omega)
  · rw [show decide (x < 0) = false from by simp [h]]
    exact key x (by omega)
noncomputable def addFn (f : FuncId) (s : List AV → G → Res) (Γ : Env) : Env := fun k => match Nat.beq k f with | true => some s | false => Γ k
theorem addFn_ok {P : Program} {Γ : Env} (hΓ : EnvS P Γ) {f : FuncId} {s : List AV → G → Res} (hle : ∀ args g, LeRes g (s args g)) (hs : CallSf P f s) : EnvS P (addFn f s Γ) := hΓ.add hle hs
/-- what a run that says true owes -/
def Res.owed : Res → Option (List (Bool × Bool))
  | .val v g => match v with
    | .bool true => some g.obl
    | _ => none
  | _ => none
theorem args_owed {P : Program} {Γ : Env} (hP : PF2 P) (hΓ : EnvS P Γ) {n : Nat} {f : FuncId} (hb : hasBody P f = true) {args : List AV} {ob : List (Bool × Bool)}
    (h : (evF P Γ n (.call f args) G.init).owed = some ob) (ho : ∀ q ∈ ob, q.1 = q.2) {Args : Array Value} (hv : VRs (fun _ => none) args Args.toList) (w : World) :
    Calls P f Args w fun e w' => e = .returned (.bool true) ∧ Still w w' := by
  unfold Res.owed at h
  split at h
  · rename_i v g' h1
    split at h
    · injection h with h; subst h
      refine (args_run (orc := []) hP hΓ hb h1 ho hv w).mono fun e w' ⟨⟨V, σ, he, hV⟩, hs⟩ => ?_
      cases hV
      exact ⟨he, hs⟩
    · cases h
  · cases h
theorem args_owedO {P : Program} {Γ : Env} (hP : PF2 P) (hΓ : EnvS P Γ) {n : Nat} {f : FuncId} (hb : hasBody P f = true) {args : List AV} {orc : List Bool} {ob : List (Bool × Bool)}
    (h : (evF P Γ n (.call f args) (G.asks orc)).owed = some ob) (ho : ∀ q ∈ ob, q.1 = q.2) {Args : Array Value} (hv : VRs (fun _ => none) args Args.toList) (w : World) :
    Calls P f Args w fun e w' => e = .returned (.bool true) ∧ Still w w' := by
  unfold Res.owed at h
  split at h
  · rename_i v g' h1
    split at h
    · injection h with h; subst h
      refine (args_run (orc := orc) hP hΓ hb h1 ho hv w).mono fun e w' ⟨⟨V, σ, he, hV⟩, hs⟩ => ?_
      cases hV
      exact ⟨he, hs⟩
    · cases h
  · cases h
/-- what a run owes that says true, or a truth by name: that it is true is owed, too -/
def Res.owedS : Res → Option (List (Bool × Bool))
  | .val v g => match v with
    | .bool true => some g.obl
    | .sbool b => some ((b, true) :: g.obl)
    | _ => none
  | _ => none
theorem args_owedS {P : Program} {Γ : Env} (hP : PF2 P) (hΓ : EnvS P Γ) {n : Nat} {f : FuncId} (hb : hasBody P f = true) {args : List AV} {orc : List Bool} {ob : List (Bool × Bool)}
    (h : (evF P Γ n (.call f args) (G.asks orc)).owedS = some ob) (ho : ∀ q ∈ ob, q.1 = q.2) {Args : Array Value} (hv : VRs (fun _ => none) args Args.toList) (w : World) :
    Calls P f Args w fun e w' => e = .returned (.bool true) ∧ Still w w' := by
  unfold Res.owedS at h
  split at h
  · rename_i v g' h1
    split at h
    · injection h with h; subst h
      refine (args_run (orc := orc) hP hΓ hb h1 ho hv w).mono fun e w' ⟨⟨V, σ, he, hV⟩, hs⟩ => ?_
      cases hV
      exact ⟨he, hs⟩
    · rename_i b
      injection h with h; subst h
      refine (args_run (orc := orc) hP hΓ hb h1 (fun q hq => ho q (List.mem_cons_of_mem _ hq)) hv w).mono fun e w' ⟨⟨V, σ, he, hV⟩, hs⟩ => ?_
      have : b = true := ho (b, true) List.mem_cons_self
      cases hV
      subst this
      exact ⟨he, hs⟩
    · cases h
  · cases h
end Go.Ev

namespace Go.Ev
open Go

/-! ### Summaries of calls that answer without blocks: the memory stays as it is -/
def fitsP (v : AV) : Res → Bool
  | .val u g => g.obl.isEmpty && sameV (fun _ _ => false) v u
  | _ => false
noncomputable def pureS : List (List AV × AV) → List AV → G → Res
  | [], _, _ => .no 302
  | p :: ps, args, g => match sameVs (fun _ _ => false) p.1 args with
    | true => .val p.2 g
    | false => pureS ps args g
theorem sameId_nil (base : Nat) : sameId base [] = fun _ _ => false := by
  funext j i
  unfold sameId rho
  cases Nat.ble base j <;> simp
theorem pureS_le (ps : List (List AV × AV)) (args : List AV) (g : G) : LeRes g (pureS ps args g) := by
  induction ps with
  | nil => trivial
  | cons p ps ih =>
    rw [pureS]
    split
    · exact ⟨[], Le.refl g⟩
    · exact ih
theorem pureS_call {P : Program} {Γ0 : Env} (hP : PF2 P) (h0 : EnvS P Γ0) {f : FuncId} (hb : hasBody P f = true) {ps : List (List AV × AV)}
    (h : ∀ p ∈ ps, ∃ n, fitsP p.2 (evF P Γ0 n (.call f p.1) G.init) = true) : CallSf P f (pureS ps) := by
  intro args g g' hg T hi σ w Args p hv
  induction ps with
  | nil => cases hg
  | cons q ps ih =>
    simp only [pureS] at hg ⊢
    split at hg
    · rename_i ha
      obtain ⟨n, hn⟩ := h q List.mem_cons_self
      injection hg with hg; subst hg
      have hfit : (⟨q.1, g.next, [], q.2, []⟩ : Sum).fits (evF P Γ0 n (.call f q.1) G.init) = true := by
        cases hr : evF P Γ0 n (.call f q.1) G.init with
        | no _ => rw [hr] at hn; cases hn
        | fin _ _ _ _ => rw [hr] at hn; cases hn
        | pan _ _ => rw [hr] at hn; cases hn
        | val u g1 =>
          rw [hr] at hn
          simp only [fitsP, Bool.and_eq_true] at hn
          simp only [Sum.fits, sameId_nil, hn.1, hn.2, blksFit, apartIds, Bool.and_self]
      have hs := sumG_sound (s := ⟨q.1, g.next, [], q.2, []⟩) ((evF_sound hP h0 n).call f hb) hfit ha (Nat.le_refl _) (T := T) (hi := hi) (σ := σ) (w := w) (by
        obtain ⟨h, nx, l, oc, ob⟩ := g
        exact p) hv
      rw [sumG_eq] at hs
      obtain ⟨h, nx, l, oc, ob⟩ := g
      exact hs
    · rename_i ha
      exact ih (fun q hq => h q (List.mem_cons_of_mem _ hq)) hg
noncomputable def addP (f : FuncId) (ps : List (List AV × AV)) (Γ : Env) : Env := addFn f (pureS ps) Γ
theorem addP_ok {P : Program} {Γ Γ0 : Env} (hΓ : EnvS P Γ) (hP : PF2 P) (h0 : EnvS P Γ0) {f : FuncId} (hb : hasBody P f = true) {ps : List (List AV × AV)}
    (h : ∀ p ∈ ps, ∃ n, fitsP p.2 (evF P Γ0 n (.call f p.1) G.init) = true) : EnvS P (addP f ps Γ) := addFn_ok hΓ (pureS_le ps) (pureS_call hP h0 hb h)
end Go.Ev

namespace Go.Ev
open Go

/-! ### One send in a select with a way out, in a machine of one goroutine -/
def sentW (w : World) (r n : Nat) (q : Array Value) (s rc : Nat) (v : Value) : World := replaced w r (.chan n (q.push v) false (s + 1) rc false)
theorem step_send {P : Program} {b : Frame} {a : Act} {k : List Item} {cs : List Frame} {w : World} {ops : Array Oper} {i : Nat} {rest : List Nat} {o : Oper}
    {r n s rc : Nat} {q : Array Value} {v z : Value} (ho : ops[i]? = some o) (hw : Region.wanted o (yielded ops a.tmps) = true)
    (hrun : (execOp a.eval o).run P w = .ok (.comm #[{ chan := .chan (some r), send := some v, zero := z }] false .select) w)
    (hc : w.heap[r]? = some (.chan n q false s rc false)) (hroom : q.size < n) :
    step P (lone (b.at a (.inRegion ops (i :: rest) :: k)) cs w) = .next (lone (b.at (a.put o.dst (.tuple #[goInt 0, .bool false])) (.inRegion ops rest :: k)) cs (sentW w r n q s rc v)) := by
  have hg := stepG_op (P := P) (b := b) (k := k) (cs := cs) (w := w) (rest := rest) ho hw
  have hfin : ∀ v, (b.at a (.inRegion ops (i :: rest) :: k)).finish v = b.at (a.put o.dst v) (.inRegion ops rest :: k) := by
    intro v; rw [Frame.finish_at, ho]; rfl
  obtain ⟨es, hes⟩ : ∃ es, stepG P true { frame := b.at a (.inRegion ops (i :: rest) :: k), callers := cs, status := .running, dying := none } w =
      .comm { frame := b.at a (.inRegion ops (i :: rest) :: k), callers := cs, status := .running, dying := none } #[{ chan := .chan (some r), send := some v, zero := z }] false .select w es := by
    rw [hg]; simp only [stepG.apply, Sem.runT_eq, hrun, if_true, GStep.after]; exact ⟨_, rfl⟩
  rw [step, stepT, move_lone]
  simp [runT, lone, Array.swapAt!, hes, communicate, ways, hc, hroom, partners, choose, Sem.run, Question.forced, bind, Sem.bind, pure, Goroutine.finishComm, commResult, hfin, sentW, replaced]
end Go.Ev

namespace Go.Ev
open Go
noncomputable section

/-! ### A select of one send with a way out -/
def sendA (i : Nat) : M Unit := fun g => match g with
  | ⟨h, nx, l, oc, ob⟩ => match h.get i with
    | some (.chan n k) => match Nat.blt k n with
      | true => h.setK i (.chan n (Nat.succ k)) fun h => .ok () ⟨h, nx, ⟨i, 0, 1, true⟩ :: l, oc, ob⟩
      | false => .no 190
    | _ => .no 190
theorem sendA_ok {i : Nat} {g g' : G} {u : Unit} (h : sendA i g = .ok u g') : ∃ n k, g.heap.get i = some (.chan n k) ∧ k < n ∧ g' = ⟨g.heap.set i (.chan n (k + 1)), g.next, ⟨i, 0, 1, true⟩ :: g.log, g.orc, g.obl⟩ := by
  obtain ⟨hp, nx, l, oc, ob⟩ := g
  simp only [sendA] at h
  cases e : hp.get i with
  | none => rw [e] at h; cases h
  | some blk =>
    rw [e] at h
    cases blk with
    | chan n k =>
      simp only at h
      cases hb : Nat.blt k n with
      | false => rw [hb] at h; cases h
      | true =>
        rw [hb] at h
        simp only [Tr.setK_eq] at h; injection h with h1 h2
        exact ⟨n, k, rfl, by simpa [Nat.blt_eq] using hb, h2.symm⟩
    | _ => cases h
theorem sendA_le {i : Nat} {g g' : G} {u : Unit} (h : sendA i g = .ok u g') : Le g g' [⟨i, 0, 1, true⟩] := by
  obtain ⟨n, c, hg, _, rfl⟩ := sendA_ok h
  refine ⟨rfl, Nat.le_refl _, ⟨[], rfl⟩, fun j bj _ hj => ?_, fun j k bj ct hn hj hc => ?_, fun t ht _ => by simp at ht; subst ht; exact .inl ⟨_, hg⟩⟩
  · rcases Tr.get_set hj with ⟨rfl, rfl⟩ | ⟨_, h⟩
    · exact ⟨_, hg, rfl⟩
    · exact ⟨bj, h, rfl⟩
  · rcases Tr.get_set hj with ⟨rfl, rfl⟩ | ⟨_, h⟩
    · by_cases hk : k = 0
      · subst hk; exact absurd ⟨_, List.mem_cons_self, rfl, rfl, .inr (by simp)⟩ hn
      · simp [Blk.ct, hk] at hc
    · exact ⟨bj, h, hc⟩
theorem sendA_sound {P : Program} {σ : Sg} {T : Tp} {g g' : G} {w : World} {i b cap : Nat} {u : Unit} (h : sendA i g = .ok u g') (rl : Rel P σ T g w)
    (ht : inT T [⟨i, 0, 1, true⟩]) (hσ : σ i = some (b, cap)) :
    ∃ n q s r, w.heap[b]? = some (.chan n q false s r false) ∧ q.size < n ∧ ∀ v, Post P T σ g w σ g' (sentW w b n q s r v) [⟨i, 0, 1, true⟩] := by
  have hle := sendA_le h
  obtain ⟨n, c, hg, hroom, rfl⟩ := sendA_ok h
  obtain ⟨b0, cap0, h1, _⟩ := rl.sh i _ hg ht.some
  rw [hσ] at h1; injection h1 with h1; injection h1 with h1 h1'; subst h1; subst h1'
  have hT0 : T i 0 := ht ⟨i, 0, 1, true⟩ (List.mem_singleton.2 rfl) 0 (.inr ⟨Nat.le_refl _, Nat.zero_lt_one⟩)
  obtain ⟨q, s, r, h2, hq⟩ := rl.ct i _ 0 (.chan n c) b cap hg rfl hT0 hσ
  refine ⟨n, q, s, r, h2, by omega, fun V => ?_⟩
  have hlt : b < w.heap.size := (Array.getElem?_eq_some_iff.1 h2).1
  have hb : (sentW w b n q s r V).heap[b]? = some (.chan n (q.push V) false (s + 1) r false) := by simp [sentW, replaced, hlt]
  have ho : ∀ x, x ≠ b → (sentW w b n q s r V).heap[x]? = w.heap[x]? := fun x hx => by
    simp only [sentW, replaced]; rw [Array.getElem?_setIfInBounds_ne (fun e => hx e.symm)]
  have hold : ∀ j bj, (g.heap.set i (.chan n (c + 1))).get j = some bj → (j = i ∧ bj = .chan n (c + 1)) ∨ (j ≠ i ∧ g.heap.get j = some bj) := fun j bj hj => Tr.get_set hj
  have hne : ∀ j bj x cp, j ≠ i → g.heap.get j = some bj → (∃ o, T j o) → σ j = some (x, cp) → x ≠ b := fun j bj x cp hji hj hT hσ' e => by
    subst e; exact hji (rl.inj j i bj _ x cp cap hj hg hT ht.some hσ' hσ)
  refine { le := hle, ext := fun _ _ => rfl, rel := ⟨fun j bj hj hT => ?_, fun j bj k ct x cp hj hc hT hσ' => ?_, fun j j' bj bj' x c1 c2 hj hj' hT hT' hσ' hσ'' => ?_⟩,
           fr := ⟨by simp [sentW, replaced], rfl, rfl, rfl, fun x hx hn => ?_, fun x cx ex fx hx => ?_, fun x es cl hx => ?_, fun x n1 n2 n3 n4 hx => ?_⟩, nw := fun _ _ _ h1 h2 _ => absurd h1 (Nat.not_le_of_lt h2) }
  · rcases hold j bj hj with ⟨rfl, rfl⟩ | ⟨hji, h⟩
    · exact ⟨b, cap, hσ, n, _, _, _, hb⟩
    · obtain ⟨x, cp, h5, h6⟩ := rl.sh j bj h hT
      exact ⟨x, cp, h5, by rw [ho x (hne j bj x cp hji h hT h5)]; exact h6⟩
  · rcases hold j bj hj with ⟨rfl, rfl⟩ | ⟨hji, h⟩
    · rw [hσ] at hσ'; injection hσ' with hσ'; injection hσ' with hσ' _; subst hσ'
      by_cases hk : k = 0
      · simp [Blk.ct, hk] at hc; subst hc; exact ⟨_, _, _, hb, by simp [hq]⟩
      · simp [Blk.ct, hk] at hc
    · rw [ho x (hne j bj x cp hji h ⟨k, hT⟩ hσ')]
      exact rl.ct j bj k ct x cp h hc hT hσ'
  · have hd : ∀ j bj, (g.heap.set i (.chan n (c + 1))).get j = some bj → ∃ b0, g.heap.get j = some b0 := fun j bj hj => by
      rcases hold j bj hj with ⟨rfl, _⟩ | ⟨_, h⟩
      · exact ⟨_, hg⟩
      · exact ⟨_, h⟩
    obtain ⟨b0, h5⟩ := hd j bj hj
    obtain ⟨b1, h6⟩ := hd j' bj' hj'
    exact rl.inj j j' b0 b1 x c1 c2 h5 h6 hT hT' hσ' hσ''
  · by_cases hxb : x = b
    · subst hxb; exact absurd ⟨i, cap, hσ, _, List.mem_cons_self, rfl, rfl, .inr (by simp)⟩ (hn 0)
    · exact ho x hxb
  · by_cases hxb : x = b
    · subst hxb; rw [h2] at hx; cases hx
    · exact ⟨cx, by rw [ho x hxb]; exact hx, rfl, fun _ _ => rfl⟩
  · by_cases hxb : x = b
    · subst hxb; rw [h2] at hx; cases hx
    · exact ⟨es, cl, by rw [ho x hxb]; exact hx, fun _ => ⟨rfl, rfl⟩⟩
  · by_cases hxb : x = b
    · subst hxb; rw [h2] at hx; injection hx with hx; injection hx with hx1 hx2 _ hx3 hx4 _
      subst hx1
      exact ⟨_, _, _, hb, fun hn => absurd ⟨i, cap, hσ, _, List.mem_cons_self, rfl, rfl, .inr (by simp)⟩ hn⟩
    · exact ⟨n2, n3, n4, by rw [ho x hxb]; exact hx, fun _ => ⟨rfl, rfl, rfl⟩⟩

/-- the one case's channel, value and type -/
def selOf (o : Oper) : Option (Operand × Operand × TypeId) := match o.op with
  | .select cs false => match cs.toList with
    | [c] => match c.send, o.guard with
      | some x, none => some (c.chan, x, c.elem)
      | _, _ => none
    | _ => none
  | _ => none
theorem selOf_spec {o : Oper} {ch x : Operand} {e : TypeId} (h : selOf o = some (ch, x, e)) : o.op = .select #[⟨ch, some x, e⟩] false ∧ o.guard = none := by
  unfold selOf at h
  split at h
  · rename_i cs hop
    split at h
    · rename_i c hc
      split at h
      · rename_i x' h1 h2
        injection h with h; injection h with h3 h4; injection h4 with h4 h5
        subst h3; subst h4; subst h5
        have : cs = #[c] := by apply Array.toList_inj.1; simpa using hc
        subst this
        refine ⟨?_, h2⟩
        rw [hop]
        obtain ⟨c1, c2, c3⟩ := c
        simp only at h1
        rw [h1]
      · cases h
    · cases h
  · cases h
def selV : AV := .tup [.int .i64 (.ofNat (nat_lit 0)), .bool false]
def evSel (rec : Rec) (P : Program) (all : List Oper) (o : Oper) (os : List Oper) (tm : Ts AV) (ds : List (FuncId × List AV)) (g : G) (t : Option (Operand × Operand × TypeId)) : Res :=
  match t with
  | some (ch, _, e) => match opnd tm ch, zeroT P e with
    | some (.chan i), some _ => match sendA i g with
      | .ok _ g => evSeq rec P all os (putK tm o.dst selV id) ds g
      | .no w => .no w
    | _, _ => .no 191
  | none => .no 191
def selReg (rec rec' : Rec) (P : Program) (t : Task) (tm : Ts AV) (ds : List (FuncId × List AV)) (g : G) (draw : Bool) (ops : List Oper) : Res := match draw, ops with
  | false, o :: os => match selOf o with
    | some q => evSel rec' P (o :: os) o os tm ds g (some q)
    | none => rec t g
  | _, _ => rec t g
def selBody (rec rec' : Rec) (P : Program) : Rec := fun t g => match t with
  | .code (.seq a b) tm ds => thenDo (fun tm ds g => rec' (.code b tm ds) g) (rec' (.code a tm ds) g)
  | .code (.region id ops draw) tm ds => selReg rec rec' P (.code (.region id ops draw) tm ds) tm ds g draw ops.toList
  | t => rec t g
def selRec (rec : Rec) (P : Program) : Nat → Rec
  | 0 => rec
  | n + 1 => selBody rec (selRec rec P n) P

theorem wp_sel {P : Program} {id : Nat} {ops : Array Oper} {Q : Exit → Act → World → Prop} {a : Act} {w : World} {o : Oper} {r n s rc : Nat} {q : Array Value} {v z : Value} (ho : ops[0]? = some o) (hw : Region.wanted o (yielded ops a.tmps) = true)
    (hrun : (execOp a.eval o).run P w = .ok (.comm #[{ chan := .chan (some r), send := some v, zero := z }] false .select) w)
    (hc : w.heap[r]? = some (.chan n q false s rc false)) (hroom : q.size < n)
    (h : wpOps P ops Q (List.range' 1 (ops.size - 1)) (a.put o.dst (.tuple #[goInt 0, .bool false])) (sentW w r n q s rc v)) : (Code.region id ops false).wp P Q a w := by
  intro b k cs
  obtain ⟨e, a', w', q1, r1⟩ := wp_ops _ _ _ h b k cs
  refine ⟨e, a', w', q1, .of_steps (.head step_region (.one ?_)) r1⟩
  have hs : 0 < ops.size := (Array.getElem?_eq_some_iff.1 ho).1
  have : List.range ops.size = 0 :: List.range' 1 (ops.size - 1) := by
    rw [List.range_eq_range']
    obtain ⟨m, hm⟩ : ∃ m, ops.size = m + 1 := ⟨ops.size - 1, by omega⟩
    rw [hm, List.range'_succ]; rfl
  rw [this]
  exact step_send ho hw hrun hc hroom

theorem evSel_le {P : Program} {rec : Rec} (hr : ∀ t g, LeRes g (rec t g)) {all os : List Oper} {o : Oper} {tm : Ts AV} {ds : List (FuncId × List AV)} {g : G} {t : Option (Operand × Operand × TypeId)} : LeRes g (evSel rec P all o os tm ds g t) := by
  unfold evSel
  split
  · split
    · cases h : sendA _ g with
      | no w => trivial
      | ok u g1 => exact LeRes.trans (sendA_le h) (evSeq_le hr _ _ _ _)
    · trivial
  · trivial
theorem selRec_sound {P : Program} {rec : Rec} (hP : PF2 P) (hrec : RecS P rec) : ∀ n, RecS P (selRec rec P n)
  | 0 => hrec
  | m + 1 => by
    have ih := selRec_sound hP hrec m
    generalize hre : selRec rec P m = rec' at ih
    have hdef : selRec rec P (m + 1) = selBody rec rec' P := by rw [← hre]; rfl
    rw [hdef]
    refine ⟨fun t g => ?_, fun c tm ds g x tm' ds' g' h T hi σ w a N p ht hd hin hN => ?_, fun f hb => hrec.call f hb⟩
    · unfold selBody
      split
      · exact thenDo_le (ih.le _ _) fun _ _ _ => ih.le _ _
      · unfold selReg
        split
        · split
          · exact evSel_le ih.le
          · exact hrec.le _ _
        · exact hrec.le _ _
      · exact hrec.le _ _
    · cases c with
      | seq b c =>
        simp only [codeIn, Bool.and_eq_true] at hin
        have h : thenDo (fun tm ds g => rec' (.code c tm ds) g) (rec' (.code b tm ds) g) = .fin x tm' ds' g' := h
        refine wp_seq (then_sound ih h (fun _ _ _ => ih.le _ _) p ht hd hin.1 hN ?_)
        intro tm1 ds1 g1 σ1 w1 a1 L h1 q1 q2 q3 q4 q5
        exact wp_mono (ih.code c tm1 ds1 g1 _ _ _ _ h1 T hi σ1 w1 a1 N q2 q3 q4 hin.2 q5) fun e a w q => q.from q1 p.fresh p.hi
      | region rid ops draw =>
        have h : selReg rec rec' P (.code (.region rid ops draw) tm ds) tm ds g draw ops.toList = .fin x tm' ds' g' := h
        have old : rec (.code (.region rid ops draw) tm ds) g = .fin x tm' ds' g' → (Code.region rid ops draw).wp P (CPost P T σ g w N x tm' ds' g') a w := fun h => hrec.code _ tm ds g _ _ _ _ h T hi σ w a N p ht hd hin hN
        unfold selReg at h
        split at h
        · rename_i o os hops _
          split at h
          · rename_i qq hsel
            obtain ⟨ch, xx, e⟩ := qq
            obtain ⟨hop, hgd⟩ := selOf_spec hsel
            simp only [evSel] at h
            cases h1 : opnd tm ch with
            | none => rw [h1] at h; cases h
            | some cv =>
            cases h2 : zeroT P e with
            | none => rw [h1, h2] at h; cases cv <;> cases h
            | some zv =>
            rw [h1, h2] at h
            cases cv <;> simp only at h <;> first | (cases h; done) | skip
            rename_i i
            cases h3 : sendA i g with
            | no w => rw [h3] at h; cases h
            | ok u g1 =>
              rw [h3] at h
              simp only at h
              have hle := evSeq_le (P := P) ih.le (ops := o :: os) os (putK tm o.dst selV id) ds g1
              rw [h] at hle
              obtain ⟨M, hM⟩ := hle
              have hin' : opsIn N ops.toList = true := hin
              rw [hops] at hin'
              simp only [opsIn, Bool.and_eq_true] at hin'
              have ho : ops[0]? = some o := by rw [← Array.getElem?_toList, hops]; rfl
              have hsz : ops.size = os.length + 1 := by rw [← Array.length_toList, hops]; rfl
              have hdst : ∀ k, o.dst = some k → k < a.tmps.size := fun k hk => by
                have h1 := hin'.1
                rw [hk] at h1
                exact Nat.lt_of_lt_of_le (of_ble h1) hN
              have hin1 : inT T [⟨i, 0, 1, true⟩] := (p.first hM).inT _ (by rw [(sendA_le h3).log])
              have hv := opnd_sound ht h1
              have hch : ∃ b cap, a.eval ch = .chan (some b) ∧ σ i = some (b, cap) := by
                generalize a.eval ch = X at hv; cases hv with | chan e => exact ⟨_, _, rfl, e⟩
              obtain ⟨b, cap, hch, hσ⟩ := hch
              obtain ⟨n, q, s, r, q1, q2, q3⟩ := sendA_sound h3 p.rel hin1 hσ
              obtain ⟨Z, hZ, _⟩ := r_zero (P := P) (w := w) σ h2
              have hrun : (execOp a.eval o).run P w = .ok (.comm #[{ chan := .chan (some b), send := some (a.eval xx), zero := Z }] false .select) w := by
                simp only [execOp, hop]
                simp [Array.mapM_eq_mapM_toList, List.mapM_cons, hch, hZ]
              refine wp_sel ho (by simp [Region.wanted, hgd]) hrun q1 q2 ?_
              have hq := q3 (a.eval xx)
              have htp : TR σ (putK tm o.dst selV id) (a.put o.dst (.tuple #[goInt 0, .bool false])).tmps := by
                have hvv : VR σ selV (.tuple #[goInt 0, .bool false]) := .tup (.cons (.int _ _) (.cons (.bool _) .nil))
                have := ht.put (v := selV) hvv hdst
                rw [putK_eq] at this; exact this
              have := evSeq_sound hP.toPF ih (ops := ops) (T := T) (hi := hi) (N := N) p.fresh os 1 (fun j => by
                rw [← Array.getElem?_toList, hops, show 1 + j = j + 1 from by omega]; rfl) _ ds g1 x tm' ds' g' (by rw [hops]; exact h) σ _ (a.put o.dst (.tuple #[goInt 0, .bool false])) _ hq (p.then hq) htp (by rw [put_defers]; exact hd) hin'.2 (by rw [put_size]; exact hN)
              rw [hsz]; exact this
          · exact old h
        · exact old h
      | _ => exact hrec.code _ tm ds g _ _ _ _ h T hi σ w a N p ht hd hin hN
/-- the contract of a function with such a select on its way -/
def selS (rec : Rec) (P : Program) (f : FuncId) (n : Nat) : List AV → G → Res := fun args g => evCallF (selRec rec P n) P args g P.funcs[f]?
theorem selS_sound {P : Program} {rec : Rec} (hP : PF2 P) (hrec : RecS P rec) {f : FuncId} {n : Nat} : CallSf P f (selS rec P f n) := call_sound hP (selRec_sound hP hrec n)
theorem selS_le {P : Program} {rec : Rec} (hP : PF2 P) (hrec : RecS P rec) {f : FuncId} {n : Nat} (args : List AV) (g : G) : LeRes g (selS rec P f n args g) := evCallF_le (selRec_sound hP hrec n).le
/-- an environment with such a function's contract -/
def addSel (P : Program) (f : FuncId) (m n : Nat) (Γ : Env) : Env := addFn f (selS (evF P Γ m) P f n) Γ
theorem addSel_ok {P : Program} (hP : PF2 P) {Γ : Env} (hΓ : EnvS P Γ) (f : FuncId) (m n : Nat) : EnvS P (addSel P f m n Γ) :=
  addFn_ok hΓ (selS_le hP (evF_sound hP hΓ m).toRecS) (selS_sound hP (evF_sound hP hΓ m).toRecS)
end
end Go.Ev
