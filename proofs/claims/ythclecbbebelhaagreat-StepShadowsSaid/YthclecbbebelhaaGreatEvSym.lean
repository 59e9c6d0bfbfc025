/-
  A part of the evaluator of the program's code, or of what it was seen to do; its statements are Lean's own. No condition.
-/
import Derived.Test.YthclecbbebelhaaGreatEvArgs
namespace Go.Ev
open Go

/-! ### Arguments that are nothing but whole numbers and truths: their cells as names -/
abbrev Shp := List (Option IntKind)
inductive ShM : Shp → List Value → Prop
  | nil : ShM [] []
  | b {s : Shp} {vs : List Value} (x : Bool) : ShM s vs → ShM (none :: s) (.bool x :: vs)
  | i {s : Shp} {vs : List Value} (k : IntKind) (n : Int) : ShM s vs → ShM (some k :: s) (.int k n :: vs)
def sameLen (s : Shp) (n : Nat) : Bool := Nat.beq s.length n
mutual
def shapeT (P : Program) : Nat → TypeId → Option Shp
  | 0, _ => none
  | f + 1, t => match P.underlying t with
    | some .bool => some [none]
    | some (.int k) => some [some k]
    | some (.struct fs) => match shapeFs P f fs.toList 0 with
      | some s => if sameLen s (P.cellsOf t) then some s else none
      | none => none
    | some (.array n e) => match shapeT P f e with
      | some s => if sameLen s (P.cellsOf e) && Nat.beq (n * s.length) (P.cellsOf t) then some (List.replicate n s).flatten else none
      | none => none
    | _ => none
def shapeFs (P : Program) : Nat → List Field → Nat → Option Shp
  | 0, _, _ => none
  | _ + 1, [], _ => some []
  | f + 1, x :: xs, o => match shapeT P f x.type, shapeFs P f xs (o + P.cellsOf x.type) with
    | some s, some r => if Nat.beq x.offset o && sameLen s (P.cellsOf x.type) then some (s ++ r) else none
    | _, _ => none
end
theorem ShM.len {s : Shp} {l : List Value} (h : ShM s l) : s.length = l.length := by
  induction h with
  | nil => rfl
  | b x _ ih => simp [ih]
  | i k n _ ih => simp [ih]
theorem ShM.app {s s' : Shp} {l l' : List Value} (h : ShM s l) (h' : ShM s' l') : ShM (s ++ s') (l ++ l') := by
  induction h with
  | nil => exact h'
  | b x _ ih => exact .b x ih
  | i k n _ ih => exact .i k n ih
theorem mapM_mem {α β : Type} {f : α → Option β} : ∀ {l : List α} {r : List β}, l.mapM f = some r → ∀ x ∈ l, ∃ y, f x = some y := by
  intro l
  induction l with
  | nil => intro r _ x hx; cases hx
  | cons a l ih =>
    intro r h x hx
    rw [List.mapM_cons] at h
    cases e1 : f a with
    | none => rw [e1] at h; cases h
    | some y =>
      rw [e1] at h
      cases e2 : l.mapM f with
      | none => rw [e2] at h; cases h
      | some ys =>
        rcases List.mem_cons.1 hx with rfl | hx
        · exact ⟨y, e1⟩
        · exact ih e2 x hx
section
variable {H : Type} {enc : TypeId × Value → H} {P : Program} {w : World} {base : Nat} {spare : Nat → Bool} {held : Bool}
theorem rep_shape {s : Shp} {cs : List Value} : ∀ (n i : Nat), (∀ j, j < n → ShM s ((cs.drop ((i + j) * s.length)).take s.length)) → cs.length = (i + n) * s.length → ShM (List.replicate n s).flatten (cs.drop (i * s.length))
  | 0, i, _, hl => by
    have : cs.drop (i * s.length) = [] := by rw [List.drop_eq_nil_iff]; rw [hl]; simp
    rw [this]; exact .nil
  | n + 1, i, h, hl => by
    have h0 := h 0 (by omega)
    have ih := rep_shape n (i + 1) (fun j hj => by have := h (j + 1) (by omega); rw [show i + 1 + j = i + (j + 1) from by omega]; exact this) (by rw [hl]; congr 1; omega)
    rw [List.replicate_succ, List.flatten_cons]
    have e : cs.drop (i * s.length) = (cs.drop (i * s.length)).take s.length ++ cs.drop ((i + 1) * s.length) := by
      rw [show (i + 1) * s.length = i * s.length + s.length from by rw [Nat.add_mul]; omega]
      rw [← List.drop_drop, List.take_append_drop]
    rw [e]
    exact ShM.app (by simpa using h0) ih
mutual
theorem trod_shape : ∀ (f fuel : Nat) (t : TypeId) (cs : List Value) (x : DataW H × List MemPlace) (s : Shp), shapeT P f t = some s → DataW.trod enc P w base spare held fuel t cs = some x → ShM s cs
  | 0, _, _, _, _, _, h, _ => by simp [shapeT] at h
  | _ + 1, 0, _, _, _, _, _, h => by simp [DataW.trod] at h
  | f + 1, fuel + 1, t, cs, x, s, hs, h => by
    unfold shapeT at hs
    unfold DataW.trod at h
    cases hu : P.underlying t with
    | none => rw [hu] at hs; cases hs
    | some d =>
      rw [hu] at hs h
      cases d <;> simp only at hs <;> first | (cases hs; done) | skip
      case bool =>
        injection hs with hs; subst hs
        rcases cs with _ | ⟨v, _ | ⟨v', vs⟩⟩
        · cases h
        · cases v <;> first | exact .b _ .nil | (cases h; done)
        · cases v <;> cases h
      case int k =>
        injection hs with hs; subst hs
        rcases cs with _ | ⟨v, _ | ⟨v', vs⟩⟩
        · cases h
        · cases v <;> first | (cases h; done) | skip
          rename_i k' n
          simp only at h
          split at h
          · rename_i hk
            obtain ⟨rfl, _⟩ := hk
            exact .i _ _ .nil
          · cases h
        · cases v <;> cases h
      case struct fs =>
        cases hf : shapeFs P f fs.toList 0 with
        | none => rw [hf] at hs; cases hs
        | some r =>
          rw [hf] at hs
          simp only at hs
          split at hs
          · rename_i hl
            injection hs with hs; subst hs
            simp only at h
            split at h
            · rename_i hc
              cases hm : (fs.toList.mapM fun f => DataW.trod enc P w base spare held fuel f.type ((cs.drop f.offset).take (P.cellsOf f.type))) with
              | none => rw [hm] at h; cases h
              | some xs =>
                have := fields_shape f fuel fs.toList 0 cs r hf (fun y hy => mapM_mem hm y hy) (by rw [hc, ← of_beq hl]; simp)
                simpa using this
            · cases h
          · cases hs
      case array n e =>
        cases he : shapeT P f e with
        | none => rw [he] at hs; cases hs
        | some r =>
          rw [he] at hs
          simp only at hs
          split at hs
          · rename_i hl
            injection hs with hs; subst hs
            simp only [Bool.and_eq_true] at hl
            have hl1 : r.length = P.cellsOf e := of_beq hl.1
            have hl2 := of_beq hl.2
            simp only at h
            split at h
            · rename_i hc
              cases hm : ((List.range n).mapM fun i => DataW.trod enc P w base spare held fuel e ((cs.drop (i * P.cellsOf e)).take (P.cellsOf e))) with
              | none => rw [hm] at h; cases h
              | some xs =>
                have := rep_shape (s := r) (cs := cs) n 0 (fun j hj => by
                  obtain ⟨y, hy⟩ := mapM_mem hm j (List.mem_range.2 hj)
                  rw [Nat.zero_add, hl1]
                  exact trod_shape f fuel e _ y r he hy) (by rw [hc, ← hl2]; simp)
                simpa using this
            · cases h
          · cases hs
theorem fields_shape : ∀ (f fuel : Nat) (fs : List Field) (o : Nat) (cs : List Value) (r : Shp), shapeFs P f fs o = some r →
    (∀ y ∈ fs, ∃ x, DataW.trod enc P w base spare held fuel y.type ((cs.drop y.offset).take (P.cellsOf y.type)) = some x) → cs.length = o + r.length → ShM r (cs.drop o)
  | 0, _, _, _, _, _, h, _, _ => by simp [shapeFs] at h
  | f + 1, _, [], o, cs, r, h, _, hl => by
    simp only [shapeFs] at h
    injection h with h; subst h
    have : cs.drop o = [] := by rw [List.drop_eq_nil_iff]; rw [hl]; simp
    rw [this]; exact .nil
  | f + 1, fuel, y :: ys, o, cs, r, h, hm, hl => by
    unfold shapeFs at h
    cases h1 : shapeT P f y.type with
    | none => rw [h1] at h; cases h
    | some s =>
      rw [h1] at h
      cases h2 : shapeFs P f ys (o + P.cellsOf y.type) with
      | none => rw [h2] at h; cases h
      | some r' =>
        rw [h2] at h
        simp only at h
        split at h
        · rename_i hb
          injection h with h; subst h
          simp only [Bool.and_eq_true] at hb
          have hb1 := of_beq hb.1
          have hb2 : s.length = P.cellsOf y.type := of_beq hb.2
          obtain ⟨x, hx⟩ := hm y List.mem_cons_self
          have hd := trod_shape f fuel y.type _ x s h1 hx
          rw [hb1] at hd
          have ih := fields_shape f fuel ys (o + P.cellsOf y.type) cs r' h2 (fun z hz => hm z (List.mem_cons_of_mem _ hz)) (by rw [hl, List.length_append, hb2]; omega)
          have e : cs.drop o = (cs.drop o).take (P.cellsOf y.type) ++ cs.drop (o + P.cellsOf y.type) := by
            rw [← List.drop_drop, List.take_append_drop]
          rw [e]
          exact hd.app ih
        · cases h
end
variable {w' : World} {base' : Nat} {spare' : Nat → Bool} {held' : Bool}
theorem fs_shape : ∀ (f : Nat) (fs : List Field) (o : Nat) (r : Shp), shapeFs P f fs o = some r → ∀ y ∈ fs, ∃ f' s, f' < f ∧ shapeT P f' y.type = some s
  | 0, _, _, _, h, _, _ => by simp [shapeFs] at h
  | _ + 1, [], _, _, _, _, hy => by cases hy
  | f + 1, x :: xs, o, r, h, y, hy => by
    unfold shapeFs at h
    cases h1 : shapeT P f x.type with
    | none => rw [h1] at h; cases h
    | some s =>
      rw [h1] at h
      cases h2 : shapeFs P f xs (o + P.cellsOf x.type) with
      | none => rw [h2] at h; cases h
      | some r' =>
        rcases List.mem_cons.1 hy with rfl | hy
        · exact ⟨f, s, by omega, h1⟩
        · obtain ⟨f', s', a, b⟩ := fs_shape f xs _ r' h2 y hy
          exact ⟨f', s', by omega, b⟩
theorem mapM_cong {α β : Type} {f g : α → Option β} : ∀ {l : List α}, (∀ x ∈ l, f x = g x) → l.mapM f = l.mapM g := by
  intro l
  induction l with
  | nil => intro _; rfl
  | cons a l ih =>
    intro h
    rw [List.mapM_cons, List.mapM_cons, h a List.mem_cons_self, ih fun x hx => h x (List.mem_cons_of_mem _ hx)]
/-- what holds no places reads alike in every world -/
theorem trod_world : ∀ (m f fuel : Nat) (t : TypeId) (cs : List Value) (s : Shp), f < m → shapeT P f t = some s → DataW.trod enc P w base spare held fuel t cs = DataW.trod enc P w' base' spare' held' fuel t cs
  | 0, _, _, _, _, _, h, _ => by omega
  | _ + 1, 0, _, _, _, _, _, h => by simp [shapeT] at h
  | _ + 1, _ + 1, 0, _, _, _, _, _ => rfl
  | m + 1, f + 1, fuel + 1, t, cs, s, hm, hs => by
    unfold shapeT at hs
    unfold DataW.trod
    cases hu : P.underlying t with
    | none => simp only [hu] at hs; cases hs
    | some d =>
      rw [hu] at hs
      cases d <;> simp only at hs <;> first | (cases hs; done) | skip
      case bool => rcases cs with _ | ⟨v, _ | ⟨v', vs⟩⟩ <;> first | rfl | (cases v <;> rfl)
      case int k => rcases cs with _ | ⟨v, _ | ⟨v', vs⟩⟩ <;> first | rfl | (cases v <;> rfl)
      case struct fs =>
        cases hf : shapeFs P f fs.toList 0 with
        | none => rw [hf] at hs; cases hs
        | some r =>
          simp only
          rw [mapM_cong (l := fs.toList) (f := fun f => DataW.trod enc P w base spare held fuel f.type ((cs.drop f.offset).take (P.cellsOf f.type))) (g := fun f => DataW.trod enc P w' base' spare' held' fuel f.type ((cs.drop f.offset).take (P.cellsOf f.type))) fun y hy => by
            obtain ⟨f', s', h1, h2⟩ := fs_shape f _ _ _ hf y hy
            exact trod_world m f' fuel y.type _ s' (by omega) h2]
      case array n e =>
        cases he : shapeT P f e with
        | none => rw [he] at hs; cases hs
        | some r =>
          simp only
          rw [mapM_cong (l := List.range n) (f := fun i => DataW.trod enc P w base spare held fuel e ((cs.drop (i * P.cellsOf e)).take (P.cellsOf e))) (g := fun i => DataW.trod enc P w' base' spare' held' fuel e ((cs.drop (i * P.cellsOf e)).take (P.cellsOf e))) fun i _ => trod_world m f fuel e _ r (by omega) he]
theorem Trod_world {f : Nat} {t : TypeId} {s : Shp} (hs : shapeT P f t = some s) {v : Value} {d : DataW H} {ps : List MemPlace} (h : DataW.Trod enc P w base spare held t v d ps) : DataW.Trod enc P w' base' spare' held' t v d ps := by
  obtain ⟨fuel, h⟩ := h
  exact ⟨fuel, by rw [← h]; exact (trod_world (f + 1) f fuel t _ s (by omega) hs).symm⟩
end

/-! ### The names -/
def symV (c : Nat → Int) (b : Nat → Bool) : Nat → Shp → List Value
  | _, [] => []
  | i, none :: r => .bool (b i) :: symV c b (i + 1) r
  | i, some k :: r => .int k (c i) :: symV c b (i + 1) r
def symL (c : Nat → Int) (b : Nat → Bool) : Nat → Shp → List AV
  | _, [] => []
  | i, none :: r => .sbool (b i) :: symL c b (i + 1) r
  | i, some k :: r => .sint k (c i) :: symL c b (i + 1) r
theorem sym_VRs (σ : Sg) (c : Nat → Int) (b : Nat → Bool) : ∀ (s : Shp) (i : Nat), VRs σ (symL c b i s) (symV c b i s)
  | [], _ => .nil
  | none :: r, i => .cons (.sbool _) (sym_VRs σ c b r (i + 1))
  | some k :: r, i => .cons (.sint k _) (sym_VRs σ c b r (i + 1))
theorem symV_cong {c c' : Nat → Int} {b b' : Nat → Bool} : ∀ (s : Shp) (i : Nat), (∀ j, i ≤ j → c j = c' j ∧ b j = b' j) → symV c b i s = symV c' b' i s
  | [], _, _ => rfl
  | none :: r, i, h => by simp only [symV]; rw [(h i (Nat.le_refl _)).2, symV_cong r (i + 1) fun j hj => h j (by omega)]
  | some k :: r, i, h => by simp only [symV]; rw [(h i (Nat.le_refl _)).1, symV_cong r (i + 1) fun j hj => h j (by omega)]
theorem ShM.sym {s : Shp} {l : List Value} (h : ShM s l) : ∀ i, ∃ c b, l = symV c b i s := by
  induction h with
  | nil => exact fun i => ⟨fun _ => 0, fun _ => false, rfl⟩
  | b x _ ih =>
    intro i
    obtain ⟨c, b, e⟩ := ih (i + 1)
    refine ⟨c, fun j => if j = i then x else b j, ?_⟩
    simp only [symV, if_pos]
    rw [e]
    congr 1
    exact symV_cong _ (i + 1) fun j hj => ⟨rfl, by rw [if_neg (by omega)]⟩
  | i k n _ ih =>
    intro i
    obtain ⟨c, b, e⟩ := ih (i + 1)
    refine ⟨fun j => if j = i then n else c j, b, ?_⟩
    simp only [symV, if_pos]
    rw [e]
    congr 1
    exact symV_cong _ (i + 1) fun j hj => ⟨by rw [if_neg (by omega)], rfl⟩
/-- an argument of a type that holds no places, and of more than one cell: its value, by names -/
theorem open_plain {H : Type} {enc : TypeId × Value → H} {P : Program} {w : World} {base : Nat} {spare : Nat → Bool} {held : Bool} {f : Nat} {t : TypeId} {s : Shp} (hs : shapeT P f t = some s) (h1 : s.length ≠ 1)
    {v : Value} {d : DataW H} {ps : List MemPlace} (h : DataW.Trod enc P w base spare held t v d ps) : ∃ c b, v = .agg (symV c b 0 s).toArray := by
  obtain ⟨fuel, h⟩ := h
  have hm := trod_shape f fuel t _ _ s hs h
  obtain ⟨c, b, e⟩ := hm.sym 0
  have hl := hm.len
  refine ⟨c, b, ?_⟩
  cases v <;> first | (simp only [Value.cells] at e; rw [← e]; done) | (exfalso; simp [Value.cells] at hl; omega)
end Go.Ev
