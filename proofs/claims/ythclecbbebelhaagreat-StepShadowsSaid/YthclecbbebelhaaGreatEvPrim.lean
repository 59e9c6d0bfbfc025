/-
  A part of the evaluator of the program's code, or of what it was seen to do; its statements are Lean's own. No condition.
-/
import Derived.Test.YthclecbbebelhaaGreatEvMem
namespace Go.Ev
open Go

theorem run_loadCells' {P : Program} {w : World} {b : Nat} {c : Array Value} {e : TypeId} {fz : Nat × Nat} (h : w.heap[b]? = some (.cells c e fz)) (o n : Nat) (hb : n = 0 ∨ o + n ≤ c.size) :
    (loadCells ⟨b, o, none⟩ n).run P w = .ok ((c.toList.drop o).take n).toArray w := by
  rcases hb with rfl | hb
  · simp [loadCells, loadCellsFrom, Sem.run, pure, Pure.pure]
  · exact run_loadCells h o n hb

theorem bind_ok {α β : Type} {m : M α} {f : α → M β} {g : G} {b : β} {g' : G} (h : M.bind m f g = .ok b g') : ∃ a g1, m g = .ok a g1 ∧ f a g1 = .ok b g' := by
  unfold M.bind at h
  cases e : m g with
  | ok a g1 => rw [e] at h; exact ⟨a, g1, rfl, h⟩
  | no w => rw [e] at h; cases h
theorem pure_ok {α : Type} {a b : α} {g g' : G} (h : M.pure a g = .ok b g') : b = a ∧ g' = g := by
  unfold M.pure at h; injection h with h1 h2; exact ⟨h1.symm, h2.symm⟩
theorem no_ok {α : Type} {w : Nat} {b : α} {g g' : G} (h : (no w : M α) g = .ok b g') : False := by cases h

theorem touch_ok {i o n : Nat} {wr : Bool} {g g' : G} {u : Unit} (h : touch i o n wr g = .ok u g') : g' = ⟨g.heap, g.next, ⟨i, o, n, wr⟩ :: g.log, g.orc, g.obl⟩ := by
  cases g; unfold touch at h; injection h with _ h; exact h.symm
theorem ask_ok {b d : Bool} {g g' : G} (h : ask b g = .ok d g') : ∃ r, g.orc = d :: r ∧ g' = ⟨g.heap, g.next, g.log, r, (b, d) :: g.obl⟩ := by
  obtain ⟨hp, nx, l, oc, ob⟩ := g
  cases oc with
  | nil => cases h
  | cons x r => injection h with h1 h2; subst h1; exact ⟨r, rfl, h2.symm⟩

/-- only the log, the oracle and what is owed have grown -/
theorem Le.logs {g : G} {i o n : Nat} : Le g ⟨g.heap, g.next, ⟨i, o, n, false⟩ :: g.log, g.orc, g.obl⟩ [⟨i, o, n, false⟩] :=
  ⟨rfl, Nat.le_refl _, ⟨[], rfl⟩, fun _ b _ h => ⟨b, h, rfl⟩, fun _ _ b _ _ h h' => ⟨b, h, h'⟩, fun t ht hw => by simp at ht; subst ht; cases hw⟩
theorem Rel.same {P : Program} {σ : Sg} {T : Tp} {g g' : G} {w : World} (r : Rel P σ T g w) (h : g'.heap = g.heap) : Rel P σ T g' w :=
  ⟨fun i => by rw [h]; exact r.sh i, fun i => by rw [h]; exact r.ct i, fun i j => by rw [h]; exact r.inj i j⟩
theorem Post.logs {P : Program} {T : Tp} {σ : Sg} {g : G} {w : World} {i o n : Nat} (r : Rel P σ T g w) :
    Post P T σ g w σ ⟨g.heap, g.next, ⟨i, o, n, false⟩ :: g.log, g.orc, g.obl⟩ w [⟨i, o, n, false⟩] where
  le := Le.logs
  ext := fun _ _ => rfl
  rel := r.same rfl
  fr := ⟨Nat.le_refl _, rfl, rfl, rfl, fun _ _ _ => rfl, fun _ c _ _ h => ⟨c, h, rfl, fun _ _ => rfl⟩, fun _ es cl h => ⟨es, cl, h, fun _ => ⟨rfl, rfl⟩⟩, fun _ _ q s r h => ⟨q, s, r, h, fun _ => ⟨rfl, rfl, rfl⟩⟩⟩
  nw := fun _ _ _ h1 h2 _ => absurd h1 (Nat.not_le_of_lt h2)
theorem Le.asked {g : G} {b d : Bool} {r : List Bool} : Le g ⟨g.heap, g.next, g.log, r, (b, d) :: g.obl⟩ [] :=
  ⟨rfl, Nat.le_refl _, ⟨[(b, d)], rfl⟩, fun _ b _ h => ⟨b, h, rfl⟩, fun _ _ b _ _ h h' => ⟨b, h, h'⟩, fun _ h => by cases h⟩
theorem Post.asked {P : Program} {T : Tp} {σ : Sg} {g : G} {w : World} {b d : Bool} {r : List Bool} (rl : Rel P σ T g w) :
    Post P T σ g w σ ⟨g.heap, g.next, g.log, r, (b, d) :: g.obl⟩ w [] where
  le := Le.asked
  ext := fun _ _ => rfl
  rel := rl.same rfl
  fr := Fr.refl σ w
  nw := fun _ _ _ h1 h2 _ => absurd h1 (Nat.not_le_of_lt h2)

/-! ### Reading -/
theorem read_ok {i o n : Nat} {g g' : G} {r : List AV} (h : read i o n g = .ok r g') :
    ∃ blk, g.heap.get i = some blk ∧ readB blk o n = some r ∧ g' = ⟨g.heap, g.next, ⟨i, o, n, false⟩ :: g.log, g.orc, g.obl⟩ := by
  obtain ⟨hp, nx, l, oc, ob⟩ := g
  simp only [read] at h
  cases e : hp.get i with
  | none => rw [e] at h; cases h
  | some blk =>
    rw [e] at h
    simp only at h
    cases e2 : readB blk o n with
    | none => rw [e2] at h; cases h
    | some r' => rw [e2] at h; injection h with h1 h2; subst h1; exact ⟨blk, rfl, e2, h2.symm⟩
theorem cut_some {l : List AV} {o n : Nat} {r : List AV} (h : cut l o n = some r) : r = (l.drop o).take n ∧ r.length = n := by
  unfold cut at h
  rw [listK_eq] at h
  split at h
  · rename_i e
    injection h with h; subst h; exact ⟨rfl, of_beq e⟩
  · cases h
theorem tread_length (t : Tr AV) (d : AV) : ∀ (n o : Nat), (tread t d o n).length = n
  | 0, _ => rfl
  | n + 1, o => by simp [tread, tread_length t d n]
theorem tread_get (t : Tr AV) (d : AV) : ∀ (n o k : Nat), k < n → (tread t d o n)[k]? = some ((t.get (o + k)).getD d)
  | n + 1, o, 0, _ => by cases h : t.get o <;> simp [tread, h]
  | n + 1, o, k + 1, h => by
    have := tread_get t d n (o + 1) k (by omega)
    simp only [tread, List.getElem?_cons_succ]
    rw [this, show o + 1 + k = o + (k + 1) from by omega]
/-- what a reading tells: so many cells, each the block's own -/
theorem readB_some {blk : Blk} {o n : Nat} {r : List AV} (h : readB blk o n = some r) :
    r.length = n ∧ (∀ k v, r[k]? = some v → blk.ct (o + k) = some (.cell v)) ∧
    ∃ e m, (blk.sh = .cells e m ∨ blk.sh = .grown e m ∨ blk.sh = .big e m) ∧ (n = 0 ∨ o + n ≤ m) := by
  have key : ∀ (l : List AV), cut l o n = some r → r.length = n ∧ (∀ k v, r[k]? = some v → (l[o + k]?).map Ct.cell = some (.cell v)) ∧ (n = 0 ∨ o + n ≤ l.length) := by
    intro l h
    obtain ⟨h1, h2⟩ := cut_some h
    refine ⟨h2, fun k v hk => ?_, ?_⟩
    · subst h1
      have hlt : k < n := by
        have := (List.getElem?_eq_some_iff.1 hk).1
        omega
      rw [List.getElem?_take_of_lt hlt, List.getElem?_drop] at hk
      rw [hk]; rfl
    · subst h1
      simp at h2
      omega
  cases blk with
  | cells e l =>
    obtain ⟨a, b, c⟩ := key l h
    exact ⟨a, b, e, l.length, .inl rfl, c⟩
  | grown e l =>
    obtain ⟨a, b, c⟩ := key l h
    exact ⟨a, b, e, l.length, .inr (.inl rfl), c⟩
  | seq e k f m => cases h
  | map es => cases h
  | chan => cases h
  | pmap es => cases h
  | big e t d m =>
    simp only [readB] at h
    split at h
    · rename_i hb
      rw [listK_eq] at h
      injection h with h; subst h
      have hb := of_ble hb
      refine ⟨tread_length t d n o, fun k v hk => ?_, e, m, .inr (.inr rfl), .inr hb⟩
      have hlt : k < n := by have := (List.getElem?_eq_some_iff.1 hk).1; rw [tread_length] at this; exact this
      rw [tread_get t d n o k hlt] at hk
      injection hk with hk
      simp only [Blk.ct]
      rw [if_pos (by omega), hk]
    · cases h

/-- a block with cells in a world -/
theorem Rel.cellsOf {P : Program} {σ : Sg} {T : Tp} {g : G} {w : World} (rl : Rel P σ T g w) {i : Nat} {blk : Blk} (hg : g.heap.get i = some blk) (ht : ∃ o, T i o)
    {e m : Nat} (hs : blk.sh = .cells e m ∨ blk.sh = .grown e m ∨ blk.sh = .big e m) :
    ∃ b cap c fz, σ i = some (b, cap) ∧ w.heap[b]? = some (.cells c e fz) ∧ noFz fz ∧ m ≤ c.size := by
  obtain ⟨b, cap, h1, h2⟩ := rl.sh i blk hg ht
  rcases hs with hs | hs | hs <;> rw [hs] at h2
  · obtain ⟨c, fz, h3, h4, h5⟩ := h2; exact ⟨b, cap, c, fz, h1, h3, h4, by omega⟩
  · obtain ⟨c, fz, h3, h4, h5, _⟩ := h2; exact ⟨b, cap, c, fz, h1, h3, h4, h5⟩
  · obtain ⟨c, fz, h3, h4, h5⟩ := h2; exact ⟨b, cap, c, fz, h1, h3, h4, by omega⟩

theorem inT.some {T : Tp} {t : Tch} {L : List Tch} (h : inT T (t :: L)) : ∃ o, T t.i o := by
  by_cases hn : t.n = 0
  · exact ⟨0, h t (List.mem_cons_self) 0 (.inl hn)⟩
  · exact ⟨t.o, h t (List.mem_cons_self) t.o (.inr ⟨Nat.le_refl _, by omega⟩)⟩

theorem read_sound {P : Program} {σ : Sg} {T : Tp} {g g' : G} {w : World} {i o n : Nat} {r : List AV} (h : read i o n g = .ok r g') (rl : Rel P σ T g w)
    (ht : inT T [⟨i, o, n, false⟩]) :
    ∃ b cap c e fz, σ i = some (b, cap) ∧ w.heap[b]? = some (.cells c e fz) ∧ noFz fz ∧ (n = 0 ∨ o + n ≤ c.size) ∧ r.length = n ∧ VRs σ r ((c.toList.drop o).take n) ∧
      Post P T σ g w σ g' w [⟨i, o, n, false⟩] := by
  obtain ⟨blk, hg, hr, rfl⟩ := read_ok h
  obtain ⟨hl, hv, e, m, hs, hb⟩ := readB_some hr
  obtain ⟨b, cap, c, fz, h1, h2, h3, h4⟩ := rl.cellsOf hg ht.some hs
  have hb' : n = 0 ∨ o + n ≤ c.size := by omega
  refine ⟨b, cap, c, e, fz, h1, h2, h3, hb', hl, VRs.of_get ?_ ?_, Post.logs rl⟩
  · rw [hl]; simp; omega
  · intro k v hk
    have hlt : k < n := by have := (List.getElem?_eq_some_iff.1 hk).1; omega
    have hc := rl.ct i blk (o + k) (.cell v) b cap hg (hv k v hk) (ht _ (List.mem_cons_self) (o + k) (.inr ⟨by simp, by simpa using hlt⟩)) h1
    obtain ⟨c', e', fz', V, h5, h6, h7⟩ := hc
    rw [h2] at h5
    injection h5 with h5
    injection h5 with h5 _ _
    subst h5
    refine ⟨V, ?_, h7⟩
    rw [List.getElem?_take_of_lt hlt, List.getElem?_drop]
    simpa using h6
end Go.Ev
