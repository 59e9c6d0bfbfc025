/-
  A part of the evaluator of the program's code, or of what it was seen to do; its statements are Lean's own. No condition.
-/
import Derived.Test.YthclecbbebelhaaGreatEvRel
namespace Go.Ev
open Go

/-! ### Blocks: their shapes and what lies in them -/
inductive Sh where
  | cells (e n : Nat)
  | grown (e n : Nat)
  | seq (e n : Nat)
  | big (e n : Nat)
  | map
  | chan
inductive Ct where
  | cell (v : AV)
  | map (es : List (AV × AV))
  | pmap (es : List (AV × AV))
  | chan (cap len : Nat)
def Blk.sh : Blk → Sh
  | .cells e l => .cells e l.length
  | .grown e l => .grown e l.length
  | .seq e _ _ n => .seq e n
  | .big e _ _ n => .big e n
  | .map _ => .map
  | .chan .. => .chan
  | .pmap _ => .map
noncomputable def Blk.ct : Blk → Nat → Option Ct
  | .cells _ l, o => (l[o]?).map .cell
  | .grown _ l, o => (l[o]?).map .cell
  | .seq _ k f n, o => if o < n then some (.cell (.sint k (f o))) else none
  | .big _ t d n, o => if o < n then some (.cell ((t.get o).getD d)) else none
  | .map es, o => if o = 0 then some (.map es) else none
  | .chan n k, o => if o = 0 then some (.chan n k) else none
  | .pmap es, o => if o = 0 then some (.pmap es) else none

/-- nothing of a block is frozen -/
def noFz (p : Nat × Nat) : Prop := p.2 ≤ p.1
def ShR (P : Program) (cap : Nat) : Sh → Option Obj → Prop
  | .cells e n, o => ∃ c fz, o = some (.cells c e fz) ∧ noFz fz ∧ c.size = n
  | .grown e n, o => ∃ c fz, o = some (.cells c e fz) ∧ noFz fz ∧ n ≤ c.size ∧ ∀ s, sizeT P e = some s → c.size = cap * s
  | .seq e n, o => ∃ c fz, o = some (.cells c e fz) ∧ n ≤ c.size
  | .big e n, o => ∃ c fz, o = some (.cells c e fz) ∧ noFz fz ∧ c.size = n
  | .map, o => ∃ es clock, o = some (.map es clock)
  | .chan, o => ∃ n q s r, o = some (.chan n q false s r false)
def MRs (σ : Sg) : List (AV × AV) → List MapEntry → Prop
  | [], [] => True
  | (k, v) :: es, E :: Es => VR σ k E.key ∧ VR σ v E.val ∧ MRs σ es Es
  | _, _ => False
def CtR (σ : Sg) : Ct → Option Obj → Nat → Prop
  | .cell v, o, k => ∃ c e fz V, o = some (.cells c e fz) ∧ c[k]? = some V ∧ VR σ v V
  | .map es, o, _ => ∃ Es clock, o = some (.map Es clock) ∧ MRs σ es Es.toList
  | .pmap es, o, _ => ∃ Es clock Es', o = some (.map Es clock) ∧ List.Perm Es' Es.toList ∧ MRs σ es Es'
  | .chan n k, o, _ => ∃ q s r, o = some (.chan n q false s r false) ∧ q.size = k
theorem MRs.mono {σ σ' : Sg} (h : Sub σ σ') : ∀ {es : List (AV × AV)} {Es : List MapEntry}, MRs σ es Es → MRs σ' es Es
  | [], [], _ => trivial
  | (_, _) :: _, _ :: _, ⟨a, b, c⟩ => ⟨a.mono h, b.mono h, MRs.mono h c⟩
theorem CtR.mono {σ σ' : Sg} (h : Sub σ σ') {c : Ct} {o : Option Obj} {k : Nat} (hc : CtR σ c o k) : CtR σ' c o k := by
  cases c with
  | cell v => obtain ⟨a, b, c, d, h1, h2, h3⟩ := hc; exact ⟨a, b, c, d, h1, h2, h3.mono h⟩
  | map es => obtain ⟨a, b, h1, h2⟩ := hc; exact ⟨a, b, h1, h2.mono h⟩
  | pmap es => obtain ⟨a, b, c, h1, h2, h3⟩ := hc; exact ⟨a, b, c, h1, h2, h3.mono h⟩
  | chan n k => exact hc

/-! ### The relation between an abstract memory and a world -/
abbrev Tp := Nat → Nat → Prop
structure Rel (P : Program) (σ : Sg) (T : Tp) (g : G) (w : World) : Prop where
  sh : ∀ i blk, g.heap.get i = some blk → (∃ o, T i o) → ∃ b cap, σ i = some (b, cap) ∧ ShR P cap blk.sh w.heap[b]?
  ct : ∀ i blk o c b cap, g.heap.get i = some blk → blk.ct o = some c → T i o → σ i = some (b, cap) → CtR σ c w.heap[b]? o
  inj : ∀ i j bi bj b c c', g.heap.get i = some bi → g.heap.get j = some bj → (∃ o, T i o) → (∃ o, T j o) → σ i = some (b, c) → σ j = some (b, c') → i = j

def Tch.at (t : Tch) (o : Nat) : Prop := t.n = 0 ∨ (t.o ≤ o ∧ o < t.o + t.n)
def covW (L : List Tch) (i o : Nat) : Prop := ∃ t ∈ L, t.w = true ∧ t.i = i ∧ t.at o
def covA (L : List Tch) (i : Nat) : Prop := ∃ t ∈ L, t.w = true ∧ t.i = i ∧ t.n = 0
def inT (T : Tp) (L : List Tch) : Prop := ∀ t ∈ L, ∀ o, t.at o → T t.i o
theorem covW.left {L M : List Tch} {i o : Nat} (h : covW L i o) : covW (L ++ M) i o := let ⟨t, m, r⟩ := h; ⟨t, List.mem_append_left _ m, r⟩
theorem covW.right {L M : List Tch} {i o : Nat} (h : covW M i o) : covW (L ++ M) i o := let ⟨t, m, r⟩ := h; ⟨t, List.mem_append_right _ m, r⟩
theorem covA.left {L M : List Tch} {i : Nat} (h : covA L i) : covA (L ++ M) i := let ⟨t, m, r⟩ := h; ⟨t, List.mem_append_left _ m, r⟩
theorem covA.right {L M : List Tch} {i : Nat} (h : covA M i) : covA (L ++ M) i := let ⟨t, m, r⟩ := h; ⟨t, List.mem_append_right _ m, r⟩
theorem covA.covW {L : List Tch} {i : Nat} (h : covA L i) (o : Nat) : covW L i o := let ⟨t, m, a, b, c⟩ := h; ⟨t, m, a, b, .inl c⟩
theorem inT.of_app {T : Tp} {L M : List Tch} (h : inT T (L ++ M)) : inT T L ∧ inT T M :=
  ⟨fun t m => h t (List.mem_append_left _ m), fun t m => h t (List.mem_append_right _ m)⟩

/-- what an abstract run keeps -/
structure Le (g g' : G) (L : List Tch) : Prop where
  log : g'.log = L ++ g.log
  nx : g.next ≤ g'.next
  ob : ∃ O, g'.obl = O ++ g.obl
  sh : ∀ i b', ¬ covA L i → g'.heap.get i = some b' → ∃ b, g.heap.get i = some b ∧ b.sh = b'.sh
  ct : ∀ i o b' c, ¬ covW L i o → g'.heap.get i = some b' → b'.ct o = some c → ∃ b, g.heap.get i = some b ∧ b.ct o = some c
  ex : ∀ t ∈ L, t.w = true → (∃ b, g.heap.get t.i = some b) ∨ (g.next ≤ t.i ∧ t.i < g'.next)
theorem Le.refl (g : G) : Le g g [] := ⟨rfl, Nat.le_refl _, ⟨[], rfl⟩, fun _ b _ h => ⟨b, h, rfl⟩, fun _ _ b _ _ h h' => ⟨b, h, h'⟩, fun _ h => by cases h⟩
theorem Le.trans {g g1 g2 : G} {L M : List Tch} (a : Le g g1 L) (b : Le g1 g2 M) : Le g g2 (M ++ L) :=
  ⟨by rw [b.log, a.log, List.append_assoc], Nat.le_trans a.nx b.nx,
   let ⟨O, h⟩ := a.ob; let ⟨O', h'⟩ := b.ob; ⟨O' ++ O, by rw [h', h, List.append_assoc]⟩,
   fun i x n h => let ⟨y, h1, h2⟩ := b.sh i x (fun c => n c.left) h; let ⟨z, h3, h4⟩ := a.sh i y (fun c => n c.right) h1; ⟨z, h3, h4.trans h2⟩,
   fun i o x c n h h' => let ⟨y, h1, h2⟩ := b.ct i o x c (fun c => n c.left) h h'; a.ct i o y c (fun c => n c.right) h1 h2,
   fun t ht hw => by
     have hn := b.nx; have hm := a.nx
     rcases List.mem_append.1 ht with h | h
     · rcases b.ex t h hw with ⟨x, h1⟩ | ⟨h1, h2⟩
       · by_cases hc : covA L t.i
         · obtain ⟨u, hu, hw', hi, h0⟩ := hc
           rcases a.ex u hu hw' with h3 | ⟨h3, h4⟩
           · rw [hi] at h3; exact .inl h3
           · rw [hi] at h3 h4; exact .inr ⟨h3, by omega⟩
         · obtain ⟨y, h3, _⟩ := a.sh t.i x hc h1; exact .inl ⟨y, h3⟩
       · exact .inr ⟨by omega, h2⟩
     · rcases a.ex t h hw with h1 | ⟨h1, h2⟩
       · exact .inl h1
       · exact .inr ⟨h1, by omega⟩⟩

/-- what a run owes: its tests fall as was said -/
def Owes (g : G) : Prop := ∀ p ∈ g.obl, p.1 = p.2
theorem Le.owes {g g' : G} {L : List Tch} (h : Le g g' L) (ho : Owes g') : Owes g := by
  obtain ⟨O, e⟩ := h.ob
  exact fun p m => ho p (by rw [e]; exact List.mem_append_right _ m)

def Chg (σ : Sg) (L : List Tch) (b o : Nat) : Prop := ∃ i c, σ i = some (b, c) ∧ covW L i o
theorem Chg.left {σ : Sg} {L M : List Tch} {b o : Nat} (h : Chg σ L b o) : Chg σ (L ++ M) b o := let ⟨i, c, e, h⟩ := h; ⟨i, c, e, h.left⟩
theorem Chg.right {σ : Sg} {L M : List Tch} {b o : Nat} (h : Chg σ M b o) : Chg σ (L ++ M) b o := let ⟨i, c, e, h⟩ := h; ⟨i, c, e, h.right⟩
theorem Chg.mono {σ σ' : Sg} {L : List Tch} {b o : Nat} (s : Sub σ σ') (h : Chg σ L b o) : Chg σ' L b o := let ⟨i, c, e, h⟩ := h; ⟨i, c, s _ _ e, h⟩

structure Fr (σ : Sg) (L : List Tch) (w w' : World) : Prop where
  size : w.heap.size ≤ w'.heap.size
  tape : w'.tape = w.tape
  os : w'.os = w.os
  output : w'.output = w.output
  same : ∀ (b : Nat), b < w.heap.size → (∀ o, ¬ Chg σ L b o) → w'.heap[b]? = w.heap[b]?
  cells : ∀ (b : Nat) c e fz, w.heap[b]? = some (Obj.cells c e fz) → ∃ c', w'.heap[b]? = some (Obj.cells c' e fz) ∧ c'.size = c.size ∧ ∀ o, ¬ Chg σ L b o → c'[o]? = c[o]?
  maps : ∀ (b : Nat) es cl, w.heap[b]? = some (Obj.map es cl) → ∃ es' cl', w'.heap[b]? = some (Obj.map es' cl') ∧ (¬ Chg σ L b 0 → es' = es ∧ cl' = cl)
  oth : ∀ (b : Nat) n q s r, w.heap[b]? = some (Obj.chan n q false s r false) → ∃ q' s' r', w'.heap[b]? = some (Obj.chan n q' false s' r' false) ∧ (¬ Chg σ L b 0 → q' = q ∧ s' = s ∧ r' = r)
theorem Fr.refl (σ : Sg) (w : World) : Fr σ [] w w :=
  ⟨Nat.le_refl _, rfl, rfl, rfl, fun _ _ _ => rfl, fun _ c _ _ h => ⟨c, h, rfl, fun _ _ => rfl⟩, fun _ es cl h => ⟨es, cl, h, fun _ => ⟨rfl, rfl⟩⟩, fun _ _ q s r h => ⟨q, s, r, h, fun _ => ⟨rfl, rfl, rfl⟩⟩⟩
theorem Fr.trans {σ σ' : Sg} {L M : List Tch} {w w1 w2 : World} (s0 : Sub σ σ') (a : Fr σ L w w1) (b : Fr σ' M w1 w2) : Fr σ' (M ++ L) w w2 where
  size := Nat.le_trans a.size b.size
  tape := b.tape.trans a.tape
  os := b.os.trans a.os
  output := b.output.trans a.output
  same := fun x hx h => (b.same x (Nat.lt_of_lt_of_le hx a.size) fun o c => h o c.left).trans (a.same x hx fun o c => h o (c.mono s0).right)
  cells := fun x c e fz h => by
    obtain ⟨c1, h1, s1, k1⟩ := a.cells x c e fz h
    obtain ⟨c2, h2, s2, k2⟩ := b.cells x c1 e fz h1
    exact ⟨c2, h2, s2.trans s1, fun o ho => (k2 o fun c => ho c.left).trans (k1 o fun c => ho (c.mono s0).right)⟩
  maps := fun x es cl h => by
    obtain ⟨e1, c1, h1, k1⟩ := a.maps x es cl h
    obtain ⟨e2, c2, h2, k2⟩ := b.maps x e1 c1 h1
    refine ⟨e2, c2, h2, fun ho => ?_⟩
    obtain ⟨q1, q2⟩ := k1 fun c => ho (c.mono s0).right
    obtain ⟨q3, q4⟩ := k2 fun c => ho c.left
    exact ⟨q3.trans q1, q4.trans q2⟩
  oth := fun x n q s r h => by
    obtain ⟨q1, s1, r1, h1, k1⟩ := a.oth x n q s r h
    obtain ⟨q2, s2, r2, h2, k2⟩ := b.oth x n q1 s1 r1 h1
    refine ⟨q2, s2, r2, h2, fun ho => ?_⟩
    obtain ⟨u1, u2, u3⟩ := k1 fun c => ho (c.mono s0).right
    obtain ⟨u4, u5, u6⟩ := k2 fun c => ho c.left
    exact ⟨u4.trans u1, u5.trans u2, u6.trans u3⟩

def Ext (σ σ' : Sg) (g g' : G) : Prop := ∀ j, (j < g.next ∨ g'.next ≤ j) → σ' j = σ j
def Fresh (σ : Sg) (g : G) (hi : Nat) : Prop := ∀ j, g.next ≤ j → j < hi → σ j = none
theorem Ext.sub {σ σ' : Sg} {g g' : G} {hi : Nat} (e : Ext σ σ' g g') (f : Fresh σ g hi) (h : g'.next ≤ hi) : Sub σ σ' := by
  intro i x hx
  rcases Nat.lt_or_ge i g.next with h1 | h1
  · rw [e i (.inl h1)]; exact hx
  · rcases Nat.lt_or_ge i g'.next with h2 | h2
    · rw [f i h1 (Nat.lt_of_lt_of_le h2 h)] at hx; cases hx
    · rw [e i (.inr h2)]; exact hx
theorem Ext.fresh {σ σ' : Sg} {g g' : G} {hi : Nat} (e : Ext σ σ' g g') (f : Fresh σ g hi) (h : g.next ≤ g'.next) : Fresh σ' g' hi :=
  fun j h1 h2 => by rw [e j (.inr h1)]; exact f j (Nat.le_trans h h1) h2

structure Post (P : Program) (T : Tp) (σ : Sg) (g : G) (w : World) (σ' : Sg) (g' : G) (w' : World) (L : List Tch) : Prop where
  le : Le g g' L
  ext : Ext σ σ' g g'
  rel : Rel P σ' T g' w'
  fr : Fr σ' L w w'
  nw : ∀ j b c, g.next ≤ j → j < g'.next → σ' j = some (b, c) → w.heap.size ≤ b ∨ ∃ i c', covA L i ∧ σ i = some (b, c')
theorem Post.refl {P : Program} {T : Tp} {σ : Sg} {g : G} {w : World} (r : Rel P σ T g w) : Post P T σ g w σ g w [] :=
  ⟨Le.refl g, fun _ _ => rfl, r, Fr.refl σ w, fun _ _ _ h1 h2 _ => absurd h1 (Nat.not_le_of_lt h2)⟩
theorem Post.trans {P : Program} {T : Tp} {σ σ1 σ2 : Sg} {g g1 g2 : G} {w w1 w2 : World} {L M : List Tch} {hi : Nat}
    (a : Post P T σ g w σ1 g1 w1 L) (b : Post P T σ1 g1 w1 σ2 g2 w2 M) (f : Fresh σ g hi) (h : g2.next ≤ hi) : Post P T σ g w σ2 g2 w2 (M ++ L) where
  le := a.le.trans b.le
  ext := fun j hj => by
    have h1 := a.le.nx; have h2 := b.le.nx
    rw [b.ext j (by omega), a.ext j (by omega)]
  rel := b.rel
  fr := a.fr.trans (b.ext.sub (a.ext.fresh f a.le.nx) h) b.fr
  nw := fun j b' c h1 h2 hs => by
    rcases Nat.lt_or_ge j g1.next with h3 | h3
    · rw [b.ext j (.inl h3)] at hs
      rcases a.nw j b' c h1 h3 hs with h4 | ⟨i, c', h4, h5⟩
      · exact .inl h4
      · exact .inr ⟨i, c', h4.right, h5⟩
    · rcases b.nw j b' c h3 h2 hs with h4 | ⟨i, c', h4, h5⟩
      · exact .inl (Nat.le_trans a.fr.size h4)
      · rcases Nat.lt_or_ge i g.next with h6 | h6
        · rw [a.ext i (.inl h6)] at h5; exact .inr ⟨i, c', h4.left, h5⟩
        · rcases Nat.lt_or_ge i g1.next with h7 | h7
          · rcases a.nw i b' c' h6 h7 h5 with h8 | ⟨k, c'', h8, h9⟩
            · exact .inl h8
            · exact .inr ⟨k, c'', h8.right, h9⟩
          · rw [a.ext i (.inr h7)] at h5; exact .inr ⟨i, c', h4.left, h5⟩

/-! ### The model's own reading and writing -/
theorem cell_of {w : World} {b o : Nat} {c : Array Value} {e : TypeId} {fz : Nat × Nat} (h : w.heap[b]? = some (.cells c e fz)) : w.cell? ⟨b, o, none⟩ = c[o]? := by
  simp [World.cell?, h]
theorem frozen_of {w : World} {b o : Nat} {c : Array Value} {e : TypeId} {fz : Nat × Nat} (h : w.heap[b]? = some (.cells c e fz)) (hf : noFz fz) : w.frozen? ⟨b, o, none⟩ = false := by
  unfold noFz at hf
  simp [World.frozen?, h]; omega
theorem addr_add (b o k : Nat) : (⟨b, o, none⟩ : Addr).add k = ⟨b, o + k, none⟩ := by
  unfold Addr.add; split
  · subst_vars; rfl
  · rfl

theorem run_loadCellsFrom {P : Program} {w : World} {b : Nat} {c : Array Value} {e : TypeId} {fz : Nat × Nat} (h : w.heap[b]? = some (.cells c e fz)) (o : Nat) :
    ∀ (n i : Nat) (acc : Array Value), o + i + n ≤ c.size → (loadCellsFrom ⟨b, o, none⟩ i n acc).run P w = .ok (acc ++ ((c.toList.drop (o + i)).take n).toArray) w := by
  intro n
  induction n with
  | zero => intro i acc _; simp [loadCellsFrom, Sem.run, pure, Pure.pure]
  | succ n ih =>
    intro i acc hb
    have hc : c[o + i]? = some c[o + i] := by simp
    have h1 : w.cell? ((⟨b, o, none⟩ : Addr).add i) = some c[o + i] := by rw [addr_add, cell_of h, hc]
    have h2 := ih (i + 1) (acc.push c[o + i]) (by omega)
    have h3 : (c.toList.drop (o + i)).take (n + 1) = c[o + i] :: (c.toList.drop (o + (i + 1))).take n := by
      rw [List.drop_eq_getElem_cons (by simp; omega)]; simp; rfl
    show ((load ((⟨b, o, none⟩ : Addr).add i)).bind fun v => loadCellsFrom ⟨b, o, none⟩ (i + 1) n (acc.push v)).run P w = _
    simp only [load, Sem.bind, Sem.run, h1]
    rw [h2, h3]
    simp
theorem run_loadCells {P : Program} {w : World} {b : Nat} {c : Array Value} {e : TypeId} {fz : Nat × Nat} (h : w.heap[b]? = some (.cells c e fz)) (o n : Nat) (hb : o + n ≤ c.size) :
    (loadCells ⟨b, o, none⟩ n).run P w = .ok ((c.toList.drop o).take n).toArray w := by
  have := run_loadCellsFrom (P := P) h o n 0 #[] (by simpa using hb)
  simpa [loadCells] using this
end Go.Ev
