/-
  A part of the evaluator of the program's code, or of what it was seen to do; its statements are Lean's own. No condition.
-/
import Derived.Test.YthclecbbebelhaaGreatEvWrite
namespace Go.Ev
open Go

def upd (σ : Sg) (i : Nat) (x : Nat × Nat) : Sg := fun j => if j = i then some x else σ j
theorem upd_same (σ : Sg) (i : Nat) (x : Nat × Nat) : upd σ i x i = some x := by simp [upd]
theorem upd_ne (σ : Sg) {i j : Nat} (x : Nat × Nat) (h : j ≠ i) : upd σ i x j = σ j := by simp [upd, h]
theorem upd_sub {σ : Sg} {i : Nat} {x : Nat × Nat} (h : σ i = none) : Sub σ (upd σ i x) := by
  intro j y hj
  by_cases hji : j = i
  · subst hji; rw [h] at hj; cases hj
  · rw [upd_ne _ _ hji]; exact hj

theorem ShR.some {P : Program} {cap : Nat} {s : Sh} {o : Option Obj} (h : ShR P cap s o) : ∃ x, o = some x := by
  cases s with
  | cells e n => obtain ⟨c, fz, h, _⟩ := h; exact ⟨_, h⟩
  | grown e n => obtain ⟨c, fz, h, _⟩ := h; exact ⟨_, h⟩
  | seq e n => obtain ⟨c, fz, h, _⟩ := h; exact ⟨_, h⟩
  | big e n => obtain ⟨c, fz, h, _⟩ := h; exact ⟨_, h⟩
  | map => obtain ⟨c, fz, h⟩ := h; exact ⟨_, h⟩
  | chan => obtain ⟨n, q, s, r, h⟩ := h; exact ⟨_, h⟩
theorem ShR.lt {P : Program} {cap : Nat} {s : Sh} {w : World} {b : Nat} (h : ShR P cap s w.heap[b]?) : b < w.heap.size := by
  obtain ⟨x, hx⟩ := h.some
  exact (Array.getElem?_eq_some_iff.1 hx).1

theorem alloc_ok {blk : Blk} {g g' : G} {i : Nat} (h : alloc blk g = .ok i g') : i = g.next ∧ g' = ⟨g.heap.set g.next blk, g.next + 1, ⟨g.next, 0, 0, true⟩ :: g.log, g.orc, g.obl⟩ := by
  obtain ⟨hp, nx, l, oc, ob⟩ := g
  simp only [alloc, Tr.setK_eq, natK_eq] at h
  injection h with h1 h2
  exact ⟨h1.symm, h2.symm⟩

/-- the world with one block more -/
def pushed (w : World) (o : Obj) : World := { w with heap := w.heap.push o }
theorem pushed_old (w : World) (o : Obj) {b : Nat} (h : b < w.heap.size) : (pushed w o).heap[b]? = w.heap[b]? := by
  simp [pushed, Array.getElem?_push, Nat.ne_of_lt h]
theorem pushed_new (w : World) (o : Obj) : (pushed w o).heap[w.heap.size]? = some o := by simp [pushed]

theorem Fr.pushed (σ : Sg) (L : List Tch) (w : World) (o : Obj) : Fr σ L w (pushed w o) where
  size := by simp [Ev.pushed]
  tape := rfl
  os := rfl
  output := rfl
  same := fun b h _ => pushed_old w o h
  cells := fun b c e fz h => ⟨c, by rw [pushed_old w o (Array.getElem?_eq_some_iff.1 h).1]; exact h, rfl, fun _ _ => rfl⟩
  maps := fun b es cl h => ⟨es, cl, by rw [pushed_old w o (Array.getElem?_eq_some_iff.1 h).1]; exact h, fun _ => ⟨rfl, rfl⟩⟩
  oth := fun b n q s r h => ⟨q, s, r, by rw [pushed_old w o (Array.getElem?_eq_some_iff.1 h).1]; exact h, fun _ => ⟨rfl, rfl, rfl⟩⟩
/-- a draw changes nothing -/
def drewn (w : World) : World := { w with drawn := w.drawn + 1 }
theorem Fr.drewn (σ : Sg) (w : World) : Fr σ [] w (drewn w) := ⟨Nat.le_refl _, rfl, rfl, rfl, fun _ _ _ => rfl, fun _ c _ _ h => ⟨c, h, rfl, fun _ _ => rfl⟩, fun _ es cl h => ⟨es, cl, h, fun _ => ⟨rfl, rfl⟩⟩, fun _ _ q s r h => ⟨q, s, r, h, fun _ => ⟨rfl, rfl, rfl⟩⟩⟩
theorem Rel.drewn {P : Program} {σ : Sg} {T : Tp} {g : G} {w : World} (r : Rel P σ T g w) : Rel P σ T g (drewn w) := ⟨r.sh, r.ct, r.inj⟩
theorem Post.drewn {P : Program} {T : Tp} {σ : Sg} {g : G} {w : World} (r : Rel P σ T g w) : Post P T σ g w σ g (Ev.drewn w) [] :=
  ⟨Le.refl g, fun _ _ => rfl, r.drewn, Fr.drewn σ w, fun _ _ _ h1 h2 _ => absurd h1 (Nat.not_le_of_lt h2)⟩

theorem alloc_le {blk : Blk} {g g' : G} {i : Nat} (h : alloc blk g = .ok i g') : Le g g' [⟨i, 0, 0, true⟩] := by
  obtain ⟨rfl, rfl⟩ := alloc_ok h
  refine ⟨rfl, Nat.le_succ _, ⟨[], rfl⟩, fun j bj hn hj => ?_, fun j k bj ct hn hj hk => ?_, fun t ht _ => by simp at ht; subst ht; exact .inr ⟨Nat.le_refl _, Nat.lt_succ_self _⟩⟩
  · rcases Tr.get_set hj with ⟨rfl, rfl⟩ | ⟨_, h⟩
    · exact absurd ⟨_, List.mem_cons_self, rfl, rfl, rfl⟩ hn
    · exact ⟨bj, h, rfl⟩
  · rcases Tr.get_set hj with ⟨rfl, rfl⟩ | ⟨_, h⟩
    · exact absurd ⟨_, List.mem_cons_self, rfl, rfl, .inl rfl⟩ hn
    · exact ⟨bj, h, hk⟩
theorem alloc_sound {P : Program} {σ : Sg} {T : Tp} {g g' : G} {w : World} {blk : Blk} {i hi cap : Nat} {obj : Obj} (h : alloc blk g = .ok i g') (rl : Rel P σ T g w)
    (fr : Fresh σ g hi) (hhi : g'.next ≤ hi) (hs : ShR P cap blk.sh (some obj)) (hc : ∀ o c, blk.ct o = some c → CtR σ c (some obj) o) :
    i = g.next ∧ σ i = none ∧ Post P T σ g w (upd σ i (w.heap.size, cap)) g' (pushed w obj) [⟨i, 0, 0, true⟩] := by
  have hle := alloc_le h
  obtain ⟨rfl, rfl⟩ := alloc_ok h
  have hnone : σ g.next = none := fr _ (Nat.le_refl _) (by simp at hhi; omega)
  have hsub : Sub σ (upd σ g.next (w.heap.size, cap)) := upd_sub hnone
  have hold : ∀ j bj, (g.heap.set g.next blk).get j = some bj → (j = g.next ∧ bj = blk) ∨ (j ≠ g.next ∧ g.heap.get j = some bj) := fun j bj hj => Tr.get_set hj
  refine ⟨rfl, hnone, { le := hle, ext := fun j hj => ?_, rel := ⟨fun j bj hj hT => ?_, fun j bj k ct x cp hj hk hT hσ => ?_, fun j j' bj bj' x c1 c2 hj hj' hT hT' hσ hσ' => ?_⟩,
                         fr := Fr.pushed _ _ w obj, nw := fun j b c h1 h2 h3 => ?_ }⟩
  · refine upd_ne _ _ ?_
    rcases hj with hj | hj
    · omega
    · simp at hj; omega
  · rcases hold j bj hj with ⟨rfl, rfl⟩ | ⟨hne, h⟩
    · exact ⟨w.heap.size, cap, upd_same _ _ _, by rw [pushed_new]; exact hs⟩
    · obtain ⟨b, cp, h1, h2⟩ := rl.sh j bj h hT
      exact ⟨b, cp, by rw [upd_ne _ _ hne]; exact h1, by rw [pushed_old w obj h2.lt]; exact h2⟩
  · rcases hold j bj hj with ⟨rfl, rfl⟩ | ⟨hne, h⟩
    · rw [upd_same] at hσ; injection hσ with hσ; injection hσ with hσ _; subst hσ
      rw [pushed_new]; exact (hc k ct hk).mono hsub
    · rw [upd_ne _ _ hne] at hσ
      obtain ⟨b, cp', h1, h2⟩ := rl.sh j bj h ⟨k, hT⟩
      rw [hσ] at h1; injection h1 with h1; injection h1 with h1 _; subst h1
      rw [pushed_old w obj h2.lt]
      exact (rl.ct j bj k ct x cp h hk hT hσ).mono hsub
  · have hlt : ∀ j bj x c, j ≠ g.next → g.heap.get j = some bj → (∃ o, T j o) → σ j = some (x, c) → x < w.heap.size := fun j bj x c hne h hT hσ => by
      obtain ⟨b, cp', h1, h2⟩ := rl.sh j bj h hT
      rw [hσ] at h1; injection h1 with h1; injection h1 with h1 _; subst h1; exact h2.lt
    rcases hold j bj hj with ⟨rfl, rfl⟩ | ⟨hne, h⟩
    · rcases hold j' bj' hj' with ⟨rfl, rfl⟩ | ⟨hne', h'⟩
      · rfl
      · rw [upd_same] at hσ; rw [upd_ne _ _ hne'] at hσ'
        injection hσ with hσ; injection hσ with hσ _
        have := hlt j' bj' x c2 hne' h' hT' hσ'; omega
    · rw [upd_ne _ _ hne] at hσ
      rcases hold j' bj' hj' with ⟨rfl, rfl⟩ | ⟨hne', h'⟩
      · rw [upd_same] at hσ'; injection hσ' with hσ'; injection hσ' with hσ' _
        have := hlt j bj x c1 hne (by assumption) hT hσ; omega
      · rw [upd_ne _ _ hne'] at hσ'
        exact rl.inj j j' bj bj' x c1 c2 (by assumption) h' hT hT' hσ hσ'
  · have : j = g.next := by simp at h2; omega
    subst this
    rw [upd_same] at h3; injection h3 with h3; injection h3 with h3 _
    exact .inl (by omega)

/-- a row of cells, each as its abstract one -/
theorem ct_cells {σ : Sg} {e : TypeId} {l : List AV} {Vs : List Value} {fz : Nat × Nat} (h : VRs σ l Vs) (o : Nat) (c : Ct) (hc : (Blk.cells e l).ct o = some c) :
    CtR σ c (some (.cells Vs.toArray e fz)) o := by
  simp only [Blk.ct] at hc
  cases hl : l[o]? with
  | none => rw [hl] at hc; cases hc
  | some v =>
    rw [hl] at hc; injection hc with hc; subst hc
    obtain ⟨V, h1, h2⟩ := h.get hl
    exact ⟨Vs.toArray, e, fz, V, rfl, by simpa using h1, h2⟩
theorem sh_cells {P : Program} {σ : Sg} {e : TypeId} {l : List AV} {Vs : List Value} (cap : Nat) (h : VRs σ l Vs) : ShR P cap (Blk.cells e l).sh (some (.cells Vs.toArray e)) :=
  ⟨Vs.toArray, (0, 0), rfl, Nat.le_refl _, by simp [h.length]⟩

/-! ### Maps -/
theorem getMap_ok {i : Nat} {es : List (AV × AV)} {g g' : G} (h : getMap i g = .ok es g') : g.heap.get i = some (.map es) ∧ g' = ⟨g.heap, g.next, ⟨i, 0, 1, false⟩ :: g.log, g.orc, g.obl⟩ := by
  obtain ⟨hp, nx, l, oc, ob⟩ := g
  simp only [getMap] at h
  cases e : hp.get i with
  | none => rw [e] at h; cases h
  | some blk =>
    rw [e] at h
    cases blk with
    | map es' => injection h with h1 h2; subst h1; exact ⟨rfl, h2.symm⟩
    | _ => cases h
theorem getMap_sound {P : Program} {σ : Sg} {T : Tp} {g g' : G} {w : World} {i : Nat} {es : List (AV × AV)} (h : getMap i g = .ok es g') (rl : Rel P σ T g w) (ht : inT T [⟨i, 0, 1, false⟩]) :
    ∃ b cap Es clock, σ i = some (b, cap) ∧ w.heap[b]? = some (.map Es clock) ∧ MRs σ es Es.toList ∧ Post P T σ g w σ g' w [⟨i, 0, 1, false⟩] := by
  obtain ⟨hg, rfl⟩ := getMap_ok h
  obtain ⟨b, cap, h1, h2⟩ := rl.sh i _ hg ht.some
  have h0 : T i 0 := ht _ List.mem_cons_self 0 (.inr (by simp))
  obtain ⟨Es, clock, h3, h4⟩ := rl.ct i _ 0 (.map es) b cap hg rfl h0 h1
  exact ⟨b, cap, Es, clock, h1, h3, h4, Post.logs rl⟩
theorem setMap_ok {i : Nat} {es : List (AV × AV)} {g g' : G} {u : Unit} (h : setMap i es g = .ok u g') : ∃ es0, g.heap.get i = some (.map es0) ∧ g' = ⟨g.heap.set i (.map es), g.next, ⟨i, 0, 1, true⟩ :: g.log, g.orc, g.obl⟩ := by
  obtain ⟨hp, nx, l, oc, ob⟩ := g
  simp only [setMap] at h
  cases e : hp.get i with
  | none => rw [e] at h; cases h
  | some blk =>
    rw [e] at h
    cases blk with
    | map es' => simp only [listK_eq, Tr.setK_eq] at h; injection h with h1 h2; exact ⟨es', rfl, h2.symm⟩
    | _ => cases h
/-- the world with another block at its place -/
def replaced (w : World) (b : Nat) (o : Obj) : World := { w with heap := w.heap.setIfInBounds b o }
theorem setMap_le {i : Nat} {es : List (AV × AV)} {g g' : G} {u : Unit} (h : setMap i es g = .ok u g') : Le g g' [⟨i, 0, 1, true⟩] := by
  obtain ⟨es0, hg, rfl⟩ := setMap_ok h
  refine ⟨rfl, Nat.le_refl _, ⟨[], rfl⟩, fun j bj _ hj => ?_, fun j k bj ct hn hj hc => ?_, fun t ht _ => by simp at ht; subst ht; exact .inl ⟨_, hg⟩⟩
  · rcases Tr.get_set hj with ⟨rfl, rfl⟩ | ⟨_, h⟩
    · exact ⟨_, hg, rfl⟩
    · exact ⟨bj, h, rfl⟩
  · rcases Tr.get_set hj with ⟨rfl, rfl⟩ | ⟨_, h⟩
    · by_cases hk : k = 0
      · subst hk; exact absurd ⟨_, List.mem_cons_self, rfl, rfl, .inr (by simp)⟩ hn
      · simp [Blk.ct, hk] at hc
    · exact ⟨bj, h, hc⟩
theorem setMap_sound {P : Program} {σ : Sg} {T : Tp} {g g' : G} {w : World} {i b cap : Nat} {es : List (AV × AV)} {u : Unit} {Es : Array MapEntry} {clock : Nat} (h : setMap i es g = .ok u g') (rl : Rel P σ T g w)
    (ht : inT T [⟨i, 0, 1, true⟩]) (hσ : σ i = some (b, cap)) (hm : MRs σ es Es.toList) :
    Post P T σ g w σ g' (replaced w b (.map Es clock)) [⟨i, 0, 1, true⟩] := by
  have hle := setMap_le h
  obtain ⟨es0, hg, rfl⟩ := setMap_ok h
  obtain ⟨b0, cap0, h1, E0, cl0, h2⟩ := rl.sh i _ hg ht.some
  rw [hσ] at h1; injection h1 with h1; injection h1 with h1 h1'; subst h1; subst h1'
  have hlt : b < w.heap.size := (Array.getElem?_eq_some_iff.1 h2).1
  have hb : (replaced w b (.map Es clock)).heap[b]? = some (.map Es clock) := by simp [replaced, hlt]
  have ho : ∀ x, x ≠ b → (replaced w b (.map Es clock)).heap[x]? = w.heap[x]? := fun x hx => by
    simp only [replaced]; rw [Array.getElem?_setIfInBounds_ne (fun e => hx e.symm)]
  have hold : ∀ j bj, (g.heap.set i (.map es)).get j = some bj → (j = i ∧ bj = .map es) ∨ (j ≠ i ∧ g.heap.get j = some bj) := fun j bj hj => Tr.get_set hj
  have hne : ∀ j bj x cp, j ≠ i → g.heap.get j = some bj → (∃ o, T j o) → σ j = some (x, cp) → x ≠ b := fun j bj x cp hji hj hT hσ' e => by
    subst e; exact hji (rl.inj j i bj _ x cp cap hj hg hT ht.some hσ' hσ)
  refine { le := hle, ext := fun _ _ => rfl, rel := ⟨fun j bj hj hT => ?_, fun j bj k ct x cp hj hc hT hσ' => ?_, fun j j' bj bj' x c1 c2 hj hj' hT hT' hσ' hσ'' => ?_⟩,
           fr := ⟨by simp [replaced], rfl, rfl, rfl, fun x hx hn => ?_, fun x cx ex fx hx => ?_, fun x es cl hx => ?_, fun x n1 n2 n3 n4 hx => ?_⟩, nw := fun _ _ _ h1 h2 _ => absurd h1 (Nat.not_le_of_lt h2) }
  · rcases hold j bj hj with ⟨rfl, rfl⟩ | ⟨hji, h⟩
    · exact ⟨b, cap, hσ, Es, clock, hb⟩
    · obtain ⟨x, cp, h5, h6⟩ := rl.sh j bj h hT
      exact ⟨x, cp, h5, by rw [ho x (hne j bj x cp hji h hT h5)]; exact h6⟩
  · rcases hold j bj hj with ⟨rfl, rfl⟩ | ⟨hji, h⟩
    · rw [hσ] at hσ'; injection hσ' with hσ'; injection hσ' with hσ' _; subst hσ'
      by_cases hk : k = 0
      · simp [Blk.ct, hk] at hc; subst hc; exact ⟨Es, clock, hb, hm⟩
      · simp [Blk.ct, hk] at hc
    · rw [ho x (hne j bj x cp hji h ⟨k, hT⟩ hσ')]
      exact rl.ct j bj k ct x cp h hc hT hσ'
  · have hd : ∀ j bj, (g.heap.set i (.map es)).get j = some bj → ∃ b0, g.heap.get j = some b0 := fun j bj hj => by
      rcases hold j bj hj with ⟨rfl, _⟩ | ⟨_, h⟩
      · exact ⟨_, hg⟩
      · exact ⟨_, h⟩
    obtain ⟨b0, h5⟩ := hd j bj hj
    obtain ⟨b1, h6⟩ := hd j' bj' hj'
    exact rl.inj j j' b0 b1 x c1 c2 h5 h6 hT hT' hσ' hσ''
  · by_cases hxb : x = b
    · subst hxb; exact absurd ⟨i, cap, hσ, _, List.mem_cons_self, rfl, rfl, .inr (by simp)⟩ (hn 0)
    · exact ho x hxb
  · by_cases hxb : x = b
    · subst hxb; rw [h2] at hx; cases hx
    · exact ⟨cx, by rw [ho x hxb]; exact hx, rfl, fun _ _ => rfl⟩
  · by_cases hxb : x = b
    · subst hxb; exact ⟨Es, clock, hb, fun hn => absurd ⟨i, cap, hσ, _, List.mem_cons_self, rfl, rfl, .inr (by simp)⟩ hn⟩
    · exact ⟨es, cl, by rw [ho x hxb]; exact hx, fun _ => ⟨rfl, rfl⟩⟩
  · by_cases hxb : x = b
    · subst hxb; rw [h2] at hx; cases hx
    · exact ⟨n2, n3, n4, by rw [ho x hxb]; exact hx, fun _ => ⟨rfl, rfl, rfl⟩⟩
end Go.Ev
