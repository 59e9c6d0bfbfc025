/-
  A part of the evaluator of the program's code, or of what it was seen to do; its statements are Lean's own. No condition.
-/
import Derived.Test.YthclecbbebelhaaGreatEvLit2
namespace Go.Ev
open Go

noncomputable section
def setAll {β : Type} (l : List (Tmp × AV)) : Ts AV → (Ts AV → β) → β :=
  List.rec (motive := fun _ => Ts AV → (Ts AV → β) → β) (fun t k => k t) (fun p _ ih t k => Ts.setK t p.1 p.2 fun t => ih t k) l
def setsT : List (Tmp × AV) → Ts AV → Ts AV
  | [], t => t
  | p :: r, t => setsT r (Ts.set t p.1 p.2)
theorem setAll_eq {β : Type} : ∀ (l : List (Tmp × AV)) (t : Ts AV) (k : Ts AV → β), setAll l t k = k (setsT l t)
  | [], _, _ => rfl
  | p :: r, t, k => by
    show Ts.setK t p.1 p.2 (fun t => setAll r t k) = _
    rw [Ts.setK_eq, setAll_eq r]; rfl
theorem setsT_get : ∀ (l : List (Tmp × AV)) (t : Ts AV) (n : Nat) (x : AV), (setsT l t).get n = some x → (n, x) ∈ l ∨ (t.get n = some x ∧ ∀ p ∈ l, n ≠ p.1)
  | [], t, n, x, h => .inr ⟨h, fun p hp => by cases hp⟩
  | p :: r, t, n, x, h => by
    rcases setsT_get r _ n x h with h1 | ⟨h1, h2⟩
    · exact .inl (List.mem_cons_of_mem _ h1)
    · rcases Ts.get_set h1 with ⟨rfl, rfl⟩ | ⟨hne, h3⟩
      · exact .inl List.mem_cons_self
      · refine .inr ⟨h3, fun q hq => ?_⟩
        rcases List.mem_cons.1 hq with rfl | hq
        · exact hne
        · exact h2 q hq
def litSets (D : LitD) (i : Nat) : List (Tmp × AV) := (D.m, .map i) :: (D.x, .map i) :: (D.y, .map i) :: D.kn.map fun r => (r.d, r.v)
def litRun (D : LitD) (tm : Ts AV) (ds : List (FuncId × List AV)) (g : G) : Res :=
  G.rec (motive := fun _ => Res) (fun h nx l oc ob => h.setK nx (.pmap (D.ins.map (·.2))) fun h => natK (Nat.add nx (nat_lit 1)) fun nx' => setAll (litSets D nx) tm fun tm => .fin .norm tm ds ⟨h, nx', ⟨nx, 0, 0, true⟩ :: l, oc, ob⟩) g
theorem litRun_eq (D : LitD) (tm : Ts AV) (ds : List (FuncId × List AV)) (g : G) :
    litRun D tm ds g = .fin .norm (setsT (litSets D g.next) tm) ds ⟨g.heap.set g.next (.pmap (D.ins.map (·.2))), g.next + 1, ⟨g.next, 0, 0, true⟩ :: g.log, g.orc, g.obl⟩ := by
  obtain ⟨h, nx, l, oc, ob⟩ := g
  simp only [litRun, Tr.setK_eq, natK_eq, setAll_eq]
theorem alloc_eq (blk : Blk) (g : G) : alloc blk g = .ok g.next ⟨g.heap.set g.next blk, g.next + 1, ⟨g.next, 0, 0, true⟩ :: g.log, g.orc, g.obl⟩ := by
  obtain ⟨h, nx, l, oc, ob⟩ := g
  simp only [alloc, Tr.setK_eq, natK_eq]
theorem litRun_le (D : LitD) (tm : Ts AV) (ds : List (FuncId × List AV)) (g : G) : LeRes g (litRun D tm ds g) := by
  rw [litRun_eq]
  exact ⟨_, alloc_le (alloc_eq (.pmap (D.ins.map (·.2))) g)⟩
end
section
variable {P : Program} {T : Tp} {hi : Nat} {σ : Sg} {ops : Array Oper} {D : LitD} {w : World} {a : Act}
theorem lit_sound (hm : P.follows .mixedOrders = true) {ms : List Nat} (hst : Stat ops ms) (hl : litOf P ops.toList = some D) {id N : Nat} {tm tm' : Ts AV} {g g' : G} {x : X} {ds ds' : List (FuncId × List AV)}
    (h : litRun D tm ds g = .fin x tm' ds' g') (p : Pre P T hi σ g w g') (ht : TR σ tm a.tmps) (hd : DRs σ ds a.defers) (hin : opsIn N ops.toList = true) (hN : N ≤ a.tmps.size) :
    (Code.region id ops true).wp P (CPost P T σ g w N x tm' ds' g') a w := by
  rw [litRun_eq] at h
  injection h with h1 h2 h3 h4; subst h1; subst h2; subst h3; subst h4
  obtain ⟨kt, e, fa, H⟩ := litOf_spec hl
  refine wp_region_any hm ?_
  refine wpAny_inv (LInv D (drewn w) a) (fun listed a' w' i hs I hi => lit_step H hs I hi hin hN) ?_ ops.size _ _ _ ?_ (by simp) ?_
  · -- the end
    intro listed a' w' hs I hr
    have hall : ∀ d k, k ≤ d → k < ops.size → listed.getD k false = true := by
      intro d
      induction d with
      | zero =>
        intro k hk hlt
        by_cases hc : listed.getD k false = true
        · exact hc
        · exfalso
          have hlt' : k < listed.size := by omega
          have ho : ops[k]? = some ops[k] := by simp [hlt]
          have : k ∈ Region.ready .any ops listed := mem_ready.2 ⟨by simp [hlt'] at hc ⊢; exact hc, _, ho, fun e he hb => by
            obtain ⟨b, _, h2, _⟩ := hst.bits k _ ho
            have := h2 e he hb
            omega⟩
          rw [hr] at this; cases this
      | succ d ih =>
        intro k hk hlt
        by_cases hc : listed.getD k false = true
        · exact hc
        · exfalso
          have hlt' : k < listed.size := by omega
          have ho : ops[k]? = some ops[k] := by simp [hlt]
          have : k ∈ Region.ready .any ops listed := mem_ready.2 ⟨by simp [hlt'] at hc ⊢; exact hc, _, ho, fun e he hb => by
            obtain ⟨b, _, h2, _⟩ := hst.bits k _ ho
            have := h2 e he hb
            exact ih e.on (by omega) (by omega)⟩
          rw [hr] at this; cases this
    have hsz := H.iM
    obtain ⟨a1, Es, cl, sel, a2, a3, a4, a5⟩ := I.h1 (hall 0 0 (Nat.le_refl _) (by omega))
    have hlis : ∀ k o, ops[k]? = some o → listed.getD k false = true := fun k o ho => hall k k (Nat.le_refl _) (Array.getElem?_eq_some_iff.1 ho).1
    have hperm : List.Perm sel D.ins := by
      refine (List.perm_ext_iff_of_nodup a3 (tmpsApart_nodup H.idx)).2 fun q => ?_
      rw [a4 q]
      refine ⟨fun h => h.1, fun h => ⟨h, ?_⟩⟩
      obtain ⟨_, o, ho, _⟩ := H.ins q h
      exact hlis _ _ ho
    obtain ⟨Es', hp1, hp2⟩ := MRs.perm (hperm.map (·.2)) a5
    have hsubN : ∀ σ' : Sg, Sub σN σ' := fun σ' i x hx => by cases hx
    subst a2
    have hw : (drewn w).heap.size = w.heap.size := rfl
    have q := alloc_sound (P := P) (T := T) (hi := hi) (cap := 0) (obj := .map Es cl) (alloc_eq (.pmap (D.ins.map (·.2))) g) (p.rel.drewn) p.fresh p.hi ⟨Es, cl, rfl⟩ (fun o c hc => by
      simp only [Blk.ct] at hc
      split at hc
      · injection hc with hc; subst hc
        exact ⟨Es, cl, Es', rfl, hp1, hp2.mono (hsubN _)⟩
      · cases hc)
    obtain ⟨_, hn, q⟩ := q
    have hq := (Post.drewn p.rel).trans q p.fresh p.hi
    have hsub : Sub σ (upd σ g.next ((drewn w).heap.size, 0)) := upd_sub hn
    refine ⟨_, _, hq, rfl, fun t v hv => ?_, by rw [I.df]; exact hd.mono hsub, by rw [I.sz]; exact hN⟩
    have hmap : VR (upd σ g.next ((drewn w).heap.size, 0)) (.map g.next) (.map (some (drewn w).heap.size)) := .map (upd_same _ _ _)
    obtain ⟨oM, hoM, _⟩ := H.mov
    obtain ⟨oA, hoA, _⟩ := H.asg
    rcases setsT_get _ _ t v hv with hm' | ⟨h1, h2⟩
    · unfold litSets at hm'
      rcases List.mem_cons.1 hm' with e | hm'
      · injection e with e1 e2; subst e1; subst e2; exact ⟨_, a1, hmap⟩
      · rcases List.mem_cons.1 hm' with e | hm'
        · injection e with e1 e2; subst e1; subst e2; exact ⟨_, I.mv (hlis _ _ hoM), hmap⟩
        · rcases List.mem_cons.1 hm' with e | hm'
          · injection e with e1 e2; subst e1; subst e2; exact ⟨_, I.as (hlis _ _ hoA), hmap⟩
          · obtain ⟨r, hr, e⟩ := List.mem_map.1 hm'
            injection e with e1 e2; subst e1; subst e2
            obtain ⟨_, o, ho, _⟩ := H.kn r hr
            obtain ⟨V, b1, b2⟩ := I.bl r hr (hlis _ _ ho)
            exact ⟨V, b1, b2.mono (hsubN _)⟩
    · have hk := I.kp t (h2 (D.m, .map g.next) (by simp [litSets])) (h2 (D.x, .map g.next) (by simp [litSets])) (h2 (D.y, .map g.next) (by simp [litSets])) (fun r hr => h2 (r.d, r.v) (by
        unfold litSets
        exact List.mem_cons_of_mem _ (List.mem_cons_of_mem _ (List.mem_cons_of_mem _ (List.mem_map.2 ⟨r, hr, rfl⟩)))))
      obtain ⟨V, b1, b2⟩ := ht t v h1
      exact ⟨V, by rw [hk]; exact b1, b2.mono hsub⟩
  · unfold unl
    exact Nat.le_trans (List.length_filter_le _ _) (by simp)
  · -- the beginning
    have hS0 : ∀ j, (Array.replicate ops.size false).getD j false = false := fun j => by
      by_cases hj : j < ops.size <;> simp [hj]
    refine ⟨rfl, rfl, fun _ _ _ _ _ => rfl, fun r _ h => ?_, fun _ => ⟨rfl, fun q _ => hS0 _⟩, fun h => ?_, fun h => ?_, fun h => ?_⟩
    all_goals (rw [hS0] at h; cases h)
end
end Go.Ev
