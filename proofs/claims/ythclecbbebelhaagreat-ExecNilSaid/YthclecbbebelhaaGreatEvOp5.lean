/-
  A part of the evaluator of the program's code, or of what it was seen to do; its statements are Lean's own. No condition.
-/
import Derived.Test.YthclecbbebelhaaGreatEvOp4
namespace Go.Ev
open Go

theorem touchIds_ok : ∀ (ids : List Nat) {g g' : G} {u : Unit}, touchIds ids g = .ok u g' → ∃ L, g' = ⟨g.heap, g.next, L ++ g.log, g.orc, g.obl⟩ ∧ (∀ t ∈ L, t.w = false) ∧ ∀ i ∈ ids, (⟨i, 0, 0, false⟩ : Tch) ∈ L
  | [], g, g', u, h => by obtain ⟨_, rfl⟩ := pure_ok h; exact ⟨[], rfl, by simp, by simp⟩
  | i :: r, g, g', u, h => by
    obtain ⟨_, g1, h1, h2⟩ := bind_ok h
    have h3 := touch_ok h1
    obtain ⟨L, h4, h5, h6⟩ := touchIds_ok r h2
    subst h3
    refine ⟨L ++ [⟨i, 0, 0, false⟩], by rw [h4]; simp, ?_, ?_⟩
    · intro t ht
      rcases List.mem_append.1 ht with h | h
      · exact h5 t h
      · simp at h; subst h; rfl
    · intro j hj
      cases hj with
      | head => simp
      | tail _ hm => exact List.mem_append_left _ (h6 j hm)
theorem Post.reads {P : Program} {T : Tp} {σ : Sg} {g : G} {w : World} {L : List Tch} (r : Rel P σ T g w) (hw : ∀ t ∈ L, t.w = false) :
    Post P T σ g w σ ⟨g.heap, g.next, L ++ g.log, g.orc, g.obl⟩ w L where
  le := ⟨rfl, Nat.le_refl _, ⟨[], rfl⟩, fun _ b _ h => ⟨b, h, rfl⟩, fun _ _ b _ _ h h' => ⟨b, h, h'⟩, fun t ht h => by rw [hw t ht] at h; cases h⟩
  ext := fun _ _ => rfl
  rel := r.same rfl
  fr := ⟨Nat.le_refl _, rfl, rfl, rfl, fun _ _ _ => rfl, fun _ c _ _ h => ⟨c, h, rfl, fun _ _ => rfl⟩, fun _ es cl h => ⟨es, cl, h, fun _ => ⟨rfl, rfl⟩⟩, fun _ _ h _ _ => h⟩
  nw := fun _ _ _ h1 h2 _ => absurd h1 (Nat.not_le_of_lt h2)

theorem eqGuard_run {P : Program} {σ : Sg} {w : World} (op : BinOp) {t : TypeId} {ox oy : Operand} {x : AV} {X : Value} (Y : Value) (hx : VR σ x X)
    (hg : eqG P t (isConstOp ox) (isConstOp oy) x = true) : (eqGuard op t ox oy X Y).run P w = .ok () w := by
  have key : ∀ op, op = .eql ∨ op = .neq → (eqGuard op t ox oy X Y).run P w = .ok () w := by
    intro op hop
    rcases hop with rfl | rfl
    all_goals
      cases hx <;> first
        | (cases Y <;> simp [eqGuard]; done)
        | (cases Y <;> first
            | (simp [eqGuard]; done)
            | (have : (isConstOp ox || isConstOp oy) = true := hg
               cases ox <;> cases oy <;> first | (simp [isConstOp] at this; done) | simp [eqGuard])
            | (exfalso; simp [eqG] at hg; done)
            | (have : P.eqGuardType P.depth t = false := by simpa [eqG] using hg
               simp [eqGuard, this]))
  cases op <;> first | exact key _ (.inl rfl) | exact key _ (.inr rfl) | simp [eqGuard]
theorem binOp_eql_run {P : Program} {σ : Sg} {w : World} {t : TypeId} {x y : AV} {X Y : Value} {b : Bool} (hx : VR σ x X) (hy : VR σ y Y) (hn : isNum x = false)
    (h : (Op.equal t X Y).run P w = .ok b w) : (binOp .eql t X Y).run P w = .ok (.bool b) w ∧ (binOp .neq t X Y).run P w = .ok (.bool (!b)) w := by
  cases hx <;> first
    | (simp [isNum] at hn; done)
    | (constructor <;> (cases hy <;> simp [binOp, h]))
theorem equalA_ok {P : Program} {T : Tp} {hi : Nat} {σ : Sg} {g g' : G} {w : World} {t : TypeId} {ox oy : Operand} {x y v : AV} {X Y : Value}
    (h : equalA P t (isConstOp ox) (isConstOp oy) x y g = .ok v g') (p : Pre P T hi σ g w g') (hx : VR σ x X) (hy : VR σ y Y) (hn : isNum x = false) :
    ∃ b L, (v = .bool b ∨ v = .sbool b) ∧ Post P T σ g w σ g' w L ∧ (∀ op, (eqGuard op t ox oy X Y).run P w = .ok () w) ∧
      (binOp .eql t X Y).run P w = .ok (.bool b) w ∧ (binOp .neq t X Y).run P w = .ok (.bool (!b)) w := by
  unfold equalA at h
  split at h
  · rename_i hg
    split at h
    · rename_i r hr
      have main : ∀ {u : AV} {g1 : G}, touchIds r.ids g = .ok () g1 → M.pure u g1 = .ok v g' → v = u ∧ ∃ L, Post P T σ g w σ g' w L ∧ (Op.equal t X Y).run P w = .ok r.b w := by
        intro u g1 h1 h2
        obtain ⟨rfl, rfl⟩ := pure_ok h2
        obtain ⟨L, e, hw, hm⟩ := touchIds_ok _ h1
        have hT : IdsT T r := fun i hi => ⟨0, p.inT L (by rw [e]) _ (hm i hi) 0 (.inl rfl)⟩
        refine ⟨rfl, L, by rw [e]; exact Post.reads p.rel hw, ?_⟩
        exact aeq_sound p.rel 12 10000 t x y r X Y (by omega) hr hx hy hT
      have hguard : ∀ op, (eqGuard op t ox oy X Y).run P w = .ok () w := fun op => eqGuard_run op Y hx hg
      cases hs : r.sym with
      | false =>
        rw [hs] at h
        obtain ⟨_, g1, h1, h2⟩ := bind_ok h
        cases hb : r.b with
        | false =>
          rw [hb] at h2
          obtain ⟨rfl, L, q1, q2⟩ := main h1 h2
          rw [hb] at q2
          exact ⟨false, L, .inl rfl, q1, hguard, binOp_eql_run hx hy hn q2⟩
        | true =>
          rw [hb] at h2
          obtain ⟨rfl, L, q1, q2⟩ := main h1 h2
          rw [hb] at q2
          exact ⟨true, L, .inl rfl, q1, hguard, binOp_eql_run hx hy hn q2⟩
      | true =>
        rw [hs] at h
        obtain ⟨_, g1, h1, h2⟩ := bind_ok h
        obtain ⟨rfl, L, q1, q2⟩ := main h1 h2
        exact ⟨r.b, L, .inr rfl, q1, hguard, binOp_eql_run hx hy hn q2⟩
    · cases h
  · cases h
theorem binA_sound {P : Program} {T : Tp} {hi : Nat} {σ : Sg} {g : G} {w : World} {op : BinOp} {t : TypeId} {ox oy : Operand} {x y : AV} {X Y : Value} (hx : VR σ x X) (hy : VR σ y Y) :
    VSound P T hi σ g w (binA P op t (isConstOp ox) (isConstOp oy) x y) (do eqGuard op t ox oy X Y; binOp op t X Y) := by
  intro v g' h p
  unfold binA at h
  cases ha : arith op x y with
  | some u =>
    rw [ha] at h
    obtain ⟨rfl, rfl⟩ := pure_ok h
    obtain ⟨V, h1, h2, k, n, rfl⟩ := arith_sound (P := P) (w := w) (t := t) ha hx hy
    refine ⟨σ, V, w, [], Post.refl p.rel, h2, ?_⟩
    have : (eqGuard op t ox oy (.int k n) Y).run P w = .ok () w := by
      cases op <;> cases Y <;> simp [eqGuard]
    simp [this, h1]
  | none =>
    rw [ha] at h
    simp only at h
    cases hn : isNum x with
    | true => rw [hn] at h; exact (no_ok h).elim
    | false =>
      rw [hn] at h
      cases op <;> simp only at h <;> first | (exact (no_ok h).elim; done) | skip
      case eql =>
        obtain ⟨b, L, h1, h2, h3, h4, h5⟩ := equalA_ok h p hx hy hn
        refine ⟨σ, .bool b, w, L, h2, ?_, by simp [h3, h4]⟩
        rcases h1 with rfl | rfl
        · exact .bool _
        · exact .sbool _
      case neq =>
        obtain ⟨u, g1, q1, q2⟩ := bind_ok h
        obtain ⟨rfl, rfl⟩ := pure_ok q2
        obtain ⟨b, L, h1, h2, h3, h4, h5⟩ := equalA_ok q1 p hx hy hn
        refine ⟨σ, .bool (!b), w, L, h2, ?_, by simp [h3, h5]⟩
        rcases h1 with rfl | rfl
        · cases b
          · exact .bool _
          · exact .bool _
        · exact .sbool _

/-! ### Assertions and parts of tuples -/
theorem typeAssertA_sound {P : Program} {σ : Sg} {w : World} {xt t : TypeId} {ok : Bool} {x v : AV} {X : Value} (h : typeAssertA P x t ok = some v) (hx : VR σ x X) :
    ∃ V, (Instr.typeAssert X xt t ok).run P w = .ok V w ∧ VR σ v V := by
  unfold typeAssertA at h
  cases hu : P.underlying t with
  | none => rw [hu] at h; cases h
  | some d =>
    rw [hu] at h
    have hni : ∀ ms, d ≠ .interface ms := fun ms e => by subst e; cases h
    have key : (∃ v0, ok = true ∧ x = .nilIface ∧ zeroT P t = some v0 ∧ v = .tup [v0, .bool false]) ∨
        (∃ u t', x = .iface t' u ∧ ((t' = t ∧ v = (if ok then .tup [u, .bool true] else u)) ∨ (t' ≠ t ∧ ok = true ∧ ∃ z, zeroT P t = some z ∧ v = .tup [z, .bool false]))) := by
      cases d <;> first | exact absurd rfl (hni _) | skip
      all_goals
        simp only at h
        split at h
        · split at h
          · rename_i z hz; injection h with h; exact .inl ⟨z, rfl, rfl, hz, h.symm⟩
          · cases h
        · rename_i t' u
          split at h
          · rename_i e; injection h with h; exact .inr ⟨u, t', rfl, .inl ⟨of_beq e, h.symm⟩⟩
          · rename_i e
            split at h
            · rename_i z hz; injection h with h; exact .inr ⟨u, t', rfl, .inr ⟨of_beqf e, rfl, z, hz, h.symm⟩⟩
            · cases h
        · rename_i t' u
          split at h
          · rename_i e; injection h with h; exact .inr ⟨u, t', rfl, .inl ⟨of_beq e, h.symm⟩⟩
          · cases h
        · cases h
    rcases key with ⟨z, rfl, rfl, hz, rfl⟩ | ⟨u, t', rfl, key⟩
    · cases hx
      obtain ⟨Z, z1, z2⟩ := r_zero (P := P) (w := w) σ hz
      refine ⟨.tuple #[Z, .bool false], ?_, .tup (Cs := [Z, .bool false]) (.cons z2 (.cons (.bool _) .nil))⟩
      cases d <;> first | exact absurd rfl (hni _) | simp [Instr.typeAssert, r_und hu, z1]
    · cases hx with | iface hu' =>
      rename_i U
      rcases key with ⟨rfl, rfl⟩ | ⟨hne, rfl, z, hz, rfl⟩
      · cases ok with
        | true =>
          refine ⟨.tuple #[U, .bool true], ?_, .tup (Cs := [U, .bool true]) (.cons hu' (.cons (.bool _) .nil))⟩
          cases d <;> first | exact absurd rfl (hni _) | simp [Instr.typeAssert, r_und hu]
        | false =>
          refine ⟨U, ?_, hu'⟩
          cases d <;> first | exact absurd rfl (hni _) | simp [Instr.typeAssert, r_und hu]
      · obtain ⟨Z, z1, z2⟩ := r_zero (P := P) (w := w) σ hz
        refine ⟨.tuple #[Z, .bool false], ?_, .tup (Cs := [Z, .bool false]) (.cons z2 (.cons (.bool _) .nil))⟩
        cases d <;> first | exact absurd rfl (hni _) | simp [Instr.typeAssert, r_und hu, hne, z1]

/-! ### Maps -/
theorem findA_sound {σ : Sg} {k : IntKind} {n : Int} (kk : IntKind) : ∀ (es : List (AV × AV)) (Es : List MapEntry) (i : Nat), MRs σ es Es →
    (∀ j v, findA n k es i = .at j v → ∃ V E, Instr.findNow (.int kk) (.int k n) Es i = some (some (j, V)) ∧ VR σ v V ∧ i ≤ j ∧ Es[j - i]? = some E ∧ E.key = .int k n) ∧
    (findA n k es i = .absent → Instr.findNow (.int kk) (.int k n) Es i = some none)
  | [], [], i, _ => ⟨fun j v h => (by cases h), fun _ => rfl⟩
  | (key, v0) :: es, E :: Es, i, ⟨hk, hv, hr⟩ => by
    obtain ⟨ih1, ih2⟩ := findA_sound (k := k) (n := n) kk es Es (i + 1) hr
    have hdef : findA n k ((key, v0) :: es) i = (match key with
      | .int k' m => (match sameK k k' with
        | true => (match eqF n m with
          | true => .at i v0
          | false => findA n k es (i + 1))
        | false => .bad)
      | _ => .bad) := by cases key <;> rfl
    rw [hdef]
    cases key <;> first | exact ⟨fun j v h => (by cases h), fun h => (by cases h)⟩ | skip
    rename_i k' m
    have hE := int_inv hk
    simp only
    cases hs : sameK k k' with
    | false => exact ⟨fun j v h => (by cases h), fun h => (by cases h)⟩
    | true =>
      have hs := sameK_eq hs
      subst hs
      simp only
      rw [eqF_eq]
      have hstep : Instr.findNow (.int kk) (.int k n) (E :: Es) i = if n = m then some (some (i, E.val)) else Instr.findNow (.int kk) (.int k n) Es (i + 1) := by
        simp only [Instr.findNow, hE, Instr.sameNow, if_true]
        by_cases hnm : n = m
        · simp [hnm]
        · have : (n == m) = false := by simpa using hnm
          simp [hnm, this]
      by_cases hnm : n = m
      · subst hnm
        rw [if_pos rfl] at hstep
        refine ⟨fun j v h => ?_, fun h => ?_⟩
        · simp at h; obtain ⟨rfl, rfl⟩ := h; exact ⟨E.val, E, hstep, hv, Nat.le_refl _, by simp, hE⟩
        · simp at h
      · rw [if_neg hnm] at hstep
        have e0 : (n == m) = false := by simpa using hnm
        rw [e0]
        refine ⟨fun j v h => ?_, fun h => ?_⟩
        · obtain ⟨V, E', a, b, c, d, e⟩ := ih1 j v h
          exact ⟨V, E', hstep.trans a, b, by omega, by rw [show j - i = (j - (i + 1)) + 1 from by omega]; simpa using d, e⟩
        · exact hstep.trans (ih2 h)
  | [], _ :: _, _, h => by cases h
  | _ :: _, [], _, h => by cases h
theorem mapInt_some {P : Program} {t e : TypeId} (h : mapInt P t = some e) : ∃ k kk, P.underlying t = some (.map k e) ∧ P.underlying k = some (.int kk) := by
  unfold mapInt at h
  split at h
  · rename_i k e' hu
    split at h
    · rename_i kk hk; injection h with h; subst h; exact ⟨k, kk, hu, hk⟩
    · cases h
  · cases h
theorem run_getObj_chan {P : Program} {w : World} {b n s r : Nat} {c : Array Value} {d t : Bool} (h : w.heap[b]? = some (.chan n c d s r t)) : (getObj b).run P w = .ok (.chan n c d s r t) w := by
  simp [getObj, Sem.run, h]
theorem run_getObj_map {P : Program} {w : World} {b : Nat} {Es : Array MapEntry} {cl : Nat} (h : w.heap[b]? = some (.map Es cl)) : (getObj b).run P w = .ok (.map Es cl) w := by
  simp [getObj, Sem.run, h]
theorem run_setObj_map {P : Program} {w : World} {b : Nat} {Es Fs : Array MapEntry} {cl c2 : Nat} (h : w.heap[b]? = some (.map Es cl)) : (setObj b (.map Fs c2)).run P w = .ok () (replaced w b (.map Fs c2)) := by
  simp [setObj, Sem.run, h, replaced]
theorem run_checkKey {P : Program} {w : World} {b : Bool} {t : TypeId} {kk k : IntKind} {n : Int} (h : P.underlying t = some (.int kk)) : (Instr.checkKey b 10000 t (.int k n)).run P w = .ok () w := by
  have : ∀ m, (Instr.checkKey b (m + 1) t (.int k n)).run P w = .ok () w := fun m => by simp [Instr.checkKey, r_und h]
  exact this 9999
theorem run_findKey {P : Program} {w : World} {t : TypeId} {kk k : IntKind} {n : Int} {Es : List MapEntry} {r : Option (Nat × Value)} (h : P.underlying t = some (.int kk)) (hf : Instr.findNow (.int kk) (.int k n) Es 0 = some r) :
    (Instr.findKey t (.int k n) Es).run P w = .ok r w := by
  simp [Instr.findKey, r_und h, hf]

theorem lookupA_sound {P : Program} {T : Tp} {hi : Nat} {σ : Sg} {g : G} {w : World} {t : TypeId} {ok : Bool} {x i : AV} {X I : Value} (hx : VR σ x X) (hi' : VR σ i I) :
    VSound P T hi σ g w (lookupA P t x i ok) (Instr.lookup t X I ok) := by
  intro v g' h p
  unfold lookupA at h
  cases hm : mapInt P t with
  | none => rw [hm] at h; exact (no_ok h).elim
  | some e =>
    rw [hm] at h
    obtain ⟨kt, kk, hu, hk⟩ := mapInt_some hm
    cases i <;> simp only at h <;> first | (exact (no_ok h).elim; done) | skip
    rename_i k n
    cases hi'
    obtain ⟨es, g1, h1, h2⟩ := bind_ok h
    -- the entries
    have hent : ∃ (Es : Array MapEntry) (L : List Tch), MRs σ es Es.toList ∧ Post P T σ g w σ g1 w L ∧
        ((X = .map none ∧ Es = #[]) ∨ ∃ b cl, X = .map (some b) ∧ w.heap[b]? = some (.map Es cl)) ∧ g' = g1 := by
      have hg' : g' = g1 := by
        revert h2; cases findA n k es 0 <;> intro h2 <;> simp only at h2
        · exact (pure_ok h2).2
        · revert h2; cases zeroT P e <;> intro h2 <;> simp only at h2
          · exact (no_ok h2).elim
          · exact (pure_ok h2).2
        · exact (no_ok h2).elim
      subst hg'
      cases x <;> simp only at h1 <;> first | (exact (no_ok h1).elim; done) | skip
      case nilMap =>
        obtain ⟨rfl, rfl⟩ := pure_ok h1
        cases hx
        exact ⟨#[], [], trivial, Post.refl p.rel, .inl ⟨rfl, rfl⟩, rfl⟩
      case map m =>
        cases hx with | map hσ =>
        rename_i b cap
        obtain ⟨_, hlog⟩ := getMap_ok h1
        obtain ⟨b', cap', Es, clock, q1, q2, q3, q4⟩ := getMap_sound h1 p.rel (p.inT _ (by rw [hlog]; rfl))
        rw [hσ] at q1; injection q1 with q1; injection q1 with q1 _; subst q1
        exact ⟨Es, _, q3, q4, .inr ⟨b, clock, rfl, q2⟩, rfl⟩
    obtain ⟨Es, L, hE, hP, hX, rfl⟩ := hent
    have hrun : ∀ (r : Option (Nat × Value)) (Z : Value), (Instr.findKey kt (.int k n) Es.toList).run P w = .ok r w → (r = none → (zeroValue e).run P w = .ok Z w) →
        (Instr.lookup t X (.int k n) ok).run P w = .ok (match r with
          | some (_, V) => if ok then .tuple #[V, .bool true] else V
          | none => if ok then .tuple #[Z, .bool false] else Z) w := by
      intro r Z h1 h2
      rcases hX with ⟨rfl, rfl⟩ | ⟨b, cl, rfl, hb⟩
      · cases r with
        | none => simp [Instr.lookup, r_und hu, run_checkKey hk, h1, h2 rfl]
        | some q => obtain ⟨j, V⟩ := q; simp [Instr.lookup, r_und hu, run_checkKey hk, h1]
      · cases r with
        | none => simp [Instr.lookup, r_und hu, run_getObj_map hb, run_checkKey hk, h1, h2 rfl]
        | some q => obtain ⟨j, V⟩ := q; simp [Instr.lookup, r_und hu, run_getObj_map hb, run_checkKey hk, h1]
    obtain ⟨f1, f2⟩ := findA_sound (k := k) (n := n) kk es Es.toList 0 hE
    revert h2; cases hf : findA n k es 0 <;> intro h2 <;> simp only at h2
    case «at» j v0 =>
      obtain ⟨rfl, _⟩ := pure_ok h2
      obtain ⟨V, E, a, b, _⟩ := f1 j v0 hf
      refine ⟨σ, if ok then .tuple #[V, .bool true] else V, w, L, hP, ?_, ?_⟩
      · cases ok with
        | true => exact .tup (Cs := [V, .bool true]) (.cons b (.cons (.bool _) .nil))
        | false => exact b
      · exact hrun _ .nilFunc (run_findKey hk a) (fun h => by cases h)
    case absent =>
      cases hz : zeroT P e with
      | none => rw [hz] at h2; exact (no_ok h2).elim
      | some z =>
        rw [hz] at h2
        obtain ⟨rfl, _⟩ := pure_ok h2
        obtain ⟨Z, z1, z2⟩ := r_zero (P := P) (w := w) σ hz
        refine ⟨σ, if ok then .tuple #[Z, .bool false] else Z, w, L, hP, ?_, ?_⟩
        · cases ok with
          | true => exact .tup (Cs := [Z, .bool false]) (.cons z2 (.cons (.bool _) .nil))
          | false => exact z2
        · exact hrun _ Z (run_findKey hk (f2 hf)) (fun _ => z1)
    case bad => exact (no_ok h2).elim
end Go.Ev
