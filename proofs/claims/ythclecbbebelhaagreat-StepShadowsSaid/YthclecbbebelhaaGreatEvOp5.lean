/-
  A part of the evaluator of the program's code, or of what it was seen to do; its statements are Lean's own. No condition.
-/
import Derived.Test.YthclecbbebelhaaGreatEvOp4
namespace Go.Ev
open Go

theorem touchIds_ok : ∀ (ids : List Nat) {g g' : G} {u : Unit}, touchIds ids g = .ok u g' → ∃ L, g' = ⟨g.heap, g.next, L ++ g.log, g.orc, g.obl⟩ ∧ (∀ t ∈ L, t.w = false) ∧ ∀ i ∈ ids, (⟨i, 0, 0, false⟩ : Tch) ∈ L
  | [], g, g', u, h => by obtain ⟨_, rfl⟩ := pure_ok h; exact ⟨[], rfl, by simp, by simp⟩
  | i :: r, g, g', u, h => by
    obtain ⟨_, g1, h1, h2⟩ := bind_ok h
    have h3 := touch_ok h1
    obtain ⟨L, h4, h5, h6⟩ := touchIds_ok r h2
    subst h3
    refine ⟨L ++ [⟨i, 0, 0, false⟩], by rw [h4]; simp, ?_, ?_⟩
    · intro t ht
      rcases List.mem_append.1 ht with h | h
      · exact h5 t h
      · simp at h; subst h; rfl
    · intro j hj
      cases hj with
      | head => simp
      | tail _ hm => exact List.mem_append_left _ (h6 j hm)
theorem Post.reads {P : Program} {T : Tp} {σ : Sg} {g : G} {w : World} {L : List Tch} (r : Rel P σ T g w) (hw : ∀ t ∈ L, t.w = false) :
    Post P T σ g w σ ⟨g.heap, g.next, L ++ g.log, g.orc, g.obl⟩ w L where
  le := ⟨rfl, Nat.le_refl _, ⟨[], rfl⟩, fun _ b _ h => ⟨b, h, rfl⟩, fun _ _ b _ _ h h' => ⟨b, h, h'⟩, fun t ht h => by rw [hw t ht] at h; cases h⟩
  ext := fun _ _ => rfl
  rel := r.same rfl
  fr := ⟨Nat.le_refl _, rfl, rfl, rfl, fun _ _ _ => rfl, fun _ c _ _ h => ⟨c, h, rfl, fun _ _ => rfl⟩, fun _ es cl h => ⟨es, cl, h, fun _ => ⟨rfl, rfl⟩⟩, fun _ _ q s r h => ⟨q, s, r, h, fun _ => ⟨rfl, rfl, rfl⟩⟩⟩
  nw := fun _ _ _ h1 h2 _ => absurd h1 (Nat.not_le_of_lt h2)

theorem eqGuard_run {P : Program} {σ : Sg} {w : World} (op : BinOp) {t : TypeId} {ox oy : Operand} {x : AV} {X : Value} (Y : Value) (hx : VR σ x X)
    (hg : eqG P t (isConstOp ox) (isConstOp oy) x = true) : (eqGuard op t ox oy X Y).run P w = .ok () w := by
  have key : ∀ op, op = .eql ∨ op = .neq → (eqGuard op t ox oy X Y).run P w = .ok () w := by
    intro op hop
    rcases hop with rfl | rfl
    all_goals
      cases hx <;> first
        | (cases Y <;> simp [eqGuard]; done)
        | (cases Y <;> first
            | (simp [eqGuard]; done)
            | (have : (isConstOp ox || isConstOp oy) = true := hg
               cases ox <;> cases oy <;> first | (simp [isConstOp] at this; done) | simp [eqGuard])
            | (exfalso; simp [eqG] at hg; done)
            | (have : P.eqGuardType P.depth t = false := by simpa [eqG] using hg
               simp [eqGuard, this]))
  cases op <;> first | exact key _ (.inl rfl) | exact key _ (.inr rfl) | simp [eqGuard]
theorem binOp_eql_run {P : Program} {σ : Sg} {w : World} {t : TypeId} {x y : AV} {X Y : Value} {b : Bool} (hx : VR σ x X) (hy : VR σ y Y) (hn : isNum x = false)
    (h : (Op.equal t X Y).run P w = .ok b w) : (binOp .eql t X Y).run P w = .ok (.bool b) w ∧ (binOp .neq t X Y).run P w = .ok (.bool (!b)) w := by
  cases hx <;> first
    | (simp [isNum] at hn; done)
    | (constructor <;> (cases hy <;> simp [binOp, h]))
theorem equalA_ok {P : Program} {T : Tp} {hi : Nat} {σ : Sg} {g g' : G} {w : World} {t : TypeId} {ox oy : Operand} {x y v : AV} {X Y : Value}
    (h : equalA P t (isConstOp ox) (isConstOp oy) x y g = .ok v g') (p : Pre P T hi σ g w g') (hx : VR σ x X) (hy : VR σ y Y) (hn : isNum x = false) :
    ∃ b L, (v = .bool b ∨ v = .sbool b) ∧ Post P T σ g w σ g' w L ∧ (∀ op, (eqGuard op t ox oy X Y).run P w = .ok () w) ∧
      (binOp .eql t X Y).run P w = .ok (.bool b) w ∧ (binOp .neq t X Y).run P w = .ok (.bool (!b)) w := by
  unfold equalA at h
  split at h
  · rename_i hg
    split at h
    · rename_i r hr
      have main : ∀ {u : AV} {g1 : G}, touchIds r.ids g = .ok () g1 → M.pure u g1 = .ok v g' → v = u ∧ ∃ L, Post P T σ g w σ g' w L ∧ (Op.equal t X Y).run P w = .ok r.b w := by
        intro u g1 h1 h2
        obtain ⟨rfl, rfl⟩ := pure_ok h2
        obtain ⟨L, e, hw, hm⟩ := touchIds_ok _ h1
        have hT : IdsT T r := fun i hi => ⟨0, p.inT L (by rw [e]) _ (hm i hi) 0 (.inl rfl)⟩
        refine ⟨rfl, L, by rw [e]; exact Post.reads p.rel hw, ?_⟩
        exact aeq_sound p.rel 12 10000 t x y r X Y (by omega) hr hx hy hT
      have hguard : ∀ op, (eqGuard op t ox oy X Y).run P w = .ok () w := fun op => eqGuard_run op Y hx hg
      cases hs : r.sym with
      | false =>
        rw [hs] at h
        obtain ⟨_, g1, h1, h2⟩ := bind_ok h
        cases hb : r.b with
        | false =>
          rw [hb] at h2
          obtain ⟨rfl, L, q1, q2⟩ := main h1 h2
          rw [hb] at q2
          exact ⟨false, L, .inl rfl, q1, hguard, binOp_eql_run hx hy hn q2⟩
        | true =>
          rw [hb] at h2
          obtain ⟨rfl, L, q1, q2⟩ := main h1 h2
          rw [hb] at q2
          exact ⟨true, L, .inl rfl, q1, hguard, binOp_eql_run hx hy hn q2⟩
      | true =>
        rw [hs] at h
        obtain ⟨_, g1, h1, h2⟩ := bind_ok h
        obtain ⟨rfl, L, q1, q2⟩ := main h1 h2
        exact ⟨r.b, L, .inr rfl, q1, hguard, binOp_eql_run hx hy hn q2⟩
    · cases h
  · cases h
/-- only the oracle and what is owed have turned -/
theorem Post.asks {P : Program} {T : Tp} {σ : Sg} {g : G} {w : World} {r : List Bool} {O : List (Bool × Bool)} (rl : Rel P σ T g w) :
    Post P T σ g w σ ⟨g.heap, g.next, g.log, r, O ++ g.obl⟩ w [] where
  le := ⟨rfl, Nat.le_refl _, ⟨O, rfl⟩, fun _ b _ h => ⟨b, h, rfl⟩, fun _ _ b _ _ h h' => ⟨b, h, h'⟩, fun _ h => by cases h⟩
  ext := fun _ _ => rfl
  rel := rl.same rfl
  fr := Fr.refl σ w
  nw := fun _ _ _ h1 h2 _ => absurd h1 (Nat.not_le_of_lt h2)
theorem askMod_ok {k : IntKind} {e : Int} : ∀ (n i : Nat) {g g' : G} {u : AV}, askMod k e n i g = .ok u g' → ∃ r O j, g' = ⟨g.heap, g.next, g.log, r, O ++ g.obl⟩ ∧ u = .int k j ∧ ((e == j), true) ∈ O
  | 0, _, _, _, _, h => (no_ok h).elim
  | n + 1, i, g, g', u, h => by
    obtain ⟨d, g1, h1, h2⟩ := bind_ok h
    obtain ⟨r, _, e1⟩ := ask_ok h1
    cases d with
    | true =>
      rw [natK_eq] at h2
      obtain ⟨rfl, rfl⟩ := pure_ok h2
      exact ⟨r, [((e == Int.ofNat i), true)], Int.ofNat i, e1, rfl, List.mem_cons_self⟩
    | false =>
      obtain ⟨r', O, j, a, b, c⟩ := askMod_ok n (i + 1) h2
      subst e1
      exact ⟨r', O ++ [((e == Int.ofNat i), false)], j, by rw [a]; simp, b, List.mem_append_left _ c⟩
theorem concOf_some {op : BinOp} {x y v : AV} {q : IntKind × Int × Nat} (h : concOf op x y v = some q) : v = .sint q.1 q.2.1 := by
  unfold concOf at h
  split at h
  · split at h
    · split at h
      · split at h
        · split at h
          · injection h with h; subst h; rfl
          · cases h
        · cases h
      · cases h
    · cases h
  · cases h
theorem conc_sound {P : Program} {T : Tp} {hi : Nat} {σ : Sg} {g g' : G} {w : World} {op : BinOp} {x y v u : AV} {V : Value} (h : conc op x y v g = .ok u g') (p : Pre P T hi σ g w g') (hv : VR σ v V) : VR σ u V ∧ Post P T σ g w σ g' w [] := by
  unfold conc at h
  cases hc : concOf op x y v with
  | none =>
    rw [hc] at h
    obtain ⟨rfl, rfl⟩ := pure_ok h
    exact ⟨hv, Post.refl p.rel⟩
  | some q =>
    rw [hc] at h
    have hq := concOf_some hc
    subst hq
    obtain ⟨r, O, j, e1, e2, e3⟩ := askMod_ok _ _ h
    have ho := p.owes ((q.2.1 == j), true) (by rw [e1]; exact List.mem_append_left _ e3)
    have ho : q.2.1 = j := by simpa using ho
    subst e2
    refine ⟨?_, by rw [e1]; exact Post.asks p.rel⟩
    cases hv
    rw [ho]; exact .int _ _
theorem binA_sound {P : Program} {T : Tp} {hi : Nat} {σ : Sg} {g : G} {w : World} {op : BinOp} {t : TypeId} {ox oy : Operand} {x y : AV} {X Y : Value} (hx : VR σ x X) (hy : VR σ y Y) :
    VSound P T hi σ g w (binA P op t (isConstOp ox) (isConstOp oy) x y) (do eqGuard op t ox oy X Y; binOp op t X Y) := by
  intro v g' h p
  unfold binA at h
  cases ha : arith op x y with
  | some u =>
    rw [ha] at h
    obtain ⟨V, h1, h2, k, n, rfl⟩ := arith_sound (P := P) (w := w) (t := t) ha hx hy
    obtain ⟨h3, h4⟩ := conc_sound h p h2
    refine ⟨σ, V, w, [], h4, h3, ?_⟩
    have : (eqGuard op t ox oy (.int k n) Y).run P w = .ok () w := by
      cases op <;> cases Y <;> simp [eqGuard]
    simp [this, h1]
  | none =>
    rw [ha] at h
    simp only at h
    cases hn : isNum x with
    | true => rw [hn] at h; exact (no_ok h).elim
    | false =>
      rw [hn] at h
      cases op <;> simp only at h <;> first | (exact (no_ok h).elim; done) | skip
      case eql =>
        obtain ⟨b, L, h1, h2, h3, h4, h5⟩ := equalA_ok h p hx hy hn
        refine ⟨σ, .bool b, w, L, h2, ?_, by simp [h3, h4]⟩
        rcases h1 with rfl | rfl
        · exact .bool _
        · exact .sbool _
      case neq =>
        obtain ⟨u, g1, q1, q2⟩ := bind_ok h
        obtain ⟨rfl, rfl⟩ := pure_ok q2
        obtain ⟨b, L, h1, h2, h3, h4, h5⟩ := equalA_ok q1 p hx hy hn
        refine ⟨σ, .bool (!b), w, L, h2, ?_, by simp [h3, h5]⟩
        rcases h1 with rfl | rfl
        · cases b
          · exact .bool _
          · exact .bool _
        · exact .sbool _

/-! ### Assertions and parts of tuples -/
theorem typeAssertA_sound {P : Program} {σ : Sg} {w : World} {xt t : TypeId} {ok : Bool} {x v : AV} {X : Value} (h : typeAssertA P x t ok = some v) (hx : VR σ x X) :
    ∃ V, (Instr.typeAssert X xt t ok).run P w = .ok V w ∧ VR σ v V := by
  unfold typeAssertA at h
  cases hu : P.underlying t with
  | none => rw [hu] at h; cases h
  | some d =>
    rw [hu] at h
    have hni : ∀ ms, d ≠ .interface ms := fun ms e => by subst e; cases h
    have key : (∃ v0, ok = true ∧ x = .nilIface ∧ zeroT P t = some v0 ∧ v = .tup [v0, .bool false]) ∨
        (∃ u t', x = .iface t' u ∧ ((t' = t ∧ v = (if ok then .tup [u, .bool true] else u)) ∨ (t' ≠ t ∧ ok = true ∧ ∃ z, zeroT P t = some z ∧ v = .tup [z, .bool false]))) := by
      cases d <;> first | exact absurd rfl (hni _) | skip
      all_goals
        simp only at h
        split at h
        · split at h
          · rename_i z hz; injection h with h; exact .inl ⟨z, rfl, rfl, hz, h.symm⟩
          · cases h
        · rename_i t' u
          split at h
          · rename_i e; injection h with h; exact .inr ⟨u, t', rfl, .inl ⟨of_beq e, h.symm⟩⟩
          · rename_i e
            split at h
            · rename_i z hz; injection h with h; exact .inr ⟨u, t', rfl, .inr ⟨of_beqf e, rfl, z, hz, h.symm⟩⟩
            · cases h
        · rename_i t' u
          split at h
          · rename_i e; injection h with h; exact .inr ⟨u, t', rfl, .inl ⟨of_beq e, h.symm⟩⟩
          · cases h
        · cases h
    rcases key with ⟨z, rfl, rfl, hz, rfl⟩ | ⟨u, t', rfl, key⟩
    · cases hx
      obtain ⟨Z, z1, z2⟩ := r_zero (P := P) (w := w) σ hz
      refine ⟨.tuple #[Z, .bool false], ?_, .tup (Cs := [Z, .bool false]) (.cons z2 (.cons (.bool _) .nil))⟩
      cases d <;> first | exact absurd rfl (hni _) | simp [Instr.typeAssert, r_und hu, z1]
    · cases hx with | iface hu' =>
      rename_i U
      rcases key with ⟨rfl, rfl⟩ | ⟨hne, rfl, z, hz, rfl⟩
      · cases ok with
        | true =>
          refine ⟨.tuple #[U, .bool true], ?_, .tup (Cs := [U, .bool true]) (.cons hu' (.cons (.bool _) .nil))⟩
          cases d <;> first | exact absurd rfl (hni _) | simp [Instr.typeAssert, r_und hu]
        | false =>
          refine ⟨U, ?_, hu'⟩
          cases d <;> first | exact absurd rfl (hni _) | simp [Instr.typeAssert, r_und hu]
      · obtain ⟨Z, z1, z2⟩ := r_zero (P := P) (w := w) σ hz
        refine ⟨.tuple #[Z, .bool false], ?_, .tup (Cs := [Z, .bool false]) (.cons z2 (.cons (.bool _) .nil))⟩
        cases d <;> first | exact absurd rfl (hni _) | simp [Instr.typeAssert, r_und hu, hne, z1]

/-! ### Maps -/
theorem findA_sound {σ : Sg} {k : IntKind} {n : Int} (kk : IntKind) : ∀ (es : List (AV × AV)) (Es : List MapEntry) (i : Nat), MRs σ es Es →
    (∀ j v, findA n k es i = .at j v → ∃ V E, Instr.findNow (.int kk) (.int k n) Es i = some (some (j, V)) ∧ VR σ v V ∧ i ≤ j ∧ Es[j - i]? = some E ∧ E.key = .int k n) ∧
    (findA n k es i = .absent → Instr.findNow (.int kk) (.int k n) Es i = some none)
  | [], [], i, _ => ⟨fun j v h => (by cases h), fun _ => rfl⟩
  | (key, v0) :: es, E :: Es, i, ⟨hk, hv, hr⟩ => by
    obtain ⟨ih1, ih2⟩ := findA_sound (k := k) (n := n) kk es Es (i + 1) hr
    have hdef : findA n k ((key, v0) :: es) i = (match key with
      | .int k' m => (match sameK k k' with
        | true => (match eqF n m with
          | true => .at i v0
          | false => findA n k es (i + 1))
        | false => .bad)
      | _ => .bad) := by cases key <;> rfl
    rw [hdef]
    cases key <;> first | exact ⟨fun j v h => (by cases h), fun h => (by cases h)⟩ | skip
    rename_i k' m
    have hE := int_inv hk
    simp only
    cases hs : sameK k k' with
    | false => exact ⟨fun j v h => (by cases h), fun h => (by cases h)⟩
    | true =>
      have hs := sameK_eq hs
      subst hs
      simp only
      rw [eqF_eq]
      have hstep : Instr.findNow (.int kk) (.int k n) (E :: Es) i = if n = m then some (some (i, E.val)) else Instr.findNow (.int kk) (.int k n) Es (i + 1) := by
        simp only [Instr.findNow, hE, Instr.sameNow, if_true]
        by_cases hnm : n = m
        · simp [hnm]
        · have : (n == m) = false := by simpa using hnm
          simp [hnm, this]
      by_cases hnm : n = m
      · subst hnm
        rw [if_pos rfl] at hstep
        refine ⟨fun j v h => ?_, fun h => ?_⟩
        · simp at h; obtain ⟨rfl, rfl⟩ := h; exact ⟨E.val, E, hstep, hv, Nat.le_refl _, by simp, hE⟩
        · simp at h
      · rw [if_neg hnm] at hstep
        have e0 : (n == m) = false := by simpa using hnm
        rw [e0]
        refine ⟨fun j v h => ?_, fun h => ?_⟩
        · obtain ⟨V, E', a, b, c, d, e⟩ := ih1 j v h
          exact ⟨V, E', hstep.trans a, b, by omega, by rw [show j - i = (j - (i + 1)) + 1 from by omega]; simpa using d, e⟩
        · exact hstep.trans (ih2 h)
  | [], _ :: _, _, h => by cases h
  | _ :: _, [], _, h => by cases h
theorem mapInt_some {P : Program} {t e : TypeId} (h : mapInt P t = some e) : ∃ k kk, P.underlying t = some (.map k e) ∧ P.underlying k = some (.int kk) := by
  unfold mapInt at h
  split at h
  · rename_i k e' hu
    split at h
    · rename_i kk hk; injection h with h; subst h; exact ⟨k, kk, hu, hk⟩
    · cases h
  · cases h
theorem run_getObj_chan {P : Program} {w : World} {b n s r : Nat} {c : Array Value} {d t : Bool} (h : w.heap[b]? = some (.chan n c d s r t)) : (getObj b).run P w = .ok (.chan n c d s r t) w := by
  simp [getObj, Sem.run, h]
theorem run_getObj_map {P : Program} {w : World} {b : Nat} {Es : Array MapEntry} {cl : Nat} (h : w.heap[b]? = some (.map Es cl)) : (getObj b).run P w = .ok (.map Es cl) w := by
  simp [getObj, Sem.run, h]
theorem run_setObj_map {P : Program} {w : World} {b : Nat} {Es Fs : Array MapEntry} {cl c2 : Nat} (h : w.heap[b]? = some (.map Es cl)) : (setObj b (.map Fs c2)).run P w = .ok () (replaced w b (.map Fs c2)) := by
  simp [setObj, Sem.run, h, replaced]
theorem run_checkKey {P : Program} {w : World} {b : Bool} {t : TypeId} {kk k : IntKind} {n : Int} (h : P.underlying t = some (.int kk)) : (Instr.checkKey b 10000 t (.int k n)).run P w = .ok () w := by
  have : ∀ m, (Instr.checkKey b (m + 1) t (.int k n)).run P w = .ok () w := fun m => by simp [Instr.checkKey, r_und h]
  exact this 9999
theorem run_findKey {P : Program} {w : World} {t : TypeId} {kk k : IntKind} {n : Int} {Es : List MapEntry} {r : Option (Nat × Value)} (h : P.underlying t = some (.int kk)) (hf : Instr.findNow (.int kk) (.int k n) Es 0 = some r) :
    (Instr.findKey t (.int k n) Es).run P w = .ok r w := by
  simp [Instr.findKey, r_und h, hf]

theorem allPlain_mem {P : Program} : ∀ {fs : List Field}, allPlain P fs = true → ∀ f ∈ fs, f.name ≠ "_" ∧ ((∃ k, P.underlying f.type = some (.int k)) ∨ P.underlying f.type = some .bool)
  | g :: fs, h, f, hf => by
    simp only [allPlain, Bool.and_eq_true] at h
    rcases List.mem_cons.1 hf with rfl | hf
    · have h1 := h.1
      unfold plainF at h1
      split at h1
      · cases h1
      · rename_i hn
        have hn : f.name ≠ "_" := by simpa using hn
        split at h1
        · rename_i k e; exact ⟨hn, .inl ⟨k, e⟩⟩
        · rename_i e; exact ⟨hn, .inr e⟩
        · cases h1
    · exact allPlain_mem h.2 f hf
theorem partsOk_mem {cs : List AV} : ∀ {fs : List Field}, partsOk cs fs = true → ∀ f ∈ fs, ∃ v, cs[f.offset]? = some v
  | g :: fs, h, f, hf => by
    simp only [partsOk, Bool.and_eq_true] at h
    rcases List.mem_cons.1 hf with rfl | hf
    · have h1 := h.1
      split at h1
      · rename_i v e; exact ⟨v, e⟩
      · cases h1
    · exact partsOk_mem h.2 f hf
theorem mapAgg_some {P : Program} {t k e : TypeId} {fs : List Field} (h : mapAgg P t = some (k, e, fs)) : P.underlying t = some (.map k e) ∧ ∃ fa : Array Field, P.underlying k = some (.struct fa) ∧ fs = fa.toList ∧ allPlain P fs = true := by
  unfold mapAgg at h
  split at h
  · rename_i k' e' hu
    split at h
    · rename_i fa hk
      split at h
      · rename_i ha
        injection h with h; injection h with h1 h2; injection h2 with h2 h3
        subst h1; subst h2; subst h3
        exact ⟨hu, fa, hk, rfl, ha⟩
      · cases h
    · cases h
  · cases h
theorem run_checkKeyG {P : Program} {σ : Sg} {w : World} {b : Bool} {kt : TypeId} {fa : Array Field} (hu : P.underlying kt = some (.struct fa)) (hall : allPlain P fa.toList = true) {cs : List AV} {Cs : List Value} (hC : VRs σ cs Cs)
    (hp : partsOk cs fa.toList = true) : (Instr.checkKey b 10000 kt (.agg Cs.toArray)).run P w = .ok () w := by
  show (Instr.checkKey b (9999 + 1) kt (.agg Cs.toArray)).run P w = .ok () w
  rw [Instr.checkKey]
  simp only [Sem.run_bind, r_und hu, Result.andThen_ok]
  rw [← Array.forIn_toList]
  have hm := allPlain_mem hall
  have hq := partsOk_mem hp
  clear hall hp hu
  generalize fa.toList = L at hm hq
  induction L with
  | nil => simp
  | cons f L ih =>
    obtain ⟨hn, hk⟩ := hm f (by simp)
    obtain ⟨v, hv⟩ := hq f (by simp)
    obtain ⟨V, h1, h2⟩ := hC.get hv
    have hcell : kindT P f.type = .cell := by
      rcases hk with ⟨k, e⟩ | e <;> simp [kindT, e]
    have p1 : (part f.type Cs.toArray f.offset).run P w = .ok V w := by
      simp [part, r_isAgg_f hcell, h1]
    have p2 : (Instr.checkKey b 9999 f.type V).run P w = .ok () w := by
      have : ∀ m, (Instr.checkKey b (m + 1) f.type V).run P w = .ok () w := fun m => by
        rcases hk with ⟨k, e⟩ | e <;> simp [Instr.checkKey, r_und e]
      exact this 9998
    simp only [List.forIn_cons, Sem.run_bind, hn, ne_eq, not_false_eq_true, if_true, Result.andThen_ok, p1, p2, Sem.run_pure]
    exact ih (fun y hy => hm y (by simp [hy])) (fun y hy => hq y (by simp [hy]))
theorem run_findKeyG {P : Program} {w : World} {kt : TypeId} {fa : Array Field} {K : Value} {Es : List MapEntry} {r : Option (Nat × Value)} (hu : P.underlying kt = some (.struct fa)) (hf : (Instr.findAsking kt K Es 0).run P w = .ok r w) :
    (Instr.findKey kt K Es).run P w = .ok r w := by
  have hnow : ∀ (Es : List MapEntry) (i : Nat), Instr.findNow (.struct fa) K Es i = none ∨ Es = [] := by
    intro Es i
    cases Es with
    | nil => exact .inr rfl
    | cons E Es => left; simp [Instr.findNow, Instr.sameNow]
  simp only [Instr.findKey, Sem.run_bind, r_und hu, Result.andThen_ok]
  rcases hnow Es 0 with h | h
  · rw [h]; exact hf
  · subst h
    simp only [Instr.findAsking, Sem.run_pure] at hf
    simp only [Instr.findNow, Sem.run_pure]; exact hf
theorem relEmpty (P : Program) (σ : Sg) (w : World) : Rel P σ (fun _ _ => True) (⟨.lf, 0, [], [], []⟩ : G) w :=
  ⟨fun i blk hg => (by cases hg), fun i blk o c b cap hg => (by cases hg), fun i j bi bj b c c' hg => (by cases hg)⟩
theorem findG_sound {P : Program} {σ : Sg} {w : World} {kt : TypeId} {key : AV} {K : Value} (hK : VR σ key K) : ∀ (es : List (AV × AV)) (Es : List MapEntry) (i : Nat), MRs σ es Es →
    (∀ j v, findG P kt key es i = .at j v → ∃ V, (Instr.findAsking kt K Es i).run P w = .ok (some (j, V)) w ∧ VR σ v V) ∧
    (findG P kt key es i = .absent → (Instr.findAsking kt K Es i).run P w = .ok none w)
  | [], [], i, _ => ⟨fun j v h => (by cases h), fun _ => by simp [Instr.findAsking]⟩
  | (k', v0) :: es, E :: Es, i, ⟨hk, hv, hr⟩ => by
    obtain ⟨ih1, ih2⟩ := findG_sound (w := w) hK es Es (i + 1) hr
    have hdef : findG P kt key ((k', v0) :: es) i = (match aeq P .lf 12 kt key k' with
      | some r => match r.sym with
        | false => match r.b with
          | true => .at i v0
          | false => findG P kt key es (i + 1)
        | true => .bad
      | none => .bad) := rfl
    rw [hdef]
    cases he : aeq P .lf 12 kt key k' with
    | none => exact ⟨fun j v h => (by cases h), fun h => (by cases h)⟩
    | some r =>
      simp only
      cases hs : r.sym with
      | true => exact ⟨fun j v h => (by cases h), fun h => (by cases h)⟩
      | false =>
        simp only
        have heq : (Op.equal kt K E.key).run P w = .ok r.b w := aeq_sound (relEmpty P σ w) 12 10000 kt key k' r K E.key (by omega) he hK hk fun _ _ => ⟨0, trivial⟩
        cases hb : r.b with
        | true =>
          rw [hb] at heq
          refine ⟨fun j v h => ?_, fun h => (by cases h)⟩
          injection h with h1 h2; subst h1; subst h2
          exact ⟨E.val, by simp [Instr.findAsking, heq], hv⟩
        | false =>
          rw [hb] at heq
          have hstep : (Instr.findAsking kt K (E :: Es) i).run P w = (Instr.findAsking kt K Es (i + 1)).run P w := by simp [Instr.findAsking, heq]
          rw [hstep]
          exact ⟨ih1, ih2⟩
  | [], _ :: _, _, h => by cases h
  | _ :: _, [], _, h => by cases h
theorem entriesA_sound {P : Program} {T : Tp} {hi : Nat} {σ : Sg} {g g1 : G} {w : World} {x : AV} {X : Value} {es : List (AV × AV)} (h1 : entriesA x g = .ok es g1) (hx : VR σ x X) (p : Pre P T hi σ g w g1) :
    ∃ (Es : Array MapEntry) (L : List Tch), MRs σ es Es.toList ∧ Post P T σ g w σ g1 w L ∧ ((X = .map none ∧ Es = #[]) ∨ ∃ b cl, X = .map (some b) ∧ w.heap[b]? = some (.map Es cl)) := by
  cases x <;> simp only [entriesA] at h1 <;> first | (exact (no_ok h1).elim; done) | skip
  case nilMap =>
    obtain ⟨rfl, rfl⟩ := pure_ok h1
    cases hx
    exact ⟨#[], [], trivial, Post.refl p.rel, .inl ⟨rfl, rfl⟩⟩
  case map m =>
    cases hx with | map hσ =>
    rename_i b cap
    obtain ⟨_, hlog⟩ := getMap_ok h1
    obtain ⟨b', cap', Es, clock, q1, q2, q3, q4⟩ := getMap_sound h1 p.rel (p.inT _ (by rw [hlog]; rfl))
    rw [hσ] at q1; injection q1 with q1; injection q1 with q1 _; subst q1
    exact ⟨Es, _, q3, q4, .inr ⟨b, clock, rfl, q2⟩⟩
theorem lookupM_sound {P : Program} {T : Tp} {hi : Nat} {σ : Sg} {g : G} {w : World} {t kt e : TypeId} {ok : Bool} {x : AV} {X : Value} {cs : List AV} {Cs : List Value} {fa : Array Field} (hu : P.underlying t = some (.map kt e)) (hk : P.underlying kt = some (.struct fa))
    (hall : allPlain P fa.toList = true) (hpo : partsOk cs fa.toList = true) (hx : VR σ x X) (hI : VR σ (.agg cs) (.agg Cs.toArray)) (hC : VRs σ cs Cs) :
    VSound P T hi σ g w (lookupM P kt e x cs ok) (Instr.lookup t X (.agg Cs.toArray) ok) := by
  intro v g' h p
  unfold lookupM at h
  obtain ⟨es, g1, h1, h2⟩ := bind_ok h
  have hg' : g' = g1 := by
    revert h2; cases findG P kt (.agg cs) es 0 <;> intro h2 <;> simp only at h2
    · exact (pure_ok h2).2
    · revert h2; cases zeroT P e <;> intro h2 <;> simp only at h2
      · exact (no_ok h2).elim
      · exact (pure_ok h2).2
    · exact (no_ok h2).elim
  subst hg'
  obtain ⟨Es, L, hE, hP, hX⟩ := entriesA_sound h1 hx p
  have hck : ∀ b, (Instr.checkKey b 10000 kt (.agg Cs.toArray)).run P w = .ok () w := fun b => run_checkKeyG hk hall hC hpo
  have hrun : ∀ (r : Option (Nat × Value)) (Z : Value), (Instr.findKey kt (.agg Cs.toArray) Es.toList).run P w = .ok r w → (r = none → (zeroValue e).run P w = .ok Z w) →
      (Instr.lookup t X (.agg Cs.toArray) ok).run P w = .ok (match r with
        | some (_, V) => if ok then .tuple #[V, .bool true] else V
        | none => if ok then .tuple #[Z, .bool false] else Z) w := by
    intro r Z h1 h2
    rcases hX with ⟨rfl, rfl⟩ | ⟨b, cl, rfl, hb⟩
    · cases r with
      | none => simp [Instr.lookup, r_und hu, hck, h1, h2 rfl]
      | some q => obtain ⟨j, V⟩ := q; simp [Instr.lookup, r_und hu, hck, h1]
    · cases r with
      | none => simp [Instr.lookup, r_und hu, run_getObj_map hb, hck, h1, h2 rfl]
      | some q => obtain ⟨j, V⟩ := q; simp [Instr.lookup, r_und hu, run_getObj_map hb, hck, h1]
  obtain ⟨f1, f2⟩ := findG_sound (P := P) (w := w) (kt := kt) hI es Es.toList 0 hE
  revert h2; cases hf : findG P kt (.agg cs) es 0 <;> intro h2 <;> simp only at h2
  case «at» j v0 =>
    obtain ⟨rfl, _⟩ := pure_ok h2
    obtain ⟨V, a, b⟩ := f1 j v0 hf
    refine ⟨σ, if ok then .tuple #[V, .bool true] else V, w, L, hP, ?_, ?_⟩
    · cases ok with
      | true => exact .tup (Cs := [V, .bool true]) (.cons b (.cons (.bool _) .nil))
      | false => exact b
    · exact hrun _ .nilFunc (run_findKeyG hk a) (fun h => by cases h)
  case absent =>
    cases hz : zeroT P e with
    | none => rw [hz] at h2; exact (no_ok h2).elim
    | some z =>
      rw [hz] at h2
      obtain ⟨rfl, _⟩ := pure_ok h2
      obtain ⟨Z, z1, z2⟩ := r_zero (P := P) (w := w) σ hz
      refine ⟨σ, if ok then .tuple #[Z, .bool false] else Z, w, L, hP, ?_, ?_⟩
      · cases ok with
        | true => exact .tup (Cs := [Z, .bool false]) (.cons z2 (.cons (.bool _) .nil))
        | false => exact z2
      · exact hrun _ Z (run_findKeyG hk (f2 hf)) (fun _ => z1)
  case bad => exact (no_ok h2).elim
/-- entries in an order of the canonical list: each is held against the key, and one at most is the key's -/
theorem findU_sound {P : Program} {σ : Sg} {w : World} {kt : TypeId} {key : AV} {K : Value} (hK : VR σ key K) : ∀ (es : List (AV × AV)) (Es : List MapEntry) (r : Option AV), MRs σ es Es →
    (∀ j v, findU P kt key es r = .at j v → (∀ E ∈ Es, ∃ b, (Op.equal kt K E.key).run P w = .ok b w ∧ (b = true → VR σ v E.val)) ∧ ((r = some v ∧ ∀ E ∈ Es, (Op.equal kt K E.key).run P w = .ok false w) ∨ (r = none ∧ ∃ E ∈ Es, (Op.equal kt K E.key).run P w = .ok true w))) ∧
    (findU P kt key es r = .absent → r = none ∧ ∀ E ∈ Es, (Op.equal kt K E.key).run P w = .ok false w)
  | [], [], r, _ => by
    cases r with
    | none => exact ⟨fun j v h => (by cases h), fun _ => ⟨rfl, fun E hE => (by cases hE)⟩⟩
    | some u =>
      refine ⟨fun j v h => ?_, fun h => (by cases h)⟩
      have h : KeyR.at 0 u = KeyR.at j v := h
      injection h with _ h; subst h
      exact ⟨fun E hE => (by cases hE), .inl ⟨rfl, fun E hE => (by cases hE)⟩⟩
  | (k', v0) :: es, E :: Es, r, ⟨hk, hv, hr⟩ => by
    have hdef : findU P kt key ((k', v0) :: es) r = (match aeq P .lf 12 kt key k' with
      | some q => match q.sym with
        | false => match q.b with
          | true => match r with
            | none => findU P kt key es (some v0)
            | some _ => .bad
          | false => findU P kt key es r
        | true => .bad
      | none => .bad) := by cases r <;> rfl
    rw [hdef]
    cases he : aeq P .lf 12 kt key k' with
    | none => exact ⟨fun j v h => (by cases h), fun h => (by cases h)⟩
    | some q =>
      simp only
      cases hs : q.sym with
      | true => exact ⟨fun j v h => (by cases h), fun h => (by cases h)⟩
      | false =>
        simp only
        have heq : (Op.equal kt K E.key).run P w = .ok q.b w := aeq_sound (relEmpty P σ w) 12 10000 kt key k' q K E.key (by omega) he hK hk fun _ _ => ⟨0, trivial⟩
        cases hb : q.b with
        | true =>
          rw [hb] at heq
          cases r with
          | some u => exact ⟨fun j v h => (by cases h), fun h => (by cases h)⟩
          | none =>
            simp only
            obtain ⟨i1, i2⟩ := findU_sound hK es Es (some v0) hr
            refine ⟨fun j v h => ?_, fun h => ?_⟩
            · obtain ⟨a, c⟩ := i1 j v h
              rcases c with ⟨c1, c2⟩ | ⟨c1, _⟩
              · injection c1 with c1; subst c1
                refine ⟨fun F hF => ?_, .inr ⟨trivial, E, List.mem_cons_self, heq⟩⟩
                rcases List.mem_cons.1 hF with rfl | hF
                · exact ⟨true, heq, fun _ => hv⟩
                · exact a F hF
              · cases c1
            · have := (i2 h).1; cases this
        | false =>
          rw [hb] at heq
          simp only
          obtain ⟨i1, i2⟩ := findU_sound hK es Es r hr
          refine ⟨fun j v h => ?_, fun h => ?_⟩
          · obtain ⟨a, c⟩ := i1 j v h
            refine ⟨fun F hF => ?_, ?_⟩
            · rcases List.mem_cons.1 hF with rfl | hF
              · exact ⟨false, heq, fun h => (by cases h)⟩
              · exact a F hF
            · rcases c with ⟨c1, c2⟩ | ⟨c1, F, hF, c2⟩
              · refine .inl ⟨c1, fun F hF => ?_⟩
                rcases List.mem_cons.1 hF with rfl | hF
                · exact heq
                · exact c2 F hF
              · exact .inr ⟨c1, F, List.mem_cons_of_mem _ hF, c2⟩
          · obtain ⟨a, c⟩ := i2 h
            refine ⟨a, fun F hF => ?_⟩
            rcases List.mem_cons.1 hF with rfl | hF
            · exact heq
            · exact c F hF
  | [], _ :: _, _, h => by cases h
  | _ :: _, [], _, h => by cases h
theorem asking_none {P : Program} {w : World} {kt : TypeId} {K : Value} : ∀ (Es : List MapEntry) (i : Nat), (∀ E ∈ Es, (Op.equal kt K E.key).run P w = .ok false w) → (Instr.findAsking kt K Es i).run P w = .ok none w
  | [], i, _ => by simp [Instr.findAsking]
  | E :: Es, i, h => by simp [Instr.findAsking, h E List.mem_cons_self, asking_none Es (i + 1) fun F hF => h F (List.mem_cons_of_mem _ hF)]
theorem asking_some {P : Program} {w : World} {kt : TypeId} {K : Value} {Q : Value → Prop} : ∀ (Es : List MapEntry) (i : Nat), (∀ E ∈ Es, ∃ b, (Op.equal kt K E.key).run P w = .ok b w ∧ (b = true → Q E.val)) →
    (∃ E ∈ Es, (Op.equal kt K E.key).run P w = .ok true w) → ∃ j V, (Instr.findAsking kt K Es i).run P w = .ok (some (j, V)) w ∧ Q V
  | [], _, _, ⟨_, h, _⟩ => by cases h
  | E :: Es, i, h, hex => by
    obtain ⟨b, h1, h2⟩ := h E List.mem_cons_self
    cases b with
    | true => exact ⟨i, E.val, by simp [Instr.findAsking, h1], h2 rfl⟩
    | false =>
      obtain ⟨F, hF, h3⟩ := hex
      have hF' : F ∈ Es := by
        rcases List.mem_cons.1 hF with rfl | hF
        · rw [h1] at h3; cases h3
        · exact hF
      obtain ⟨j, V, a, c⟩ := asking_some (Q := Q) Es (i + 1) (fun G hG => h G (List.mem_cons_of_mem _ hG)) ⟨F, hF', h3⟩
      exact ⟨j, V, by simp [Instr.findAsking, h1, a], c⟩
theorem lookupP_sound {P : Program} {T : Tp} {hi : Nat} {σ : Sg} {g : G} {w : World} {t kt e : TypeId} {ok : Bool} {i : Nat} {X : Value} {cs : List AV} {Cs : List Value} {fa : Array Field} {es : List (AV × AV)} (hu : P.underlying t = some (.map kt e)) (hk : P.underlying kt = some (.struct fa))
    (hall : allPlain P fa.toList = true) (hpo : partsOk cs fa.toList = true) (hx : VR σ (.map i) X) (hI : VR σ (.agg cs) (.agg Cs.toArray)) (hC : VRs σ cs Cs) (hg : g.heap.get i = some (.pmap es)) :
    VSound P T hi σ g w (lookupP P kt e i es (.agg cs) ok) (Instr.lookup t X (.agg Cs.toArray) ok) := by
  intro v g' h p
  unfold lookupP at h
  obtain ⟨u, g1, h1, h2⟩ := bind_ok h
  have hg' : g' = g1 := by
    revert h2; cases findU P kt (.agg cs) es none <;> intro h2 <;> simp only at h2
    · exact (pure_ok h2).2
    · revert h2; cases zeroT P e <;> intro h2 <;> simp only at h2
      · exact (no_ok h2).elim
      · exact (pure_ok h2).2
    · exact (no_ok h2).elim
  subst hg'
  have hg1 := touch_ok h1
  have hin := p.inT [⟨i, 0, 1, false⟩] (by rw [hg1]; rfl)
  cases hx with | map hσ =>
  rename_i b cap
  have h0 : T i 0 := hin _ List.mem_cons_self 0 (.inr (by simp))
  obtain ⟨Es, cl, Fs, c1, c2, c3⟩ := p.rel.ct i _ 0 (.pmap es) b cap hg rfl h0 hσ
  have hP : Post P T σ g w σ g' w [⟨i, 0, 1, false⟩] := by rw [hg1]; exact Post.logs p.rel
  have hck : ∀ b, (Instr.checkKey b 10000 kt (.agg Cs.toArray)).run P w = .ok () w := fun b => run_checkKeyG hk hall hC hpo
  have hrun : ∀ (r : Option (Nat × Value)) (Z : Value), (Instr.findKey kt (.agg Cs.toArray) Es.toList).run P w = .ok r w → (r = none → (zeroValue e).run P w = .ok Z w) →
      (Instr.lookup t (.map (some b)) (.agg Cs.toArray) ok).run P w = .ok (match r with
        | some (_, V) => if ok then .tuple #[V, .bool true] else V
        | none => if ok then .tuple #[Z, .bool false] else Z) w := by
    intro r Z h1 h2
    cases r with
    | none => simp [Instr.lookup, r_und hu, run_getObj_map c1, hck, h1, h2 rfl]
    | some q => obtain ⟨j, V⟩ := q; simp [Instr.lookup, r_und hu, run_getObj_map c1, hck, h1]
  obtain ⟨f1, f2⟩ := findU_sound (P := P) (w := w) (kt := kt) hI es Fs none c3
  revert h2; cases hf : findU P kt (.agg cs) es none <;> intro h2 <;> simp only at h2
  case «at» j v0 =>
    obtain ⟨rfl, _⟩ := pure_ok h2
    obtain ⟨a, d⟩ := f1 j v0 hf
    rcases d with ⟨d, _⟩ | ⟨_, E, hE, d⟩
    · cases d
    · obtain ⟨j', V, q1, q2⟩ := asking_some (Q := fun V => VR σ v0 V) Es.toList 0 (fun E hE => a E (c2.symm.subset hE)) ⟨E, c2.subset hE, d⟩
      refine ⟨σ, if ok then .tuple #[V, .bool true] else V, w, _, hP, ?_, ?_⟩
      · cases ok with
        | true => exact .tup (Cs := [V, .bool true]) (.cons q2 (.cons (.bool _) .nil))
        | false => exact q2
      · exact hrun _ .nilFunc (run_findKeyG hk q1) (fun h => by cases h)
  case absent =>
    cases hz : zeroT P e with
    | none => rw [hz] at h2; exact (no_ok h2).elim
    | some z =>
      rw [hz] at h2
      obtain ⟨rfl, _⟩ := pure_ok h2
      obtain ⟨Z, z1, z2⟩ := r_zero (P := P) (w := w) σ hz
      have hn := asking_none Es.toList 0 fun E hE => (f2 hf).2 E (c2.symm.subset hE)
      refine ⟨σ, if ok then .tuple #[Z, .bool false] else Z, w, _, hP, ?_, ?_⟩
      · cases ok with
        | true => exact .tup (Cs := [Z, .bool false]) (.cons z2 (.cons (.bool _) .nil))
        | false => exact z2
      · exact hrun _ Z (run_findKeyG hk hn) (fun _ => z1)
  case bad => exact (no_ok h2).elim
theorem lookupG_sound {P : Program} {T : Tp} {hi : Nat} {σ : Sg} {g : G} {w : World} {t : TypeId} {ok : Bool} {x i : AV} {X I : Value} (hx : VR σ x X) (hi' : VR σ i I) :
    VSound P T hi σ g w (lookupG P t x i ok) (Instr.lookup t X I ok) := by
  intro v g' h p
  unfold lookupG at h
  cases hm : mapAgg P t with
  | none => rw [hm] at h; exact (no_ok h).elim
  | some kef =>
    obtain ⟨kt, e, fs⟩ := kef
    rw [hm] at h
    obtain ⟨hu, fa, hk, rfl, hall⟩ := mapAgg_some hm
    cases i <;> simp only at h <;> first | (exact (no_ok h).elim; done) | skip
    rename_i cs
    cases hpo : partsOk cs fa.toList with
    | false => rw [hpo] at h; exact (no_ok h).elim
    | true =>
    rw [hpo] at h
    have hI := hi'
    obtain ⟨Cs, rfl, hC⟩ := hi'.agg_inv
    simp only at h
    cases him : isMap x with
    | false => rw [him] at h; exact lookupM_sound hu hk hall hpo hx hI hC v g' h p
    | true =>
      rw [him] at h
      simp only at h
      cases hpm : isPM (g.heap.get (mapId x)) with
      | none => rw [hpm] at h; exact lookupM_sound hu hk hall hpo hx hI hC v g' h p
      | some es =>
        rw [hpm] at h
        cases x <;> simp only [isMap] at him <;> first | (cases him; done) | skip
        rename_i m
        have hg : g.heap.get m = some (.pmap es) := by
          have hpm : isPM (g.heap.get m) = some es := hpm
          cases hb : g.heap.get m with
          | none => rw [hb] at hpm; cases hpm
          | some blk => rw [hb] at hpm; cases blk <;> first | (cases hpm; done) | (injection hpm with hpm; subst hpm; rfl)
        exact lookupP_sound hu hk hall hpo hx hI hC hg v g' h p
theorem lookupA_sound {P : Program} {T : Tp} {hi : Nat} {σ : Sg} {g : G} {w : World} {t : TypeId} {ok : Bool} {x i : AV} {X I : Value} (hx : VR σ x X) (hi' : VR σ i I) :
    VSound P T hi σ g w (lookupA P t x i ok) (Instr.lookup t X I ok) := by
  intro v g' h p
  unfold lookupA at h
  cases hm : mapInt P t with
  | none => rw [hm] at h; exact lookupG_sound hx hi' v g' h p
  | some e =>
    rw [hm] at h
    obtain ⟨kt, kk, hu, hk⟩ := mapInt_some hm
    cases i <;> simp only at h <;> first | (exact (no_ok h).elim; done) | skip
    rename_i k n
    cases hi'
    obtain ⟨es, g1, h1, h2⟩ := bind_ok h
    -- the entries
    have hent : ∃ (Es : Array MapEntry) (L : List Tch), MRs σ es Es.toList ∧ Post P T σ g w σ g1 w L ∧
        ((X = .map none ∧ Es = #[]) ∨ ∃ b cl, X = .map (some b) ∧ w.heap[b]? = some (.map Es cl)) ∧ g' = g1 := by
      have hg' : g' = g1 := by
        revert h2; cases findA n k es 0 <;> intro h2 <;> simp only at h2
        · exact (pure_ok h2).2
        · revert h2; cases zeroT P e <;> intro h2 <;> simp only at h2
          · exact (no_ok h2).elim
          · exact (pure_ok h2).2
        · exact (no_ok h2).elim
      subst hg'
      cases x <;> simp only at h1 <;> first | (exact (no_ok h1).elim; done) | skip
      case nilMap =>
        obtain ⟨rfl, rfl⟩ := pure_ok h1
        cases hx
        exact ⟨#[], [], trivial, Post.refl p.rel, .inl ⟨rfl, rfl⟩, rfl⟩
      case map m =>
        cases hx with | map hσ =>
        rename_i b cap
        obtain ⟨_, hlog⟩ := getMap_ok h1
        obtain ⟨b', cap', Es, clock, q1, q2, q3, q4⟩ := getMap_sound h1 p.rel (p.inT _ (by rw [hlog]; rfl))
        rw [hσ] at q1; injection q1 with q1; injection q1 with q1 _; subst q1
        exact ⟨Es, _, q3, q4, .inr ⟨b, clock, rfl, q2⟩, rfl⟩
    obtain ⟨Es, L, hE, hP, hX, rfl⟩ := hent
    have hrun : ∀ (r : Option (Nat × Value)) (Z : Value), (Instr.findKey kt (.int k n) Es.toList).run P w = .ok r w → (r = none → (zeroValue e).run P w = .ok Z w) →
        (Instr.lookup t X (.int k n) ok).run P w = .ok (match r with
          | some (_, V) => if ok then .tuple #[V, .bool true] else V
          | none => if ok then .tuple #[Z, .bool false] else Z) w := by
      intro r Z h1 h2
      rcases hX with ⟨rfl, rfl⟩ | ⟨b, cl, rfl, hb⟩
      · cases r with
        | none => simp [Instr.lookup, r_und hu, run_checkKey hk, h1, h2 rfl]
        | some q => obtain ⟨j, V⟩ := q; simp [Instr.lookup, r_und hu, run_checkKey hk, h1]
      · cases r with
        | none => simp [Instr.lookup, r_und hu, run_getObj_map hb, run_checkKey hk, h1, h2 rfl]
        | some q => obtain ⟨j, V⟩ := q; simp [Instr.lookup, r_und hu, run_getObj_map hb, run_checkKey hk, h1]
    obtain ⟨f1, f2⟩ := findA_sound (k := k) (n := n) kk es Es.toList 0 hE
    revert h2; cases hf : findA n k es 0 <;> intro h2 <;> simp only at h2
    case «at» j v0 =>
      obtain ⟨rfl, _⟩ := pure_ok h2
      obtain ⟨V, E, a, b, _⟩ := f1 j v0 hf
      refine ⟨σ, if ok then .tuple #[V, .bool true] else V, w, L, hP, ?_, ?_⟩
      · cases ok with
        | true => exact .tup (Cs := [V, .bool true]) (.cons b (.cons (.bool _) .nil))
        | false => exact b
      · exact hrun _ .nilFunc (run_findKey hk a) (fun h => by cases h)
    case absent =>
      cases hz : zeroT P e with
      | none => rw [hz] at h2; exact (no_ok h2).elim
      | some z =>
        rw [hz] at h2
        obtain ⟨rfl, _⟩ := pure_ok h2
        obtain ⟨Z, z1, z2⟩ := r_zero (P := P) (w := w) σ hz
        refine ⟨σ, if ok then .tuple #[Z, .bool false] else Z, w, L, hP, ?_, ?_⟩
        · cases ok with
          | true => exact .tup (Cs := [Z, .bool false]) (.cons z2 (.cons (.bool _) .nil))
          | false => exact z2
        · exact hrun _ Z (run_findKey hk (f2 hf)) (fun _ => z1)
    case bad => exact (no_ok h2).elim
end Go.Ev
