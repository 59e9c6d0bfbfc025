/-
  A part of the evaluator of the program's code, or of what it was seen to do; its statements are Lean's own. No condition.
-/
import Derived.Test.YthclecbbebelhaaGreatEvOp3
namespace Go.Ev
open Go

/-! ### Equality -/
theorem Rel.cellsAt {P : Program} {σ : Sg} {T : Tp} {g : G} {w : World} (rl : Rel P σ T g w) {i : Nat} (hg : hasCells g.heap i = true) (ht : ∃ o, T i o) :
    ∃ blk b cap c e fz, g.heap.get i = some blk ∧ σ i = some (b, cap) ∧ w.heap[b]? = some (.cells c e fz) ∧ noFz fz := by
  unfold hasCells at hg
  split at hg
  · rename_i blk hb
    obtain ⟨b, cap, h1, h2⟩ := rl.sh i blk hb ht
    cases blk with
    | cells e l => obtain ⟨c, fz, h3, h4, _⟩ := h2; exact ⟨_, b, cap, c, e, fz, hb, h1, h3, h4⟩
    | grown e l => obtain ⟨c, fz, h3, h4, _⟩ := h2; exact ⟨_, b, cap, c, e, fz, hb, h1, h3, h4⟩
    | big e t d n => obtain ⟨c, fz, h3, h4, _⟩ := h2; exact ⟨_, b, cap, c, e, fz, hb, h1, h3, h4⟩
    | seq e k f n => simp [Blk.isCells] at hg
    | map es => simp [Blk.isCells] at hg
    | chan => simp [Blk.isCells] at hg
    | pmap es => simp [Blk.isCells] at hg
  · cases hg
theorem sameAddr_ne {P : Program} {w : World} {b b' o o' : Nat} {c c' : Array Value} {e e' : TypeId} {fz fz' : Nat × Nat} (h : w.heap[b]? = some (.cells c e fz)) (h' : w.heap[b']? = some (.cells c' e' fz'))
    (hf : noFz fz) (hf' : noFz fz') (hne : b ≠ b') : (sameAddr ⟨b, o, none⟩ ⟨b', o', none⟩).run P w = .ok false w := by
  have hs : w.shape? b = some (e, c.size) := by simp [World.shape?, h]
  have hs' : w.shape? b' = some (e', c'.size) := by simp [World.shape?, h']
  have f1 : ∀ o, w.frozen? ⟨b, o, none⟩ = false := fun o => frozen_of h hf
  have f2 : ∀ o, w.frozen? ⟨b', o, none⟩ = false := fun o => frozen_of h' hf'
  have hne' : (b == b') = false := by simpa using hne
  simp [sameAddr, hne', f1, f2, noView, viewAt, hs, hs', mayBeOne, stringish]

/-- the places of two blocks that were compared are known to be blocks -/
def IdsT (T : Tp) (r : Eqr) : Prop := ∀ i ∈ r.ids, ∃ o, T i o
theorem sameDoE_some {k k' : IntKind} {q r : Eqr} (h : sameDoE k k' q = some r) : k = k' ∧ q = r := by
  unfold sameDoE at h; split at h
  · rename_i e; injection h with h; exact ⟨sameK_eq e, h⟩
  · cases h
section
variable {P : Program} {T : Tp} {σ : Sg} {g : G} {w : World} {t : TypeId} {x y : AV} {X Y : Value} {r : Eqr} (D : Nat)
theorem boolEq_sound (hd : P.underlying t = some .bool) (h : boolEq x y = some r) (hx : VR σ x X) (hy : VR σ y Y) : (Op.equalIn (D + 1) t X Y).run P w = .ok r.b w := by
  unfold boolEq at h
  split at h <;> first | (cases h; done) | (split at h <;> first | (cases h; done) | (injection h with h; subst h; cases hx; cases hy; simp [Op.equalIn, r_und hd, Eqr.con, Eqr.nam]))
theorem intEq_sound {k0 : IntKind} (hd : P.underlying t = some (.int k0)) (h : intEq x y = some r) (hx : VR σ x X) (hy : VR σ y Y) : (Op.equalIn (D + 1) t X Y).run P w = .ok r.b w := by
  unfold intEq at h
  split at h <;> first | (cases h; done) | (split at h <;> first | (cases h; done) | (obtain ⟨hk, h'⟩ := sameDoE_some h; subst hk; subst h'; cases hx; cases hy; simp [Op.equalIn, r_und hd, Eqr.con, Eqr.nam, eqF_eq]))
theorem strEq_sound (hd : P.underlying t = some .string) (h : strEq x y = some r) (hx : VR σ x X) (hy : VR σ y Y) : (Op.equalIn (D + 1) t X Y).run P w = .ok r.b w := by
  unfold strEq at h
  split at h <;> first | (cases h; done) | (split at h <;> first | (cases h; done) | (injection h with h; subst h; cases hx; cases hy; simp [Op.equalIn, r_und hd, Eqr.con]))
theorem funcEq_sound {a b : Array TypeId} {c : Bool} (hd : P.underlying t = some (.func a b c)) (h : funcEq x y = some r) (hx : VR σ x X) (hy : VR σ y Y) : (Op.equalIn (D + 1) t X Y).run P w = .ok r.b w := by
  unfold funcEq at h
  split at h <;> first | (cases h; done) | (split at h <;> first | (cases h; done) | (injection h with h; subst h; cases hx; cases hy; simp [Op.equalIn, r_und hd, Eqr.con]))
theorem ifaceEq_sound {ms : Array (String × TypeId)} (hd : P.underlying t = some (.interface ms)) (h : ifaceEq x y = some r) (hx : VR σ x X) (hy : VR σ y Y) : (Op.equalIn (D + 1) t X Y).run P w = .ok r.b w := by
  unfold ifaceEq at h
  split at h <;> first | (cases h; done) | (split at h <;> first | (cases h; done) | (injection h with h; subst h; cases hx; cases hy; simp [Op.equalIn, r_und hd, Eqr.con]))
theorem sliceEq_sound {e : TypeId} (hd : P.underlying t = some (.slice e)) (h : sliceEq x y = some r) (hx : VR σ x X) (hy : VR σ y Y) : (Op.equalIn (D + 1) t X Y).run P w = .ok r.b w := by
  unfold sliceEq at h
  split at h <;> first | (cases h; done) | (split at h <;> first | (cases h; done) | (injection h with h; subst h; cases hx; cases hy; simp [Op.equalIn, r_und hd, Eqr.con]))
theorem mapEq_sound {k e : TypeId} (hd : P.underlying t = some (.map k e)) (h : mapEq x y = some r) (hx : VR σ x X) (hy : VR σ y Y) : (Op.equalIn (D + 1) t X Y).run P w = .ok r.b w := by
  unfold mapEq at h
  split at h <;> first | (cases h; done) | (split at h <;> first | (cases h; done) | (injection h with h; subst h; cases hx; cases hy; simp [Op.equalIn, r_und hd, Eqr.con]))
theorem ptrEq_sound {e : TypeId} (hd : P.underlying t = some (.pointer e)) (h : ptrEq P g.heap e x y = some r) (hx : VR σ x X) (hy : VR σ y Y) (rl : Rel P σ T g w) (hT : IdsT T r) :
    (Op.equalIn (D + 1) t X Y).run P w = .ok r.b w := by
  unfold ptrEq at h
  split at h
  · split at h <;> first | (cases h; done) | (injection h with h; subst h; cases hx; cases hy; simp [Op.equalIn, r_und hd, Eqr.con])
  · rename_i i o
    split at h
    · injection h with h; subst h; cases hx; cases hy; simp [Op.equalIn, r_und hd, Eqr.con]
    · rename_i j o'
      cases hx with | ptr h1 =>
      cases hy with | ptr h2 =>
      rename_i b c b' c'
      split at h
      · rename_i n hn
        have hsz : (sizeOf e).run P w = .ok (n + 1) w := r_size hn
        unfold placeEq at h
        cases hij : Nat.beq i j with
        | true =>
          rw [hij] at h
          injection h with h; subst h
          have hij := of_beq hij
          subst hij
          rw [h1] at h2; injection h2 with h2; injection h2 with h2 _; subst h2
          have : (Nat.beq o o') = decide (o = o') := by
            by_cases ho : o = o'
            · subst ho; simp
            · simp [beq_f ho, ho]
          have e2 : ((⟨b, o, none⟩ : Addr) == ⟨b, o', none⟩) = decide (o = o') := by rw [Bool.eq_iff_iff]; simp
          simp [Op.equalIn, r_und hd, hsz, sameAddr, Eqr.con, this, e2]
        | false =>
          rw [hij] at h
          simp only at h
          cases hc : (hasCells g.heap i && hasCells g.heap j) with
          | false => rw [hc] at h; cases h
          | true =>
            rw [hc] at h
            injection h with h; subst h
            simp only [Bool.and_eq_true] at hc
            obtain ⟨bi, b1, cp1, c1, e1, f1, p1, p2, p3, p4⟩ := rl.cellsAt hc.1 (hT i (by simp))
            obtain ⟨bj, b2, cp2, c2, e2, f2, q1, q2, q3, q4⟩ := rl.cellsAt hc.2 (hT j (by simp))
            rw [h1] at p2; injection p2 with p2; injection p2 with p2 p2'; subst p2; subst p2'
            rw [h2] at q2; injection q2 with q2; injection q2 with q2 q2'; subst q2; subst q2'
            have hne : b ≠ b' := fun e => by
              subst e
              exact of_beqf hij (rl.inj i j bi bj b c c' p1 q1 (hT i (by simp)) (hT j (by simp)) h1 h2)
            have := sameAddr_ne (P := P) (o := o) (o' := o') p3 q3 p4 q4 hne
            simp [Op.equalIn, r_und hd, hsz, this]
      · cases h
    · cases h
  · cases h
theorem leafEq_sound {d : TypeDesc} (hd : P.underlying t = some d) (h : leafEq P g.heap d x y = some r) (hx : VR σ x X) (hy : VR σ y Y) (rl : Rel P σ T g w) (hT : IdsT T r) :
    (Op.equalIn (D + 1) t X Y).run P w = .ok r.b w := by
  unfold leafEq at h
  split at h
  · exact boolEq_sound D hd h hx hy
  · exact intEq_sound D hd h hx hy
  · exact strEq_sound D hd h hx hy
  · exact ptrEq_sound D hd h hx hy rl hT
  · exact funcEq_sound D hd h hx hy
  · exact ifaceEq_sound D hd h hx hy
  · exact sliceEq_sound D hd h hx hy
  · exact mapEq_sound D hd h hx hy
  · cases h
end
theorem Eqr.and_sound {x : Eqr} {y : Option Eqr} {r : Eqr} (h : x.and y = some r) :
    (x.sym = false ∧ x.b = false ∧ r = x) ∨ ∃ z, y = some z ∧ r.b = (x.b && z.b) ∧ r.ids = x.ids ++ z.ids := by
  unfold Eqr.and at h
  cases hs : x.sym with
  | false =>
    rw [hs] at h
    simp only at h
    cases hb : x.b with
    | false => rw [hb] at h; injection h with h; exact .inl ⟨rfl, rfl, h.symm⟩
    | true =>
      rw [hb] at h
      cases y with
      | none => cases h
      | some z => injection h with h; subst h; exact .inr ⟨z, rfl, by simp, rfl⟩
  | true =>
    rw [hs] at h
    cases y with
    | none => cases h
    | some z => injection h with h; subst h; exact .inr ⟨z, rfl, rfl, rfl⟩

section
variable {P : Program} {T : Tp} {σ : Sg} {g : G} {w : World}
theorem eqFields_sound {D : Nat} {eq : TypeId → AV → AV → Option Eqr} (hq : ∀ t x y r X Y, eq t x y = some r → VR σ x X → VR σ y Y → IdsT T r → (Op.equalIn D t X Y).run P w = .ok r.b w)
    {xs ys : List AV} {Xs Ys : List Value} (hx : VRs σ xs Xs) (hy : VRs σ ys Ys) : ∀ (fs : List Field) (r : Eqr), eqFields eq P xs ys fs = some r → IdsT T r →
    (Op.eqFields D Xs.toArray Ys.toArray fs).run P w = .ok r.b w
  | [], r, h, _ => by simp only [eqFields] at h; injection h with h; subst h; simp [Op.eqFields, Eqr.con]
  | f :: fs, r, h, hT => by
    unfold eqFields at h
    cases hn : (f.name == "_") with
    | true =>
      rw [hn] at h
      have hn : f.name = "_" := by simpa using hn
      simp only [Op.eqFields, hn, ne_eq, not_true_eq_false, if_false]
      exact eqFields_sound hq hx hy fs r h hT
    | false =>
      rw [hn] at h
      have hn : f.name ≠ "_" := by simpa using hn
      simp only at h
      cases hpx : partA P f.type xs f.offset with
      | none => rw [hpx] at h; cases h
      | some x =>
        cases hpy : partA P f.type ys f.offset with
        | none => rw [hpx, hpy] at h; cases h
        | some y =>
          rw [hpx, hpy] at h
          simp only at h
          obtain ⟨X, x1, x2⟩ := part_sound (w := w) hpx hx
          obtain ⟨Y, y1, y2⟩ := part_sound (w := w) hpy hy
          cases he : eq f.type x y with
          | none => rw [he] at h; cases h
          | some q =>
            rw [he] at h
            simp only at h
            simp only [Op.eqFields, hn, ne_eq, not_false_eq_true, if_true, Sem.run_bind, x1, y1, Result.andThen_ok]
            have hh : (q.sym = false ∧ q.b = false ∧ r = q) ∨ ∃ z, eqFields eq P xs ys fs = some z ∧ r.b = (q.b && z.b) ∧ r.ids = q.ids ++ z.ids := by
              split at h
              · rename_i a b
                injection h with h
                exact .inl ⟨a, b, h.symm⟩
              · exact Eqr.and_sound h
            rcases hh with ⟨_, hb, hr⟩ | ⟨z, h1, h2, h3⟩
            · subst hr
              have := hq f.type x y r X Y he x2 y2 hT
              rw [hb] at this
              simp only [this, Result.andThen_ok]
              rw [hb]; rfl
            · have t1 : IdsT T q := fun i hi => hT i (by rw [h3]; exact List.mem_append_left _ hi)
              have t2 : IdsT T z := fun i hi => hT i (by rw [h3]; exact List.mem_append_right _ hi)
              have e1 := hq f.type x y q X Y he x2 y2 t1
              have e2 := eqFields_sound hq hx hy fs z h1 t2
              simp only [e1, Result.andThen_ok]
              rw [h2]
              cases hb : q.b
              · rfl
              · simpa using e2
theorem eqElems_sound {D : Nat} {eq : TypeId → AV → AV → Option Eqr} (hq : ∀ t x y r X Y, eq t x y = some r → VR σ x X → VR σ y Y → IdsT T r → (Op.equalIn D t X Y).run P w = .ok r.b w)
    {e : TypeId} {s : Nat} {xs ys : List AV} {Xs Ys : List Value} (hx : VRs σ xs Xs) (hy : VRs σ ys Ys) : ∀ (n i : Nat) (r : Eqr), eqElems eq P e s xs ys n i = some r → IdsT T r →
    (Op.eqItems D e s Xs.toArray Ys.toArray (List.range' i n)).run P w = .ok r.b w
  | 0, i, r, h, _ => by simp only [eqElems] at h; injection h with h; subst h; simp [Op.eqItems, Eqr.con]
  | n + 1, i, r, h, hT => by
    unfold eqElems at h
    rw [List.range'_succ]
    cases hpx : partA P e xs (i * s) with
    | none => rw [hpx] at h; cases h
    | some x =>
      cases hpy : partA P e ys (i * s) with
      | none => rw [hpx, hpy] at h; cases h
      | some y =>
        rw [hpx, hpy] at h
        simp only at h
        obtain ⟨X, x1, x2⟩ := part_sound (w := w) hpx hx
        obtain ⟨Y, y1, y2⟩ := part_sound (w := w) hpy hy
        cases he : eq e x y with
        | none => rw [he] at h; cases h
        | some q =>
          rw [he] at h
          simp only at h
          simp only [Op.eqItems, Sem.run_bind, x1, y1, Result.andThen_ok]
          have hh : (q.sym = false ∧ q.b = false ∧ r = q) ∨ ∃ z, eqElems eq P e s xs ys n (i + 1) = some z ∧ r.b = (q.b && z.b) ∧ r.ids = q.ids ++ z.ids := by
            split at h
            · rename_i a b
              injection h with h
              exact .inl ⟨a, b, h.symm⟩
            · exact Eqr.and_sound h
          rcases hh with ⟨_, hb, hr⟩ | ⟨z, h1, h2, h3⟩
          · subst hr
            have := hq e x y r X Y he x2 y2 hT
            rw [hb] at this
            simp only [this, Result.andThen_ok]
            rw [hb]; rfl
          · have t1 : IdsT T q := fun i hi => hT i (by rw [h3]; exact List.mem_append_left _ hi)
            have t2 : IdsT T z := fun i hi => hT i (by rw [h3]; exact List.mem_append_right _ hi)
            have e1 := hq e x y q X Y he x2 y2 t1
            have e2 := eqElems_sound hq hx hy n (i + 1) z h1 t2
            simp only [e1, Result.andThen_ok]
            rw [h2]
            cases hb : q.b
            · rfl
            · simpa using e2
theorem aeq_sound (rl : Rel P σ T g w) : ∀ (d D : Nat) (t : TypeId) (x y : AV) (r : Eqr) (X Y : Value), d ≤ D → aeq P g.heap d t x y = some r → VR σ x X → VR σ y Y → IdsT T r →
    (Op.equalIn D t X Y).run P w = .ok r.b w
  | 0, _, _, _, _, _, _, _, _, h, _, _, _ => by cases h
  | d + 1, D, t, x, y, r, X, Y, hD, h, hx, hy, hT => by
    obtain ⟨D, rfl⟩ : ∃ E, D = E + 1 := ⟨D - 1, by omega⟩
    unfold aeq at h
    cases hu : P.underlying t with
    | none => rw [hu] at h; cases h
    | some k =>
      rw [hu] at h
      have leaf : leafEq P g.heap k x y = some r → _ := fun h => leafEq_sound D hu h hx hy rl hT
      cases k <;> simp only at h <;> first | exact leaf h | skip
      case struct fs =>
        split at h
        · rename_i xs ys
          obtain ⟨Xs, rfl, hX⟩ := hx.agg_inv
          obtain ⟨Ys, rfl, hY⟩ := hy.agg_inv
          cases hst : P.stoodInHeld t with
          | true => rw [hst] at h; cases h
          | false =>
            rw [hst] at h
            have hf : P.fieldsOf t = fs := by simp [Program.fieldsOf, hu]
            rw [run_equalIn_struct w D t _ _ (by rw [hf]; exact hu) hst, hf]
            exact eqFields_sound (fun t x y r X Y h1 h2 h3 h4 => aeq_sound rl d D t x y r X Y (by omega) h1 h2 h3 h4) hX hY fs.toList r h hT
        · cases h
      case array n e =>
        split at h
        · rename_i xs ys
          obtain ⟨Xs, rfl, hX⟩ := hx.agg_inv
          obtain ⟨Ys, rfl, hY⟩ := hy.agg_inv
          cases hs : sizeT P e with
          | none => rw [hs] at h; cases h
          | some s =>
            rw [hs] at h
            have hi : ∃ i, P.info? e = some i ∧ P.cellsOf e = s := by
              unfold sizeT at hs
              split at hs
              · rename_i i hi; injection hs with hs; exact ⟨i, hi, by simp [Program.cellsOf, hi, hs]⟩
              · cases hs
            obtain ⟨i, hi, hc⟩ := hi
            rw [run_equalIn_array w D _ _ hu hi, hc, List.range_eq_range']
            exact eqElems_sound (fun t x y r X Y h1 h2 h3 h4 => aeq_sound rl d D t x y r X Y (by omega) h1 h2 h3 h4) hX hY n 0 r h hT
        · cases h
end
end Go.Ev
