/-
  A part of the evaluator of the program's code, or of what it was seen to do; its statements are Lean's own. No condition.
-/
import Derived.Test.YthclecbbebelhaaGreatEvOp1
import Derived.ChangeKeysEq
import Derived.Laws.StructEq
namespace Go.Ev
open Go

/-! ### Building -/
theorem fold_set (off : Nat) : ∀ (vs : List Value) (j : Nat) (cs : Array Value), off + j + vs.length ≤ cs.size →
    let r := ((vs.zipIdx j).foldl (fun cs (c, j) => cs.setIfInBounds (off + j) c) cs)
    r.size = cs.size ∧ ∀ k, r[k]? = if off + j ≤ k ∧ k < off + j + vs.length then vs[k - (off + j)]? else cs[k]?
  | [], j, cs, _ => ⟨rfl, fun k => by rw [if_neg (by simp only [List.length_nil]; omega)]; rfl⟩
  | v :: vs, j, cs, h => by
    simp only [List.length_cons] at h
    obtain ⟨h1, h2⟩ := fold_set off vs (j + 1) (cs.setIfInBounds (off + j) v) (by rw [Array.size_setIfInBounds]; omega)
    refine ⟨by simpa using h1, fun k => ?_⟩
    have e : ((v :: vs).zipIdx j).foldl (fun cs (c, j) => cs.setIfInBounds (off + j) c) cs = (vs.zipIdx (j + 1)).foldl (fun cs (c, j) => cs.setIfInBounds (off + j) c) (cs.setIfInBounds (off + j) v) := by simp [List.zipIdx_cons]
    show (((v :: vs).zipIdx j).foldl (fun cs (c, j) => cs.setIfInBounds (off + j) c) cs)[k]? = _
    rw [e, h2 k]
    simp only [List.length_cons]
    by_cases h3 : off + (j + 1) ≤ k ∧ k < off + (j + 1) + vs.length
    · rw [if_pos h3, if_pos (by omega), show k - (off + j) = (k - (off + (j + 1))) + 1 from by omega]; simp
    · rw [if_neg h3]
      by_cases h4 : k = off + j
      · subst h4
        have : off + j < cs.size := by omega
        rw [if_pos (by omega)]; simp [this]
      · rw [if_neg (by omega), Array.getElem?_setIfInBounds_ne (fun e => h4 e.symm)]

/-- parts, each with its value -/
def PRs (σ : Sg) : List (Nat × AV) → List (Nat × Value) → Prop
  | [], [] => True
  | (i, v) :: vs, (j, V) :: Vs => i = j ∧ VR σ v V ∧ PRs σ vs Vs
  | _, _ => False
theorem fill_sound {σ : Sg} {place : Nat → Option (Nat × Nat)} : ∀ (ps : List (Nat × AV)) (Ps : List (Nat × Value)) (cs : List AV) (Cs : List Value) (r : List AV), PRs σ ps Ps → VRs σ cs Cs →
    fillA place cs ps = some r → ∃ R, Instr.fill place Cs.toArray Ps = some R ∧ VRs σ r R.toList
  | [], [], cs, Cs, r, _, hc, h => by
    unfold fillA at h; rw [listK_eq] at h; injection h with h; subst h; exact ⟨Cs.toArray, rfl, hc⟩
  | (i, v) :: ps, (j, V) :: Ps, cs, Cs, r, ⟨hij, hv, hp⟩, hc, h => by
    subst hij
    unfold fillA at h
    cases hpl : place i with
    | none => rw [hpl] at h; cases h
    | some os =>
      obtain ⟨off, size⟩ := os
      rw [hpl] at h
      simp only at h
      split at h
      · rename_i hsz
        have hsz := of_beq hsz
        split at h
        · rename_i c hl
          obtain ⟨h1, h2, h3⟩ := lay_some hl
          have hlen := hv.cells.length
          have hcl := hc.length
          have hVs : V.cells.size = v.cells.length := by rw [hlen]; simp
          obtain ⟨f1, f2⟩ := fold_set off V.cells.toList 0 Cs.toArray (by simp; omega)
          have e : V.cells.zipIdx.foldl (fun cs (c, j) => cs.setIfInBounds (off + j) c) Cs.toArray = (V.cells.toList.zipIdx 0).foldl (fun cs (c, j) => cs.setIfInBounds (off + j) c) Cs.toArray := by
            rw [← Array.foldl_toList]; simp
          have hrel : VRs σ c (V.cells.zipIdx.foldl (fun cs (c, j) => cs.setIfInBounds (off + j) c) Cs.toArray).toList := by
            rw [e]
            generalize (V.cells.toList.zipIdx 0).foldl (fun cs (c, j) => cs.setIfInBounds (off + j) c) Cs.toArray = F at f1 f2
            refine VRs.of_get ?_ ?_
            · have : F.toList.length = F.size := by simp
              rw [this, f1, h2]; simpa using hcl
            · intro k u hk
              rw [h3 k] at hk
              simp only [Array.getElem?_toList]
              rw [f2 k]
              simp only [Nat.add_zero, Array.length_toList]
              by_cases hin : off ≤ k ∧ k < off + v.cells.length
              · rw [if_pos hin] at hk; rw [if_pos (by omega)]
                exact hv.cells.get hk
              · rw [if_neg hin] at hk; rw [if_neg (by omega)]
                obtain ⟨U, h4, h5⟩ := hc.get hk
                exact ⟨U, by simpa using h4, h5⟩
          obtain ⟨R, r1, r2⟩ := fill_sound ps Ps c _ r hp hrel h
          refine ⟨R, ?_, r2⟩
          unfold Instr.fill
          rw [hpl]
          simp only
          rw [if_neg (by simp; omega)]
          simpa using r1
        · cases h
      · cases h
  | [], _ :: _, _, _, _, hp, _, _ => by cases hp
  | _ :: _, [], _, _, _, hp, _, _ => by cases hp

theorem fieldPlaces_sound {P : Program} {w : World} : ∀ (fs : List Field) (ps : List (Nat × Nat)), fieldPlaces P fs = some ps →
    (fs.mapM fun f => (do pure (f.offset, ← sizeOf f.type) : Sem (Nat × Nat))).run P w = .ok ps w
  | [], ps, h => by simp [fieldPlaces] at h; subst h; simp
  | f :: fs, ps, h => by
    unfold fieldPlaces at h
    split at h
    · rename_i s r hs hr
      injection h with h; subst h
      have := fieldPlaces_sound (w := w) fs r hr
      simp only [List.mapM_cons, Sem.run_bind, r_size hs, Sem.run_pure, Result.andThen_ok, this]
    · cases h
theorem buildA_sound {P : Program} {σ : Sg} {w : World} {t : TypeId} {ps : List (Nat × AV)} {Ps : Array (Nat × Value)} {v : AV} (h : buildA P t ps = some v) (hp : PRs σ ps Ps.toList) :
    ∃ V, (Instr.build t Ps).run P w = .ok V w ∧ VR σ v V := by
  unfold buildA at h
  split at h
  · rename_i z hz
    obtain ⟨Z, hZ, hzZ⟩ := r_zero (P := P) (w := w) σ hz
    split at h
    · rename_i fs hu
      split at h
      · rename_i pl hpl
        split at h
        · rename_i c hc
          injection h with h; subst h
          obtain ⟨R, r1, r2⟩ := fill_sound ps Ps.toList z.cells Z.cells.toList c hp hzZ.cells hc
          refine ⟨.agg R, ?_, ?_⟩
          · have hm := fieldPlaces_sound (w := w) fs.toList pl hpl
            simp only [Instr.build, Sem.run_bind, hZ, Result.andThen_ok, r_und hu]
            rw [Array.mapM_eq_mapM_toList]
            simp only [Sem.run_map, hm, Result.andThen_ok]
            have e : (fun (x : Nat) => (pl.toArray)[x]?) = fun (x : Nat) => pl[x]? := by funext x; simp
            rw [e]
            simp only [Array.toArray_toList] at r1
            rw [r1]
            rfl
          · exact VR.agg (Cs := R.toList) r2
        · cases h
      · cases h
    · rename_i n e hu
      split at h
      · rename_i s hs
        split at h
        · rename_i c hc
          injection h with h; subst h
          obtain ⟨R, r1, r2⟩ := fill_sound ps Ps.toList z.cells Z.cells.toList c hp hzZ.cells hc
          refine ⟨.agg R, ?_, ?_⟩
          · simp only [Instr.build, Sem.run_bind, hZ, Result.andThen_ok, r_und hu, r_size hs]
            simp only [Array.toArray_toList] at r1
            rw [r1]
            rfl
          · exact VR.agg (Cs := R.toList) r2
        · cases h
      · cases h
    · cases h
  · cases h

/-! ### Conversions and the like -/
theorem convertA_sound {P : Program} {σ : Sg} {w : World} {s d : TypeId} {x v : AV} {X : Value} (h : convertA P s d x = some v) (hx : VR σ x X) :
    ∃ V, (convert s d X).run P w = .ok V w ∧ VR σ v V := by
  unfold convertA at h
  split at h
  · rename_i k1 k hs hd
    split at h
    · cases hx; cases intV_eq h
      rename_i k' n
      exact ⟨.int k (k.wrap n), by simp [convert, r_und hs, r_und hd, Conv.intToInt], by rw [wrapF_eq]; exact .int _ _⟩
    · cases hx; injection h with h; subst h
      rename_i k' n
      exact ⟨.int k (k.wrap n), by simp [convert, r_und hs, r_und hd, Conv.intToInt], .sint _ _⟩
    · cases h
  · cases h
theorem unA_sound {P : Program} {σ : Sg} {w : World} {op : UnOp} {x v : AV} {X : Value} (h : unA op x = some v) (hx : VR σ x X) :
    ∃ V, (Op.unary op X).run P w = .ok V w ∧ VR σ v V := by
  unfold unA at h
  split at h
  · cases hx; cases intV_eq h
    exact ⟨_, by simp [Op.unary, Op.intArith]; rfl, by rw [wrapF_eq, subF_eq]; simp; exact .int _ _⟩
  · cases hx; injection h with h; subst h
    exact ⟨_, by simp [Op.unary, Op.intArith]; rfl, by simp; exact .sint _ _⟩
  · cases hx; cases intV_eq h
    rename_i k n
    refine ⟨.int k (k.wrap (BitVec.ofInt k.bits (if k.signed then -1 else k.max) ^^^ BitVec.ofInt k.bits n).toNat), rfl, ?_⟩
    rw [← xor_eq]
    have : toU k (if k.signed then -1 else k.max) = whole k - 1 := by cases k <;> rfl
    rw [this]; exact .int _ _
  · cases hx; cases boolV_eq h; exact ⟨_, rfl, .bool _⟩
  · cases hx; injection h with h; subst h; exact ⟨_, rfl, .sbool _⟩
  · cases h
theorem fieldAt_sound {P : Program} {σ : Sg} {w : World} {s : TypeId} {f : Nat} {x v : AV} {X : Value} (h : fieldAt P s x f = some v) (hx : VR σ x X) :
    ∃ V, (Instr.fieldAt s X f).run P w = .ok V w ∧ VR σ v V := by
  unfold fieldAt at h
  split at h
  · cases hx with | ptr hσ =>
    split at h
    · rename_i fs hu
      split at h
      · rename_i fd hf
        split at h
        · rename_i n hn
          unfold ptrO at h; rw [natK_eq] at h; injection h with h; subst h
          refine ⟨_, ?_, .ptr hσ⟩
          simp only [Instr.fieldAt, Sem.run_bind, r_und hu, Result.andThen_ok, hf]
          simp [Instr.sureAddr, fieldPlace, r_size hn, addr_add]
        · cases h
      · cases h
    · cases h
  · cases h
theorem fieldA_sound {P : Program} {σ : Sg} {w : World} {s : TypeId} {f : Nat} {x v : AV} {X : Value} (h : fieldA P s x f = some v) (hx : VR σ x X) :
    ∃ V, (Instr.field s X f).run P w = .ok V w ∧ VR σ v V := by
  unfold fieldA at h
  split at h
  · obtain ⟨Cs, rfl, hc⟩ := hx.agg_inv
    split at h
    · rename_i fs hu
      split at h
      · rename_i fd hf
        obtain ⟨V, h1, h2⟩ := part_sound (w := w) h hc
        exact ⟨V, by simp [Instr.field, r_und hu, hf, asAgg, h1], h2⟩
      · cases h
    · cases h
  · cases h
theorem indexA_sound {P : Program} {σ : Sg} {w : World} {t : TypeId} {x i v : AV} {X I : Value} (h : indexA P t x i = some v) (hx : VR σ x X) (hi : VR σ i I) :
    ∃ V, (Instr.index t X I).run P w = .ok V w ∧ VR σ v V := by
  unfold indexA at h
  split at h
  · rename_i n e hu
    split at h
    · rename_i cs k m
      obtain ⟨Cs, rfl, hc⟩ := hx.agg_inv
      cases hi
      split at h
      · rename_i s hs
        split at h
        · rename_i hb
          have hb := of_ble hb
          obtain ⟨V, h1, h2⟩ := part_sound (w := w) h hc
          refine ⟨V, ?_, h2⟩
          simp only [Instr.index, asIntOf, Sem.run_bind, Sem.run_pure, Result.andThen_ok, r_und hu]
          rw [if_pos (by simp; omega)]
          simp [r_size hs, h1]
        · cases h
      · cases h
    · cases h
  · rename_i hu
    split at h
    · rename_i s k m
      cases hx
      cases hi
      unfold byteV at h
      split at h
      · rename_i b hb
        rw [natK_eq] at h
        injection h with h; subst h
        refine ⟨_, ?_, .int _ _⟩
        have hb' : s[m]? = some b := by
          rw [Array.getElem?_toList] at hb
          obtain ⟨d⟩ := s
          obtain ⟨hl, he⟩ := Array.getElem?_eq_some_iff.1 hb
          have : (ByteArray.mk d)[m]? = some ((ByteArray.mk d)[m]'hl) := getElem?_pos _ _ _
          rw [this]; exact congrArg some he
        simp only [Instr.index, asIntOf, Sem.run_bind, Sem.run_pure, Result.andThen_ok, r_und hu]
        simp [hb']
      · cases h
    · cases h
  · cases h
end Go.Ev
