/-
  A part of the evaluator of the program's code, or of what it was seen to do; its statements are Lean's own. No condition.
-/
import Derived.Test.YthclecbbebelhaaGreatEvOp2
import Derived.Laws.BitsLemmas
namespace Go.Ev
open Go

theorem elemT_some {P : Program} {t e : TypeId} (h : elemT P t = some e) : P.underlying t = some (.slice e) := by
  unfold elemT at h; split at h
  · rename_i e' hu; injection h with h; subst h; exact hu
  · cases h
theorem VRs.repCells {σ : Sg} {zs : List AV} {Zs : List Value} (h : VRs σ zs Zs) : ∀ n, VRs σ (replicateCells zs n) ((List.replicate n Zs).flatten)
  | 0 => .nil
  | n + 1 => by simpa [replicateCells, List.replicate_succ] using h.app (VRs.repCells h n)
theorem flatten_get {Zs : List Value} {s : Nat} (hs : Zs.length = s) (h1 : 1 ≤ s) : ∀ (n i : Nat), i < n * s → ((List.replicate n Zs).flatten)[i]? = Zs[i % s]?
  | 0, i, h => by simp at h
  | n + 1, i, h => by
    simp only [List.replicate_succ, List.flatten_cons]
    by_cases hi : i < s
    · rw [List.getElem?_append_left (by omega), Nat.mod_eq_of_lt hi]
    · rw [List.getElem?_append_right (by omega), flatten_get hs h1 n (i - Zs.length) (by rw [hs]; rw [Nat.succ_mul] at h; omega)]
      congr 1
      rw [hs]
      conv => rhs; rw [show i = (i - s) + s from by omega, Nat.add_mod_right]
/-- so many zero values' cells, as the model lays them -/
theorem range_map_cells {Z : Array Value} {s n : Nat} (hs : Z.size = s) (h1 : 1 ≤ s) : ((Array.range (n * s)).map (Z[· % Z.size]!)).toList = (List.replicate n Z.toList).flatten := by
  apply List.ext_getElem?
  intro i
  by_cases hi : i < n * s
  · rw [flatten_get (by simpa using hs) h1 n i hi]
    have hm : i % s < Z.size := by rw [hs]; exact Nat.mod_lt _ (by omega)
    simp [hi, hs]
    rw [Array.getElem?_eq_getElem hm]
    simp [hm]
  · have : ((List.replicate n Z.toList).flatten).length = n * s := by simp [hs]
    rw [List.getElem?_eq_none (by simp; omega), List.getElem?_eq_none (by omega)]

theorem buildSliceA_sound {P : Program} {T : Tp} {hi : Nat} {σ : Sg} {g : G} {w : World} {t : TypeId} {n : Nat} {ps : List (Nat × AV)} {Ps : Array (Nat × Value)} (hp : PRs σ ps Ps.toList) :
    VSound P T hi σ g w (buildSliceA P t n ps) (Instr.buildSlice t n Ps) := by
  intro v g' h p
  unfold buildSliceA at h
  revert h; cases he : elemT P t <;> intro h <;> simp only at h
  case none => exact (no_ok h).elim
  rename_i e
  revert h; cases hs : sizeT P e <;> cases hz : zeroT P e <;> intro h <;> simp only at h <;> first | (exact (no_ok h).elim; done) | skip
  rename_i s z
  revert h; cases hb : (Nat.ble (n * s) 4096 && Nat.beq z.cells.length s && Nat.ble 1 s) <;> intro h <;> simp only at h
  case false => exact (no_ok h).elim
  simp only [Bool.and_eq_true] at hb
  obtain ⟨⟨hb1, hb2⟩, hb3⟩ := hb
  have hb1 := of_ble hb1; have hb2 := of_beq hb2; have hb3 := of_ble hb3
  revert h; cases hf : fillA (fun i => some (i * s, s)) (replicateCells z.cells n) ps <;> intro h <;> simp only at h
  case none => exact (no_ok h).elim
  rename_i c
  revert h; cases ho : allOne c <;> intro h <;> simp only at h
  case false => exact (no_ok h).elim
  obtain ⟨i, g1, h1, h2⟩ := bind_ok h
  obtain ⟨rfl, rfl⟩ := pure_ok h2
  obtain ⟨Z, hZ, hzZ⟩ := r_zero (P := P) (w := w) σ hz
  have hZs : Z.cells.size = s := by have := hzZ.cells.length; simp at this; omega
  obtain ⟨R, r1, r2⟩ := fill_sound ps Ps.toList _ _ c hp (hzZ.cells.repCells n) hf
  have := alloc_sound (cap := 0) (obj := .cells R e) h1 p.rel p.fresh p.hi (sh_cells 0 r2) (fun o c hc => ct_cells r2 o c hc)
  obtain ⟨rfl, hn, q⟩ := this
  refine ⟨_, _, _, _, q, .sl (upd_same _ _ _), ?_⟩
  have e1 : ((Array.range (n * s)).map (Z.cells[· % Z.cells.size]!)) = ((List.replicate n Z.cells.toList).flatten).toArray := by
    rw [← range_map_cells hZs hb3]
  simp only [Instr.buildSlice, Sem.run_bind, r_und (elemT_some he), Result.andThen_ok, r_size hs]
  rw [if_neg (by omega)]
  by_cases h0 : n * s = 0
  · have hn0 : n = 0 := by rcases Nat.mul_eq_zero.1 h0 with h | h <;> omega
    subst hn0
    simp only [List.replicate_zero, List.flatten_nil] at r1
    have e0 : Array.range 0 = #[] := rfl
    simp [r1, newRow, pushed, e0]
  · simp only [h0, if_false, Sem.run_bind, hZ, Result.andThen_ok, Sem.run_pure]
    rw [e1, r1]
    simp [newRow, pushed]

theorem int_inv {σ : Sg} {k : IntKind} {n : Int} {V : Value} (h : VR σ (.int k n) V) : V = .int k n := by cases h; rfl
theorem sint_inv {σ : Sg} {k : IntKind} {n : Int} {V : Value} (h : VR σ (.sint k n) V) : V = .int k n := by cases h; rfl

theorem indexAtA_sound {P : Program} {T : Tp} {hi : Nat} {σ : Sg} {g : G} {w : World} {t : TypeId} {x i : AV} {X I : Value} (hx : VR σ x X) (hi' : VR σ i I) :
    VSound P T hi σ g w (indexAtA P t x i) (Instr.indexAt t X I) := by
  intro v g' h p
  unfold indexAtA at h
  cases hu : P.underlying t with
  | none => rw [hu] at h; exact (no_ok h).elim
  | some d =>
    rw [hu] at h
    cases d <;> simp only at h <;> first | exact (no_ok h).elim | skip
    case array n e =>
      split at h
      · rename_i b o kk k
        cases hx with | ptr hσ =>
        cases hi'
        cases hs : sizeT P e with
        | none => rw [hs] at h; exact (no_ok h).elim
        | some s =>
          rw [hs] at h
          simp only at h
          cases hb : Nat.ble (k + 1) n with
          | false => rw [hb] at h; exact (no_ok h).elim
          | true =>
            rw [hb] at h
            have hb := of_ble hb
            simp only [ptrM, natK_eq] at h
            obtain ⟨rfl, rfl⟩ := pure_ok h
            refine ⟨σ, _, w, [], Post.refl p.rel, .ptr hσ, ?_⟩
            simp only [Instr.indexAt, asIntOf, Sem.run_bind, Sem.run_pure, Result.andThen_ok, r_und hu, Instr.sureAddr]
            rw [if_pos (by simp; omega)]
            simp [r_size hs, addr_add]
      · exact (no_ok h).elim
    case slice e =>
      split at h
      · rename_i b o n c kk k
        cases hx with | sl hσ =>
        cases hi'
        cases hs : sizeT P e with
        | none => rw [hs] at h; exact (no_ok h).elim
        | some s =>
          rw [hs] at h
          simp only at h
          cases hb : Nat.ble (k + 1) n with
          | false => rw [hb] at h; exact (no_ok h).elim
          | true =>
            rw [hb] at h
            have hb := of_ble hb
            simp only [ptrM, natK_eq] at h
            obtain ⟨rfl, rfl⟩ := pure_ok h
            refine ⟨σ, _, w, [], Post.refl p.rel, .ptr hσ, ?_⟩
            simp only [Instr.indexAt, asIntOf, Sem.run_bind, Sem.run_pure, Result.andThen_ok, r_und hu]
            rw [if_pos (by simp; omega)]
            simp [r_size hs, addr_add]
      · rename_i b n kk k
        cases hx with | gsl hσ =>
        cases hi'
        cases hs : sizeT P e with
        | none => rw [hs] at h; exact (no_ok h).elim
        | some s =>
          rw [hs] at h
          simp only at h
          cases hb : Nat.ble (k + 1) n with
          | false => rw [hb] at h; exact (no_ok h).elim
          | true =>
            rw [hb] at h
            have hb := of_ble hb
            simp only [ptrM, natK_eq] at h
            obtain ⟨rfl, rfl⟩ := pure_ok h
            refine ⟨σ, _, w, [], Post.refl p.rel, .ptr hσ, ?_⟩
            simp only [Instr.indexAt, asIntOf, Sem.run_bind, Sem.run_pure, Result.andThen_ok, r_und hu]
            rw [if_pos (by simp; omega)]
            simp [r_size hs, addr_add]
      all_goals first | (exact (no_ok h).elim; done) | skip
      all_goals
        rename_i b o n c kk k
        cases hx with | ssl hσ =>
        cases hi'
        cases hs : sizeT P e with
        | none => rw [hs] at h; exact (no_ok h).elim
        | some s =>
          rw [hs] at h
          simp only at h
          cases hs1 : Nat.beq s 1 with
          | false => rw [hs1] at h; exact (no_ok h).elim
          | true =>
          rw [hs1] at h
          have hs1 := of_beq hs1
          subst hs1
          obtain ⟨d, g1, h1, h2⟩ := bind_ok h
          obtain ⟨r, hr, hg1⟩ := ask_ok h1
          cases d with
          | false => exact (no_ok h2).elim
          | true =>
            obtain ⟨rfl, rfl⟩ := pure_ok h2
            subst hg1
            have hb : 0 ≤ k ∧ k < (n : Int) := by
              have := p.owes (decide (0 ≤ k ∧ k < (n : Int)), true) List.mem_cons_self
              simpa using this
            refine ⟨σ, _, w, [], Post.asked p.rel, .sptr hσ, ?_⟩
            simp only [Instr.indexAt, asIntOf, Sem.run_bind, Sem.run_pure, Result.andThen_ok, r_und hu]
            rw [if_pos (by simpa using hb)]
            simp [r_size hs, addr_add]

theorem boundA_sound {P : Program} {σ : Sg} {w : World} {most k : Nat} {v : AV} {V : Value} {code : BoundsCode} (h : boundA most v = some k) (hv : VR σ v V) :
    (Instr.sliceBound V most code).run P w = .ok k w ∧ k ≤ most := by
  unfold boundA at h
  split at h
  · cases hv
    split at h
    · rename_i hb
      have hb := of_ble hb
      injection h with h; subst h
      refine ⟨?_, hb⟩
      simp only [Instr.sliceBound, asIntOf, Sem.run_bind, Sem.run_pure, Result.andThen_ok]
      rw [if_pos (by simp; omega)]
      simp
    · cases h
  · cases h
def VRo (σ : Sg) : Option AV → Option Value → Prop
  | none, none => True
  | some v, some V => VR σ v V
  | _, _ => False
theorem sliceA_sound {P : Program} {σ : Sg} {w : World} {t : TypeId} {x v : AV} {X : Value} {lo hi mx : Option AV} {Lo Hi Mx : Option Value} (h : sliceA P t x lo hi mx = some v)
    (hx : VR σ x X) (hlo : VRo σ lo Lo) (hhi : VRo σ hi Hi) (hmx : VRo σ mx Mx) : ∃ V, (Instr.sliceAt t X Lo Hi Mx).run P w = .ok V w ∧ VR σ v V := by
  unfold sliceA at h
  cases mx with
  | some m => cases h
  | none =>
    cases Mx with
    | some m => cases hmx
    | none =>
      simp only at h
      have bounds : ∀ (isS : Bool) (n c hh l : Nat), boundO c n hi = some hh → boundO hh 0 lo = some l → (Instr.sliceBounds isS n c Lo Hi none).run P w = .ok (l, hh, c) w := by
        intro isS n c hh l e1 e2
        cases hi with
        | none =>
          cases Hi with
          | some _ => cases hhi
          | none =>
            simp only [boundO] at e1; injection e1 with e1; subst e1
            cases lo with
            | none =>
              cases Lo with
              | some _ => cases hlo
              | none => simp only [boundO] at e2; injection e2 with e2; subst e2; simp [Instr.sliceBounds]
            | some lv =>
              cases Lo with
              | none => cases hlo
              | some LV => obtain ⟨b1, _⟩ := boundA_sound (P := P) (w := w) (code := .sliceB) e2 hlo; simp [Instr.sliceBounds, b1]
        | some hv =>
          cases Hi with
          | none => cases hhi
          | some HV =>
            have b0 : ∀ code, (Instr.sliceBound HV c code).run P w = .ok hh w := fun code => (boundA_sound (P := P) (w := w) (code := code) e1 hhi).1
            cases lo with
            | none =>
              cases Lo with
              | some _ => cases hlo
              | none => simp only [boundO] at e2; injection e2 with e2; subst e2; simp [Instr.sliceBounds, b0]
            | some lv =>
              cases Lo with
              | none => cases hlo
              | some LV => obtain ⟨b1, _⟩ := boundA_sound (P := P) (w := w) (code := .sliceB) e2 hlo; simp [Instr.sliceBounds, b0, b1]
      cases hu : P.underlying t with
      | none => rw [hu] at h; cases h
      | some d =>
        rw [hu] at h
        cases d <;> simp only at h <;> first | (cases h; done) | skip
        case slice e =>
          split at h
          · rename_i i o n c
            cases hx with | sl hσ =>
            rename_i b cap
            split at h
            · rename_i s hh hs e1
              split at h
              · rename_i l e2
                simp only [slO, natK_eq] at h
                injection h with h; subst h
                refine ⟨_, ?_, .sl hσ⟩
                have hb := bounds true n c hh l e1 e2
                simp only [Instr.sliceAt, Instr.slice, Sem.run_bind, r_und hu, Result.andThen_ok, hb, r_size hs, Sem.run_pure]
                by_cases hcl : c = l
                · subst hcl; simp
                · simp [hcl, beq_f hcl, addr_add]
              · cases h
            · cases h
          · cases hx
            split at h
            · rename_i s hh hs e1
              split at h
              · rename_i l e2
                injection h with h; subst h
                have hh0 : hh = 0 := by
                  cases hi with
                  | none => simp only [boundO] at e1; injection e1 with e1; exact e1.symm
                  | some hv =>
                    cases Hi with
                    | none => cases hhi
                    | some HV => have := (boundA_sound (P := P) (w := w) (code := .sliceB) e1 hhi).2; omega
                subst hh0
                have hl0 : l = 0 := by
                  cases lo with
                  | none => simp only [boundO] at e2; injection e2 with e2; exact e2.symm
                  | some hv =>
                    cases Lo with
                    | none => cases hlo
                    | some HV => have := (boundA_sound (P := P) (w := w) (code := .sliceB) e2 hlo).2; omega
                subst hl0
                have hb := bounds true 0 0 0 0 e1 e2
                refine ⟨.slice none 0 0, ?_, .nilSl⟩
                simp [Instr.sliceAt, Instr.slice, r_und hu, hb, r_size hs]
              · cases h
            · cases h
          · cases h
        case array n e =>
          split at h
          · rename_i i o
            cases hx with | ptr hσ =>
            split at h
            · rename_i s hh hs e1
              split at h
              · rename_i l e2
                simp only [slO, natK_eq] at h
                injection h with h; subst h
                refine ⟨_, ?_, .sl hσ⟩
                have hb := bounds false n n hh l e1 e2
                simp only [Instr.sliceAt, Instr.sureAddr, Sem.run_bind, r_und hu, Result.andThen_ok, hb, r_size hs, Sem.run_pure]
                by_cases hcl : n = l
                · subst hcl; simp
                · simp [hcl, beq_f hcl, addr_add]
              · cases h
            · cases h
          · cases h
theorem wrap_i64_small (n : Nat) (h : n ≤ 281474976710656) : IntKind.i64.wrap (Int.ofNat n) = (n : Int) := by
  rw [IntKind.wrap_i64]
  simp only [Int.ofNat_eq_natCast]
  omega
theorem r_asInt {P : Program} {w : World} (k : IntKind) (n : Int) : (asInt (.int k n)).run P w = .ok n w := by rfl
theorem makeSliceA_sound {P : Program} {T : Tp} {hi : Nat} {σ : Sg} {g : G} {w : World} {t : TypeId} {l c : AV} {L C : Value} (hl : VR σ l L) (hc : VR σ c C) :
    VSound P T hi σ g w (makeSliceA P t l c) (Instr.makeSlice t L C) := by
  intro v g' h p
  unfold makeSliceA at h
  split at h
  · rename_i k n k2 m
    cases hl; cases hc
    revert h; cases he : elemT P t <;> intro h <;> simp only at h
    case none => exact (no_ok h).elim
    rename_i e
    revert h; cases hi : P.info? e <;> cases hz : zeroT P e <;> intro h <;> simp only at h <;> first | (exact (no_ok h).elim; done) | skip
    rename_i inf z
    revert h; cases hb : (Nat.ble n m && Nat.beq inf.size 1 && z.oneCell && Nat.ble (inf.bytes * m) 281474976710656 && Nat.ble m 281474976710656) <;> intro h <;> simp only at h
    case false => exact (no_ok h).elim
    simp only [Bool.and_eq_true] at hb
    obtain ⟨⟨⟨⟨b1, b2⟩, b3⟩, b4⟩, b5⟩ := hb
    have b1 := of_ble b1; have b2 := of_beq b2; have b4 := of_ble b4; have b5 := of_ble b5
    obtain ⟨i, g1, h1, h2⟩ := bind_ok h
    obtain ⟨rfl, rfl⟩ := pure_ok h2
    obtain ⟨Z, hZ, hzZ⟩ := r_zero (P := P) (w := w) σ hz
    have hZc := hzZ.cells
    have hzc : z.cells = [z] := by cases z <;> first | rfl | (simp [AV.oneCell] at b3)
    rw [hzc] at hZc
    have hZs : Z.cells.size = 1 := by have := hZc.length; simpa using this.symm
    obtain ⟨Z0, hZ0, hzZ0⟩ := hZc.get (i := 0) rfl
    have hcell : ∀ o : Nat, Z.cells[o % Z.cells.size]! = Z0 := fun o => by
      have : o % Z.cells.size = 0 := by rw [hZs]; omega
      rw [this]
      have h9 : Z.cells[0]? = some Z0 := by simpa using hZ0
      rw [getElem!_def, h9]
    have hsz : sizeT P e = some 1 := by simp [sizeT, hi, b2]
    have q := alloc_sound (cap := 0) (obj := .cells ((Array.range m).map (Z.cells[· % Z.cells.size]!)) e) h1 p.rel p.fresh p.hi
      ⟨_, (0, 0), rfl, Nat.le_refl _, by simp⟩
      (fun o c hc => by
        simp only [Blk.ct] at hc
        split at hc
        · rename_i hlt
          injection hc with hc; subst hc
          refine ⟨_, e, (0, 0), Z0, rfl, ?_, ?_⟩
          · rw [Array.getElem?_map, Array.getElem?_range]; simp [hlt, hcell]
          · rw [Tr.get_lf]; exact hzZ0
        · cases hc)
    obtain ⟨rfl, hn, q⟩ := q
    refine ⟨_, _, _, _, q, .sl (upd_same _ _ _), ?_⟩
    have w1 := wrap_i64_small n (Nat.le_trans b1 b5)
    have w2 := wrap_i64_small m b5
    simp only [Instr.makeSlice, Sem.run_bind, r_und (elemT_some he), Result.andThen_ok, r_asInt, r_info hi, w1, w2]
    have ca : ¬ ((m : Int) < 0) := by omega
    have cb : ¬ (281474976710656 < (inf.bytes : Int) * (m : Int)) := by
      have : ((inf.bytes * m : Nat) : Int) ≤ ((281474976710656 : Nat) : Int) := Int.ofNat_le.2 b4
      rw [Int.natCast_mul] at this
      omega
    have c2 : ¬ ((n : Int) < 0) := by omega
    have c3 : ¬ ((n : Int) > (m : Int)) := by omega
    by_cases h0 : m = 0
    · subst h0
      have : n = 0 := by omega
      subst this
      have e0 : Array.range 0 = #[] := rfl
      simp [run_askRoom, r_size hsz, newRow, pushed, e0]
    · simp [ca, cb, c2, c3, run_askRoom, r_size hsz, h0, hZ, newRow, pushed]
  · exact (no_ok h).elim
theorem makeChanA_sound {P : Program} {T : Tp} {hi : Nat} {σ : Sg} {g : G} {w : World} {t : TypeId} {s : AV} {S : Value} (hs : VR σ s S) :
    VSound P T hi σ g w (makeChanA P t s) (Instr.makeChan t S) := by
  intro v g' h p
  unfold makeChanA at h
  split at h
  · rename_i k n
    cases hs
    cases hu : P.underlying t with
    | none => rw [hu] at h; exact (no_ok h).elim
    | some ud =>
    rw [hu] at h
    cases ud <;> simp only at h <;> first | (exact (no_ok h).elim; done) | skip
    case chan d e =>
      cases hi' : P.info? e with
      | none => rw [hi'] at h; exact (no_ok h).elim
      | some inf =>
        rw [hi'] at h
        cases hb : (Nat.ble n 1048576 && Nat.ble inf.bytes 4096) with
        | false => simp only [hb] at h; exact (no_ok h).elim
        | true =>
          simp only [hb] at h
          simp only [Bool.and_eq_true] at hb
          have b1 := of_ble hb.1; have b2 := of_ble hb.2
          obtain ⟨i, g1, h1, h2⟩ := bind_ok h
          obtain ⟨rfl, rfl⟩ := pure_ok h2
          have q := alloc_sound (cap := 0) (obj := .chan n #[] false 0 0 false) h1 p.rel p.fresh p.hi ⟨n, #[], 0, 0, rfl⟩ (fun o c hc => by simp only [Blk.ct] at hc; split at hc <;> cases hc; exact ⟨_, _, _, rfl, rfl⟩)
          obtain ⟨rfl, hn, q⟩ := q
          refine ⟨_, _, _, _, q, .chan (upd_same _ _ _), ?_⟩
          have w1 : ((n : Int)) ≤ 1048576 := Int.ofNat_le.2 b1
          have c1 : ¬ ((n : Int) < 0) := by omega
          have c2 : ¬ ((n : Int) > IntKind.i64.max) := by have : IntKind.i64.max = 9223372036854775807 := rfl; omega
          have c3 : ¬ ((inf.bytes : Int) * (n : Int) > 2 ^ 48 - 112) := by
            have h3 : inf.bytes * n ≤ 4096 * 1048576 := Nat.mul_le_mul b2 b1
            have h4 : ((inf.bytes * n : Nat) : Int) ≤ ((4096 * 1048576 : Nat) : Int) := Int.ofNat_le.2 h3
            rw [Int.natCast_mul] at h4
            omega
          have h5 : ¬ ((n : Int) < 0 ∨ (n : Int) > IntKind.i64.max ∨ (inf.bytes : Int) * (n : Int) > 2 ^ 48 - 112) := by
            rintro (h | h | h)
            · exact c1 h
            · exact c2 h
            · exact c3 h
          simp only [Instr.makeChan, Sem.run_bind, r_asInt, Result.andThen_ok, r_und hu, r_info hi', Sem.run_ite, Int.ofNat_eq_natCast]
          rw [if_neg h5]
          simp [pushed]
  · exact (no_ok h).elim
end Go.Ev
