/-
  A part of the evaluator of the program's code, or of what it was seen to do; its statements are Lean's own. No condition.
-/
import Derived.Test.YthclecbbebelhaaGreatEvInt
namespace Go.Ev
open Go

/-! ### Constants and types -/
theorem mapM_VRs {σ : Sg} {f : Value → Option AV} (hf : ∀ V v, f V = some v → VR σ v V) : ∀ (Vs : List Value) (vs : List AV), Vs.mapM f = some vs → VRs σ vs Vs
  | [], vs, h => by simp at h; subst h; exact .nil
  | V :: Vs, vs, h => by
    rw [List.mapM_cons] at h
    cases e : f V with
    | none => rw [e] at h; cases h
    | some v =>
      rw [e] at h
      cases e2 : Vs.mapM f with
      | none => rw [e2] at h; cases h
      | some us =>
        rw [e2] at h
        injection h with h; subst h
        exact .cons (hf V v e) (mapM_VRs hf Vs us e2)
theorem ofV_sound (σ : Sg) : ∀ (f : Nat) (V : Value) (v : AV), ofV f V = some v → VR σ v V
  | 0, _, _, h => by cases h
  | f + 1, V, v, h => by
    unfold ofV at h
    split at h
    · injection h with h; subst h; exact .bool _
    · injection h with h; subst h; exact .int _ _
    · injection h with h; subst h; exact .str _
    · injection h with h; subst h; exact .nilPtr
    · injection h with h; subst h; exact .nilSl
    · injection h with h; subst h; exact .nilMap
    · injection h with h; subst h; exact .nilChan
    · injection h with h; subst h; exact .nilFunc
    · injection h with h; subst h; exact .nilIface
    · rename_i fn first cap
      split at h
      · rename_i hc
        injection h with h; subst h
        simp only [Bool.and_eq_true, Array.isEmpty_iff] at hc
        obtain ⟨h1, h2⟩ := hc
        subst h1; subst h2
        exact .func (As := []) (Cs := []) .nil .nil
      · cases h
    · rename_i cs
      cases e : cs.toList.mapM (ofV f) with
      | none => rw [e] at h; cases h
      | some l =>
        rw [e] at h; injection h with h; subst h
        have := mapM_VRs (ofV_sound σ f) _ _ e
        exact VR.agg (Cs := cs.toList) this
    · rename_i cs
      cases e : cs.toList.mapM (ofV f) with
      | none => rw [e] at h; cases h
      | some l =>
        rw [e] at h; injection h with h; subst h
        have := mapM_VRs (ofV_sound σ f) _ _ e
        exact VR.tup (Cs := cs.toList) this
    · cases h

section
variable {P : Program} {w : World} {t : TypeId}
theorem r_und {d : TypeDesc} (h : P.underlying t = some d) : (underlying t).run P w = .ok d w := by simp [underlying, h]
theorem r_info {i : TypeInfo} (h : P.info? t = some i) : (typeInfo t).run P w = .ok i w := by simp [typeInfo, h]
theorem r_size {n : Nat} (h : sizeT P t = some n) : (sizeOf t).run P w = .ok n w := by
  unfold sizeT at h
  split at h
  · rename_i i hi; injection h with h; subst h; simp [sizeOf, r_info hi]
  · cases h
theorem r_zero {z : AV} (σ : Sg) (h : zeroT P t = some z) : ∃ Z, (zeroValue t).run P w = .ok Z w ∧ VR σ z Z := by
  unfold zeroT at h
  split at h
  · rename_i i hi
    split at h
    · rename_i v hv
      exact ⟨v, by simp [zeroValue, r_info hi, hv], ofV_sound σ 6 v z h⟩
    · cases h
  · cases h
theorem r_isAgg_t (h : kindT P t = .aggr) : (isAgg t).run P w = .ok true w := by
  unfold kindT at h
  split at h
  · rename_i fs e; simp [isAgg, r_und e]
  · rename_i n e he; simp [isAgg, r_und he]
  · cases h
  · cases h
theorem r_isAgg_f (h : kindT P t = .cell) : (isAgg t).run P w = .ok false w := by
  unfold kindT at h
  split at h
  · cases h
  · cases h
  · rename_i d e n1 n2
    have e' : P.underlying t = some d := by assumption
    simp only [isAgg, Sem.run_bind, r_und e', Result.andThen_ok]
    cases d <;> first | rfl | (exfalso; first | exact e _ rfl | exact e _ _ rfl | exact n1 _ rfl | exact n1 _ _ rfl | exact n2 _ rfl | exact n2 _ _ rfl)
  · cases h
end

theorem VR.agg_inv {σ : Sg} {cs : List AV} {V : Value} (h : VR σ (.agg cs) V) : ∃ Cs, V = .agg Cs.toArray ∧ VRs σ cs Cs := by cases h; exact ⟨_, rfl, by assumption⟩
theorem part_sound {P : Program} {σ : Sg} {w : World} {t : TypeId} {cs : List AV} {Cs : List Value} {off : Nat} {v : AV} (h : partA P t cs off = some v) (hc : VRs σ cs Cs) :
    ∃ V, (part t Cs.toArray off).run P w = .ok V w ∧ VR σ v V := by
  unfold partA at h
  split at h
  · rename_i hk
    split at h
    · rename_i n hn
      injection h with h; subst h
      refine ⟨.agg (Cs.toArray.extract off (off + n)), by simp [part, r_isAgg_t hk, r_size hn], ?_⟩
      have : Cs.toArray.extract off (off + n) = ((Cs.drop off).take n).toArray := by simp [List.extract_eq_take_drop]
      rw [this]
      exact .agg ((hc.drop off).take n)
    · cases h
  · rename_i hk
    obtain ⟨V, h1, h2⟩ := hc.get h
    exact ⟨V, by simp [part, r_isAgg_f hk, h1], h2⟩
  · cases h

/-! ### What an operation that hands back a value owes -/
structure Pre (P : Program) (T : Tp) (hi : Nat) (σ : Sg) (g : G) (w : World) (g' : G) : Prop where
  rel : Rel P σ T g w
  fresh : Fresh σ g hi
  hi : g'.next ≤ hi
  inT : ∀ L, g'.log = L ++ g.log → inT T L
  owes : Owes g'
def VSound (P : Program) (T : Tp) (hi : Nat) (σ : Sg) (g : G) (w : World) (m : M AV) (e : Sem Value) : Prop :=
  ∀ v g', m g = .ok v g' → Pre P T hi σ g w g' → ∃ σ' V w' L, Post P T σ g w σ' g' w' L ∧ VR σ' v V ∧ e.run P w = .ok V w'
def USound (P : Program) (T : Tp) (hi : Nat) (σ : Sg) (g : G) (w : World) (m : M Unit) (e : Sem Unit) : Prop :=
  ∀ u g', m g = .ok u g' → Pre P T hi σ g w g' → ∃ σ' w' L, Post P T σ g w σ' g' w' L ∧ e.run P w = .ok () w'
theorem VSound.no {P : Program} {T : Tp} {hi : Nat} {σ : Sg} {g : G} {w : World} {n : Nat} {e : Sem Value} : VSound P T hi σ g w (Ev.no n) e := fun _ _ h _ => by cases h
theorem USound.no {P : Program} {T : Tp} {hi : Nat} {σ : Sg} {g : G} {w : World} {n : Nat} {e : Sem Unit} : USound P T hi σ g w (Ev.no n) e := fun _ _ h _ => by cases h
theorem VSound.pure {P : Program} {T : Tp} {hi : Nat} {σ : Sg} {g : G} {w : World} {v : AV} {V : Value} {e : Sem Value} (hv : VR σ v V) (he : e.run P w = .ok V w) : VSound P T hi σ g w (M.pure v) e :=
  fun u g' h p => by obtain ⟨rfl, rfl⟩ := pure_ok h; exact ⟨σ, V, w, [], Post.refl p.rel, hv, he⟩

theorem loadA_sound {P : Program} {T : Tp} {hi : Nat} {σ : Sg} {g : G} {w : World} {t : TypeId} {a : AV} {A : Value} (ha : VR σ a A) : VSound P T hi σ g w (loadA P t a) (Instr.loadAt t A) := by
  intro v g' h p
  cases a <;> simp only [loadA] at h <;> first | (exact (no_ok h).elim) | skip
  case ptr i o =>
    cases ha with | ptr hσ =>
    rename_i b cap
    revert h; cases hk : kindT P t <;> intro h <;> simp only at h
    case aggr =>
      revert h; cases hn : sizeT P t <;> intro h <;> simp only at h
      case none => exact (no_ok h).elim
      case some n =>
        obtain ⟨l, g1, h1, h2⟩ := bind_ok h
        obtain ⟨rfl, rfl⟩ := pure_ok h2
        obtain ⟨blk, _, _, hg1⟩ := read_ok h1
        obtain ⟨b', cap', c, e, fz, q1, q2, q3, q4, q5, q6, q7⟩ := read_sound h1 p.rel (p.inT _ (by rw [hg1]; rfl))
        rw [hσ] at q1; injection q1 with q1; injection q1 with q1 _; subst q1
        exact ⟨σ, _, w, _, q7, .agg q6, by simp [Instr.loadAt, Instr.sureAddr, loadVar, r_isAgg_t hk, r_size hn, run_loadCells' q2 o n q4]⟩
    case cell =>
      obtain ⟨l, g1, h1, h2⟩ := bind_ok h
      match l, h1, h2 with
      | [v'], h1, h2 =>
        obtain ⟨rfl, rfl⟩ := pure_ok h2
        obtain ⟨blk, _, _, hg1⟩ := read_ok h1
        obtain ⟨b', cap', c, e, fz, q1, q2, q3, q4, q5, q6, q7⟩ := read_sound h1 p.rel (p.inT _ (by rw [hg1]; rfl))
        rw [hσ] at q1; injection q1 with q1; injection q1 with q1 _; subst q1
        obtain ⟨V, h5, h6⟩ := q6.get (i := 0) rfl
        have h7 : w.cell? ⟨b, o, none⟩ = some V := by
          rw [cell_of q2]
          rw [List.getElem?_take_of_lt (by omega), List.getElem?_drop] at h5
          simpa using h5
        exact ⟨σ, V, w, _, q7, h6, by simp [Instr.loadAt, Instr.sureAddr, loadVar, r_isAgg_f hk, h7]⟩
      | [], _, h2 => exact (no_ok h2).elim
      | _ :: _ :: _, _, h2 => exact (no_ok h2).elim
    case none => exact (no_ok h).elim
  case sptr i o =>
    cases ha with | sptr hσ =>
    rename_i b cap
    revert h; cases hk : kindT P t <;> intro h <;> simp only at h
    case aggr => exact (no_ok h).elim
    case none => exact (no_ok h).elim
    case cell =>
      split at h
      · rename_i e k f n hg
        obtain ⟨d, g1, h1, h2⟩ := bind_ok h
        obtain ⟨r, hr, hg1⟩ := ask_ok h1
        cases d with
        | false => exact (no_ok h2).elim
        | true =>
          obtain ⟨u, g2, h3, h4⟩ := bind_ok h2
          obtain ⟨rfl, rfl⟩ := pure_ok h4
          have hg2 := touch_ok h3
          subst hg1
          have hin := p.inT [⟨i, 0, 0, false⟩] (by rw [hg2]; rfl)
          have hlt : o < n := by
            have := p.owes (decide (o < n), true) (by rw [hg2]; exact List.mem_cons_self)
            simpa using this
          have hT : T i o := hin _ List.mem_cons_self o (.inl rfl)
          obtain ⟨b0, cap0, hs, _⟩ := p.rel.sh i _ hg ⟨o, hT⟩
          rw [hσ] at hs; injection hs with hs; injection hs with hs hs'; subst hs; subst hs'
          obtain ⟨c, e', fz, V, q1, q2, q3⟩ := p.rel.ct i _ o (.cell (.sint k (f o))) b cap hg (by simp [Blk.ct, hlt]) hT hσ
          refine ⟨σ, V, w, [⟨i, 0, 0, false⟩], ?_, q3, by simp [Instr.loadAt, Instr.sureAddr, loadVar, r_isAgg_f hk, cell_of q1, q2]⟩
          have := Post.trans (Post.asked (b := decide (o < n)) (d := true) (r := r) p.rel) (Post.logs (i := i) (o := 0) (n := 0) (p.rel.same rfl)) p.fresh (by have := p.hi; rw [hg2] at this; exact this)
          rw [hg2]; simpa using this
      · cases h

theorem storeA_sound {P : Program} {T : Tp} {hi : Nat} {σ : Sg} {g : G} {w : World} {t : TypeId} {a v : AV} {A V : Value} (ha : VR σ a A) (hv : VR σ v V) :
    USound P T hi σ g w (storeA P t a v) (Instr.storeAt t A V) := by
  intro u g' h p
  cases a <;> simp only [storeA] at h <;> first | (exact (no_ok h).elim) | skip
  case ptr i o =>
    cases ha with | ptr hσ =>
    rename_i b cap
    revert h; cases hn : sizeT P t <;> intro h <;> simp only at h
    case none => exact (no_ok h).elim
    case some n =>
      revert h; cases hl : Nat.beq v.cells.length n <;> intro h <;> simp only at h
      case false => exact (no_ok h).elim
      case true =>
        have hl := of_beq hl
        obtain ⟨blk, blk', _, _, _, hg1⟩ := write_ok h
        obtain ⟨b', cap', w', q1, q2, q3⟩ := write_sound h p.rel hv.cells (p.inT _ (by rw [hg1]; rfl))
        rw [hσ] at q1; injection q1 with q1; injection q1 with q1 _; subst q1
        have hsz : V.cells.size = n := by have := hv.cells.length; simp at this; omega
        exact ⟨σ, w', _, q3, by simp [Instr.storeAt, Instr.sureAddr, storeVar, r_size hn, hsz, q2]⟩

theorem newA_sound {P : Program} {T : Tp} {hi : Nat} {σ : Sg} {g : G} {w : World} {t : TypeId} {v : AV} {V : Value} (hv : VR σ v V) :
    VSound P T hi σ g w (newA t v) (do pure (.pointer (some (← newVar t V)))) := by
  intro u g' h p
  unfold newA at h
  rw [listK_eq] at h
  revert h; cases ho : allOne v.cells <;> intro h <;> simp only at h
  case false => exact (no_ok h).elim
  case true =>
    obtain ⟨i, g1, h1, h2⟩ := bind_ok h
    obtain ⟨rfl, rfl⟩ := pure_ok h2
    have := alloc_sound (cap := 0) (obj := .cells V.cells t) h1 p.rel p.fresh p.hi (sh_cells 0 hv.cells) (fun o c hc => ct_cells hv.cells o c hc)
    obtain ⟨rfl, hn, q⟩ := this
    exact ⟨_, _, _, _, q, .ptr (upd_same _ _ _), by simp [newVar, newRow, pushed]⟩
theorem allInt_spec {k : IntKind} {m : Int} : ∀ {l : List Value}, allInt k m l = true → ∀ (j : Nat) V, l[j]? = some V → V = .int k m
  | [], _, j, V, h => by simp at h
  | v :: vs, h, j, V, hj => by
    unfold allInt at h
    split at h
    · rename_i k' m'
      split at h
      · rename_i e
        simp only [Bool.and_eq_true] at e
        have h1 := sameK_eq e.1
        have h2 := e.2
        rw [eqF_eq] at h2
        have h2 := eq_of_beq h2
        subst h1; subst h2
        cases j with
        | zero => simp at hj; exact hj.symm
        | succ j => exact allInt_spec h j V (by simpa using hj)
      · cases h
    · cases h
theorem bigT_spec {P : Program} {t : TypeId} {n : Nat} {z : AV} (h : bigT P t = some (n, z)) : ∃ i cs k m, (∃ l e s, P.underlying t = some (.array l e) ∧ sizeT P e = some s) ∧ P.info? t = some i ∧ i.zero = some (.agg cs) ∧ z = .int k m ∧ cs.size = n ∧ ∀ (j : Nat), j < n → cs[j]? = some (.int k m) := by
  unfold bigT at h
  split at h
  · rename_i l e hu
    split at h
    · split at h
      · rename_i i hi
        split at h
        · rename_i cs hz
          split at h
          rotate_left
          · cases h
          rename_i s hsz0
          unfold manyInt at h
          split at h
          · rename_i k m vs hc
            split at h
            · rename_i hb
              rw [intK_eq] at h
              injection h with h; injection h with h1 h2
              subst h1; subst h2
              simp only [Bool.and_eq_true] at hb
              have hl := of_beq hb.1
              have hsz : cs.size = vs.length + 1 := by rw [← Array.length_toList, hc]; rfl
              refine ⟨i, cs, k, m, ⟨_, _, _, hu, hsz0⟩, hi, hz, rfl, by omega, fun j hj => ?_⟩
              rw [← Array.getElem?_toList, hc]
              cases j with
              | zero => rfl
              | succ j =>
                have hlt : j < vs.length := by omega
                have := allInt_spec hb.2 j vs[j] (by simp [hlt])
                simp [hlt, this]
            · cases h
          · cases h
        · cases h
      · cases h
    · cases h
  · cases h
theorem newBig_sound {P : Program} {t : TypeId} {T : Tp} {hi : Nat} {σ : Sg} {g : G} {w : World} {n : Nat} {z : AV} {cs : Array Value} {k : IntKind} {m : Int} (hz : z = .int k m) (hs : cs.size = n) (hc : ∀ (j : Nat), j < n → cs[j]? = some (.int k m)) :
    VSound P T hi σ g w (newBig t n z) (do pure (.pointer (some (← newVar t (.agg cs))))) := by
  intro u g' h p
  subst hz
  obtain ⟨j, g1, h1, h2⟩ := bind_ok h
  obtain ⟨rfl, rfl⟩ := pure_ok h2
  have := alloc_sound (cap := 0) (obj := .cells cs t) h1 p.rel p.fresh p.hi ⟨cs, (0, 0), rfl, Nat.le_refl _, hs⟩ (fun o c hc' => by
    simp only [Blk.ct] at hc'
    split at hc'
    · rename_i hlt
      injection hc' with hc'; subst hc'
      refine ⟨cs, t, (0, 0), _, rfl, hc o hlt, ?_⟩
      rw [Tr.get_lf]; exact .int _ _
    · cases hc')
  obtain ⟨rfl, hn, q⟩ := this
  exact ⟨_, _, _, _, q, .ptr (upd_same _ _ _), by simp [newVar, newRow, pushed, Value.cells]⟩
theorem boxA_sound {P : Program} {t : TypeId} {T : Tp} {hi : Nat} {σ : Sg} {g : G} {w : World} {v : AV} {V : Value} (hv : VR σ v V) :
    VSound P T hi σ g w (boxA t v) (do pure (.pointer (some (← newVar t V)))) := by
  unfold boxA
  split
  · rename_i n k m
    cases hv with | rep hc =>
    rename_i Cs
    have hs : Cs.size = n := by rw [← Array.length_toList, hc]; simp
    exact newBig_sound (n := n) (z := .int k m) rfl hs fun j hj => by rw [← Array.getElem?_toList, hc]; simp [hj]
  · exact newA_sound hv
theorem repOf_sound {P : Program} {t : TypeId} {σ : Sg} {n : Nat} {z : AV} (h : bigT P t = some (n, z)) (w : World) : ∃ k m Cs, z = .int k m ∧ (Instr.build t #[]).run P w = .ok (.agg Cs) w ∧ VR σ (.rep n k m) (.agg Cs) := by
  obtain ⟨i, cs, k, m, ⟨l, e, s, b6, b7⟩, b1, b2, b3, b4, b5⟩ := bigT_spec h
  have hz : (zeroValue t).run P w = .ok (.agg cs) w := by simp [zeroValue, r_info b1, b2]
  refine ⟨k, m, cs, b3, ?_, .rep ?_⟩
  · simp only [Instr.build, Sem.run_bind, hz, Result.andThen_ok, r_und b6, r_size b7]; rfl
  apply List.ext_getElem?
  intro j
  rw [Array.getElem?_toList]
  by_cases hj : j < n
  · rw [b5 j hj]; simp [hj]
  · rw [Array.getElem?_eq_none (by omega)]; simp [hj]
end Go.Ev
