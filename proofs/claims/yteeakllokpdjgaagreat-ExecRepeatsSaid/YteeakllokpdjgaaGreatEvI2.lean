/-
  A part of the evaluator of the program's code, or of what it was seen to do; its statements are Lean's own. No condition.
-/
import Derived.Test.YteeakllokpdjgaaGreatEvI1
import Derived.ChangeKeysEq
import Derived.Laws.StructEq
import Derived.Laws.BitsLemmas
namespace Go.Ev
open Go

/-! ### Constants and types -/
theorem mapM_VRs {σ : Sg} {f : Value → Option AV} (hf : ∀ V v, f V = some v → VR σ v V) : ∀ (Vs : List Value) (vs : List AV), Vs.mapM f = some vs → VRs σ vs Vs
  | [], vs, h => by simp at h; subst h; exact .nil
  | V :: Vs, vs, h => by
    rw [List.mapM_cons] at h
    cases e : f V with
    | none => rw [e] at h; cases h
    | some v =>
      rw [e] at h
      cases e2 : Vs.mapM f with
      | none => rw [e2] at h; cases h
      | some us =>
        rw [e2] at h
        injection h with h; subst h
        exact .cons (hf V v e) (mapM_VRs hf Vs us e2)
theorem ofV_sound (σ : Sg) : ∀ (f : Nat) (V : Value) (v : AV), ofV f V = some v → VR σ v V
  | 0, _, _, h => by cases h
  | f + 1, V, v, h => by
    unfold ofV at h
    split at h
    · injection h with h; subst h; exact .bool _
    · injection h with h; subst h; exact .int _ _
    · injection h with h; subst h; exact .str _
    · injection h with h; subst h; exact .nilPtr
    · injection h with h; subst h; exact .nilSl
    · injection h with h; subst h; exact .nilMap
    · injection h with h; subst h; exact .nilChan
    · injection h with h; subst h; exact .nilFunc
    · injection h with h; subst h; exact .nilIface
    · rename_i fn first cap
      split at h
      · rename_i hc
        injection h with h; subst h
        simp only [Bool.and_eq_true, Array.isEmpty_iff] at hc
        obtain ⟨h1, h2⟩ := hc
        subst h1; subst h2
        exact .func (As := []) (Cs := []) .nil .nil
      · cases h
    · rename_i cs
      cases e : cs.toList.mapM (ofV f) with
      | none => rw [e] at h; cases h
      | some l =>
        rw [e] at h; injection h with h; subst h
        have := mapM_VRs (ofV_sound σ f) _ _ e
        exact VR.agg (Cs := cs.toList) this
    · rename_i cs
      cases e : cs.toList.mapM (ofV f) with
      | none => rw [e] at h; cases h
      | some l =>
        rw [e] at h; injection h with h; subst h
        have := mapM_VRs (ofV_sound σ f) _ _ e
        exact VR.tup (Cs := cs.toList) this
    · cases h

section
variable {P : Program} {w : World} {t : TypeId}
theorem r_und {d : TypeDesc} (h : P.underlying t = some d) : (underlying t).run P w = .ok d w := by simp [underlying, h]
theorem r_info {i : TypeInfo} (h : P.info? t = some i) : (typeInfo t).run P w = .ok i w := by simp [typeInfo, h]
theorem r_size {n : Nat} (h : sizeT P t = some n) : (sizeOf t).run P w = .ok n w := by
  unfold sizeT at h
  split at h
  · rename_i i hi; injection h with h; subst h; simp [sizeOf, r_info hi]
  · cases h
theorem r_zero {z : AV} (σ : Sg) (h : zeroT P t = some z) : ∃ Z, (zeroValue t).run P w = .ok Z w ∧ VR σ z Z := by
  unfold zeroT at h
  split at h
  · rename_i i hi
    split at h
    · rename_i v hv
      exact ⟨v, by simp [zeroValue, r_info hi, hv], ofV_sound σ 6 v z h⟩
    · cases h
  · cases h
theorem r_isAgg_t (h : kindT P t = .aggr) : (isAgg t).run P w = .ok true w := by
  unfold kindT at h
  split at h
  · rename_i fs e; simp [isAgg, r_und e]
  · rename_i n e he; simp [isAgg, r_und he]
  · cases h
  · cases h
theorem r_isAgg_f (h : kindT P t = .cell) : (isAgg t).run P w = .ok false w := by
  unfold kindT at h
  split at h
  · cases h
  · cases h
  · rename_i d e n1 n2
    have e' : P.underlying t = some d := by assumption
    simp only [isAgg, Sem.run_bind, r_und e', Result.andThen_ok]
    cases d <;> first | rfl | (exfalso; first | exact e _ rfl | exact e _ _ rfl | exact n1 _ rfl | exact n1 _ _ rfl | exact n2 _ rfl | exact n2 _ _ rfl)
  · cases h
end

theorem VR.agg_inv {σ : Sg} {cs : List AV} {V : Value} (h : VR σ (.agg cs) V) : ∃ Cs, V = .agg Cs.toArray ∧ VRs σ cs Cs := by cases h; exact ⟨_, rfl, by assumption⟩
theorem part_sound {P : Program} {σ : Sg} {w : World} {t : TypeId} {cs : List AV} {Cs : List Value} {off : Nat} {v : AV} (h : partA P t cs off = some v) (hc : VRs σ cs Cs) :
    ∃ V, (part t Cs.toArray off).run P w = .ok V w ∧ VR σ v V := by
  unfold partA at h
  split at h
  · rename_i hk
    split at h
    · rename_i n hn
      injection h with h; subst h
      refine ⟨.agg (Cs.toArray.extract off (off + n)), by simp [part, r_isAgg_t hk, r_size hn], ?_⟩
      have : Cs.toArray.extract off (off + n) = ((Cs.drop off).take n).toArray := by simp [List.extract_eq_take_drop]
      rw [this]
      exact .agg ((hc.drop off).take n)
    · cases h
  · rename_i hk
    obtain ⟨V, h1, h2⟩ := hc.get h
    exact ⟨V, by simp [part, r_isAgg_f hk, h1], h2⟩
  · cases h

/-! ### What an operation that hands back a value owes -/
structure Pre (P : Program) (T : Tp) (hi : Nat) (σ : Sg) (g : G) (w : World) (g' : G) : Prop where
  rel : Rel P σ T g w
  fresh : Fresh σ g hi
  hi : g'.next ≤ hi
  inT : ∀ L, g'.log = L ++ g.log → inT T L
  owes : Owes g'
def VSound (P : Program) (T : Tp) (hi : Nat) (σ : Sg) (g : G) (w : World) (m : M AV) (e : Sem Value) : Prop :=
  ∀ v g', m g = .ok v g' → Pre P T hi σ g w g' → ∃ σ' V w' L, Post P T σ g w σ' g' w' L ∧ VR σ' v V ∧ e.run P w = .ok V w'
def USound (P : Program) (T : Tp) (hi : Nat) (σ : Sg) (g : G) (w : World) (m : M Unit) (e : Sem Unit) : Prop :=
  ∀ u g', m g = .ok u g' → Pre P T hi σ g w g' → ∃ σ' w' L, Post P T σ g w σ' g' w' L ∧ e.run P w = .ok () w'
theorem VSound.no {P : Program} {T : Tp} {hi : Nat} {σ : Sg} {g : G} {w : World} {n : Nat} {e : Sem Value} : VSound P T hi σ g w (Ev.no n) e := fun _ _ h _ => by cases h
theorem USound.no {P : Program} {T : Tp} {hi : Nat} {σ : Sg} {g : G} {w : World} {n : Nat} {e : Sem Unit} : USound P T hi σ g w (Ev.no n) e := fun _ _ h _ => by cases h
theorem VSound.pure {P : Program} {T : Tp} {hi : Nat} {σ : Sg} {g : G} {w : World} {v : AV} {V : Value} {e : Sem Value} (hv : VR σ v V) (he : e.run P w = .ok V w) : VSound P T hi σ g w (M.pure v) e :=
  fun u g' h p => by obtain ⟨rfl, rfl⟩ := pure_ok h; exact ⟨σ, V, w, [], Post.refl p.rel, hv, he⟩

theorem loadA_sound {P : Program} {T : Tp} {hi : Nat} {σ : Sg} {g : G} {w : World} {t : TypeId} {a : AV} {A : Value} (ha : VR σ a A) : VSound P T hi σ g w (loadA P t a) (Instr.loadAt t A) := by
  intro v g' h p
  cases a <;> simp only [loadA] at h <;> first | (exact (no_ok h).elim) | skip
  case ptr i o =>
    cases ha with | ptr hσ =>
    rename_i b cap
    revert h; cases hk : kindT P t <;> intro h <;> simp only at h
    case aggr =>
      revert h; cases hn : sizeT P t <;> intro h <;> simp only at h
      case none => exact (no_ok h).elim
      case some n =>
        obtain ⟨l, g1, h1, h2⟩ := bind_ok h
        obtain ⟨rfl, rfl⟩ := pure_ok h2
        obtain ⟨blk, _, _, hg1⟩ := read_ok h1
        obtain ⟨b', cap', c, e, fz, q1, q2, q3, q4, q5, q6, q7⟩ := read_sound h1 p.rel (p.inT _ (by rw [hg1]; rfl))
        rw [hσ] at q1; injection q1 with q1; injection q1 with q1 _; subst q1
        exact ⟨σ, _, w, _, q7, .agg q6, by simp [Instr.loadAt, Instr.sureAddr, loadVar, r_isAgg_t hk, r_size hn, run_loadCells' q2 o n q4]⟩
    case cell =>
      obtain ⟨l, g1, h1, h2⟩ := bind_ok h
      match l, h1, h2 with
      | [v'], h1, h2 =>
        obtain ⟨rfl, rfl⟩ := pure_ok h2
        obtain ⟨blk, _, _, hg1⟩ := read_ok h1
        obtain ⟨b', cap', c, e, fz, q1, q2, q3, q4, q5, q6, q7⟩ := read_sound h1 p.rel (p.inT _ (by rw [hg1]; rfl))
        rw [hσ] at q1; injection q1 with q1; injection q1 with q1 _; subst q1
        obtain ⟨V, h5, h6⟩ := q6.get (i := 0) rfl
        have h7 : w.cell? ⟨b, o, none⟩ = some V := by
          rw [cell_of q2]
          rw [List.getElem?_take_of_lt (by omega), List.getElem?_drop] at h5
          simpa using h5
        exact ⟨σ, V, w, _, q7, h6, by simp [Instr.loadAt, Instr.sureAddr, loadVar, r_isAgg_f hk, h7]⟩
      | [], _, h2 => exact (no_ok h2).elim
      | _ :: _ :: _, _, h2 => exact (no_ok h2).elim
    case none => exact (no_ok h).elim
  case sptr i o =>
    cases ha with | sptr hσ =>
    rename_i b cap
    revert h; cases hk : kindT P t <;> intro h <;> simp only at h
    case aggr => exact (no_ok h).elim
    case none => exact (no_ok h).elim
    case cell =>
      split at h
      · rename_i e k f n hg
        obtain ⟨d, g1, h1, h2⟩ := bind_ok h
        obtain ⟨r, hr, hg1⟩ := ask_ok h1
        cases d with
        | false => exact (no_ok h2).elim
        | true =>
          obtain ⟨u, g2, h3, h4⟩ := bind_ok h2
          obtain ⟨rfl, rfl⟩ := pure_ok h4
          have hg2 := touch_ok h3
          subst hg1
          have hin := p.inT [⟨i, 0, 0, false⟩] (by rw [hg2]; rfl)
          have hlt : o < n := by
            have := p.owes (decide (o < n), true) (by rw [hg2]; exact List.mem_cons_self)
            simpa using this
          have hT : T i o := hin _ List.mem_cons_self o (.inl rfl)
          obtain ⟨b0, cap0, hs, _⟩ := p.rel.sh i _ hg ⟨o, hT⟩
          rw [hσ] at hs; injection hs with hs; injection hs with hs hs'; subst hs; subst hs'
          obtain ⟨c, e', fz, V, q1, q2, q3⟩ := p.rel.ct i _ o (.cell (.sint k (f o))) b cap hg (by simp [Blk.ct, hlt]) hT hσ
          refine ⟨σ, V, w, [⟨i, 0, 0, false⟩], ?_, q3, by simp [Instr.loadAt, Instr.sureAddr, loadVar, r_isAgg_f hk, cell_of q1, q2]⟩
          have := Post.trans (Post.asked (b := decide (o < n)) (d := true) (r := r) p.rel) (Post.logs (i := i) (o := 0) (n := 0) (p.rel.same rfl)) p.fresh (by have := p.hi; rw [hg2] at this; exact this)
          rw [hg2]; simpa using this
      · cases h

theorem storeA_sound {P : Program} {T : Tp} {hi : Nat} {σ : Sg} {g : G} {w : World} {t : TypeId} {a v : AV} {A V : Value} (ha : VR σ a A) (hv : VR σ v V) :
    USound P T hi σ g w (storeA P t a v) (Instr.storeAt t A V) := by
  intro u g' h p
  cases a <;> simp only [storeA] at h <;> first | (exact (no_ok h).elim) | skip
  case ptr i o =>
    cases ha with | ptr hσ =>
    rename_i b cap
    revert h; cases hn : sizeT P t <;> intro h <;> simp only at h
    case none => exact (no_ok h).elim
    case some n =>
      revert h; cases hl : Nat.beq v.cells.length n <;> intro h <;> simp only at h
      case false => exact (no_ok h).elim
      case true =>
        have hl := of_beq hl
        obtain ⟨blk, blk', _, _, _, hg1⟩ := write_ok h
        obtain ⟨b', cap', w', q1, q2, q3⟩ := write_sound h p.rel hv.cells (p.inT _ (by rw [hg1]; rfl))
        rw [hσ] at q1; injection q1 with q1; injection q1 with q1 _; subst q1
        have hsz : V.cells.size = n := by have := hv.cells.length; simp at this; omega
        exact ⟨σ, w', _, q3, by simp [Instr.storeAt, Instr.sureAddr, storeVar, r_size hn, hsz, q2]⟩

theorem newA_sound {P : Program} {T : Tp} {hi : Nat} {σ : Sg} {g : G} {w : World} {t : TypeId} {v : AV} {V : Value} (hv : VR σ v V) :
    VSound P T hi σ g w (newA t v) (do pure (.pointer (some (← newVar t V)))) := by
  intro u g' h p
  unfold newA at h
  rw [listK_eq] at h
  revert h; cases ho : allOne v.cells <;> intro h <;> simp only at h
  case false => exact (no_ok h).elim
  case true =>
    obtain ⟨i, g1, h1, h2⟩ := bind_ok h
    obtain ⟨rfl, rfl⟩ := pure_ok h2
    have := alloc_sound (cap := 0) (obj := .cells V.cells t) h1 p.rel p.fresh p.hi (sh_cells 0 hv.cells) (fun o c hc => ct_cells hv.cells o c hc)
    obtain ⟨rfl, hn, q⟩ := this
    exact ⟨_, _, _, _, q, .ptr (upd_same _ _ _), by simp [newVar, newRow, pushed]⟩
theorem allInt_spec {k : IntKind} {m : Int} : ∀ {l : List Value}, allInt k m l = true → ∀ (j : Nat) V, l[j]? = some V → V = .int k m
  | [], _, j, V, h => by simp at h
  | v :: vs, h, j, V, hj => by
    unfold allInt at h
    split at h
    · rename_i k' m'
      split at h
      · rename_i e
        simp only [Bool.and_eq_true] at e
        have h1 := sameK_eq e.1
        have h2 := e.2
        rw [eqF_eq] at h2
        have h2 := eq_of_beq h2
        subst h1; subst h2
        cases j with
        | zero => simp at hj; exact hj.symm
        | succ j => exact allInt_spec h j V (by simpa using hj)
      · cases h
    · cases h
theorem bigT_spec {P : Program} {t : TypeId} {n : Nat} {z : AV} (h : bigT P t = some (n, z)) : ∃ i cs k m, (∃ l e s, P.underlying t = some (.array l e) ∧ sizeT P e = some s) ∧ P.info? t = some i ∧ i.zero = some (.agg cs) ∧ z = .int k m ∧ cs.size = n ∧ ∀ (j : Nat), j < n → cs[j]? = some (.int k m) := by
  unfold bigT at h
  split at h
  · rename_i l e hu
    split at h
    · split at h
      · rename_i i hi
        split at h
        · rename_i cs hz
          split at h
          rotate_left
          · cases h
          rename_i s hsz0
          unfold manyInt at h
          split at h
          · rename_i k m vs hc
            split at h
            · rename_i hb
              rw [intK_eq] at h
              injection h with h; injection h with h1 h2
              subst h1; subst h2
              simp only [Bool.and_eq_true] at hb
              have hl := of_beq hb.1
              have hsz : cs.size = vs.length + 1 := by rw [← Array.length_toList, hc]; rfl
              refine ⟨i, cs, k, m, ⟨_, _, _, hu, hsz0⟩, hi, hz, rfl, by omega, fun j hj => ?_⟩
              rw [← Array.getElem?_toList, hc]
              cases j with
              | zero => rfl
              | succ j =>
                have hlt : j < vs.length := by omega
                have := allInt_spec hb.2 j vs[j] (by simp [hlt])
                simp [hlt, this]
            · cases h
          · cases h
        · cases h
      · cases h
    · cases h
  · cases h
theorem newBig_sound {P : Program} {t : TypeId} {T : Tp} {hi : Nat} {σ : Sg} {g : G} {w : World} {n : Nat} {z : AV} {cs : Array Value} {k : IntKind} {m : Int} (hz : z = .int k m) (hs : cs.size = n) (hc : ∀ (j : Nat), j < n → cs[j]? = some (.int k m)) :
    VSound P T hi σ g w (newBig t n z) (do pure (.pointer (some (← newVar t (.agg cs))))) := by
  intro u g' h p
  subst hz
  obtain ⟨j, g1, h1, h2⟩ := bind_ok h
  obtain ⟨rfl, rfl⟩ := pure_ok h2
  have := alloc_sound (cap := 0) (obj := .cells cs t) h1 p.rel p.fresh p.hi ⟨cs, (0, 0), rfl, Nat.le_refl _, hs⟩ (fun o c hc' => by
    simp only [Blk.ct] at hc'
    split at hc'
    · rename_i hlt
      injection hc' with hc'; subst hc'
      refine ⟨cs, t, (0, 0), _, rfl, hc o hlt, ?_⟩
      rw [Tr.get_lf]; exact .int _ _
    · cases hc')
  obtain ⟨rfl, hn, q⟩ := this
  exact ⟨_, _, _, _, q, .ptr (upd_same _ _ _), by simp [newVar, newRow, pushed, Value.cells]⟩
theorem boxA_sound {P : Program} {t : TypeId} {T : Tp} {hi : Nat} {σ : Sg} {g : G} {w : World} {v : AV} {V : Value} (hv : VR σ v V) :
    VSound P T hi σ g w (boxA t v) (do pure (.pointer (some (← newVar t V)))) := by
  unfold boxA
  split
  · rename_i n k m
    cases hv with | rep hc =>
    rename_i Cs
    have hs : Cs.size = n := by rw [← Array.length_toList, hc]; simp
    exact newBig_sound (n := n) (z := .int k m) rfl hs fun j hj => by rw [← Array.getElem?_toList, hc]; simp [hj]
  · exact newA_sound hv
theorem repOf_sound {P : Program} {t : TypeId} {σ : Sg} {n : Nat} {z : AV} (h : bigT P t = some (n, z)) (w : World) : ∃ k m Cs, z = .int k m ∧ (Instr.build t #[]).run P w = .ok (.agg Cs) w ∧ VR σ (.rep n k m) (.agg Cs) := by
  obtain ⟨i, cs, k, m, ⟨l, e, s, b6, b7⟩, b1, b2, b3, b4, b5⟩ := bigT_spec h
  have hz : (zeroValue t).run P w = .ok (.agg cs) w := by simp [zeroValue, r_info b1, b2]
  refine ⟨k, m, cs, b3, ?_, .rep ?_⟩
  · simp only [Instr.build, Sem.run_bind, hz, Result.andThen_ok, r_und b6, r_size b7]; rfl
  apply List.ext_getElem?
  intro j
  rw [Array.getElem?_toList]
  by_cases hj : j < n
  · rw [b5 j hj]; simp [hj]
  · rw [Array.getElem?_eq_none (by omega)]; simp [hj]
end Go.Ev

namespace Go.Ev
open Go

/-! ### Building -/
theorem fold_set (off : Nat) : ∀ (vs : List Value) (j : Nat) (cs : Array Value), off + j + vs.length ≤ cs.size →
    let r := ((vs.zipIdx j).foldl (fun cs (c, j) => cs.setIfInBounds (off + j) c) cs)
    r.size = cs.size ∧ ∀ k, r[k]? = if off + j ≤ k ∧ k < off + j + vs.length then vs[k - (off + j)]? else cs[k]?
  | [], j, cs, _ => ⟨rfl, fun k => by rw [if_neg (by simp only [List.length_nil]; omega)]; rfl⟩
  | v :: vs, j, cs, h => by
    simp only [List.length_cons] at h
    obtain ⟨h1, h2⟩ := fold_set off vs (j + 1) (cs.setIfInBounds (off + j) v) (by rw [Array.size_setIfInBounds]; omega)
    refine ⟨by simpa using h1, fun k => ?_⟩
    have e : ((v :: vs).zipIdx j).foldl (fun cs (c, j) => cs.setIfInBounds (off + j) c) cs = (vs.zipIdx (j + 1)).foldl (fun cs (c, j) => cs.setIfInBounds (off + j) c) (cs.setIfInBounds (off + j) v) := by simp [List.zipIdx_cons]
    show (((v :: vs).zipIdx j).foldl (fun cs (c, j) => cs.setIfInBounds (off + j) c) cs)[k]? = _
    rw [e, h2 k]
    simp only [List.length_cons]
    by_cases h3 : off + (j + 1) ≤ k ∧ k < off + (j + 1) + vs.length
    · rw [if_pos h3, if_pos (by omega), show k - (off + j) = (k - (off + (j + 1))) + 1 from by omega]; simp
    · rw [if_neg h3]
      by_cases h4 : k = off + j
      · subst h4
        have : off + j < cs.size := by omega
        rw [if_pos (by omega)]; simp [this]
      · rw [if_neg (by omega), Array.getElem?_setIfInBounds_ne (fun e => h4 e.symm)]

/-- parts, each with its value -/
def PRs (σ : Sg) : List (Nat × AV) → List (Nat × Value) → Prop
  | [], [] => True
  | (i, v) :: vs, (j, V) :: Vs => i = j ∧ VR σ v V ∧ PRs σ vs Vs
  | _, _ => False
theorem fill_sound {σ : Sg} {place : Nat → Option (Nat × Nat)} : ∀ (ps : List (Nat × AV)) (Ps : List (Nat × Value)) (cs : List AV) (Cs : List Value) (r : List AV), PRs σ ps Ps → VRs σ cs Cs →
    fillA place cs ps = some r → ∃ R, Instr.fill place Cs.toArray Ps = some R ∧ VRs σ r R.toList
  | [], [], cs, Cs, r, _, hc, h => by
    unfold fillA at h; rw [listK_eq] at h; injection h with h; subst h; exact ⟨Cs.toArray, rfl, hc⟩
  | (i, v) :: ps, (j, V) :: Ps, cs, Cs, r, ⟨hij, hv, hp⟩, hc, h => by
    subst hij
    unfold fillA at h
    cases hpl : place i with
    | none => rw [hpl] at h; cases h
    | some os =>
      obtain ⟨off, size⟩ := os
      rw [hpl] at h
      simp only at h
      split at h
      · rename_i hsz
        have hsz := of_beq hsz
        split at h
        · rename_i c hl
          obtain ⟨h1, h2, h3⟩ := lay_some hl
          have hlen := hv.cells.length
          have hcl := hc.length
          have hVs : V.cells.size = v.cells.length := by rw [hlen]; simp
          obtain ⟨f1, f2⟩ := fold_set off V.cells.toList 0 Cs.toArray (by simp; omega)
          have e : V.cells.zipIdx.foldl (fun cs (c, j) => cs.setIfInBounds (off + j) c) Cs.toArray = (V.cells.toList.zipIdx 0).foldl (fun cs (c, j) => cs.setIfInBounds (off + j) c) Cs.toArray := by
            rw [← Array.foldl_toList]; simp
          have hrel : VRs σ c (V.cells.zipIdx.foldl (fun cs (c, j) => cs.setIfInBounds (off + j) c) Cs.toArray).toList := by
            rw [e]
            generalize (V.cells.toList.zipIdx 0).foldl (fun cs (c, j) => cs.setIfInBounds (off + j) c) Cs.toArray = F at f1 f2
            refine VRs.of_get ?_ ?_
            · have : F.toList.length = F.size := by simp
              rw [this, f1, h2]; simpa using hcl
            · intro k u hk
              rw [h3 k] at hk
              simp only [Array.getElem?_toList]
              rw [f2 k]
              simp only [Nat.add_zero, Array.length_toList]
              by_cases hin : off ≤ k ∧ k < off + v.cells.length
              · rw [if_pos hin] at hk; rw [if_pos (by omega)]
                exact hv.cells.get hk
              · rw [if_neg hin] at hk; rw [if_neg (by omega)]
                obtain ⟨U, h4, h5⟩ := hc.get hk
                exact ⟨U, by simpa using h4, h5⟩
          obtain ⟨R, r1, r2⟩ := fill_sound ps Ps c _ r hp hrel h
          refine ⟨R, ?_, r2⟩
          unfold Instr.fill
          rw [hpl]
          simp only
          rw [if_neg (by simp; omega)]
          simpa using r1
        · cases h
      · cases h
  | [], _ :: _, _, _, _, hp, _, _ => by cases hp
  | _ :: _, [], _, _, _, hp, _, _ => by cases hp

theorem fieldPlaces_sound {P : Program} {w : World} : ∀ (fs : List Field) (ps : List (Nat × Nat)), fieldPlaces P fs = some ps →
    (fs.mapM fun f => (do pure (f.offset, ← sizeOf f.type) : Sem (Nat × Nat))).run P w = .ok ps w
  | [], ps, h => by simp [fieldPlaces] at h; subst h; simp
  | f :: fs, ps, h => by
    unfold fieldPlaces at h
    split at h
    · rename_i s r hs hr
      injection h with h; subst h
      have := fieldPlaces_sound (w := w) fs r hr
      simp only [List.mapM_cons, Sem.run_bind, r_size hs, Sem.run_pure, Result.andThen_ok, this]
    · cases h
theorem buildA_sound {P : Program} {σ : Sg} {w : World} {t : TypeId} {ps : List (Nat × AV)} {Ps : Array (Nat × Value)} {v : AV} (h : buildA P t ps = some v) (hp : PRs σ ps Ps.toList) :
    ∃ V, (Instr.build t Ps).run P w = .ok V w ∧ VR σ v V := by
  unfold buildA at h
  split at h
  · rename_i z hz
    obtain ⟨Z, hZ, hzZ⟩ := r_zero (P := P) (w := w) σ hz
    split at h
    · rename_i fs hu
      split at h
      · rename_i pl hpl
        split at h
        · rename_i c hc
          injection h with h; subst h
          obtain ⟨R, r1, r2⟩ := fill_sound ps Ps.toList z.cells Z.cells.toList c hp hzZ.cells hc
          refine ⟨.agg R, ?_, ?_⟩
          · have hm := fieldPlaces_sound (w := w) fs.toList pl hpl
            simp only [Instr.build, Sem.run_bind, hZ, Result.andThen_ok, r_und hu]
            rw [Array.mapM_eq_mapM_toList]
            simp only [Sem.run_map, hm, Result.andThen_ok]
            have e : (fun (x : Nat) => (pl.toArray)[x]?) = fun (x : Nat) => pl[x]? := by funext x; simp
            rw [e]
            simp only [Array.toArray_toList] at r1
            rw [r1]
            rfl
          · exact VR.agg (Cs := R.toList) r2
        · cases h
      · cases h
    · rename_i n e hu
      split at h
      · rename_i s hs
        split at h
        · rename_i c hc
          injection h with h; subst h
          obtain ⟨R, r1, r2⟩ := fill_sound ps Ps.toList z.cells Z.cells.toList c hp hzZ.cells hc
          refine ⟨.agg R, ?_, ?_⟩
          · simp only [Instr.build, Sem.run_bind, hZ, Result.andThen_ok, r_und hu, r_size hs]
            simp only [Array.toArray_toList] at r1
            rw [r1]
            rfl
          · exact VR.agg (Cs := R.toList) r2
        · cases h
      · cases h
    · cases h
  · cases h

/-! ### Conversions and the like -/
theorem convertA_sound {P : Program} {σ : Sg} {w : World} {s d : TypeId} {x v : AV} {X : Value} (h : convertA P s d x = some v) (hx : VR σ x X) :
    ∃ V, (convert s d X).run P w = .ok V w ∧ VR σ v V := by
  unfold convertA at h
  split at h
  · rename_i k1 k hs hd
    split at h
    · cases hx; cases intV_eq h
      rename_i k' n
      exact ⟨.int k (k.wrap n), by simp [convert, r_und hs, r_und hd, Conv.intToInt], by rw [wrapF_eq]; exact .int _ _⟩
    · cases hx; injection h with h; subst h
      rename_i k' n
      exact ⟨.int k (k.wrap n), by simp [convert, r_und hs, r_und hd, Conv.intToInt], .sint _ _⟩
    · cases h
  · cases h
theorem unA_sound {P : Program} {σ : Sg} {w : World} {op : UnOp} {x v : AV} {X : Value} (h : unA op x = some v) (hx : VR σ x X) :
    ∃ V, (Op.unary op X).run P w = .ok V w ∧ VR σ v V := by
  unfold unA at h
  split at h
  · cases hx; cases intV_eq h
    exact ⟨_, by simp [Op.unary, Op.intArith]; rfl, by rw [wrapF_eq, subF_eq]; simp; exact .int _ _⟩
  · cases hx; injection h with h; subst h
    exact ⟨_, by simp [Op.unary, Op.intArith]; rfl, by simp; exact .sint _ _⟩
  · cases hx; cases intV_eq h
    rename_i k n
    refine ⟨.int k (k.wrap (BitVec.ofInt k.bits (if k.signed then -1 else k.max) ^^^ BitVec.ofInt k.bits n).toNat), rfl, ?_⟩
    rw [← xor_eq]
    have : toU k (if k.signed then -1 else k.max) = whole k - 1 := by cases k <;> rfl
    rw [this]; exact .int _ _
  · cases hx; cases boolV_eq h; exact ⟨_, rfl, .bool _⟩
  · cases hx; injection h with h; subst h; exact ⟨_, rfl, .sbool _⟩
  · cases h
theorem fieldAt_sound {P : Program} {σ : Sg} {w : World} {s : TypeId} {f : Nat} {x v : AV} {X : Value} (h : fieldAt P s x f = some v) (hx : VR σ x X) :
    ∃ V, (Instr.fieldAt s X f).run P w = .ok V w ∧ VR σ v V := by
  unfold fieldAt at h
  split at h
  · cases hx with | ptr hσ =>
    split at h
    · rename_i fs hu
      split at h
      · rename_i fd hf
        split at h
        · rename_i n hn
          unfold ptrO at h; rw [natK_eq] at h; injection h with h; subst h
          refine ⟨_, ?_, .ptr hσ⟩
          simp only [Instr.fieldAt, Sem.run_bind, r_und hu, Result.andThen_ok, hf]
          simp [Instr.sureAddr, fieldPlace, r_size hn, addr_add]
        · cases h
      · cases h
    · cases h
  · cases h
theorem fieldA_sound {P : Program} {σ : Sg} {w : World} {s : TypeId} {f : Nat} {x v : AV} {X : Value} (h : fieldA P s x f = some v) (hx : VR σ x X) :
    ∃ V, (Instr.field s X f).run P w = .ok V w ∧ VR σ v V := by
  unfold fieldA at h
  split at h
  · obtain ⟨Cs, rfl, hc⟩ := hx.agg_inv
    split at h
    · rename_i fs hu
      split at h
      · rename_i fd hf
        obtain ⟨V, h1, h2⟩ := part_sound (w := w) h hc
        exact ⟨V, by simp [Instr.field, r_und hu, hf, asAgg, h1], h2⟩
      · cases h
    · cases h
  · cases h
theorem indexA_sound {P : Program} {σ : Sg} {w : World} {t : TypeId} {x i v : AV} {X I : Value} (h : indexA P t x i = some v) (hx : VR σ x X) (hi : VR σ i I) :
    ∃ V, (Instr.index t X I).run P w = .ok V w ∧ VR σ v V := by
  unfold indexA at h
  split at h
  · rename_i n e hu
    split at h
    · rename_i cs k m
      obtain ⟨Cs, rfl, hc⟩ := hx.agg_inv
      cases hi
      split at h
      · rename_i s hs
        split at h
        · rename_i hb
          have hb := of_ble hb
          obtain ⟨V, h1, h2⟩ := part_sound (w := w) h hc
          refine ⟨V, ?_, h2⟩
          simp only [Instr.index, asIntOf, Sem.run_bind, Sem.run_pure, Result.andThen_ok, r_und hu]
          rw [if_pos (by simp; omega)]
          simp [r_size hs, h1]
        · cases h
      · cases h
    · cases h
  · rename_i hu
    split at h
    · rename_i s k m
      cases hx
      cases hi
      unfold byteV at h
      split at h
      · rename_i b hb
        rw [natK_eq] at h
        injection h with h; subst h
        refine ⟨_, ?_, .int _ _⟩
        have hb' : s[m]? = some b := by
          rw [Array.getElem?_toList] at hb
          obtain ⟨d⟩ := s
          obtain ⟨hl, he⟩ := Array.getElem?_eq_some_iff.1 hb
          have : (ByteArray.mk d)[m]? = some ((ByteArray.mk d)[m]'hl) := getElem?_pos _ _ _
          rw [this]; exact congrArg some he
        simp only [Instr.index, asIntOf, Sem.run_bind, Sem.run_pure, Result.andThen_ok, r_und hu]
        simp [hb']
      · cases h
    · cases h
  · cases h
end Go.Ev

namespace Go.Ev
open Go

theorem elemT_some {P : Program} {t e : TypeId} (h : elemT P t = some e) : P.underlying t = some (.slice e) := by
  unfold elemT at h; split at h
  · rename_i e' hu; injection h with h; subst h; exact hu
  · cases h
theorem VRs.repCells {σ : Sg} {zs : List AV} {Zs : List Value} (h : VRs σ zs Zs) : ∀ n, VRs σ (replicateCells zs n) ((List.replicate n Zs).flatten)
  | 0 => .nil
  | n + 1 => by simpa [replicateCells, List.replicate_succ] using h.app (VRs.repCells h n)
theorem flatten_get {Zs : List Value} {s : Nat} (hs : Zs.length = s) (h1 : 1 ≤ s) : ∀ (n i : Nat), i < n * s → ((List.replicate n Zs).flatten)[i]? = Zs[i % s]?
  | 0, i, h => by simp at h
  | n + 1, i, h => by
    simp only [List.replicate_succ, List.flatten_cons]
    by_cases hi : i < s
    · rw [List.getElem?_append_left (by omega), Nat.mod_eq_of_lt hi]
    · rw [List.getElem?_append_right (by omega), flatten_get hs h1 n (i - Zs.length) (by rw [hs]; rw [Nat.succ_mul] at h; omega)]
      congr 1
      rw [hs]
      conv => rhs; rw [show i = (i - s) + s from by omega, Nat.add_mod_right]
/-- so many zero values' cells, as the model lays them -/
theorem range_map_cells {Z : Array Value} {s n : Nat} (hs : Z.size = s) (h1 : 1 ≤ s) : ((Array.range (n * s)).map (Z[· % Z.size]!)).toList = (List.replicate n Z.toList).flatten := by
  apply List.ext_getElem?
  intro i
  by_cases hi : i < n * s
  · rw [flatten_get (by simpa using hs) h1 n i hi]
    have hm : i % s < Z.size := by rw [hs]; exact Nat.mod_lt _ (by omega)
    simp [hi, hs]
    rw [Array.getElem?_eq_getElem hm]
    simp [hm]
  · have : ((List.replicate n Z.toList).flatten).length = n * s := by simp [hs]
    rw [List.getElem?_eq_none (by simp; omega), List.getElem?_eq_none (by omega)]

theorem buildSliceA_sound {P : Program} {T : Tp} {hi : Nat} {σ : Sg} {g : G} {w : World} {t : TypeId} {n : Nat} {ps : List (Nat × AV)} {Ps : Array (Nat × Value)} (hp : PRs σ ps Ps.toList) :
    VSound P T hi σ g w (buildSliceA P t n ps) (Instr.buildSlice t n Ps) := by
  intro v g' h p
  unfold buildSliceA at h
  revert h; cases he : elemT P t <;> intro h <;> simp only at h
  case none => exact (no_ok h).elim
  rename_i e
  revert h; cases hs : sizeT P e <;> cases hz : zeroT P e <;> intro h <;> simp only at h <;> first | (exact (no_ok h).elim; done) | skip
  rename_i s z
  revert h; cases hb : (Nat.ble (n * s) 4096 && Nat.beq z.cells.length s && Nat.ble 1 s) <;> intro h <;> simp only at h
  case false => exact (no_ok h).elim
  simp only [Bool.and_eq_true] at hb
  obtain ⟨⟨hb1, hb2⟩, hb3⟩ := hb
  have hb1 := of_ble hb1; have hb2 := of_beq hb2; have hb3 := of_ble hb3
  revert h; cases hf : fillA (fun i => some (i * s, s)) (replicateCells z.cells n) ps <;> intro h <;> simp only at h
  case none => exact (no_ok h).elim
  rename_i c
  revert h; cases ho : allOne c <;> intro h <;> simp only at h
  case false => exact (no_ok h).elim
  obtain ⟨i, g1, h1, h2⟩ := bind_ok h
  obtain ⟨rfl, rfl⟩ := pure_ok h2
  obtain ⟨Z, hZ, hzZ⟩ := r_zero (P := P) (w := w) σ hz
  have hZs : Z.cells.size = s := by have := hzZ.cells.length; simp at this; omega
  obtain ⟨R, r1, r2⟩ := fill_sound ps Ps.toList _ _ c hp (hzZ.cells.repCells n) hf
  have := alloc_sound (cap := 0) (obj := .cells R e) h1 p.rel p.fresh p.hi (sh_cells 0 r2) (fun o c hc => ct_cells r2 o c hc)
  obtain ⟨rfl, hn, q⟩ := this
  refine ⟨_, _, _, _, q, .sl (upd_same _ _ _), ?_⟩
  have e1 : ((Array.range (n * s)).map (Z.cells[· % Z.cells.size]!)) = ((List.replicate n Z.cells.toList).flatten).toArray := by
    rw [← range_map_cells hZs hb3]
  simp only [Instr.buildSlice, Sem.run_bind, r_und (elemT_some he), Result.andThen_ok, r_size hs]
  rw [if_neg (by omega)]
  by_cases h0 : n * s = 0
  · have hn0 : n = 0 := by rcases Nat.mul_eq_zero.1 h0 with h | h <;> omega
    subst hn0
    simp only [List.replicate_zero, List.flatten_nil] at r1
    have e0 : Array.range 0 = #[] := rfl
    simp [r1, newRow, pushed, e0]
  · simp only [h0, if_false, Sem.run_bind, hZ, Result.andThen_ok, Sem.run_pure]
    rw [e1, r1]
    simp [newRow, pushed]

theorem int_inv {σ : Sg} {k : IntKind} {n : Int} {V : Value} (h : VR σ (.int k n) V) : V = .int k n := by cases h; rfl
theorem sint_inv {σ : Sg} {k : IntKind} {n : Int} {V : Value} (h : VR σ (.sint k n) V) : V = .int k n := by cases h; rfl

theorem indexAtA_sound {P : Program} {T : Tp} {hi : Nat} {σ : Sg} {g : G} {w : World} {t : TypeId} {x i : AV} {X I : Value} (hx : VR σ x X) (hi' : VR σ i I) :
    VSound P T hi σ g w (indexAtA P t x i) (Instr.indexAt t X I) := by
  intro v g' h p
  unfold indexAtA at h
  cases hu : P.underlying t with
  | none => rw [hu] at h; exact (no_ok h).elim
  | some d =>
    rw [hu] at h
    cases d <;> simp only at h <;> first | exact (no_ok h).elim | skip
    case array n e =>
      split at h
      · rename_i b o kk k
        cases hx with | ptr hσ =>
        cases hi'
        cases hs : sizeT P e with
        | none => rw [hs] at h; exact (no_ok h).elim
        | some s =>
          rw [hs] at h
          simp only at h
          cases hb : Nat.ble (k + 1) n with
          | false => rw [hb] at h; exact (no_ok h).elim
          | true =>
            rw [hb] at h
            have hb := of_ble hb
            simp only [ptrM, natK_eq] at h
            obtain ⟨rfl, rfl⟩ := pure_ok h
            refine ⟨σ, _, w, [], Post.refl p.rel, .ptr hσ, ?_⟩
            simp only [Instr.indexAt, asIntOf, Sem.run_bind, Sem.run_pure, Result.andThen_ok, r_und hu, Instr.sureAddr]
            rw [if_pos (by simp; omega)]
            simp [r_size hs, addr_add]
      · exact (no_ok h).elim
    case slice e =>
      split at h
      · rename_i b o n c kk k
        cases hx with | sl hσ =>
        cases hi'
        cases hs : sizeT P e with
        | none => rw [hs] at h; exact (no_ok h).elim
        | some s =>
          rw [hs] at h
          simp only at h
          cases hb : Nat.ble (k + 1) n with
          | false => rw [hb] at h; exact (no_ok h).elim
          | true =>
            rw [hb] at h
            have hb := of_ble hb
            simp only [ptrM, natK_eq] at h
            obtain ⟨rfl, rfl⟩ := pure_ok h
            refine ⟨σ, _, w, [], Post.refl p.rel, .ptr hσ, ?_⟩
            simp only [Instr.indexAt, asIntOf, Sem.run_bind, Sem.run_pure, Result.andThen_ok, r_und hu]
            rw [if_pos (by simp; omega)]
            simp [r_size hs, addr_add]
      · rename_i b n kk k
        cases hx with | gsl hσ =>
        cases hi'
        cases hs : sizeT P e with
        | none => rw [hs] at h; exact (no_ok h).elim
        | some s =>
          rw [hs] at h
          simp only at h
          cases hb : Nat.ble (k + 1) n with
          | false => rw [hb] at h; exact (no_ok h).elim
          | true =>
            rw [hb] at h
            have hb := of_ble hb
            simp only [ptrM, natK_eq] at h
            obtain ⟨rfl, rfl⟩ := pure_ok h
            refine ⟨σ, _, w, [], Post.refl p.rel, .ptr hσ, ?_⟩
            simp only [Instr.indexAt, asIntOf, Sem.run_bind, Sem.run_pure, Result.andThen_ok, r_und hu]
            rw [if_pos (by simp; omega)]
            simp [r_size hs, addr_add]
      all_goals first | (exact (no_ok h).elim; done) | skip
      all_goals
        rename_i b o n c kk k
        cases hx with | ssl hσ =>
        cases hi'
        cases hs : sizeT P e with
        | none => rw [hs] at h; exact (no_ok h).elim
        | some s =>
          rw [hs] at h
          simp only at h
          cases hs1 : Nat.beq s 1 with
          | false => rw [hs1] at h; exact (no_ok h).elim
          | true =>
          rw [hs1] at h
          have hs1 := of_beq hs1
          subst hs1
          obtain ⟨d, g1, h1, h2⟩ := bind_ok h
          obtain ⟨r, hr, hg1⟩ := ask_ok h1
          cases d with
          | false => exact (no_ok h2).elim
          | true =>
            obtain ⟨rfl, rfl⟩ := pure_ok h2
            subst hg1
            have hb : 0 ≤ k ∧ k < (n : Int) := by
              have := p.owes (decide (0 ≤ k ∧ k < (n : Int)), true) List.mem_cons_self
              simpa using this
            refine ⟨σ, _, w, [], Post.asked p.rel, .sptr hσ, ?_⟩
            simp only [Instr.indexAt, asIntOf, Sem.run_bind, Sem.run_pure, Result.andThen_ok, r_und hu]
            rw [if_pos (by simpa using hb)]
            simp [r_size hs, addr_add]

theorem boundA_sound {P : Program} {σ : Sg} {w : World} {most k : Nat} {v : AV} {V : Value} {code : BoundsCode} (h : boundA most v = some k) (hv : VR σ v V) :
    (Instr.sliceBound V most code).run P w = .ok k w ∧ k ≤ most := by
  unfold boundA at h
  split at h
  · cases hv
    split at h
    · rename_i hb
      have hb := of_ble hb
      injection h with h; subst h
      refine ⟨?_, hb⟩
      simp only [Instr.sliceBound, asIntOf, Sem.run_bind, Sem.run_pure, Result.andThen_ok]
      rw [if_pos (by simp; omega)]
      simp
    · cases h
  · cases h
def VRo (σ : Sg) : Option AV → Option Value → Prop
  | none, none => True
  | some v, some V => VR σ v V
  | _, _ => False
theorem sliceA_sound {P : Program} {σ : Sg} {w : World} {t : TypeId} {x v : AV} {X : Value} {lo hi mx : Option AV} {Lo Hi Mx : Option Value} (h : sliceA P t x lo hi mx = some v)
    (hx : VR σ x X) (hlo : VRo σ lo Lo) (hhi : VRo σ hi Hi) (hmx : VRo σ mx Mx) : ∃ V, (Instr.sliceAt t X Lo Hi Mx).run P w = .ok V w ∧ VR σ v V := by
  unfold sliceA at h
  cases mx with
  | some m => cases h
  | none =>
    cases Mx with
    | some m => cases hmx
    | none =>
      simp only at h
      have bounds : ∀ (isS : Bool) (n c hh l : Nat), boundO c n hi = some hh → boundO hh 0 lo = some l → (Instr.sliceBounds isS n c Lo Hi none).run P w = .ok (l, hh, c) w := by
        intro isS n c hh l e1 e2
        cases hi with
        | none =>
          cases Hi with
          | some _ => cases hhi
          | none =>
            simp only [boundO] at e1; injection e1 with e1; subst e1
            cases lo with
            | none =>
              cases Lo with
              | some _ => cases hlo
              | none => simp only [boundO] at e2; injection e2 with e2; subst e2; simp [Instr.sliceBounds]
            | some lv =>
              cases Lo with
              | none => cases hlo
              | some LV => obtain ⟨b1, _⟩ := boundA_sound (P := P) (w := w) (code := .sliceB) e2 hlo; simp [Instr.sliceBounds, b1]
        | some hv =>
          cases Hi with
          | none => cases hhi
          | some HV =>
            have b0 : ∀ code, (Instr.sliceBound HV c code).run P w = .ok hh w := fun code => (boundA_sound (P := P) (w := w) (code := code) e1 hhi).1
            cases lo with
            | none =>
              cases Lo with
              | some _ => cases hlo
              | none => simp only [boundO] at e2; injection e2 with e2; subst e2; simp [Instr.sliceBounds, b0]
            | some lv =>
              cases Lo with
              | none => cases hlo
              | some LV => obtain ⟨b1, _⟩ := boundA_sound (P := P) (w := w) (code := .sliceB) e2 hlo; simp [Instr.sliceBounds, b0, b1]
      cases hu : P.underlying t with
      | none => rw [hu] at h; cases h
      | some d =>
        rw [hu] at h
        cases d <;> simp only at h <;> first | (cases h; done) | skip
        case slice e =>
          split at h
          · rename_i i o n c
            cases hx with | sl hσ =>
            rename_i b cap
            split at h
            · rename_i s hh hs e1
              split at h
              · rename_i l e2
                simp only [slO, natK_eq] at h
                injection h with h; subst h
                refine ⟨_, ?_, .sl hσ⟩
                have hb := bounds true n c hh l e1 e2
                simp only [Instr.sliceAt, Instr.slice, Sem.run_bind, r_und hu, Result.andThen_ok, hb, r_size hs, Sem.run_pure]
                by_cases hcl : c = l
                · subst hcl; simp
                · simp [hcl, beq_f hcl, addr_add]
              · cases h
            · cases h
          · cases hx
            split at h
            · rename_i s hh hs e1
              split at h
              · rename_i l e2
                injection h with h; subst h
                have hh0 : hh = 0 := by
                  cases hi with
                  | none => simp only [boundO] at e1; injection e1 with e1; exact e1.symm
                  | some hv =>
                    cases Hi with
                    | none => cases hhi
                    | some HV => have := (boundA_sound (P := P) (w := w) (code := .sliceB) e1 hhi).2; omega
                subst hh0
                have hl0 : l = 0 := by
                  cases lo with
                  | none => simp only [boundO] at e2; injection e2 with e2; exact e2.symm
                  | some hv =>
                    cases Lo with
                    | none => cases hlo
                    | some HV => have := (boundA_sound (P := P) (w := w) (code := .sliceB) e2 hlo).2; omega
                subst hl0
                have hb := bounds true 0 0 0 0 e1 e2
                refine ⟨.slice none 0 0, ?_, .nilSl⟩
                simp [Instr.sliceAt, Instr.slice, r_und hu, hb, r_size hs]
              · cases h
            · cases h
          · cases h
        case array n e =>
          split at h
          · rename_i i o
            cases hx with | ptr hσ =>
            split at h
            · rename_i s hh hs e1
              split at h
              · rename_i l e2
                simp only [slO, natK_eq] at h
                injection h with h; subst h
                refine ⟨_, ?_, .sl hσ⟩
                have hb := bounds false n n hh l e1 e2
                simp only [Instr.sliceAt, Instr.sureAddr, Sem.run_bind, r_und hu, Result.andThen_ok, hb, r_size hs, Sem.run_pure]
                by_cases hcl : n = l
                · subst hcl; simp
                · simp [hcl, beq_f hcl, addr_add]
              · cases h
            · cases h
          · cases h
theorem wrap_i64_small (n : Nat) (h : n ≤ 281474976710656) : IntKind.i64.wrap (Int.ofNat n) = (n : Int) := by
  rw [IntKind.wrap_i64]
  simp only [Int.ofNat_eq_natCast]
  omega
theorem r_asInt {P : Program} {w : World} (k : IntKind) (n : Int) : (asInt (.int k n)).run P w = .ok n w := by rfl
theorem makeSliceA_sound {P : Program} {T : Tp} {hi : Nat} {σ : Sg} {g : G} {w : World} {t : TypeId} {l c : AV} {L C : Value} (hl : VR σ l L) (hc : VR σ c C) :
    VSound P T hi σ g w (makeSliceA P t l c) (Instr.makeSlice t L C) := by
  intro v g' h p
  unfold makeSliceA at h
  split at h
  · rename_i k n k2 m
    cases hl; cases hc
    revert h; cases he : elemT P t <;> intro h <;> simp only at h
    case none => exact (no_ok h).elim
    rename_i e
    revert h; cases hi : P.info? e <;> cases hz : zeroT P e <;> intro h <;> simp only at h <;> first | (exact (no_ok h).elim; done) | skip
    rename_i inf z
    revert h; cases hb : (Nat.ble n m && Nat.beq inf.size 1 && z.oneCell && Nat.ble (inf.bytes * m) 281474976710656 && Nat.ble m 281474976710656) <;> intro h <;> simp only at h
    case false => exact (no_ok h).elim
    simp only [Bool.and_eq_true] at hb
    obtain ⟨⟨⟨⟨b1, b2⟩, b3⟩, b4⟩, b5⟩ := hb
    have b1 := of_ble b1; have b2 := of_beq b2; have b4 := of_ble b4; have b5 := of_ble b5
    obtain ⟨i, g1, h1, h2⟩ := bind_ok h
    obtain ⟨rfl, rfl⟩ := pure_ok h2
    obtain ⟨Z, hZ, hzZ⟩ := r_zero (P := P) (w := w) σ hz
    have hZc := hzZ.cells
    have hzc : z.cells = [z] := by cases z <;> first | rfl | (simp [AV.oneCell] at b3)
    rw [hzc] at hZc
    have hZs : Z.cells.size = 1 := by have := hZc.length; simpa using this.symm
    obtain ⟨Z0, hZ0, hzZ0⟩ := hZc.get (i := 0) rfl
    have hcell : ∀ o : Nat, Z.cells[o % Z.cells.size]! = Z0 := fun o => by
      have : o % Z.cells.size = 0 := by rw [hZs]; omega
      rw [this]
      have h9 : Z.cells[0]? = some Z0 := by simpa using hZ0
      rw [getElem!_def, h9]
    have hsz : sizeT P e = some 1 := by simp [sizeT, hi, b2]
    have q := alloc_sound (cap := 0) (obj := .cells ((Array.range m).map (Z.cells[· % Z.cells.size]!)) e) h1 p.rel p.fresh p.hi
      ⟨_, (0, 0), rfl, Nat.le_refl _, by simp⟩
      (fun o c hc => by
        simp only [Blk.ct] at hc
        split at hc
        · rename_i hlt
          injection hc with hc; subst hc
          refine ⟨_, e, (0, 0), Z0, rfl, ?_, ?_⟩
          · rw [Array.getElem?_map, Array.getElem?_range]; simp [hlt, hcell]
          · rw [Tr.get_lf]; exact hzZ0
        · cases hc)
    obtain ⟨rfl, hn, q⟩ := q
    refine ⟨_, _, _, _, q, .sl (upd_same _ _ _), ?_⟩
    have w1 := wrap_i64_small n (Nat.le_trans b1 b5)
    have w2 := wrap_i64_small m b5
    simp only [Instr.makeSlice, Sem.run_bind, r_und (elemT_some he), Result.andThen_ok, r_asInt, r_info hi, w1, w2]
    have ca : ¬ ((m : Int) < 0) := by omega
    have cb : ¬ (281474976710656 < (inf.bytes : Int) * (m : Int)) := by
      have : ((inf.bytes * m : Nat) : Int) ≤ ((281474976710656 : Nat) : Int) := Int.ofNat_le.2 b4
      rw [Int.natCast_mul] at this
      omega
    have c2 : ¬ ((n : Int) < 0) := by omega
    have c3 : ¬ ((n : Int) > (m : Int)) := by omega
    by_cases h0 : m = 0
    · subst h0
      have : n = 0 := by omega
      subst this
      have e0 : Array.range 0 = #[] := rfl
      simp [run_askRoom, r_size hsz, newRow, pushed, e0]
    · simp [ca, cb, c2, c3, run_askRoom, r_size hsz, h0, hZ, newRow, pushed]
  · exact (no_ok h).elim
theorem makeChanA_sound {P : Program} {T : Tp} {hi : Nat} {σ : Sg} {g : G} {w : World} {t : TypeId} {s : AV} {S : Value} (hs : VR σ s S) :
    VSound P T hi σ g w (makeChanA P t s) (Instr.makeChan t S) := by
  intro v g' h p
  unfold makeChanA at h
  split at h
  · rename_i k n
    cases hs
    cases hu : P.underlying t with
    | none => rw [hu] at h; exact (no_ok h).elim
    | some ud =>
    rw [hu] at h
    cases ud <;> simp only at h <;> first | (exact (no_ok h).elim; done) | skip
    case chan d e =>
      cases hi' : P.info? e with
      | none => rw [hi'] at h; exact (no_ok h).elim
      | some inf =>
        rw [hi'] at h
        cases hb : (Nat.ble n 1048576 && Nat.ble inf.bytes 4096) with
        | false => simp only [hb] at h; exact (no_ok h).elim
        | true =>
          simp only [hb] at h
          simp only [Bool.and_eq_true] at hb
          have b1 := of_ble hb.1; have b2 := of_ble hb.2
          obtain ⟨i, g1, h1, h2⟩ := bind_ok h
          obtain ⟨rfl, rfl⟩ := pure_ok h2
          have q := alloc_sound (cap := 0) (obj := .chan n #[] false 0 0 false) h1 p.rel p.fresh p.hi ⟨n, #[], 0, 0, rfl⟩ (fun o c hc => by simp only [Blk.ct] at hc; split at hc <;> cases hc; exact ⟨_, _, _, rfl, rfl⟩)
          obtain ⟨rfl, hn, q⟩ := q
          refine ⟨_, _, _, _, q, .chan (upd_same _ _ _), ?_⟩
          have w1 : ((n : Int)) ≤ 1048576 := Int.ofNat_le.2 b1
          have c1 : ¬ ((n : Int) < 0) := by omega
          have c2 : ¬ ((n : Int) > IntKind.i64.max) := by have : IntKind.i64.max = 9223372036854775807 := rfl; omega
          have c3 : ¬ ((inf.bytes : Int) * (n : Int) > 2 ^ 48 - 112) := by
            have h3 : inf.bytes * n ≤ 4096 * 1048576 := Nat.mul_le_mul b2 b1
            have h4 : ((inf.bytes * n : Nat) : Int) ≤ ((4096 * 1048576 : Nat) : Int) := Int.ofNat_le.2 h3
            rw [Int.natCast_mul] at h4
            omega
          have h5 : ¬ ((n : Int) < 0 ∨ (n : Int) > IntKind.i64.max ∨ (inf.bytes : Int) * (n : Int) > 2 ^ 48 - 112) := by
            rintro (h | h | h)
            · exact c1 h
            · exact c2 h
            · exact c3 h
          simp only [Instr.makeChan, Sem.run_bind, r_asInt, Result.andThen_ok, r_und hu, r_info hi', Sem.run_ite, Int.ofNat_eq_natCast]
          rw [if_neg h5]
          simp [pushed]
  · exact (no_ok h).elim
end Go.Ev

namespace Go.Ev
open Go

/-! ### Equality -/
theorem Rel.cellsAt {P : Program} {σ : Sg} {T : Tp} {g : G} {w : World} (rl : Rel P σ T g w) {i : Nat} (hg : hasCells g.heap i = true) (ht : ∃ o, T i o) :
    ∃ blk b cap c e fz, g.heap.get i = some blk ∧ σ i = some (b, cap) ∧ w.heap[b]? = some (.cells c e fz) ∧ noFz fz := by
  unfold hasCells at hg
  split at hg
  · rename_i blk hb
    obtain ⟨b, cap, h1, h2⟩ := rl.sh i blk hb ht
    cases blk with
    | cells e l => obtain ⟨c, fz, h3, h4, _⟩ := h2; exact ⟨_, b, cap, c, e, fz, hb, h1, h3, h4⟩
    | grown e l => obtain ⟨c, fz, h3, h4, _⟩ := h2; exact ⟨_, b, cap, c, e, fz, hb, h1, h3, h4⟩
    | big e t d n => obtain ⟨c, fz, h3, h4, _⟩ := h2; exact ⟨_, b, cap, c, e, fz, hb, h1, h3, h4⟩
    | seq e k f n => simp [Blk.isCells] at hg
    | map es => simp [Blk.isCells] at hg
    | chan => simp [Blk.isCells] at hg
    | pmap es => simp [Blk.isCells] at hg
  · cases hg
theorem sameAddr_ne {P : Program} {w : World} {b b' o o' : Nat} {c c' : Array Value} {e e' : TypeId} {fz fz' : Nat × Nat} (h : w.heap[b]? = some (.cells c e fz)) (h' : w.heap[b']? = some (.cells c' e' fz'))
    (hf : noFz fz) (hf' : noFz fz') (hne : b ≠ b') : (sameAddr ⟨b, o, none⟩ ⟨b', o', none⟩).run P w = .ok false w := by
  have hs : w.shape? b = some (e, c.size) := by simp [World.shape?, h]
  have hs' : w.shape? b' = some (e', c'.size) := by simp [World.shape?, h']
  have f1 : ∀ o, w.frozen? ⟨b, o, none⟩ = false := fun o => frozen_of h hf
  have f2 : ∀ o, w.frozen? ⟨b', o, none⟩ = false := fun o => frozen_of h' hf'
  have hne' : (b == b') = false := by simpa using hne
  simp [sameAddr, hne', f1, f2, noView, viewAt, hs, hs', mayBeOne, stringish]

/-- the places of two blocks that were compared are known to be blocks -/
def IdsT (T : Tp) (r : Eqr) : Prop := ∀ i ∈ r.ids, ∃ o, T i o
theorem sameDoE_some {k k' : IntKind} {q r : Eqr} (h : sameDoE k k' q = some r) : k = k' ∧ q = r := by
  unfold sameDoE at h; split at h
  · rename_i e; injection h with h; exact ⟨sameK_eq e, h⟩
  · cases h
section
variable {P : Program} {T : Tp} {σ : Sg} {g : G} {w : World} {t : TypeId} {x y : AV} {X Y : Value} {r : Eqr} (D : Nat)
theorem boolEq_sound (hd : P.underlying t = some .bool) (h : boolEq x y = some r) (hx : VR σ x X) (hy : VR σ y Y) : (Op.equalIn (D + 1) t X Y).run P w = .ok r.b w := by
  unfold boolEq at h
  split at h <;> first | (cases h; done) | (split at h <;> first | (cases h; done) | (injection h with h; subst h; cases hx; cases hy; simp [Op.equalIn, r_und hd, Eqr.con, Eqr.nam]))
theorem intEq_sound {k0 : IntKind} (hd : P.underlying t = some (.int k0)) (h : intEq x y = some r) (hx : VR σ x X) (hy : VR σ y Y) : (Op.equalIn (D + 1) t X Y).run P w = .ok r.b w := by
  unfold intEq at h
  split at h <;> first | (cases h; done) | (split at h <;> first | (cases h; done) | (obtain ⟨hk, h'⟩ := sameDoE_some h; subst hk; subst h'; cases hx; cases hy; simp [Op.equalIn, r_und hd, Eqr.con, Eqr.nam, eqF_eq]))
theorem strEq_sound (hd : P.underlying t = some .string) (h : strEq x y = some r) (hx : VR σ x X) (hy : VR σ y Y) : (Op.equalIn (D + 1) t X Y).run P w = .ok r.b w := by
  unfold strEq at h
  split at h <;> first | (cases h; done) | (split at h <;> first | (cases h; done) | (injection h with h; subst h; cases hx; cases hy; simp [Op.equalIn, r_und hd, Eqr.con]))
theorem funcEq_sound {a b : Array TypeId} {c : Bool} (hd : P.underlying t = some (.func a b c)) (h : funcEq x y = some r) (hx : VR σ x X) (hy : VR σ y Y) : (Op.equalIn (D + 1) t X Y).run P w = .ok r.b w := by
  unfold funcEq at h
  split at h <;> first | (cases h; done) | (split at h <;> first | (cases h; done) | (injection h with h; subst h; cases hx; cases hy; simp [Op.equalIn, r_und hd, Eqr.con]))
theorem ifaceEq_sound {ms : Array (String × TypeId)} (hd : P.underlying t = some (.interface ms)) (h : ifaceEq x y = some r) (hx : VR σ x X) (hy : VR σ y Y) : (Op.equalIn (D + 1) t X Y).run P w = .ok r.b w := by
  unfold ifaceEq at h
  split at h <;> first | (cases h; done) | (split at h <;> first | (cases h; done) | (injection h with h; subst h; cases hx; cases hy; simp [Op.equalIn, r_und hd, Eqr.con]))
theorem sliceEq_sound {e : TypeId} (hd : P.underlying t = some (.slice e)) (h : sliceEq x y = some r) (hx : VR σ x X) (hy : VR σ y Y) : (Op.equalIn (D + 1) t X Y).run P w = .ok r.b w := by
  unfold sliceEq at h
  split at h <;> first | (cases h; done) | (split at h <;> first | (cases h; done) | (injection h with h; subst h; cases hx; cases hy; simp [Op.equalIn, r_und hd, Eqr.con]))
theorem mapEq_sound {k e : TypeId} (hd : P.underlying t = some (.map k e)) (h : mapEq x y = some r) (hx : VR σ x X) (hy : VR σ y Y) : (Op.equalIn (D + 1) t X Y).run P w = .ok r.b w := by
  unfold mapEq at h
  split at h <;> first | (cases h; done) | (split at h <;> first | (cases h; done) | (injection h with h; subst h; cases hx; cases hy; simp [Op.equalIn, r_und hd, Eqr.con]))
theorem ptrEq_sound {e : TypeId} (hd : P.underlying t = some (.pointer e)) (h : ptrEq P g.heap e x y = some r) (hx : VR σ x X) (hy : VR σ y Y) (rl : Rel P σ T g w) (hT : IdsT T r) :
    (Op.equalIn (D + 1) t X Y).run P w = .ok r.b w := by
  unfold ptrEq at h
  split at h
  · split at h <;> first | (cases h; done) | (injection h with h; subst h; cases hx; cases hy; simp [Op.equalIn, r_und hd, Eqr.con])
  · rename_i i o
    split at h
    · injection h with h; subst h; cases hx; cases hy; simp [Op.equalIn, r_und hd, Eqr.con]
    · rename_i j o'
      cases hx with | ptr h1 =>
      cases hy with | ptr h2 =>
      rename_i b c b' c'
      split at h
      · rename_i n hn
        have hsz : (sizeOf e).run P w = .ok (n + 1) w := r_size hn
        unfold placeEq at h
        cases hij : Nat.beq i j with
        | true =>
          rw [hij] at h
          injection h with h; subst h
          have hij := of_beq hij
          subst hij
          rw [h1] at h2; injection h2 with h2; injection h2 with h2 _; subst h2
          have : (Nat.beq o o') = decide (o = o') := by
            by_cases ho : o = o'
            · subst ho; simp
            · simp [beq_f ho, ho]
          have e2 : ((⟨b, o, none⟩ : Addr) == ⟨b, o', none⟩) = decide (o = o') := by rw [Bool.eq_iff_iff]; simp
          simp [Op.equalIn, r_und hd, hsz, sameAddr, Eqr.con, this, e2]
        | false =>
          rw [hij] at h
          simp only at h
          cases hc : (hasCells g.heap i && hasCells g.heap j) with
          | false => rw [hc] at h; cases h
          | true =>
            rw [hc] at h
            injection h with h; subst h
            simp only [Bool.and_eq_true] at hc
            obtain ⟨bi, b1, cp1, c1, e1, f1, p1, p2, p3, p4⟩ := rl.cellsAt hc.1 (hT i (by simp))
            obtain ⟨bj, b2, cp2, c2, e2, f2, q1, q2, q3, q4⟩ := rl.cellsAt hc.2 (hT j (by simp))
            rw [h1] at p2; injection p2 with p2; injection p2 with p2 p2'; subst p2; subst p2'
            rw [h2] at q2; injection q2 with q2; injection q2 with q2 q2'; subst q2; subst q2'
            have hne : b ≠ b' := fun e => by
              subst e
              exact of_beqf hij (rl.inj i j bi bj b c c' p1 q1 (hT i (by simp)) (hT j (by simp)) h1 h2)
            have := sameAddr_ne (P := P) (o := o) (o' := o') p3 q3 p4 q4 hne
            simp [Op.equalIn, r_und hd, hsz, this]
      · cases h
    · cases h
  · cases h
theorem leafEq_sound {d : TypeDesc} (hd : P.underlying t = some d) (h : leafEq P g.heap d x y = some r) (hx : VR σ x X) (hy : VR σ y Y) (rl : Rel P σ T g w) (hT : IdsT T r) :
    (Op.equalIn (D + 1) t X Y).run P w = .ok r.b w := by
  unfold leafEq at h
  split at h
  · exact boolEq_sound D hd h hx hy
  · exact intEq_sound D hd h hx hy
  · exact strEq_sound D hd h hx hy
  · exact ptrEq_sound D hd h hx hy rl hT
  · exact funcEq_sound D hd h hx hy
  · exact ifaceEq_sound D hd h hx hy
  · exact sliceEq_sound D hd h hx hy
  · exact mapEq_sound D hd h hx hy
  · cases h
end
theorem Eqr.and_sound {x : Eqr} {y : Option Eqr} {r : Eqr} (h : x.and y = some r) :
    (x.sym = false ∧ x.b = false ∧ r = x) ∨ ∃ z, y = some z ∧ r.b = (x.b && z.b) ∧ r.ids = x.ids ++ z.ids := by
  unfold Eqr.and at h
  cases hs : x.sym with
  | false =>
    rw [hs] at h
    simp only at h
    cases hb : x.b with
    | false => rw [hb] at h; injection h with h; exact .inl ⟨rfl, rfl, h.symm⟩
    | true =>
      rw [hb] at h
      cases y with
      | none => cases h
      | some z => injection h with h; subst h; exact .inr ⟨z, rfl, by simp, rfl⟩
  | true =>
    rw [hs] at h
    cases y with
    | none => cases h
    | some z => injection h with h; subst h; exact .inr ⟨z, rfl, rfl, rfl⟩

section
variable {P : Program} {T : Tp} {σ : Sg} {g : G} {w : World}
theorem eqFields_sound {D : Nat} {eq : TypeId → AV → AV → Option Eqr} (hq : ∀ t x y r X Y, eq t x y = some r → VR σ x X → VR σ y Y → IdsT T r → (Op.equalIn D t X Y).run P w = .ok r.b w)
    {xs ys : List AV} {Xs Ys : List Value} (hx : VRs σ xs Xs) (hy : VRs σ ys Ys) : ∀ (fs : List Field) (r : Eqr), eqFields eq P xs ys fs = some r → IdsT T r →
    (Op.eqFields D Xs.toArray Ys.toArray fs).run P w = .ok r.b w
  | [], r, h, _ => by simp only [eqFields] at h; injection h with h; subst h; simp [Op.eqFields, Eqr.con]
  | f :: fs, r, h, hT => by
    unfold eqFields at h
    cases hn : (f.name == "_") with
    | true =>
      rw [hn] at h
      have hn : f.name = "_" := by simpa using hn
      simp only [Op.eqFields, hn, ne_eq, not_true_eq_false, if_false]
      exact eqFields_sound hq hx hy fs r h hT
    | false =>
      rw [hn] at h
      have hn : f.name ≠ "_" := by simpa using hn
      simp only at h
      cases hpx : partA P f.type xs f.offset with
      | none => rw [hpx] at h; cases h
      | some x =>
        cases hpy : partA P f.type ys f.offset with
        | none => rw [hpx, hpy] at h; cases h
        | some y =>
          rw [hpx, hpy] at h
          simp only at h
          obtain ⟨X, x1, x2⟩ := part_sound (w := w) hpx hx
          obtain ⟨Y, y1, y2⟩ := part_sound (w := w) hpy hy
          cases he : eq f.type x y with
          | none => rw [he] at h; cases h
          | some q =>
            rw [he] at h
            simp only at h
            simp only [Op.eqFields, hn, ne_eq, not_false_eq_true, if_true, Sem.run_bind, x1, y1, Result.andThen_ok]
            have hh : (q.sym = false ∧ q.b = false ∧ r = q) ∨ ∃ z, eqFields eq P xs ys fs = some z ∧ r.b = (q.b && z.b) ∧ r.ids = q.ids ++ z.ids := by
              split at h
              · rename_i a b
                injection h with h
                exact .inl ⟨a, b, h.symm⟩
              · exact Eqr.and_sound h
            rcases hh with ⟨_, hb, hr⟩ | ⟨z, h1, h2, h3⟩
            · subst hr
              have := hq f.type x y r X Y he x2 y2 hT
              rw [hb] at this
              simp only [this, Result.andThen_ok]
              rw [hb]; rfl
            · have t1 : IdsT T q := fun i hi => hT i (by rw [h3]; exact List.mem_append_left _ hi)
              have t2 : IdsT T z := fun i hi => hT i (by rw [h3]; exact List.mem_append_right _ hi)
              have e1 := hq f.type x y q X Y he x2 y2 t1
              have e2 := eqFields_sound hq hx hy fs z h1 t2
              simp only [e1, Result.andThen_ok]
              rw [h2]
              cases hb : q.b
              · rfl
              · simpa using e2
theorem eqElems_sound {D : Nat} {eq : TypeId → AV → AV → Option Eqr} (hq : ∀ t x y r X Y, eq t x y = some r → VR σ x X → VR σ y Y → IdsT T r → (Op.equalIn D t X Y).run P w = .ok r.b w)
    {e : TypeId} {s : Nat} {xs ys : List AV} {Xs Ys : List Value} (hx : VRs σ xs Xs) (hy : VRs σ ys Ys) : ∀ (n i : Nat) (r : Eqr), eqElems eq P e s xs ys n i = some r → IdsT T r →
    (Op.eqItems D e s Xs.toArray Ys.toArray (List.range' i n)).run P w = .ok r.b w
  | 0, i, r, h, _ => by simp only [eqElems] at h; injection h with h; subst h; simp [Op.eqItems, Eqr.con]
  | n + 1, i, r, h, hT => by
    unfold eqElems at h
    rw [List.range'_succ]
    cases hpx : partA P e xs (i * s) with
    | none => rw [hpx] at h; cases h
    | some x =>
      cases hpy : partA P e ys (i * s) with
      | none => rw [hpx, hpy] at h; cases h
      | some y =>
        rw [hpx, hpy] at h
        simp only at h
        obtain ⟨X, x1, x2⟩ := part_sound (w := w) hpx hx
        obtain ⟨Y, y1, y2⟩ := part_sound (w := w) hpy hy
        cases he : eq e x y with
        | none => rw [he] at h; cases h
        | some q =>
          rw [he] at h
          simp only at h
          simp only [Op.eqItems, Sem.run_bind, x1, y1, Result.andThen_ok]
          have hh : (q.sym = false ∧ q.b = false ∧ r = q) ∨ ∃ z, eqElems eq P e s xs ys n (i + 1) = some z ∧ r.b = (q.b && z.b) ∧ r.ids = q.ids ++ z.ids := by
            split at h
            · rename_i a b
              injection h with h
              exact .inl ⟨a, b, h.symm⟩
            · exact Eqr.and_sound h
          rcases hh with ⟨_, hb, hr⟩ | ⟨z, h1, h2, h3⟩
          · subst hr
            have := hq e x y r X Y he x2 y2 hT
            rw [hb] at this
            simp only [this, Result.andThen_ok]
            rw [hb]; rfl
          · have t1 : IdsT T q := fun i hi => hT i (by rw [h3]; exact List.mem_append_left _ hi)
            have t2 : IdsT T z := fun i hi => hT i (by rw [h3]; exact List.mem_append_right _ hi)
            have e1 := hq e x y q X Y he x2 y2 t1
            have e2 := eqElems_sound hq hx hy n (i + 1) z h1 t2
            simp only [e1, Result.andThen_ok]
            rw [h2]
            cases hb : q.b
            · rfl
            · simpa using e2
theorem aeq_sound (rl : Rel P σ T g w) : ∀ (d D : Nat) (t : TypeId) (x y : AV) (r : Eqr) (X Y : Value), d ≤ D → aeq P g.heap d t x y = some r → VR σ x X → VR σ y Y → IdsT T r →
    (Op.equalIn D t X Y).run P w = .ok r.b w
  | 0, _, _, _, _, _, _, _, _, h, _, _, _ => by cases h
  | d + 1, D, t, x, y, r, X, Y, hD, h, hx, hy, hT => by
    obtain ⟨D, rfl⟩ : ∃ E, D = E + 1 := ⟨D - 1, by omega⟩
    unfold aeq at h
    cases hu : P.underlying t with
    | none => rw [hu] at h; cases h
    | some k =>
      rw [hu] at h
      have leaf : leafEq P g.heap k x y = some r → _ := fun h => leafEq_sound D hu h hx hy rl hT
      cases k <;> simp only at h <;> first | exact leaf h | skip
      case struct fs =>
        split at h
        · rename_i xs ys
          obtain ⟨Xs, rfl, hX⟩ := hx.agg_inv
          obtain ⟨Ys, rfl, hY⟩ := hy.agg_inv
          cases hst : P.stoodInHeld t with
          | true => rw [hst] at h; cases h
          | false =>
            rw [hst] at h
            have hf : P.fieldsOf t = fs := by simp [Program.fieldsOf, hu]
            rw [run_equalIn_struct w D t _ _ (by rw [hf]; exact hu) hst, hf]
            exact eqFields_sound (fun t x y r X Y h1 h2 h3 h4 => aeq_sound rl d D t x y r X Y (by omega) h1 h2 h3 h4) hX hY fs.toList r h hT
        · cases h
      case array n e =>
        split at h
        · rename_i xs ys
          obtain ⟨Xs, rfl, hX⟩ := hx.agg_inv
          obtain ⟨Ys, rfl, hY⟩ := hy.agg_inv
          cases hs : sizeT P e with
          | none => rw [hs] at h; cases h
          | some s =>
            rw [hs] at h
            have hi : ∃ i, P.info? e = some i ∧ P.cellsOf e = s := by
              unfold sizeT at hs
              split at hs
              · rename_i i hi; injection hs with hs; exact ⟨i, hi, by simp [Program.cellsOf, hi, hs]⟩
              · cases hs
            obtain ⟨i, hi, hc⟩ := hi
            rw [run_equalIn_array w D _ _ hu hi, hc, List.range_eq_range']
            exact eqElems_sound (fun t x y r X Y h1 h2 h3 h4 => aeq_sound rl d D t x y r X Y (by omega) h1 h2 h3 h4) hX hY n 0 r h hT
        · cases h
end
end Go.Ev

namespace Go.Ev
open Go

theorem touchIds_ok : ∀ (ids : List Nat) {g g' : G} {u : Unit}, touchIds ids g = .ok u g' → ∃ L, g' = ⟨g.heap, g.next, L ++ g.log, g.orc, g.obl⟩ ∧ (∀ t ∈ L, t.w = false) ∧ ∀ i ∈ ids, (⟨i, 0, 0, false⟩ : Tch) ∈ L
  | [], g, g', u, h => by obtain ⟨_, rfl⟩ := pure_ok h; exact ⟨[], rfl, by simp, by simp⟩
  | i :: r, g, g', u, h => by
    obtain ⟨_, g1, h1, h2⟩ := bind_ok h
    have h3 := touch_ok h1
    obtain ⟨L, h4, h5, h6⟩ := touchIds_ok r h2
    subst h3
    refine ⟨L ++ [⟨i, 0, 0, false⟩], by rw [h4]; simp, ?_, ?_⟩
    · intro t ht
      rcases List.mem_append.1 ht with h | h
      · exact h5 t h
      · simp at h; subst h; rfl
    · intro j hj
      cases hj with
      | head => simp
      | tail _ hm => exact List.mem_append_left _ (h6 j hm)
theorem Post.reads {P : Program} {T : Tp} {σ : Sg} {g : G} {w : World} {L : List Tch} (r : Rel P σ T g w) (hw : ∀ t ∈ L, t.w = false) :
    Post P T σ g w σ ⟨g.heap, g.next, L ++ g.log, g.orc, g.obl⟩ w L where
  le := ⟨rfl, Nat.le_refl _, ⟨[], rfl⟩, fun _ b _ h => ⟨b, h, rfl⟩, fun _ _ b _ _ h h' => ⟨b, h, h'⟩, fun t ht h => by rw [hw t ht] at h; cases h⟩
  ext := fun _ _ => rfl
  rel := r.same rfl
  fr := ⟨Nat.le_refl _, rfl, rfl, rfl, fun _ _ _ => rfl, fun _ c _ _ h => ⟨c, h, rfl, fun _ _ => rfl⟩, fun _ es cl h => ⟨es, cl, h, fun _ => ⟨rfl, rfl⟩⟩, fun _ _ q s r h => ⟨q, s, r, h, fun _ => ⟨rfl, rfl, rfl⟩⟩⟩
  nw := fun _ _ _ h1 h2 _ => absurd h1 (Nat.not_le_of_lt h2)

theorem eqGuard_run {P : Program} {σ : Sg} {w : World} (op : BinOp) {t : TypeId} {ox oy : Operand} {x : AV} {X : Value} (Y : Value) (hx : VR σ x X)
    (hg : eqG P t (isConstOp ox) (isConstOp oy) x = true) : (eqGuard op t ox oy X Y).run P w = .ok () w := by
  have key : ∀ op, op = .eql ∨ op = .neq → (eqGuard op t ox oy X Y).run P w = .ok () w := by
    intro op hop
    rcases hop with rfl | rfl
    all_goals
      cases hx <;> first
        | (cases Y <;> simp [eqGuard]; done)
        | (cases Y <;> first
            | (simp [eqGuard]; done)
            | (have : (isConstOp ox || isConstOp oy) = true := hg
               cases ox <;> cases oy <;> first | (simp [isConstOp] at this; done) | simp [eqGuard])
            | (exfalso; simp [eqG] at hg; done)
            | (have : P.eqGuardType P.depth t = false := by simpa [eqG] using hg
               simp [eqGuard, this]))
  cases op <;> first | exact key _ (.inl rfl) | exact key _ (.inr rfl) | simp [eqGuard]
theorem binOp_eql_run {P : Program} {σ : Sg} {w : World} {t : TypeId} {x y : AV} {X Y : Value} {b : Bool} (hx : VR σ x X) (hy : VR σ y Y) (hn : isNum x = false)
    (h : (Op.equal t X Y).run P w = .ok b w) : (binOp .eql t X Y).run P w = .ok (.bool b) w ∧ (binOp .neq t X Y).run P w = .ok (.bool (!b)) w := by
  cases hx <;> first
    | (simp [isNum] at hn; done)
    | (constructor <;> (cases hy <;> simp [binOp, h]))
theorem equalA_ok {P : Program} {T : Tp} {hi : Nat} {σ : Sg} {g g' : G} {w : World} {t : TypeId} {ox oy : Operand} {x y v : AV} {X Y : Value}
    (h : equalA P t (isConstOp ox) (isConstOp oy) x y g = .ok v g') (p : Pre P T hi σ g w g') (hx : VR σ x X) (hy : VR σ y Y) (hn : isNum x = false) :
    ∃ b L, (v = .bool b ∨ v = .sbool b) ∧ Post P T σ g w σ g' w L ∧ (∀ op, (eqGuard op t ox oy X Y).run P w = .ok () w) ∧
      (binOp .eql t X Y).run P w = .ok (.bool b) w ∧ (binOp .neq t X Y).run P w = .ok (.bool (!b)) w := by
  unfold equalA at h
  split at h
  · rename_i hg
    split at h
    · rename_i r hr
      have main : ∀ {u : AV} {g1 : G}, touchIds r.ids g = .ok () g1 → M.pure u g1 = .ok v g' → v = u ∧ ∃ L, Post P T σ g w σ g' w L ∧ (Op.equal t X Y).run P w = .ok r.b w := by
        intro u g1 h1 h2
        obtain ⟨rfl, rfl⟩ := pure_ok h2
        obtain ⟨L, e, hw, hm⟩ := touchIds_ok _ h1
        have hT : IdsT T r := fun i hi => ⟨0, p.inT L (by rw [e]) _ (hm i hi) 0 (.inl rfl)⟩
        refine ⟨rfl, L, by rw [e]; exact Post.reads p.rel hw, ?_⟩
        exact aeq_sound p.rel 12 10000 t x y r X Y (by omega) hr hx hy hT
      have hguard : ∀ op, (eqGuard op t ox oy X Y).run P w = .ok () w := fun op => eqGuard_run op Y hx hg
      cases hs : r.sym with
      | false =>
        rw [hs] at h
        obtain ⟨_, g1, h1, h2⟩ := bind_ok h
        cases hb : r.b with
        | false =>
          rw [hb] at h2
          obtain ⟨rfl, L, q1, q2⟩ := main h1 h2
          rw [hb] at q2
          exact ⟨false, L, .inl rfl, q1, hguard, binOp_eql_run hx hy hn q2⟩
        | true =>
          rw [hb] at h2
          obtain ⟨rfl, L, q1, q2⟩ := main h1 h2
          rw [hb] at q2
          exact ⟨true, L, .inl rfl, q1, hguard, binOp_eql_run hx hy hn q2⟩
      | true =>
        rw [hs] at h
        obtain ⟨_, g1, h1, h2⟩ := bind_ok h
        obtain ⟨rfl, L, q1, q2⟩ := main h1 h2
        exact ⟨r.b, L, .inr rfl, q1, hguard, binOp_eql_run hx hy hn q2⟩
    · cases h
  · cases h
/-- only the oracle and what is owed have turned -/
theorem Post.asks {P : Program} {T : Tp} {σ : Sg} {g : G} {w : World} {r : List Bool} {O : List (Bool × Bool)} (rl : Rel P σ T g w) :
    Post P T σ g w σ ⟨g.heap, g.next, g.log, r, O ++ g.obl⟩ w [] where
  le := ⟨rfl, Nat.le_refl _, ⟨O, rfl⟩, fun _ b _ h => ⟨b, h, rfl⟩, fun _ _ b _ _ h h' => ⟨b, h, h'⟩, fun _ h => by cases h⟩
  ext := fun _ _ => rfl
  rel := rl.same rfl
  fr := Fr.refl σ w
  nw := fun _ _ _ h1 h2 _ => absurd h1 (Nat.not_le_of_lt h2)
theorem askMod_ok {k : IntKind} {e : Int} : ∀ (n i : Nat) {g g' : G} {u : AV}, askMod k e n i g = .ok u g' → ∃ r O j, g' = ⟨g.heap, g.next, g.log, r, O ++ g.obl⟩ ∧ u = .int k j ∧ ((e == j), true) ∈ O
  | 0, _, _, _, _, h => (no_ok h).elim
  | n + 1, i, g, g', u, h => by
    obtain ⟨d, g1, h1, h2⟩ := bind_ok h
    obtain ⟨r, _, e1⟩ := ask_ok h1
    cases d with
    | true =>
      rw [natK_eq] at h2
      obtain ⟨rfl, rfl⟩ := pure_ok h2
      exact ⟨r, [((e == Int.ofNat i), true)], Int.ofNat i, e1, rfl, List.mem_cons_self⟩
    | false =>
      obtain ⟨r', O, j, a, b, c⟩ := askMod_ok n (i + 1) h2
      subst e1
      exact ⟨r', O ++ [((e == Int.ofNat i), false)], j, by rw [a]; simp, b, List.mem_append_left _ c⟩
theorem concOf_some {op : BinOp} {x y v : AV} {q : IntKind × Int × Nat} (h : concOf op x y v = some q) : v = .sint q.1 q.2.1 := by
  unfold concOf at h
  split at h
  · split at h
    · split at h
      · split at h
        · split at h
          · injection h with h; subst h; rfl
          · cases h
        · cases h
      · cases h
    · cases h
  · cases h
theorem conc_sound {P : Program} {T : Tp} {hi : Nat} {σ : Sg} {g g' : G} {w : World} {op : BinOp} {x y v u : AV} {V : Value} (h : conc op x y v g = .ok u g') (p : Pre P T hi σ g w g') (hv : VR σ v V) : VR σ u V ∧ Post P T σ g w σ g' w [] := by
  unfold conc at h
  cases hc : concOf op x y v with
  | none =>
    rw [hc] at h
    obtain ⟨rfl, rfl⟩ := pure_ok h
    exact ⟨hv, Post.refl p.rel⟩
  | some q =>
    rw [hc] at h
    have hq := concOf_some hc
    subst hq
    obtain ⟨r, O, j, e1, e2, e3⟩ := askMod_ok _ _ h
    have ho := p.owes ((q.2.1 == j), true) (by rw [e1]; exact List.mem_append_left _ e3)
    have ho : q.2.1 = j := by simpa using ho
    subst e2
    refine ⟨?_, by rw [e1]; exact Post.asks p.rel⟩
    cases hv
    rw [ho]; exact .int _ _
theorem binA_sound {P : Program} {T : Tp} {hi : Nat} {σ : Sg} {g : G} {w : World} {op : BinOp} {t : TypeId} {ox oy : Operand} {x y : AV} {X Y : Value} (hx : VR σ x X) (hy : VR σ y Y) :
    VSound P T hi σ g w (binA P op t (isConstOp ox) (isConstOp oy) x y) (do eqGuard op t ox oy X Y; binOp op t X Y) := by
  intro v g' h p
  unfold binA at h
  cases ha : arith op x y with
  | some u =>
    rw [ha] at h
    obtain ⟨V, h1, h2, k, n, rfl⟩ := arith_sound (P := P) (w := w) (t := t) ha hx hy
    obtain ⟨h3, h4⟩ := conc_sound h p h2
    refine ⟨σ, V, w, [], h4, h3, ?_⟩
    have : (eqGuard op t ox oy (.int k n) Y).run P w = .ok () w := by
      cases op <;> cases Y <;> simp [eqGuard]
    simp [this, h1]
  | none =>
    rw [ha] at h
    simp only at h
    cases hn : isNum x with
    | true => rw [hn] at h; exact (no_ok h).elim
    | false =>
      rw [hn] at h
      cases op <;> simp only at h <;> first | (exact (no_ok h).elim; done) | skip
      case eql =>
        obtain ⟨b, L, h1, h2, h3, h4, h5⟩ := equalA_ok h p hx hy hn
        refine ⟨σ, .bool b, w, L, h2, ?_, by simp [h3, h4]⟩
        rcases h1 with rfl | rfl
        · exact .bool _
        · exact .sbool _
      case neq =>
        obtain ⟨u, g1, q1, q2⟩ := bind_ok h
        obtain ⟨rfl, rfl⟩ := pure_ok q2
        obtain ⟨b, L, h1, h2, h3, h4, h5⟩ := equalA_ok q1 p hx hy hn
        refine ⟨σ, .bool (!b), w, L, h2, ?_, by simp [h3, h5]⟩
        rcases h1 with rfl | rfl
        · cases b
          · exact .bool _
          · exact .bool _
        · exact .sbool _

/-! ### Assertions and parts of tuples -/
theorem typeAssertA_sound {P : Program} {σ : Sg} {w : World} {xt t : TypeId} {ok : Bool} {x v : AV} {X : Value} (h : typeAssertA P x t ok = some v) (hx : VR σ x X) :
    ∃ V, (Instr.typeAssert X xt t ok).run P w = .ok V w ∧ VR σ v V := by
  unfold typeAssertA at h
  cases hu : P.underlying t with
  | none => rw [hu] at h; cases h
  | some d =>
    rw [hu] at h
    have hni : ∀ ms, d ≠ .interface ms := fun ms e => by subst e; cases h
    have key : (∃ v0, ok = true ∧ x = .nilIface ∧ zeroT P t = some v0 ∧ v = .tup [v0, .bool false]) ∨
        (∃ u t', x = .iface t' u ∧ ((t' = t ∧ v = (if ok then .tup [u, .bool true] else u)) ∨ (t' ≠ t ∧ ok = true ∧ ∃ z, zeroT P t = some z ∧ v = .tup [z, .bool false]))) := by
      cases d <;> first | exact absurd rfl (hni _) | skip
      all_goals
        simp only at h
        split at h
        · split at h
          · rename_i z hz; injection h with h; exact .inl ⟨z, rfl, rfl, hz, h.symm⟩
          · cases h
        · rename_i t' u
          split at h
          · rename_i e; injection h with h; exact .inr ⟨u, t', rfl, .inl ⟨of_beq e, h.symm⟩⟩
          · rename_i e
            split at h
            · rename_i z hz; injection h with h; exact .inr ⟨u, t', rfl, .inr ⟨of_beqf e, rfl, z, hz, h.symm⟩⟩
            · cases h
        · rename_i t' u
          split at h
          · rename_i e; injection h with h; exact .inr ⟨u, t', rfl, .inl ⟨of_beq e, h.symm⟩⟩
          · cases h
        · cases h
    rcases key with ⟨z, rfl, rfl, hz, rfl⟩ | ⟨u, t', rfl, key⟩
    · cases hx
      obtain ⟨Z, z1, z2⟩ := r_zero (P := P) (w := w) σ hz
      refine ⟨.tuple #[Z, .bool false], ?_, .tup (Cs := [Z, .bool false]) (.cons z2 (.cons (.bool _) .nil))⟩
      cases d <;> first | exact absurd rfl (hni _) | simp [Instr.typeAssert, r_und hu, z1]
    · cases hx with | iface hu' =>
      rename_i U
      rcases key with ⟨rfl, rfl⟩ | ⟨hne, rfl, z, hz, rfl⟩
      · cases ok with
        | true =>
          refine ⟨.tuple #[U, .bool true], ?_, .tup (Cs := [U, .bool true]) (.cons hu' (.cons (.bool _) .nil))⟩
          cases d <;> first | exact absurd rfl (hni _) | simp [Instr.typeAssert, r_und hu]
        | false =>
          refine ⟨U, ?_, hu'⟩
          cases d <;> first | exact absurd rfl (hni _) | simp [Instr.typeAssert, r_und hu]
      · obtain ⟨Z, z1, z2⟩ := r_zero (P := P) (w := w) σ hz
        refine ⟨.tuple #[Z, .bool false], ?_, .tup (Cs := [Z, .bool false]) (.cons z2 (.cons (.bool _) .nil))⟩
        cases d <;> first | exact absurd rfl (hni _) | simp [Instr.typeAssert, r_und hu, hne, z1]

/-! ### Maps -/
theorem findA_sound {σ : Sg} {k : IntKind} {n : Int} (kk : IntKind) : ∀ (es : List (AV × AV)) (Es : List MapEntry) (i : Nat), MRs σ es Es →
    (∀ j v, findA n k es i = .at j v → ∃ V E, Instr.findNow (.int kk) (.int k n) Es i = some (some (j, V)) ∧ VR σ v V ∧ i ≤ j ∧ Es[j - i]? = some E ∧ E.key = .int k n) ∧
    (findA n k es i = .absent → Instr.findNow (.int kk) (.int k n) Es i = some none)
  | [], [], i, _ => ⟨fun j v h => (by cases h), fun _ => rfl⟩
  | (key, v0) :: es, E :: Es, i, ⟨hk, hv, hr⟩ => by
    obtain ⟨ih1, ih2⟩ := findA_sound (k := k) (n := n) kk es Es (i + 1) hr
    have hdef : findA n k ((key, v0) :: es) i = (match key with
      | .int k' m => (match sameK k k' with
        | true => (match eqF n m with
          | true => .at i v0
          | false => findA n k es (i + 1))
        | false => .bad)
      | _ => .bad) := by cases key <;> rfl
    rw [hdef]
    cases key <;> first | exact ⟨fun j v h => (by cases h), fun h => (by cases h)⟩ | skip
    rename_i k' m
    have hE := int_inv hk
    simp only
    cases hs : sameK k k' with
    | false => exact ⟨fun j v h => (by cases h), fun h => (by cases h)⟩
    | true =>
      have hs := sameK_eq hs
      subst hs
      simp only
      rw [eqF_eq]
      have hstep : Instr.findNow (.int kk) (.int k n) (E :: Es) i = if n = m then some (some (i, E.val)) else Instr.findNow (.int kk) (.int k n) Es (i + 1) := by
        simp only [Instr.findNow, hE, Instr.sameNow, if_true]
        by_cases hnm : n = m
        · simp [hnm]
        · have : (n == m) = false := by simpa using hnm
          simp [hnm, this]
      by_cases hnm : n = m
      · subst hnm
        rw [if_pos rfl] at hstep
        refine ⟨fun j v h => ?_, fun h => ?_⟩
        · simp at h; obtain ⟨rfl, rfl⟩ := h; exact ⟨E.val, E, hstep, hv, Nat.le_refl _, by simp, hE⟩
        · simp at h
      · rw [if_neg hnm] at hstep
        have e0 : (n == m) = false := by simpa using hnm
        rw [e0]
        refine ⟨fun j v h => ?_, fun h => ?_⟩
        · obtain ⟨V, E', a, b, c, d, e⟩ := ih1 j v h
          exact ⟨V, E', hstep.trans a, b, by omega, by rw [show j - i = (j - (i + 1)) + 1 from by omega]; simpa using d, e⟩
        · exact hstep.trans (ih2 h)
  | [], _ :: _, _, h => by cases h
  | _ :: _, [], _, h => by cases h
theorem mapInt_some {P : Program} {t e : TypeId} (h : mapInt P t = some e) : ∃ k kk, P.underlying t = some (.map k e) ∧ P.underlying k = some (.int kk) := by
  unfold mapInt at h
  split at h
  · rename_i k e' hu
    split at h
    · rename_i kk hk; injection h with h; subst h; exact ⟨k, kk, hu, hk⟩
    · cases h
  · cases h
theorem run_getObj_chan {P : Program} {w : World} {b n s r : Nat} {c : Array Value} {d t : Bool} (h : w.heap[b]? = some (.chan n c d s r t)) : (getObj b).run P w = .ok (.chan n c d s r t) w := by
  simp [getObj, Sem.run, h]
theorem run_getObj_map {P : Program} {w : World} {b : Nat} {Es : Array MapEntry} {cl : Nat} (h : w.heap[b]? = some (.map Es cl)) : (getObj b).run P w = .ok (.map Es cl) w := by
  simp [getObj, Sem.run, h]
theorem run_setObj_map {P : Program} {w : World} {b : Nat} {Es Fs : Array MapEntry} {cl c2 : Nat} (h : w.heap[b]? = some (.map Es cl)) : (setObj b (.map Fs c2)).run P w = .ok () (replaced w b (.map Fs c2)) := by
  simp [setObj, Sem.run, h, replaced]
theorem run_checkKey {P : Program} {w : World} {b : Bool} {t : TypeId} {kk k : IntKind} {n : Int} (h : P.underlying t = some (.int kk)) : (Instr.checkKey b 10000 t (.int k n)).run P w = .ok () w := by
  have : ∀ m, (Instr.checkKey b (m + 1) t (.int k n)).run P w = .ok () w := fun m => by simp [Instr.checkKey, r_und h]
  exact this 9999
theorem run_findKey {P : Program} {w : World} {t : TypeId} {kk k : IntKind} {n : Int} {Es : List MapEntry} {r : Option (Nat × Value)} (h : P.underlying t = some (.int kk)) (hf : Instr.findNow (.int kk) (.int k n) Es 0 = some r) :
    (Instr.findKey t (.int k n) Es).run P w = .ok r w := by
  simp [Instr.findKey, r_und h, hf]

theorem allPlain_mem {P : Program} : ∀ {fs : List Field}, allPlain P fs = true → ∀ f ∈ fs, f.name ≠ "_" ∧ ((∃ k, P.underlying f.type = some (.int k)) ∨ P.underlying f.type = some .bool)
  | g :: fs, h, f, hf => by
    simp only [allPlain, Bool.and_eq_true] at h
    rcases List.mem_cons.1 hf with rfl | hf
    · have h1 := h.1
      unfold plainF at h1
      split at h1
      · cases h1
      · rename_i hn
        have hn : f.name ≠ "_" := by simpa using hn
        split at h1
        · rename_i k e; exact ⟨hn, .inl ⟨k, e⟩⟩
        · rename_i e; exact ⟨hn, .inr e⟩
        · cases h1
    · exact allPlain_mem h.2 f hf
theorem partsOk_mem {cs : List AV} : ∀ {fs : List Field}, partsOk cs fs = true → ∀ f ∈ fs, ∃ v, cs[f.offset]? = some v
  | g :: fs, h, f, hf => by
    simp only [partsOk, Bool.and_eq_true] at h
    rcases List.mem_cons.1 hf with rfl | hf
    · have h1 := h.1
      split at h1
      · rename_i v e; exact ⟨v, e⟩
      · cases h1
    · exact partsOk_mem h.2 f hf
theorem mapAgg_some {P : Program} {t k e : TypeId} {fs : List Field} (h : mapAgg P t = some (k, e, fs)) : P.underlying t = some (.map k e) ∧ ∃ fa : Array Field, P.underlying k = some (.struct fa) ∧ fs = fa.toList ∧ allPlain P fs = true := by
  unfold mapAgg at h
  split at h
  · rename_i k' e' hu
    split at h
    · rename_i fa hk
      split at h
      · rename_i ha
        injection h with h; injection h with h1 h2; injection h2 with h2 h3
        subst h1; subst h2; subst h3
        exact ⟨hu, fa, hk, rfl, ha⟩
      · cases h
    · cases h
  · cases h
theorem run_checkKeyG {P : Program} {σ : Sg} {w : World} {b : Bool} {kt : TypeId} {fa : Array Field} (hu : P.underlying kt = some (.struct fa)) (hall : allPlain P fa.toList = true) {cs : List AV} {Cs : List Value} (hC : VRs σ cs Cs)
    (hp : partsOk cs fa.toList = true) : (Instr.checkKey b 10000 kt (.agg Cs.toArray)).run P w = .ok () w := by
  show (Instr.checkKey b (9999 + 1) kt (.agg Cs.toArray)).run P w = .ok () w
  rw [Instr.checkKey]
  simp only [Sem.run_bind, r_und hu, Result.andThen_ok]
  rw [← Array.forIn_toList]
  have hm := allPlain_mem hall
  have hq := partsOk_mem hp
  clear hall hp hu
  generalize fa.toList = L at hm hq
  induction L with
  | nil => simp
  | cons f L ih =>
    obtain ⟨hn, hk⟩ := hm f (by simp)
    obtain ⟨v, hv⟩ := hq f (by simp)
    obtain ⟨V, h1, h2⟩ := hC.get hv
    have hcell : kindT P f.type = .cell := by
      rcases hk with ⟨k, e⟩ | e <;> simp [kindT, e]
    have p1 : (part f.type Cs.toArray f.offset).run P w = .ok V w := by
      simp [part, r_isAgg_f hcell, h1]
    have p2 : (Instr.checkKey b 9999 f.type V).run P w = .ok () w := by
      have : ∀ m, (Instr.checkKey b (m + 1) f.type V).run P w = .ok () w := fun m => by
        rcases hk with ⟨k, e⟩ | e <;> simp [Instr.checkKey, r_und e]
      exact this 9998
    simp only [List.forIn_cons, Sem.run_bind, hn, ne_eq, not_false_eq_true, if_true, Result.andThen_ok, p1, p2, Sem.run_pure]
    exact ih (fun y hy => hm y (by simp [hy])) (fun y hy => hq y (by simp [hy]))
theorem run_findKeyG {P : Program} {w : World} {kt : TypeId} {fa : Array Field} {K : Value} {Es : List MapEntry} {r : Option (Nat × Value)} (hu : P.underlying kt = some (.struct fa)) (hf : (Instr.findAsking kt K Es 0).run P w = .ok r w) :
    (Instr.findKey kt K Es).run P w = .ok r w := by
  have hnow : ∀ (Es : List MapEntry) (i : Nat), Instr.findNow (.struct fa) K Es i = none ∨ Es = [] := by
    intro Es i
    cases Es with
    | nil => exact .inr rfl
    | cons E Es => left; simp [Instr.findNow, Instr.sameNow]
  simp only [Instr.findKey, Sem.run_bind, r_und hu, Result.andThen_ok]
  rcases hnow Es 0 with h | h
  · rw [h]; exact hf
  · subst h
    simp only [Instr.findAsking, Sem.run_pure] at hf
    simp only [Instr.findNow, Sem.run_pure]; exact hf
theorem relEmpty (P : Program) (σ : Sg) (w : World) : Rel P σ (fun _ _ => True) (⟨.lf, 0, [], [], []⟩ : G) w :=
  ⟨fun i blk hg => (by cases hg), fun i blk o c b cap hg => (by cases hg), fun i j bi bj b c c' hg => (by cases hg)⟩
theorem findG_sound {P : Program} {σ : Sg} {w : World} {kt : TypeId} {key : AV} {K : Value} (hK : VR σ key K) : ∀ (es : List (AV × AV)) (Es : List MapEntry) (i : Nat), MRs σ es Es →
    (∀ j v, findG P kt key es i = .at j v → ∃ V, (Instr.findAsking kt K Es i).run P w = .ok (some (j, V)) w ∧ VR σ v V) ∧
    (findG P kt key es i = .absent → (Instr.findAsking kt K Es i).run P w = .ok none w)
  | [], [], i, _ => ⟨fun j v h => (by cases h), fun _ => by simp [Instr.findAsking]⟩
  | (k', v0) :: es, E :: Es, i, ⟨hk, hv, hr⟩ => by
    obtain ⟨ih1, ih2⟩ := findG_sound (w := w) hK es Es (i + 1) hr
    have hdef : findG P kt key ((k', v0) :: es) i = (match aeq P .lf 12 kt key k' with
      | some r => match r.sym with
        | false => match r.b with
          | true => .at i v0
          | false => findG P kt key es (i + 1)
        | true => .bad
      | none => .bad) := rfl
    rw [hdef]
    cases he : aeq P .lf 12 kt key k' with
    | none => exact ⟨fun j v h => (by cases h), fun h => (by cases h)⟩
    | some r =>
      simp only
      cases hs : r.sym with
      | true => exact ⟨fun j v h => (by cases h), fun h => (by cases h)⟩
      | false =>
        simp only
        have heq : (Op.equal kt K E.key).run P w = .ok r.b w := aeq_sound (relEmpty P σ w) 12 10000 kt key k' r K E.key (by omega) he hK hk fun _ _ => ⟨0, trivial⟩
        cases hb : r.b with
        | true =>
          rw [hb] at heq
          refine ⟨fun j v h => ?_, fun h => (by cases h)⟩
          injection h with h1 h2; subst h1; subst h2
          exact ⟨E.val, by simp [Instr.findAsking, heq], hv⟩
        | false =>
          rw [hb] at heq
          have hstep : (Instr.findAsking kt K (E :: Es) i).run P w = (Instr.findAsking kt K Es (i + 1)).run P w := by simp [Instr.findAsking, heq]
          rw [hstep]
          exact ⟨ih1, ih2⟩
  | [], _ :: _, _, h => by cases h
  | _ :: _, [], _, h => by cases h
theorem entriesA_sound {P : Program} {T : Tp} {hi : Nat} {σ : Sg} {g g1 : G} {w : World} {x : AV} {X : Value} {es : List (AV × AV)} (h1 : entriesA x g = .ok es g1) (hx : VR σ x X) (p : Pre P T hi σ g w g1) :
    ∃ (Es : Array MapEntry) (L : List Tch), MRs σ es Es.toList ∧ Post P T σ g w σ g1 w L ∧ ((X = .map none ∧ Es = #[]) ∨ ∃ b cl, X = .map (some b) ∧ w.heap[b]? = some (.map Es cl)) := by
  cases x <;> simp only [entriesA] at h1 <;> first | (exact (no_ok h1).elim; done) | skip
  case nilMap =>
    obtain ⟨rfl, rfl⟩ := pure_ok h1
    cases hx
    exact ⟨#[], [], trivial, Post.refl p.rel, .inl ⟨rfl, rfl⟩⟩
  case map m =>
    cases hx with | map hσ =>
    rename_i b cap
    obtain ⟨_, hlog⟩ := getMap_ok h1
    obtain ⟨b', cap', Es, clock, q1, q2, q3, q4⟩ := getMap_sound h1 p.rel (p.inT _ (by rw [hlog]; rfl))
    rw [hσ] at q1; injection q1 with q1; injection q1 with q1 _; subst q1
    exact ⟨Es, _, q3, q4, .inr ⟨b, clock, rfl, q2⟩⟩
theorem lookupM_sound {P : Program} {T : Tp} {hi : Nat} {σ : Sg} {g : G} {w : World} {t kt e : TypeId} {ok : Bool} {x : AV} {X : Value} {cs : List AV} {Cs : List Value} {fa : Array Field} (hu : P.underlying t = some (.map kt e)) (hk : P.underlying kt = some (.struct fa))
    (hall : allPlain P fa.toList = true) (hpo : partsOk cs fa.toList = true) (hx : VR σ x X) (hI : VR σ (.agg cs) (.agg Cs.toArray)) (hC : VRs σ cs Cs) :
    VSound P T hi σ g w (lookupM P kt e x cs ok) (Instr.lookup t X (.agg Cs.toArray) ok) := by
  intro v g' h p
  unfold lookupM at h
  obtain ⟨es, g1, h1, h2⟩ := bind_ok h
  have hg' : g' = g1 := by
    revert h2; cases findG P kt (.agg cs) es 0 <;> intro h2 <;> simp only at h2
    · exact (pure_ok h2).2
    · revert h2; cases zeroT P e <;> intro h2 <;> simp only at h2
      · exact (no_ok h2).elim
      · exact (pure_ok h2).2
    · exact (no_ok h2).elim
  subst hg'
  obtain ⟨Es, L, hE, hP, hX⟩ := entriesA_sound h1 hx p
  have hck : ∀ b, (Instr.checkKey b 10000 kt (.agg Cs.toArray)).run P w = .ok () w := fun b => run_checkKeyG hk hall hC hpo
  have hrun : ∀ (r : Option (Nat × Value)) (Z : Value), (Instr.findKey kt (.agg Cs.toArray) Es.toList).run P w = .ok r w → (r = none → (zeroValue e).run P w = .ok Z w) →
      (Instr.lookup t X (.agg Cs.toArray) ok).run P w = .ok (match r with
        | some (_, V) => if ok then .tuple #[V, .bool true] else V
        | none => if ok then .tuple #[Z, .bool false] else Z) w := by
    intro r Z h1 h2
    rcases hX with ⟨rfl, rfl⟩ | ⟨b, cl, rfl, hb⟩
    · cases r with
      | none => simp [Instr.lookup, r_und hu, hck, h1, h2 rfl]
      | some q => obtain ⟨j, V⟩ := q; simp [Instr.lookup, r_und hu, hck, h1]
    · cases r with
      | none => simp [Instr.lookup, r_und hu, run_getObj_map hb, hck, h1, h2 rfl]
      | some q => obtain ⟨j, V⟩ := q; simp [Instr.lookup, r_und hu, run_getObj_map hb, hck, h1]
  obtain ⟨f1, f2⟩ := findG_sound (P := P) (w := w) (kt := kt) hI es Es.toList 0 hE
  revert h2; cases hf : findG P kt (.agg cs) es 0 <;> intro h2 <;> simp only at h2
  case «at» j v0 =>
    obtain ⟨rfl, _⟩ := pure_ok h2
    obtain ⟨V, a, b⟩ := f1 j v0 hf
    refine ⟨σ, if ok then .tuple #[V, .bool true] else V, w, L, hP, ?_, ?_⟩
    · cases ok with
      | true => exact .tup (Cs := [V, .bool true]) (.cons b (.cons (.bool _) .nil))
      | false => exact b
    · exact hrun _ .nilFunc (run_findKeyG hk a) (fun h => by cases h)
  case absent =>
    cases hz : zeroT P e with
    | none => rw [hz] at h2; exact (no_ok h2).elim
    | some z =>
      rw [hz] at h2
      obtain ⟨rfl, _⟩ := pure_ok h2
      obtain ⟨Z, z1, z2⟩ := r_zero (P := P) (w := w) σ hz
      refine ⟨σ, if ok then .tuple #[Z, .bool false] else Z, w, L, hP, ?_, ?_⟩
      · cases ok with
        | true => exact .tup (Cs := [Z, .bool false]) (.cons z2 (.cons (.bool _) .nil))
        | false => exact z2
      · exact hrun _ Z (run_findKeyG hk (f2 hf)) (fun _ => z1)
  case bad => exact (no_ok h2).elim
/-- entries in an order of the canonical list: each is held against the key, and one at most is the key's -/
theorem findU_sound {P : Program} {σ : Sg} {w : World} {kt : TypeId} {key : AV} {K : Value} (hK : VR σ key K) : ∀ (es : List (AV × AV)) (Es : List MapEntry) (r : Option AV), MRs σ es Es →
    (∀ j v, findU P kt key es r = .at j v → (∀ E ∈ Es, ∃ b, (Op.equal kt K E.key).run P w = .ok b w ∧ (b = true → VR σ v E.val)) ∧ ((r = some v ∧ ∀ E ∈ Es, (Op.equal kt K E.key).run P w = .ok false w) ∨ (r = none ∧ ∃ E ∈ Es, (Op.equal kt K E.key).run P w = .ok true w))) ∧
    (findU P kt key es r = .absent → r = none ∧ ∀ E ∈ Es, (Op.equal kt K E.key).run P w = .ok false w)
  | [], [], r, _ => by
    cases r with
    | none => exact ⟨fun j v h => (by cases h), fun _ => ⟨rfl, fun E hE => (by cases hE)⟩⟩
    | some u =>
      refine ⟨fun j v h => ?_, fun h => (by cases h)⟩
      have h : KeyR.at 0 u = KeyR.at j v := h
      injection h with _ h; subst h
      exact ⟨fun E hE => (by cases hE), .inl ⟨rfl, fun E hE => (by cases hE)⟩⟩
  | (k', v0) :: es, E :: Es, r, ⟨hk, hv, hr⟩ => by
    have hdef : findU P kt key ((k', v0) :: es) r = (match aeq P .lf 12 kt key k' with
      | some q => match q.sym with
        | false => match q.b with
          | true => match r with
            | none => findU P kt key es (some v0)
            | some _ => .bad
          | false => findU P kt key es r
        | true => .bad
      | none => .bad) := by cases r <;> rfl
    rw [hdef]
    cases he : aeq P .lf 12 kt key k' with
    | none => exact ⟨fun j v h => (by cases h), fun h => (by cases h)⟩
    | some q =>
      simp only
      cases hs : q.sym with
      | true => exact ⟨fun j v h => (by cases h), fun h => (by cases h)⟩
      | false =>
        simp only
        have heq : (Op.equal kt K E.key).run P w = .ok q.b w := aeq_sound (relEmpty P σ w) 12 10000 kt key k' q K E.key (by omega) he hK hk fun _ _ => ⟨0, trivial⟩
        cases hb : q.b with
        | true =>
          rw [hb] at heq
          cases r with
          | some u => exact ⟨fun j v h => (by cases h), fun h => (by cases h)⟩
          | none =>
            simp only
            obtain ⟨i1, i2⟩ := findU_sound hK es Es (some v0) hr
            refine ⟨fun j v h => ?_, fun h => ?_⟩
            · obtain ⟨a, c⟩ := i1 j v h
              rcases c with ⟨c1, c2⟩ | ⟨c1, _⟩
              · injection c1 with c1; subst c1
                refine ⟨fun F hF => ?_, .inr ⟨trivial, E, List.mem_cons_self, heq⟩⟩
                rcases List.mem_cons.1 hF with rfl | hF
                · exact ⟨true, heq, fun _ => hv⟩
                · exact a F hF
              · cases c1
            · have := (i2 h).1; cases this
        | false =>
          rw [hb] at heq
          simp only
          obtain ⟨i1, i2⟩ := findU_sound hK es Es r hr
          refine ⟨fun j v h => ?_, fun h => ?_⟩
          · obtain ⟨a, c⟩ := i1 j v h
            refine ⟨fun F hF => ?_, ?_⟩
            · rcases List.mem_cons.1 hF with rfl | hF
              · exact ⟨false, heq, fun h => (by cases h)⟩
              · exact a F hF
            · rcases c with ⟨c1, c2⟩ | ⟨c1, F, hF, c2⟩
              · refine .inl ⟨c1, fun F hF => ?_⟩
                rcases List.mem_cons.1 hF with rfl | hF
                · exact heq
                · exact c2 F hF
              · exact .inr ⟨c1, F, List.mem_cons_of_mem _ hF, c2⟩
          · obtain ⟨a, c⟩ := i2 h
            refine ⟨a, fun F hF => ?_⟩
            rcases List.mem_cons.1 hF with rfl | hF
            · exact heq
            · exact c F hF
  | [], _ :: _, _, h => by cases h
  | _ :: _, [], _, h => by cases h
theorem asking_none {P : Program} {w : World} {kt : TypeId} {K : Value} : ∀ (Es : List MapEntry) (i : Nat), (∀ E ∈ Es, (Op.equal kt K E.key).run P w = .ok false w) → (Instr.findAsking kt K Es i).run P w = .ok none w
  | [], i, _ => by simp [Instr.findAsking]
  | E :: Es, i, h => by simp [Instr.findAsking, h E List.mem_cons_self, asking_none Es (i + 1) fun F hF => h F (List.mem_cons_of_mem _ hF)]
theorem asking_some {P : Program} {w : World} {kt : TypeId} {K : Value} {Q : Value → Prop} : ∀ (Es : List MapEntry) (i : Nat), (∀ E ∈ Es, ∃ b, (Op.equal kt K E.key).run P w = .ok b w ∧ (b = true → Q E.val)) →
    (∃ E ∈ Es, (Op.equal kt K E.key).run P w = .ok true w) → ∃ j V, (Instr.findAsking kt K Es i).run P w = .ok (some (j, V)) w ∧ Q V
  | [], _, _, ⟨_, h, _⟩ => by cases h
  | E :: Es, i, h, hex => by
    obtain ⟨b, h1, h2⟩ := h E List.mem_cons_self
    cases b with
    | true => exact ⟨i, E.val, by simp [Instr.findAsking, h1], h2 rfl⟩
    | false =>
      obtain ⟨F, hF, h3⟩ := hex
      have hF' : F ∈ Es := by
        rcases List.mem_cons.1 hF with rfl | hF
        · rw [h1] at h3; cases h3
        · exact hF
      obtain ⟨j, V, a, c⟩ := asking_some (Q := Q) Es (i + 1) (fun G hG => h G (List.mem_cons_of_mem _ hG)) ⟨F, hF', h3⟩
      exact ⟨j, V, by simp [Instr.findAsking, h1, a], c⟩
theorem lookupP_sound {P : Program} {T : Tp} {hi : Nat} {σ : Sg} {g : G} {w : World} {t kt e : TypeId} {ok : Bool} {i : Nat} {X : Value} {cs : List AV} {Cs : List Value} {fa : Array Field} {es : List (AV × AV)} (hu : P.underlying t = some (.map kt e)) (hk : P.underlying kt = some (.struct fa))
    (hall : allPlain P fa.toList = true) (hpo : partsOk cs fa.toList = true) (hx : VR σ (.map i) X) (hI : VR σ (.agg cs) (.agg Cs.toArray)) (hC : VRs σ cs Cs) (hg : g.heap.get i = some (.pmap es)) :
    VSound P T hi σ g w (lookupP P kt e i es (.agg cs) ok) (Instr.lookup t X (.agg Cs.toArray) ok) := by
  intro v g' h p
  unfold lookupP at h
  obtain ⟨u, g1, h1, h2⟩ := bind_ok h
  have hg' : g' = g1 := by
    revert h2; cases findU P kt (.agg cs) es none <;> intro h2 <;> simp only at h2
    · exact (pure_ok h2).2
    · revert h2; cases zeroT P e <;> intro h2 <;> simp only at h2
      · exact (no_ok h2).elim
      · exact (pure_ok h2).2
    · exact (no_ok h2).elim
  subst hg'
  have hg1 := touch_ok h1
  have hin := p.inT [⟨i, 0, 1, false⟩] (by rw [hg1]; rfl)
  cases hx with | map hσ =>
  rename_i b cap
  have h0 : T i 0 := hin _ List.mem_cons_self 0 (.inr (by simp))
  obtain ⟨Es, cl, Fs, c1, c2, c3⟩ := p.rel.ct i _ 0 (.pmap es) b cap hg rfl h0 hσ
  have hP : Post P T σ g w σ g' w [⟨i, 0, 1, false⟩] := by rw [hg1]; exact Post.logs p.rel
  have hck : ∀ b, (Instr.checkKey b 10000 kt (.agg Cs.toArray)).run P w = .ok () w := fun b => run_checkKeyG hk hall hC hpo
  have hrun : ∀ (r : Option (Nat × Value)) (Z : Value), (Instr.findKey kt (.agg Cs.toArray) Es.toList).run P w = .ok r w → (r = none → (zeroValue e).run P w = .ok Z w) →
      (Instr.lookup t (.map (some b)) (.agg Cs.toArray) ok).run P w = .ok (match r with
        | some (_, V) => if ok then .tuple #[V, .bool true] else V
        | none => if ok then .tuple #[Z, .bool false] else Z) w := by
    intro r Z h1 h2
    cases r with
    | none => simp [Instr.lookup, r_und hu, run_getObj_map c1, hck, h1, h2 rfl]
    | some q => obtain ⟨j, V⟩ := q; simp [Instr.lookup, r_und hu, run_getObj_map c1, hck, h1]
  obtain ⟨f1, f2⟩ := findU_sound (P := P) (w := w) (kt := kt) hI es Fs none c3
  revert h2; cases hf : findU P kt (.agg cs) es none <;> intro h2 <;> simp only at h2
  case «at» j v0 =>
    obtain ⟨rfl, _⟩ := pure_ok h2
    obtain ⟨a, d⟩ := f1 j v0 hf
    rcases d with ⟨d, _⟩ | ⟨_, E, hE, d⟩
    · cases d
    · obtain ⟨j', V, q1, q2⟩ := asking_some (Q := fun V => VR σ v0 V) Es.toList 0 (fun E hE => a E (c2.symm.subset hE)) ⟨E, c2.subset hE, d⟩
      refine ⟨σ, if ok then .tuple #[V, .bool true] else V, w, _, hP, ?_, ?_⟩
      · cases ok with
        | true => exact .tup (Cs := [V, .bool true]) (.cons q2 (.cons (.bool _) .nil))
        | false => exact q2
      · exact hrun _ .nilFunc (run_findKeyG hk q1) (fun h => by cases h)
  case absent =>
    cases hz : zeroT P e with
    | none => rw [hz] at h2; exact (no_ok h2).elim
    | some z =>
      rw [hz] at h2
      obtain ⟨rfl, _⟩ := pure_ok h2
      obtain ⟨Z, z1, z2⟩ := r_zero (P := P) (w := w) σ hz
      have hn := asking_none Es.toList 0 fun E hE => (f2 hf).2 E (c2.symm.subset hE)
      refine ⟨σ, if ok then .tuple #[Z, .bool false] else Z, w, _, hP, ?_, ?_⟩
      · cases ok with
        | true => exact .tup (Cs := [Z, .bool false]) (.cons z2 (.cons (.bool _) .nil))
        | false => exact z2
      · exact hrun _ Z (run_findKeyG hk hn) (fun _ => z1)
  case bad => exact (no_ok h2).elim
theorem lookupG_sound {P : Program} {T : Tp} {hi : Nat} {σ : Sg} {g : G} {w : World} {t : TypeId} {ok : Bool} {x i : AV} {X I : Value} (hx : VR σ x X) (hi' : VR σ i I) :
    VSound P T hi σ g w (lookupG P t x i ok) (Instr.lookup t X I ok) := by
  intro v g' h p
  unfold lookupG at h
  cases hm : mapAgg P t with
  | none => rw [hm] at h; exact (no_ok h).elim
  | some kef =>
    obtain ⟨kt, e, fs⟩ := kef
    rw [hm] at h
    obtain ⟨hu, fa, hk, rfl, hall⟩ := mapAgg_some hm
    cases i <;> simp only at h <;> first | (exact (no_ok h).elim; done) | skip
    rename_i cs
    cases hpo : partsOk cs fa.toList with
    | false => rw [hpo] at h; exact (no_ok h).elim
    | true =>
    rw [hpo] at h
    have hI := hi'
    obtain ⟨Cs, rfl, hC⟩ := hi'.agg_inv
    simp only at h
    cases him : isMap x with
    | false => rw [him] at h; exact lookupM_sound hu hk hall hpo hx hI hC v g' h p
    | true =>
      rw [him] at h
      simp only at h
      cases hpm : isPM (g.heap.get (mapId x)) with
      | none => rw [hpm] at h; exact lookupM_sound hu hk hall hpo hx hI hC v g' h p
      | some es =>
        rw [hpm] at h
        cases x <;> simp only [isMap] at him <;> first | (cases him; done) | skip
        rename_i m
        have hg : g.heap.get m = some (.pmap es) := by
          have hpm : isPM (g.heap.get m) = some es := hpm
          cases hb : g.heap.get m with
          | none => rw [hb] at hpm; cases hpm
          | some blk => rw [hb] at hpm; cases blk <;> first | (cases hpm; done) | (injection hpm with hpm; subst hpm; rfl)
        exact lookupP_sound hu hk hall hpo hx hI hC hg v g' h p
theorem lookupA_sound {P : Program} {T : Tp} {hi : Nat} {σ : Sg} {g : G} {w : World} {t : TypeId} {ok : Bool} {x i : AV} {X I : Value} (hx : VR σ x X) (hi' : VR σ i I) :
    VSound P T hi σ g w (lookupA P t x i ok) (Instr.lookup t X I ok) := by
  intro v g' h p
  unfold lookupA at h
  cases hm : mapInt P t with
  | none => rw [hm] at h; exact lookupG_sound hx hi' v g' h p
  | some e =>
    rw [hm] at h
    obtain ⟨kt, kk, hu, hk⟩ := mapInt_some hm
    cases i <;> simp only at h <;> first | (exact (no_ok h).elim; done) | skip
    rename_i k n
    cases hi'
    obtain ⟨es, g1, h1, h2⟩ := bind_ok h
    -- the entries
    have hent : ∃ (Es : Array MapEntry) (L : List Tch), MRs σ es Es.toList ∧ Post P T σ g w σ g1 w L ∧
        ((X = .map none ∧ Es = #[]) ∨ ∃ b cl, X = .map (some b) ∧ w.heap[b]? = some (.map Es cl)) ∧ g' = g1 := by
      have hg' : g' = g1 := by
        revert h2; cases findA n k es 0 <;> intro h2 <;> simp only at h2
        · exact (pure_ok h2).2
        · revert h2; cases zeroT P e <;> intro h2 <;> simp only at h2
          · exact (no_ok h2).elim
          · exact (pure_ok h2).2
        · exact (no_ok h2).elim
      subst hg'
      cases x <;> simp only at h1 <;> first | (exact (no_ok h1).elim; done) | skip
      case nilMap =>
        obtain ⟨rfl, rfl⟩ := pure_ok h1
        cases hx
        exact ⟨#[], [], trivial, Post.refl p.rel, .inl ⟨rfl, rfl⟩, rfl⟩
      case map m =>
        cases hx with | map hσ =>
        rename_i b cap
        obtain ⟨_, hlog⟩ := getMap_ok h1
        obtain ⟨b', cap', Es, clock, q1, q2, q3, q4⟩ := getMap_sound h1 p.rel (p.inT _ (by rw [hlog]; rfl))
        rw [hσ] at q1; injection q1 with q1; injection q1 with q1 _; subst q1
        exact ⟨Es, _, q3, q4, .inr ⟨b, clock, rfl, q2⟩, rfl⟩
    obtain ⟨Es, L, hE, hP, hX, rfl⟩ := hent
    have hrun : ∀ (r : Option (Nat × Value)) (Z : Value), (Instr.findKey kt (.int k n) Es.toList).run P w = .ok r w → (r = none → (zeroValue e).run P w = .ok Z w) →
        (Instr.lookup t X (.int k n) ok).run P w = .ok (match r with
          | some (_, V) => if ok then .tuple #[V, .bool true] else V
          | none => if ok then .tuple #[Z, .bool false] else Z) w := by
      intro r Z h1 h2
      rcases hX with ⟨rfl, rfl⟩ | ⟨b, cl, rfl, hb⟩
      · cases r with
        | none => simp [Instr.lookup, r_und hu, run_checkKey hk, h1, h2 rfl]
        | some q => obtain ⟨j, V⟩ := q; simp [Instr.lookup, r_und hu, run_checkKey hk, h1]
      · cases r with
        | none => simp [Instr.lookup, r_und hu, run_getObj_map hb, run_checkKey hk, h1, h2 rfl]
        | some q => obtain ⟨j, V⟩ := q; simp [Instr.lookup, r_und hu, run_getObj_map hb, run_checkKey hk, h1]
    obtain ⟨f1, f2⟩ := findA_sound (k := k) (n := n) kk es Es.toList 0 hE
    revert h2; cases hf : findA n k es 0 <;> intro h2 <;> simp only at h2
    case «at» j v0 =>
      obtain ⟨rfl, _⟩ := pure_ok h2
      obtain ⟨V, E, a, b, _⟩ := f1 j v0 hf
      refine ⟨σ, if ok then .tuple #[V, .bool true] else V, w, L, hP, ?_, ?_⟩
      · cases ok with
        | true => exact .tup (Cs := [V, .bool true]) (.cons b (.cons (.bool _) .nil))
        | false => exact b
      · exact hrun _ .nilFunc (run_findKey hk a) (fun h => by cases h)
    case absent =>
      cases hz : zeroT P e with
      | none => rw [hz] at h2; exact (no_ok h2).elim
      | some z =>
        rw [hz] at h2
        obtain ⟨rfl, _⟩ := pure_ok h2
        obtain ⟨Z, z1, z2⟩ := r_zero (P := P) (w := w) σ hz
        refine ⟨σ, if ok then .tuple #[Z, .bool false] else Z, w, L, hP, ?_, ?_⟩
        · cases ok with
          | true => exact .tup (Cs := [Z, .bool false]) (.cons z2 (.cons (.bool _) .nil))
          | false => exact z2
        · exact hrun _ Z (run_findKey hk (f2 hf)) (fun _ => z1)
    case bad => exact (no_ok h2).elim
end Go.Ev
