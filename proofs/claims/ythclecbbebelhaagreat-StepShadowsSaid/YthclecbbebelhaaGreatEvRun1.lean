/-
  A part of the evaluator of the program's code, or of what it was seen to do; its statements are Lean's own. No condition.
-/
import Derived.Test.YthclecbbebelhaaGreatEvPar5
namespace Go.Ev
open Go

section
variable {P : Program} {T : Tp} {hi : Nat} {σ : Sg} {g g' : G} {w : World}
theorem loadA_res {t : TypeId} {a v : AV} {A : Value} (ha : VR σ a A) (h : loadA P t a g = .ok v g') (p : Pre P T hi σ g w g') :
    ∃ addr V L, A = .pointer (some addr) ∧ (loadVar t addr).run P w = .ok V w ∧ VR σ v V ∧ Post P T σ g w σ g' w L := by
  cases a <;> simp only [loadA] at h <;> first | (exact (no_ok h).elim) | skip
  case ptr i o =>
    cases ha with | ptr hσ =>
    rename_i b cap
    revert h; cases hk : kindT P t <;> intro h <;> simp only at h
    case aggr =>
      revert h; cases hn : sizeT P t <;> intro h <;> simp only at h
      case none => exact (no_ok h).elim
      case some n =>
        obtain ⟨l, g1, h1, h2⟩ := bind_ok h
        obtain ⟨rfl, rfl⟩ := pure_ok h2
        obtain ⟨blk, _, _, hg1⟩ := read_ok h1
        obtain ⟨b', cap', c, e, fz, q1, q2, q3, q4, q5, q6, q7⟩ := read_sound h1 p.rel (p.inT _ (by rw [hg1]; rfl))
        rw [hσ] at q1; injection q1 with q1; injection q1 with q1 _; subst q1
        exact ⟨_, _, _, rfl, by simp [loadVar, r_isAgg_t hk, r_size hn, run_loadCells' q2 o n q4], .agg q6, q7⟩
    case cell =>
      obtain ⟨l, g1, h1, h2⟩ := bind_ok h
      match l, h1, h2 with
      | [v'], h1, h2 =>
        obtain ⟨rfl, rfl⟩ := pure_ok h2
        obtain ⟨blk, _, _, hg1⟩ := read_ok h1
        obtain ⟨b', cap', c, e, fz, q1, q2, q3, q4, q5, q6, q7⟩ := read_sound h1 p.rel (p.inT _ (by rw [hg1]; rfl))
        rw [hσ] at q1; injection q1 with q1; injection q1 with q1 _; subst q1
        obtain ⟨V, h5, h6⟩ := q6.get (i := 0) rfl
        have h7 : w.cell? ⟨b, o, none⟩ = some V := by
          rw [cell_of q2]
          rw [List.getElem?_take_of_lt (by omega), List.getElem?_drop] at h5
          simpa using h5
        exact ⟨_, V, _, rfl, by simp [loadVar, r_isAgg_f hk, h7], h6, q7⟩
      | [], _, h2 => exact (no_ok h2).elim
      | _ :: _ :: _, _, h2 => exact (no_ok h2).elim
    case none => exact (no_ok h).elim
  case sptr i o =>
    cases ha with | sptr hσ =>
    rename_i b cap
    revert h; cases hk : kindT P t <;> intro h <;> simp only at h
    case aggr => exact (no_ok h).elim
    case none => exact (no_ok h).elim
    case cell =>
      split at h
      · rename_i e k f n hg
        obtain ⟨d, g1, h1, h2⟩ := bind_ok h
        obtain ⟨r, hr, hg1⟩ := ask_ok h1
        cases d with
        | false => exact (no_ok h2).elim
        | true =>
          obtain ⟨u, g2, h3, h4⟩ := bind_ok h2
          obtain ⟨rfl, rfl⟩ := pure_ok h4
          have hg2 := touch_ok h3
          subst hg1
          have hin := p.inT [⟨i, 0, 0, false⟩] (by rw [hg2]; rfl)
          have hlt : o < n := by
            have := p.owes (decide (o < n), true) (by rw [hg2]; exact List.mem_cons_self)
            simpa using this
          have hT : T i o := hin _ List.mem_cons_self o (.inl rfl)
          obtain ⟨b0, cap0, hs, _⟩ := p.rel.sh i _ hg ⟨o, hT⟩
          rw [hσ] at hs; injection hs with hs; injection hs with hs hs'; subst hs; subst hs'
          obtain ⟨c, e', fz, V, q1, q2, q3⟩ := p.rel.ct i _ o (.cell (.sint k (f o))) b cap hg (by simp [Blk.ct, hlt]) hT hσ
          refine ⟨_, V, [⟨i, 0, 0, false⟩], rfl, by simp [loadVar, r_isAgg_f hk, cell_of q1, q2], q3, ?_⟩
          have := Post.trans (Post.asked (b := decide (o < n)) (d := true) (r := r) p.rel) (Post.logs (i := i) (o := 0) (n := 0) (p.rel.same rfl)) p.fresh (by have := p.hi; rw [hg2] at this; exact this)
          rw [hg2]; simpa using this
      · cases h

def resultOf (tmps : Array Value) : ResultVar → Sem Value
  | .tmp t => pure (tmps.getD t undef)
  | .cell a t => do loadVar t (← asAddr (tmps.getD a undef))
theorem results_eq (fn : Func) (tmps : Array Value) : results fn tmps = (do
    let vs ← fn.results.mapM (resultOf tmps)
    pure (if h : vs.size = 1 then vs[0] else .tuple vs)) := rfl
theorem resultsA_sound {tm : Ts AV} {tmps : Array Value} (ht : TR σ tm tmps) : ∀ (rs : List ResultVar) (g : G) (vs : List AV) (g' : G), resultsA P rs tm g = .ok vs g' → Pre P T hi σ g w g' →
    ∃ Vs L, (rs.mapM (resultOf tmps)).run P w = .ok Vs w ∧ VRs σ vs Vs ∧ Post P T σ g w σ g' w L
  | [], g, vs, g', h, p => by
    obtain ⟨rfl, rfl⟩ := pure_ok h
    exact ⟨[], [], by simp, .nil, Post.refl p.rel⟩
  | .tmp t :: rs, g, vs, g', h, p => by
    simp only [resultsA] at h
    cases e : tm.get t with
    | none => rw [e] at h; exact (no_ok h).elim
    | some v =>
      rw [e] at h
      obtain ⟨us, g1, h1, h2⟩ := bind_ok h
      obtain ⟨rfl, rfl⟩ := pure_ok h2
      obtain ⟨Vs, L, q1, q2, q3⟩ := resultsA_sound ht rs g us g' h1 p
      obtain ⟨V, r1, r2⟩ := ht t v e
      have r3 : tmps.getD t undef = V := by simp [Array.getD_eq_getD_getElem?, r1]
      exact ⟨V :: Vs, L, by simp [List.mapM_cons, resultOf, r3, q1, -Array.getD_eq_getD_getElem?], .cons r2 q2, q3⟩
  | .cell a t :: rs, g, vs, g', h, p => by
    simp only [resultsA] at h
    cases e : tm.get a with
    | none => rw [e] at h; exact (no_ok h).elim
    | some v =>
      rw [e] at h
      obtain ⟨u, g1, h1, h2⟩ := bind_ok h
      obtain ⟨us, g2, h3, h4⟩ := bind_ok h2
      obtain ⟨rfl, rfl⟩ := pure_ok h4
      obtain ⟨M, hM⟩ : ∃ M, Le g1 g' M := by
        have : ∀ (rs : List ResultVar), Mn (resultsA P rs tm) := by
          intro rs
          induction rs with
          | nil => exact Mn.pure
          | cons r rs ih =>
            cases r with
            | tmp t => simp only [resultsA]; split
                       · exact ih.bind fun _ => Mn.pure
                       · exact Mn.no
            | cell a t => simp only [resultsA]; split
                          · exact Mn.loadA.bind fun _ => ih.bind fun _ => Mn.pure
                          · exact Mn.no
        exact this rs _ _ _ h3
      obtain ⟨V, r1, r2⟩ := ht a v e
      obtain ⟨addr, U, L1, s1, s2, s3, s4⟩ := loadA_res r2 h1 (p.first hM)
      obtain ⟨Vs, L, q1, q2, q3⟩ := resultsA_sound ht rs g1 us g' h3 (p.then s4)
      have r3 : tmps.getD a undef = .pointer (some addr) := by rw [Array.getD_eq_getD_getElem?, r1, ← s1]; rfl
      refine ⟨U :: Vs, _, ?_, .cons s3 q2, s4.trans q3 p.fresh p.hi⟩
      simp [List.mapM_cons, resultOf, r3, asAddr, s2, q1, -Array.getD_eq_getD_getElem?]
theorem leave_sound {fn : Func} {tm : Ts AV} {tmps : Array Value} {v : AV} (h : leave P fn tm g = .val v g') (ht : TR σ tm tmps) (p : Pre P T hi σ g w g') :
    ∃ V L, (results fn tmps).run P w = .ok V w ∧ VR σ v V ∧ Post P T σ g w σ g' w L := by
  unfold leave at h
  cases e : resultsA P fn.results.toList tm g with
  | no n => rw [e] at h; cases h
  | ok vs g1 =>
    rw [e] at h
    injection h with h1 h2
    subst h1; subst h2
    obtain ⟨Vs, L, q1, q2, q3⟩ := resultsA_sound ht _ _ _ _ e p
    refine ⟨if h : Vs.toArray.size = 1 then Vs.toArray[0] else .tuple Vs.toArray, L, ?_, ?_, q3⟩
    · rw [results_eq, Array.mapM_eq_mapM_toList]
      simp [q1]
    · cases q2 with
      | nil => exact .tup .nil
      | cons a b =>
        cases b with
        | nil => exact a
        | cons c d => simp [oneOf]; exact .tup (.cons a (.cons c d))
end
end Go.Ev
