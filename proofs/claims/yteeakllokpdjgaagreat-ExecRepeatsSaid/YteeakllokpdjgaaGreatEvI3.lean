/-
  A part of the evaluator of the program's code, or of what it was seen to do; its statements are Lean's own. No condition.
-/
import Derived.Test.YteeakllokpdjgaaGreatEvI2
namespace Go.Ev
open Go

theorem MRs.len {σ : Sg} : ∀ {es : List (AV × AV)} {Es : List MapEntry}, MRs σ es Es → es.length = Es.length
  | [], [], _ => rfl
  | _ :: _, _ :: _, ⟨_, _, h⟩ => congrArg (· + 1) (MRs.len h)
  | [], _ :: _, h => by cases h
  | _ :: _, [], h => by cases h
theorem MRs.snoc {σ : Sg} {k v : AV} {E : MapEntry} (hk : VR σ k E.key) (hv : VR σ v E.val) : ∀ {es : List (AV × AV)} {Es : List MapEntry}, MRs σ es Es → MRs σ (es ++ [(k, v)]) (Es ++ [E])
  | [], [], _ => ⟨hk, hv, trivial⟩
  | (_, _) :: _, _ :: _, ⟨a, b, h⟩ => ⟨a, b, MRs.snoc hk hv h⟩
  | [], _ :: _, h => by cases h
  | _ :: _, [], h => by cases h
theorem MRs.setAt {σ : Sg} {v : AV} {V : Value} (hv : VR σ v V) (f : MapEntry → MapEntry) (hf : ∀ E, (f E).val = V) : ∀ {es : List (AV × AV)} {Es : List MapEntry} (i : Nat) (_ : ∀ E, Es[i]? = some E → (f E).key = E.key), MRs σ es Es →
    MRs σ (Ev.setAt v es i) (Es.modify i f)
  | [], [], _, _, _ => by simp [Ev.setAt, MRs]
  | (_, _) :: _, E :: _, 0, hk, ⟨a, b, h⟩ => by
    have := hk E rfl
    simp only [Ev.setAt, List.modify_zero_cons]
    exact ⟨by rw [this]; exact a, by rw [hf]; exact hv, h⟩
  | (_, _) :: _, _ :: _, i + 1, hk, ⟨a, b, h⟩ => by
    simp only [Ev.setAt, List.modify_succ_cons]
    exact ⟨a, b, MRs.setAt hv f hf i (fun E hE => hk E (by simpa using hE)) h⟩
  | [], _ :: _, _, _, h => by cases h
  | _ :: _, [], _, _, h => by cases h
theorem MRs.dropAt {σ : Sg} : ∀ {es : List (AV × AV)} {Es : List MapEntry} (i : Nat), MRs σ es Es → MRs σ (Ev.dropAt es i) (Es.eraseIdx i)
  | [], [], _, _ => by simp [Ev.dropAt, MRs]
  | (_, _) :: _, _ :: _, 0, ⟨_, _, h⟩ => by simpa [Ev.dropAt] using h
  | (_, _) :: _, _ :: _, i + 1, ⟨a, b, h⟩ => by
    simp only [Ev.dropAt, List.eraseIdx_cons_succ]
    exact ⟨a, b, MRs.dropAt i h⟩
  | [], _ :: _, _, h => by cases h
  | _ :: _, [], _, h => by cases h

theorem mapSetG_sound {P : Program} {T : Tp} {hi : Nat} {σ : Sg} {g : G} {w : World} {t : TypeId} {m k v : AV} {M K V : Value} (hm : VR σ m M) (hk : VR σ k K) (hv : VR σ v V) :
    USound P T hi σ g w (mapSetG P t m k v) (Instr.mapUpdate t M K V) := by
  intro u g' h p
  unfold mapSetG at h
  cases hmi : mapAgg P t with
  | none => rw [hmi] at h; exact (no_ok h).elim
  | some kef =>
    obtain ⟨kt, e, fs⟩ := kef
    rw [hmi] at h
    obtain ⟨hu, fa, hkk, rfl, hall⟩ := mapAgg_some hmi
    cases m <;> simp only at h <;> first | (exact (no_ok h).elim; done) | skip
    cases k <;> simp only at h <;> first | (exact (no_ok h).elim; done) | skip
    rename_i i cs
    cases hpo : partsOk cs fa.toList with
    | false => rw [hpo] at h; exact (no_ok h).elim
    | true =>
    rw [hpo] at h
    have hK := hk
    obtain ⟨Cs, rfl, hC⟩ := hk.agg_inv
    cases hm with | map hσ =>
    rename_i b cap
    obtain ⟨es, g1, h1, h2⟩ := bind_ok h
    obtain ⟨hg, hlog1⟩ := getMap_ok h1
    cases hf : findG P kt (.agg cs) es 0 with
    | «at» j v0 => rw [hf] at h2; exact (no_ok h2).elim
    | bad => rw [hf] at h2; exact (no_ok h2).elim
    | absent =>
    rw [hf] at h2
    have hs : setMap i (es ++ [(.agg cs, v)]) g1 = .ok u g' := h2
    obtain ⟨_, _, hlog2⟩ := setMap_ok hs
    have hin := p.inT [⟨i, 0, 1, true⟩, ⟨i, 0, 1, false⟩] (by rw [hlog2, hlog1]; rfl)
    obtain ⟨b', cap', Es, clock, q1, q2, q3, q4⟩ := getMap_sound h1 p.rel (fun t ht => hin t (List.mem_cons_of_mem _ ht))
    rw [hσ] at q1; injection q1 with q1; injection q1 with q1 q1'; subst q1; subst q1'
    have hin2 : inT T [⟨i, 0, 1, true⟩] := fun t ht => hin t (by simp at ht; subst ht; exact List.mem_cons_self)
    have hmr : MRs σ (es ++ [(.agg cs, v)]) (Es.push { key := .agg Cs.toArray, val := V, born := clock }).toList := by
      rw [Array.toList_push]
      exact MRs.snoc (E := { key := .agg Cs.toArray, val := V, born := clock }) hK hv q3
    have hp := setMap_sound (Es := Es.push { key := .agg Cs.toArray, val := V, born := clock }) (clock := clock + 1) hs q4.rel hin2 hσ hmr
    refine ⟨σ, _, _, q4.trans hp p.fresh p.hi, ?_⟩
    have hfk := run_findKeyG (P := P) (w := w) hkk ((findG_sound (P := P) (w := w) (kt := kt) hK es Es.toList 0 q3).2 hf)
    simp only [Instr.mapUpdate, Sem.run_bind, r_und hu, Result.andThen_ok, run_getObj_map q2, run_checkKeyG hkk hall hC hpo, hfk]
    exact run_setObj_map q2
theorem mapSetA_sound {P : Program} {T : Tp} {hi : Nat} {σ : Sg} {g : G} {w : World} {t : TypeId} {m k v : AV} {M K V : Value} (hm : VR σ m M) (hk : VR σ k K) (hv : VR σ v V) :
    USound P T hi σ g w (mapSetA P t m k v) (Instr.mapUpdate t M K V) := by
  intro u g' h p
  unfold mapSetA at h
  cases hmi : mapInt P t with
  | none => rw [hmi] at h; exact mapSetG_sound hm hk hv u g' h p
  | some e =>
    rw [hmi] at h
    obtain ⟨kt, kk, hu, hkk⟩ := mapInt_some hmi
    cases m <;> simp only at h <;> first | (exact (no_ok h).elim; done) | skip
    cases k <;> simp only at h <;> first | (exact (no_ok h).elim; done) | skip
    rename_i i kd n
    cases hk
    cases hm with | map hσ =>
    rename_i b cap
    obtain ⟨es, g1, h1, h2⟩ := bind_ok h
    obtain ⟨hg, hlog1⟩ := getMap_ok h1
    -- the writing
    have hset : ∃ es', setMap i es' g1 = .ok u g' ∧ ((∃ j v0, findA n kd es 0 = .at j v0 ∧ es' = setAt v es j) ∨ (findA n kd es 0 = .absent ∧ es' = es ++ [(.int kd n, v)])) := by
      revert h2; cases hf : findA n kd es 0 <;> intro h2 <;> simp only at h2
      · exact ⟨_, h2, .inl ⟨_, _, rfl, rfl⟩⟩
      · exact ⟨_, h2, .inr ⟨rfl, rfl⟩⟩
      · exact (no_ok h2).elim
    obtain ⟨es', hs, hcase⟩ := hset
    obtain ⟨_, _, hlog2⟩ := setMap_ok hs
    have hin := p.inT [⟨i, 0, 1, true⟩, ⟨i, 0, 1, false⟩] (by rw [hlog2, hlog1]; rfl)
    obtain ⟨b', cap', Es, clock, q1, q2, q3, q4⟩ := getMap_sound h1 p.rel (fun t ht => hin t (List.mem_cons_of_mem _ ht))
    rw [hσ] at q1; injection q1 with q1; injection q1 with q1 q1'; subst q1; subst q1'
    obtain ⟨f1, f2⟩ := findA_sound (k := kd) (n := n) kk es Es.toList 0 q3
    have hin2 : inT T [⟨i, 0, 1, true⟩] := fun t ht => hin t (by simp at ht; subst ht; exact List.mem_cons_self)
    have hhi : g'.next ≤ hi := p.hi
    rcases hcase with ⟨j, v0, hf, rfl⟩ | ⟨hf, rfl⟩
    · obtain ⟨V0, E, a, c, _, d, ek⟩ := f1 j v0 hf
      have d' : Es[j]? = some E := by simpa using d
      have hmr : MRs σ (setAt v es j) (Es.modify j fun e => { e with key := .int kd n, val := V }).toList := by
        rw [Array.toList_modify]
        exact MRs.setAt hv _ (fun _ => rfl) j (fun E' hE' => by
          have : E' = E := by
            have h0 : Es.toList[j]? = some E := by simpa using d
            rw [h0] at hE'; injection hE' with hE'; exact hE'.symm
          subst this; exact ek.symm) q3
      have hp := setMap_sound (Es := Es.modify j fun e => { e with key := .int kd n, val := V }) (clock := clock) hs q4.rel hin2 hσ hmr
      refine ⟨σ, _, _, q4.trans hp p.fresh hhi, ?_⟩
      have hkt : (Instr.keyThatStays (.int kd n) (.int kd n)).run P w = .ok (.int kd n) w := by
        have : Instr.sameBits 10000 (.int kd n) (.int kd n) = true := by
          show (kd == kd && n == n) = true
          simp
        simp [Instr.keyThatStays, this]
      simp only [Instr.mapUpdate, Sem.run_bind, r_und hu, Result.andThen_ok, run_getObj_map q2, run_checkKey hkk, run_findKey hkk a, d', Option.map_some, Option.getD_some, ek, hkt]
      exact run_setObj_map q2
    · have hmr : MRs σ (es ++ [(.int kd n, v)]) (Es.push { key := .int kd n, val := V, born := clock }).toList := by
        rw [Array.toList_push]
        exact MRs.snoc (E := { key := .int kd n, val := V, born := clock }) (.int _ _) hv q3
      have hp := setMap_sound (Es := Es.push { key := .int kd n, val := V, born := clock }) (clock := clock + 1) hs q4.rel hin2 hσ hmr
      refine ⟨σ, _, _, q4.trans hp p.fresh hhi, ?_⟩
      simp only [Instr.mapUpdate, Sem.run_bind, r_und hu, Result.andThen_ok, run_getObj_map q2, run_checkKey hkk, run_findKey hkk (f2 hf)]
      exact run_setObj_map q2

theorem deleteA_sound {P : Program} {T : Tp} {hi : Nat} {σ : Sg} {g : G} {w : World} {t ty : TypeId} {ts : Array TypeId} {m k : AV} {M K : Value} {rest : Array Value} (hts : ts[0]? = some t) (hm : VR σ m M) (hk : VR σ k K)
    (h0 : rest[0]? = some M) (h1 : rest[1]? = some K) : VSound P T hi σ g w (deleteA P t m k) (Builtin.delete_ ts ty rest) := by
  intro v g' h p
  unfold deleteA at h
  cases hmi : mapInt P t with
  | none => rw [hmi] at h; exact (no_ok h).elim
  | some e =>
    rw [hmi] at h
    obtain ⟨kt, kk, hu, hkk⟩ := mapInt_some hmi
    cases m <;> simp only at h <;> first | (exact (no_ok h).elim; done) | skip
    case nilMap =>
      cases k <;> simp only at h <;> first | (exact (no_ok h).elim; done) | skip
      cases hk; cases hm
      obtain ⟨rfl, rfl⟩ := pure_ok h
      exact ⟨σ, .tuple #[], w, [], Post.refl p.rel, .tup (Cs := []) .nil, by simp [Builtin.delete_, hts, h0, h1, r_und hu, run_checkKey hkk]⟩
    case map i =>
      cases k <;> simp only at h <;> first | (exact (no_ok h).elim; done) | skip
      rename_i kd n
      cases hk
      cases hm with | map hσ =>
      rename_i b cap
      obtain ⟨es, g1, q1, h2⟩ := bind_ok h
      obtain ⟨hg, hlog1⟩ := getMap_ok q1
      have hset : ∃ es' u, setMap i es' g1 = .ok u g' ∧ v = .tup [] ∧ ((∃ j v0, findA n kd es 0 = .at j v0 ∧ es' = dropAt es j) ∨ (findA n kd es 0 = .absent ∧ es' = es)) := by
        revert h2; cases hf : findA n kd es 0 <;> intro h2 <;> simp only at h2
        · obtain ⟨u, g2, a, b⟩ := bind_ok h2; obtain ⟨rfl, rfl⟩ := pure_ok b; exact ⟨_, u, a, rfl, .inl ⟨_, _, rfl, rfl⟩⟩
        · obtain ⟨u, g2, a, b⟩ := bind_ok h2; obtain ⟨rfl, rfl⟩ := pure_ok b; exact ⟨_, u, a, rfl, .inr ⟨rfl, rfl⟩⟩
        · exact (no_ok h2).elim
      obtain ⟨es', u, hs, rfl, hcase⟩ := hset
      obtain ⟨_, _, hlog2⟩ := setMap_ok hs
      have hin := p.inT [⟨i, 0, 1, true⟩, ⟨i, 0, 1, false⟩] (by rw [hlog2, hlog1]; rfl)
      obtain ⟨b', cap', Es, clock, p1, p2, p3, p4⟩ := getMap_sound q1 p.rel (fun t ht => hin t (List.mem_cons_of_mem _ ht))
      rw [hσ] at p1; injection p1 with p1; injection p1 with p1 p1'; subst p1; subst p1'
      obtain ⟨f1, f2⟩ := findA_sound (k := kd) (n := n) kk es Es.toList 0 p3
      have hin2 : inT T [⟨i, 0, 1, true⟩] := fun t ht => hin t (by simp at ht; subst ht; exact List.mem_cons_self)
      rcases hcase with ⟨j, v0, hf, rfl⟩ | ⟨hf, rfl⟩
      · obtain ⟨V0, E, a, c, _, d, ek⟩ := f1 j v0 hf
        have hmr : MRs σ (dropAt es j) (Es.eraseIdxIfInBounds j).toList := by
          rw [Array.toList_eraseIdxIfInBounds]
          exact MRs.dropAt j p3
        have hp := setMap_sound (Es := Es.eraseIdxIfInBounds j) (clock := clock) hs p4.rel hin2 hσ hmr
        refine ⟨σ, .tuple #[], _, _, p4.trans hp p.fresh p.hi, .tup (Cs := []) .nil, ?_⟩
        simp only [Builtin.delete_, hts, h0, h1, Sem.run_bind, r_und hu, Result.andThen_ok, run_getObj_map p2, run_checkKey hkk, run_findKey hkk a, run_setObj_map p2, Sem.run_pure]
      · have hp := setMap_sound (Es := Es) (clock := clock) hs p4.rel hin2 hσ p3
        refine ⟨σ, .tuple #[], _, _, p4.trans hp p.fresh p.hi, .tup (Cs := []) .nil, ?_⟩
        simp only [Builtin.delete_, hts, h0, h1, Sem.run_bind, r_und hu, Result.andThen_ok, run_getObj_map p2, run_checkKey hkk, run_findKey hkk (f2 hf), run_setObj_map p2, Sem.run_pure]

theorem clearA_sound {P : Program} {T : Tp} {hi : Nat} {σ : Sg} {g : G} {w : World} {t ty : TypeId} {ts : Array TypeId} {m : AV} {M : Value} {rest : Array Value} (hts : ts[0]? = some t) (hm : VR σ m M)
    (h0 : rest[0]? = some M) : VSound P T hi σ g w (clearA P t m) (Builtin.clear_ ts ty rest) := by
  intro v g' h p
  unfold clearA at h
  cases hu : P.underlying t with
  | none => rw [hu] at h; exact (no_ok h).elim
  | some td =>
  rw [hu] at h
  cases td <;> simp only at h <;> first | (exact (no_ok h).elim; done) | skip
  · cases m <;> simp only at h <;> first | (exact (no_ok h).elim; done) | skip
    case nilMap =>
      cases hm
      obtain ⟨rfl, rfl⟩ := pure_ok h
      exact ⟨σ, .tuple #[], w, [], Post.refl p.rel, .tup (Cs := []) .nil, by simp [Builtin.clear_, hts, h0, r_und hu]⟩
    case map i =>
      cases hm with | map hσ =>
      rename_i b cap
      obtain ⟨es, g1, q1, h2⟩ := bind_ok h
      obtain ⟨u, g2, hs, h3⟩ := bind_ok h2
      obtain ⟨rfl, rfl⟩ := pure_ok h3
      obtain ⟨hg, hlog1⟩ := getMap_ok q1
      obtain ⟨_, _, hlog2⟩ := setMap_ok hs
      have hin := p.inT [⟨i, 0, 1, true⟩, ⟨i, 0, 1, false⟩] (by rw [hlog2, hlog1]; rfl)
      obtain ⟨b', cap', Es, clock, p1, p2, p3, p4⟩ := getMap_sound q1 p.rel (fun t ht => hin t (List.mem_cons_of_mem _ ht))
      rw [hσ] at p1; injection p1 with p1; injection p1 with p1 p1'; subst p1; subst p1'
      have hin2 : inT T [⟨i, 0, 1, true⟩] := fun t ht => hin t (by simp at ht; subst ht; exact List.mem_cons_self)
      have hp := setMap_sound (Es := #[]) (clock := clock) hs p4.rel hin2 hσ trivial
      refine ⟨σ, .tuple #[], _, _, p4.trans hp p.fresh p.hi, .tup (Cs := []) .nil, ?_⟩
      simp only [Builtin.clear_, hts, h0, Sem.run_bind, r_und hu, Result.andThen_ok, run_getObj_map p2, run_setObj_map p2, Sem.run_pure]

theorem lenA_sound {P : Program} {T : Tp} {hi : Nat} {σ : Sg} {g : G} {w : World} {t ty : TypeId} {ts : Array TypeId} {x : AV} {X : Value} {rest : Array Value} (hts : ts[0]? = some t) (hx : VR σ x X) (h0 : rest[0]? = some X) :
    VSound P T hi σ g w (lenA P t x) (Builtin.len_ ts ty rest) := by
  intro v g' h p
  unfold lenA at h
  cases hu : P.underlying t with
  | none => rw [hu] at h; exact (no_ok h).elim
  | some d =>
    rw [hu] at h
    cases d <;> simp only at h <;> first | (exact (no_ok h).elim; done) | skip
    case slice e =>
      cases x <;> simp only [lenSl, intM, natK_eq] at h <;> first | (exact (no_ok h).elim; done) | skip
      all_goals
        cases hx
        obtain ⟨rfl, rfl⟩ := pure_ok h
        first
          | exact ⟨σ, _, w, [], Post.refl p.rel, .int _ _, by simp [Builtin.len_, hts, h0, r_und hu, goInt]⟩
          | exact ⟨σ, _, w, [], Post.refl p.rel, .sint _ _, by simp [Builtin.len_, hts, h0, r_und hu, goInt]⟩
    case array n e =>
      simp only [intM, natK_eq] at h
      obtain ⟨rfl, rfl⟩ := pure_ok h
      exact ⟨σ, _, w, [], Post.refl p.rel, .int _ _, by cases hx <;> simp [Builtin.len_, hts, h0, r_und hu, goInt]⟩
    case string =>
      cases x <;> simp only [lenStr, intM, natK_eq] at h <;> first | (exact (no_ok h).elim; done) | skip
      cases hx
      obtain ⟨rfl, rfl⟩ := pure_ok h
      exact ⟨σ, _, w, [], Post.refl p.rel, .int _ _, by simp [Builtin.len_, hts, h0, r_und hu, goInt]⟩
    case map k e =>
      cases x <;> simp only [lenMap] at h <;> first | (exact (no_ok h).elim; done) | skip
      case nilMap =>
        cases hx
        obtain ⟨rfl, rfl⟩ := pure_ok h
        exact ⟨σ, _, w, [], Post.refl p.rel, .int _ _, by simp [Builtin.len_, hts, h0, r_und hu, goInt]⟩
      case map i =>
        cases hx with | map hσ =>
        rename_i b cap
        obtain ⟨es, g1, h1, h2⟩ := bind_ok h
        rw [intM, natK_eq] at h2; obtain ⟨rfl, rfl⟩ := pure_ok h2
        obtain ⟨hg, hlog1⟩ := getMap_ok h1
        obtain ⟨b', cap', Es, clock, q1, q2, q3, q4⟩ := getMap_sound h1 p.rel (p.inT _ (by rw [hlog1]; rfl))
        rw [hσ] at q1; injection q1 with q1; injection q1 with q1 _; subst q1
        have := q3.len
        exact ⟨σ, .int .i64 (es.length : Int), w, _, q4, .int _ _, by simp [Builtin.len_, hts, h0, r_und hu, goInt, run_getObj_map q2, this]⟩
    case chan d e =>
      cases x <;> simp only [lenChan] at h <;> first | (exact (no_ok h).elim; done) | skip
      case nilChan =>
        cases hx
        obtain ⟨rfl, rfl⟩ := pure_ok h
        exact ⟨σ, _, w, [], Post.refl p.rel, .int _ _, by simp [Builtin.len_, hts, h0, r_und hu, goInt]⟩
      case chan i =>
        cases hx with | chan hσ =>
        rename_i b cap
        split at h
        · rename_i n0 hc
          obtain ⟨u, g1, h1, h2⟩ := bind_ok h
          rw [intM, natK_eq] at h2
          obtain ⟨rfl, rfl⟩ := pure_ok h2
          have hg1 := touch_ok h1
          have hin := p.inT [⟨i, 0, 1, false⟩] (by rw [hg1]; rfl)
          unfold chanLen at hc
          split at hc
          · rename_i c0 n1 hgi
            injection hc with hc; subst hc
            obtain ⟨b0, cap0, q1, _⟩ := p.rel.sh i _ hgi hin.some
            rw [hσ] at q1; injection q1 with q1; injection q1 with q1 _; subst q1
            have hT0 : _ := hin ⟨i, 0, 1, false⟩ (List.mem_singleton.2 rfl) 0 (.inr ⟨Nat.le_refl _, Nat.zero_lt_one⟩)
            obtain ⟨q, s, r, q2, q3⟩ := p.rel.ct i _ 0 (.chan c0 n1) b cap hgi rfl hT0 hσ
            refine ⟨σ, .int .i64 n1, w, [⟨i, 0, 1, false⟩], by rw [hg1]; exact Post.logs p.rel, .int _ _, ?_⟩
            simp [Builtin.len_, hts, h0, r_und hu, goInt, run_getObj_chan q2, q3]
          · cases hc
        · cases h

/-- the first cells of what is appended or copied -/
theorem firstA_sound {P : Program} {T : Tp} {σ : Sg} {g g' : G} {w : World} {s n : Nat} {x : AV} {X : Value} {c : List AV} (h : firstA s n x g = .ok c g') (rl : Rel P σ T g w) (hx : VR σ x X)
    (ht : ∀ L, g'.log = L ++ g.log → inT T L) : ∃ Cs L, VRs σ c Cs ∧ Post P T σ g w σ g' w L ∧ (Builtin.firstCells s n X).run P w = .ok Cs.toArray w ∧ (x ≠ .nilSl → c.length = n * s) := by
  unfold firstA at h
  split at h
  · cases hx with | sl hσ =>
    obtain ⟨blk, _, _, hg1⟩ := read_ok h
    obtain ⟨b', cap', c', e, fz, q1, q2, q3, q4, q5, q6, q7⟩ := read_sound h rl (ht _ (by rw [hg1]; rfl))
    rw [hσ] at q1; injection q1 with q1; injection q1 with q1 _; subst q1
    exact ⟨_, _, q6, q7, by simp [Builtin.firstCells, run_loadCells' q2 _ _ q4], fun _ => q5⟩
  · cases hx with | gsl hσ =>
    obtain ⟨blk, _, _, hg1⟩ := read_ok h
    obtain ⟨b', cap', c', e, fz, q1, q2, q3, q4, q5, q6, q7⟩ := read_sound h rl (ht _ (by rw [hg1]; rfl))
    rw [hσ] at q1; injection q1 with q1; injection q1 with q1 _; subst q1
    exact ⟨_, _, q6, q7, by simp [Builtin.firstCells, run_loadCells' q2 _ _ q4], fun _ => q5⟩
  · cases hx
    obtain ⟨rfl, rfl⟩ := pure_ok h
    exact ⟨[], [], .nil, Post.refl rl, by simp [Builtin.firstCells], fun h => absurd rfl h⟩
  · exact (no_ok h).elim
theorem slLen_sound {P : Program} {σ : Sg} {w : World} {x : AV} {X : Value} {n : Nat} (h : slLen x = some n) (hx : VR σ x X) : (Builtin.lenOf X).run P w = .ok n w ∧ (∃ a c, X = .slice a n c) := by
  unfold slLen at h
  split at h
  · cases hx; injection h with h; subst h; exact ⟨rfl, _, _, rfl⟩
  · cases hx; injection h with h; subst h; exact ⟨rfl, _, _, rfl⟩
  · cases hx; injection h with h; subst h; exact ⟨rfl, _, _, rfl⟩
  · cases h

theorem copyA_sound {P : Program} {T : Tp} {hi : Nat} {σ : Sg} {g : G} {w : World} {t ty : TypeId} {ts : Array TypeId} {d x : AV} {D X : Value} {rest : Array Value} (hts : ts[0]? = some t) (hd : VR σ d D) (hx : VR σ x X)
    (h0 : rest[0]? = some D) (h1 : rest[1]? = some X) : VSound P T hi σ g w (copyA P t d x) (Builtin.copy_ ts ty rest) := by
  intro v g' h p
  unfold copyA at h
  cases he : elemT P t with
  | none => rw [he] at h; exact (no_ok h).elim
  | some e =>
    cases ha : slLen d with
    | none => rw [he, ha] at h; exact (no_ok h).elim
    | some a =>
      cases hb : slLen x with
      | none => rw [he, ha, hb] at h; exact (no_ok h).elim
      | some b =>
        rw [he, ha, hb] at h
        simp only at h
        cases hs : sizeT P e with
        | none => rw [hs] at h; exact (no_ok h).elim
        | some s =>
          rw [hs] at h
          simp only at h
          obtain ⟨hl, _⟩ := slLen_sound (P := P) (w := w) hb hx
          obtain ⟨_, A, C, rfl⟩ := slLen_sound (P := P) (w := w) ha hd
          have hmin : minN a b = Nat.min b a := by
            unfold minN
            split
            · rename_i q; have := of_ble q; show a = min b a; omega
            · rename_i q; have := of_blef q; show b = min b a; omega
          rw [hmin] at h
          obtain ⟨c, g1, q1, q2⟩ := bind_ok h
          have hlog1 : ∃ L1, g1.log = L1 ++ g.log := by
            unfold firstA at q1
            split at q1
            · obtain ⟨_, _, _, e⟩ := read_ok q1; exact ⟨[⟨_, _, _, false⟩], by rw [e]; rfl⟩
            · obtain ⟨_, _, _, e⟩ := read_ok q1; exact ⟨[⟨_, _, _, false⟩], by rw [e]; rfl⟩
            · obtain ⟨_, e⟩ := pure_ok q1; exact ⟨[], by rw [e]; rfl⟩
            · exact (no_ok q1).elim
          obtain ⟨L1, hL1⟩ := hlog1
          cases d <;> simp only at q2 <;> first | (exact (no_ok q2).elim; done) | skip
          case sl i o n m =>
            cases hd with | sl hσ =>
            rename_i bb cap
            obtain ⟨u, g2, r1, r2⟩ := bind_ok q2
            rw [intM, natK_eq] at r2; obtain ⟨rfl, rfl⟩ := pure_ok r2
            obtain ⟨blk, blk', _, _, _, hg2⟩ := write_ok r1
            have hin := p.inT ([⟨i, o, c.length, true⟩] ++ L1) (by rw [hg2]; simp [hL1])
            obtain ⟨i1, i2⟩ := hin.of_app
            obtain ⟨Cs, L, c1, c2, c3, c4⟩ := firstA_sound q1 p.rel hx (fun L e => by rw [hL1] at e; have := List.append_cancel_right e; subst this; exact i2)
            obtain ⟨b', cap', w', z1, z2, z3⟩ := write_sound r1 c2.rel c1 i1
            rw [hσ] at z1; injection z1 with z1; injection z1 with z1 _; subst z1
            exact ⟨σ, _, w', _, c2.trans z3 p.fresh p.hi, .int _ _, by simp [Builtin.copy_, hts, h0, h1, r_und (elemT_some he), hl, r_size hs, c3, z2, goInt]⟩
          case gsl i n =>
            cases hd with | gsl hσ =>
            rename_i bb
            obtain ⟨u, g2, r1, r2⟩ := bind_ok q2
            rw [intM, natK_eq] at r2; obtain ⟨rfl, rfl⟩ := pure_ok r2
            obtain ⟨blk, blk', _, _, _, hg2⟩ := write_ok r1
            have hin := p.inT ([⟨i, 0, c.length, true⟩] ++ L1) (by rw [hg2]; simp [hL1])
            obtain ⟨i1, i2⟩ := hin.of_app
            obtain ⟨Cs, L, c1, c2, c3, c4⟩ := firstA_sound q1 p.rel hx (fun L e => by rw [hL1] at e; have := List.append_cancel_right e; subst this; exact i2)
            obtain ⟨b', cap', w', z1, z2, z3⟩ := write_sound r1 c2.rel c1 i1
            rw [hσ] at z1; injection z1 with z1; injection z1 with z1 _; subst z1
            exact ⟨σ, _, w', _, c2.trans z3 p.fresh p.hi, .int _ _, by simp [Builtin.copy_, hts, h0, h1, r_und (elemT_some he), hl, r_size hs, c3, z2, goInt]⟩
          case nilSl =>
            cases hd
            obtain ⟨rfl, rfl⟩ := pure_ok q2
            obtain ⟨Cs, L, c1, c2, c3, c4⟩ := firstA_sound q1 p.rel hx (fun L e => p.inT L e)
            rw [show Nat.min b 0 = 0 from Nat.min_zero b] at c3
            exact ⟨σ, _, w, _, c2, .int _ _, by simp [Builtin.copy_, hts, h0, h1, r_und (elemT_some he), hl, r_size hs, c3, goInt]⟩
end Go.Ev

namespace Go.Ev
open Go

theorem regrow_ok {i e : Nat} {c : List AV} {g g' : G} {j : Nat} (h : regrow i e c g = .ok j g') :
    j = g.next ∧ (∃ l0, g.heap.get i = some (.grown e l0)) ∧ g' = ⟨(g.heap.del i).set g.next (.grown e c), g.next + 1, ⟨g.next, 0, 0, true⟩ :: ⟨i, 0, 0, true⟩ :: g.log, g.orc, g.obl⟩ := by
  obtain ⟨hp, nx, l, oc, ob⟩ := g
  simp only [regrow] at h
  cases hg : hp.get i with
  | none => rw [hg] at h; cases h
  | some blk =>
    rw [hg] at h
    cases blk <;> simp only at h <;> first | (cases h; done) | skip
    rename_i e' l0
    cases he : Nat.beq e' e with
    | false => rw [he] at h; cases h
    | true =>
      rw [he] at h
      have he := of_beq he
      subst he
      simp only [Tr.delK_eq, Tr.setK_eq, natK_eq] at h
      injection h with h1 h2
      exact ⟨h1.symm, ⟨l0, rfl⟩, h2.symm⟩

theorem regrow_le {i e : Nat} {c : List AV} {g g' : G} {j : Nat} (h : regrow i e c g = .ok j g') : Le g g' [⟨j, 0, 0, true⟩, ⟨i, 0, 0, true⟩] := by
  obtain ⟨rfl, ⟨l0, hg⟩, rfl⟩ := regrow_ok h
  have hold : ∀ j bj, ((g.heap.del i).set g.next (.grown e c)).get j = some bj → (j = g.next ∧ bj = .grown e c) ∨ (j ≠ g.next ∧ j ≠ i ∧ g.heap.get j = some bj) := fun j bj hj => by
    rcases Tr.get_set hj with h1 | ⟨h1, h2⟩
    · exact .inl h1
    · obtain ⟨h3, h4⟩ := Tr.get_del h2; exact .inr ⟨h1, h3, h4⟩
  refine ⟨rfl, Nat.le_succ _, ⟨[], rfl⟩, fun j bj hn hj => ?_, fun j k bj ct hn hj hk => ?_, fun t ht _ => ?_⟩
  · rcases hold j bj hj with ⟨rfl, rfl⟩ | ⟨_, _, h⟩
    · exact absurd ⟨⟨g.next, 0, 0, true⟩, by simp, rfl, rfl, rfl⟩ hn
    · exact ⟨bj, h, rfl⟩
  · rcases hold j bj hj with ⟨rfl, rfl⟩ | ⟨_, _, h⟩
    · exact absurd ⟨⟨g.next, 0, 0, true⟩, by simp, rfl, rfl, .inl rfl⟩ hn
    · exact ⟨bj, h, hk⟩
  · simp at ht
    rcases ht with rfl | rfl
    · exact .inr ⟨Nat.le_refl _, Nat.lt_succ_self _⟩
    · exact .inl ⟨_, hg⟩
/-- a grown block at the place of an elder one: in place, or anew -/
theorem regrow_sound {P : Program} {σ : Sg} {T : Tp} {g g' : G} {w w' : World} {i e j hi : Nat} {c : List AV} {b cap cap' bn : Nat} {cn : Array Value} {fz : Nat × Nat} (h : regrow i e c g = .ok j g') (rl : Rel P σ T g w)
    (fr : Fresh σ g hi) (hhi : g'.next ≤ hi) (hT : ∀ o, T i o) (hσ : σ i = some (b, cap)) (hb : w'.heap[bn]? = some (.cells cn e fz)) (hf : noFz fz) (hl : c.length ≤ cn.size) (hcap : ∀ s, sizeT P e = some s → cn.size = cap' * s)
    (hbn : bn = b ∨ w.heap.size ≤ bn) (hoth : ∀ x, x ≠ bn → x < w.heap.size → w'.heap[x]? = w.heap[x]?) (hsz : w.heap.size ≤ w'.heap.size) (ht : w'.tape = w.tape) (ho : w'.os = w.os) (hou : w'.output = w.output)
    (hin : bn = b → ∀ c0 e0 f0, w.heap[b]? = some (.cells c0 e0 f0) → e0 = e ∧ f0 = fz ∧ cn.size = c0.size)
    (hv : ∀ (k : Nat) v, c[k]? = some v → ∃ V, cn[k]? = some V ∧ VR σ v V) :
    j = g.next ∧ Post P T σ g w (upd σ j (bn, cap')) g' w' [⟨j, 0, 0, true⟩, ⟨i, 0, 0, true⟩] := by
  have hle := regrow_le h
  obtain ⟨rfl, ⟨l0, hg⟩, rfl⟩ := regrow_ok h
  have hnone : σ g.next = none := fr _ (Nat.le_refl _) (by simp at hhi; omega)
  have hine : i ≠ g.next := fun e => by rw [e, hnone] at hσ; cases hσ
  have hsub : Sub σ (upd σ g.next (bn, cap')) := upd_sub hnone
  have hold : ∀ j bj, ((g.heap.del i).set g.next (.grown e c)).get j = some bj → (j = g.next ∧ bj = .grown e c) ∨ (j ≠ g.next ∧ j ≠ i ∧ g.heap.get j = some bj) := fun j bj hj => by
    rcases Tr.get_set hj with h1 | ⟨h1, h2⟩
    · exact .inl h1
    · obtain ⟨h3, h4⟩ := Tr.get_del h2; exact .inr ⟨h1, h3, h4⟩
  have hne : ∀ j bj x cp, j ≠ i → g.heap.get j = some bj → (∃ o, T j o) → σ j = some (x, cp) → x ≠ bn ∧ x < w.heap.size := fun j bj x cp hji hj hTj hσj => by
    obtain ⟨b0, cp0, h1, h2⟩ := rl.sh j bj hj hTj
    rw [hσj] at h1; injection h1 with h1; injection h1 with h1 _; subst h1
    refine ⟨fun e => ?_, h2.lt⟩
    rcases hbn with rfl | hbn
    · subst e; exact hji (rl.inj j i bj _ x cp cap hj hg hTj ⟨0, hT 0⟩ hσj hσ)
    · have := h2.lt; omega
  have hcov : ∀ o, covW [⟨g.next, 0, 0, true⟩, ⟨i, 0, 0, true⟩] i o := fun o => ⟨⟨i, 0, 0, true⟩, by simp, rfl, rfl, .inl rfl⟩
  refine ⟨rfl, { le := hle, ext := fun j hj => ?_, rel := ⟨fun j bj hj hTj => ?_, fun j bj k ct x cp hj hk hTj hσj => ?_, fun j j' bj bj' x c1 c2 hj hj' hTj hTj' hσj hσj' => ?_⟩,
                 fr := ⟨hsz, ht, ho, hou, fun x hx hn => ?_, fun x cx ex fx hx => ?_, fun x es cl hx => ?_, fun x n1 n2 n3 n4 hx => ?_⟩, nw := fun j x cp h1 h2 h3 => ?_ }⟩
  · refine upd_ne _ _ ?_
    rcases hj with hj | hj
    · omega
    · simp at hj; omega
  · rcases hold j bj hj with ⟨rfl, rfl⟩ | ⟨hn1, hn2, h⟩
    · exact ⟨bn, cap', upd_same _ _ _, cn, fz, hb, hf, hl, hcap⟩
    · obtain ⟨x, cp, h1, h2⟩ := rl.sh j bj h hTj
      obtain ⟨h3, h4⟩ := hne j bj x cp hn2 h hTj h1
      exact ⟨x, cp, by rw [upd_ne _ _ hn1]; exact h1, by rw [hoth x h3 h4]; exact h2⟩
  · rcases hold j bj hj with ⟨rfl, rfl⟩ | ⟨hn1, hn2, h⟩
    · rw [upd_same] at hσj; injection hσj with hσj; injection hσj with hσj _; subst hσj
      simp only [Blk.ct] at hk
      cases hc : c[k]? with
      | none => rw [hc] at hk; cases hk
      | some v =>
        rw [hc] at hk; injection hk with hk; subst hk
        obtain ⟨V, h1, h2⟩ := hv k v hc
        exact ⟨cn, e, fz, V, hb, h1, h2.mono hsub⟩
    · rw [upd_ne _ _ hn1] at hσj
      obtain ⟨h3, h4⟩ := hne j bj x cp hn2 h ⟨k, hTj⟩ hσj
      rw [hoth x h3 h4]
      exact (rl.ct j bj k ct x cp h hk hTj hσj).mono hsub
  · rcases hold j bj hj with ⟨rfl, rfl⟩ | ⟨hn1, hn2, h1⟩
    · rcases hold j' bj' hj' with ⟨rfl, rfl⟩ | ⟨hn3, hn4, h2⟩
      · rfl
      · rw [upd_same] at hσj; rw [upd_ne _ _ hn3] at hσj'
        injection hσj with hσj; injection hσj with hσj _
        exact absurd hσj.symm (hne j' bj' x c2 hn4 h2 hTj' hσj').1
    · rw [upd_ne _ _ hn1] at hσj
      rcases hold j' bj' hj' with ⟨rfl, rfl⟩ | ⟨hn3, hn4, h2⟩
      · rw [upd_same] at hσj'; injection hσj' with hσj'; injection hσj' with hσj' _
        exact absurd hσj'.symm (hne j bj x c1 hn2 h1 hTj hσj).1
      · rw [upd_ne _ _ hn3] at hσj'
        exact rl.inj j j' bj bj' x c1 c2 h1 h2 hTj hTj' hσj hσj'
  · refine hoth x (fun e => ?_) hx
    rcases hbn with h1 | h1
    · exact hn 0 ⟨i, cap, by rw [upd_ne _ _ hine, hσ, e, h1], hcov 0⟩
    · omega
  · have hxlt := (Array.getElem?_eq_some_iff.1 hx).1
    by_cases hxb : x = bn
    · rcases hbn with h1 | h1
      · subst hxb; subst h1
        obtain ⟨e1, e2, e3⟩ := hin rfl cx ex fx hx
        subst e1; subst e2
        exact ⟨cn, hb, e3, fun o hno => absurd ⟨i, cap, by rw [upd_ne _ _ hine, hσ], hcov o⟩ hno⟩
      · omega
    · exact ⟨cx, by rw [hoth x hxb hxlt]; exact hx, rfl, fun _ _ => rfl⟩
  · have hxlt := (Array.getElem?_eq_some_iff.1 hx).1
    by_cases hxb : x = bn
    · rcases hbn with h1 | h1
      · subst hxb; subst h1
        obtain ⟨b0, cp0, q1, q2⟩ := rl.sh i _ hg ⟨0, hT 0⟩
        rw [hσ] at q1; injection q1 with q1; injection q1 with q1 _; subst q1
        obtain ⟨c0, f0, q3, _⟩ := q2
        rw [q3] at hx; cases hx
      · omega
    · exact ⟨es, cl, by rw [hoth x hxb hxlt]; exact hx, fun _ => ⟨rfl, rfl⟩⟩
  · have hxlt := (Array.getElem?_eq_some_iff.1 hx).1
    by_cases hxb : x = bn
    · rcases hbn with h1 | h1
      · subst hxb; subst h1
        obtain ⟨b0, cp0, q1, q2⟩ := rl.sh i _ hg ⟨0, hT 0⟩
        rw [hσ] at q1; injection q1 with q1; injection q1 with q1 _; subst q1
        obtain ⟨c0, f0, q3, _⟩ := q2
        rw [q3] at hx; cases hx
      · omega
    · exact ⟨n2, n3, n4, by rw [hoth x hxb hxlt]; exact hx, fun _ => ⟨rfl, rfl, rfl⟩⟩
  · have : j = g.next := by simp at h2; omega
    subst this
    rw [upd_same] at h3; injection h3 with h3; injection h3 with h3 _
    rcases hbn with h4 | h4
    · exact .inr ⟨i, cap, ⟨⟨i, 0, 0, true⟩, by simp, rfl, rfl, rfl⟩, by rw [hσ, ← h3, h4]⟩
    · exact .inl (by omega)


theorem growBy_le (n : Nat) : ∀ (r c : Nat), c ≤ 2 * n + 192 → Builtin.growBy n r c ≤ 2 * n + 192
  | 0, c, h => h
  | r + 1, c, h => by
    unfold Builtin.growBy
    split
    · exact h
    · exact growBy_le n r _ (by omega)
theorem nextcap_le {n c : Nat} (h : c < n) : Builtin.nextslicecap n c ≤ 2 * n + 192 := by
  unfold Builtin.nextslicecap
  split
  · omega
  · split
    · omega
    · exact growBy_le n 4 c (by omega)
theorem i64max : IntKind.i64.max = 9223372036854775807 := rfl
theorem zeroCells_len (Z : Array Value) (n : Nat) : (Builtin.zeroCells Z n).size = n * Z.size := by simp [Builtin.zeroCells]

section
variable {P : Program} {w : World} {ts : Array TypeId} {ty t xt e e2 : TypeId} {args : Array Value} {sz n l cap : Nat} {base : Option Addr} {X : Value} {info : TypeInfo}
theorem run_append_room (h0 : ts[0]? = some t) (h1 : ts[1]? = some xt) (a0 : args[0]? = some (.slice base l cap)) (a1 : args[1]? = some X) (ht : P.underlying t = some (.slice e)) (hx : P.underlying xt = some (.slice e2))
    (hs : sizeT P e = some sz) (hn : (Builtin.lenOf X).run P w = .ok n w) (hroom : l + n ≤ cap) {C : Array Value} (hC : (Builtin.firstCells sz n X).run P w = .ok C w) {w' : World}
    (hst : match base with | none => w' = w | some a => (storeCells (a.add (l * sz)) C.toList 0).run P w = .ok () w') :
    (Builtin.append_ ts ty args).run P w = .ok (.slice base (l + n) cap) w' := by
  cases base with
  | none =>
    subst hst
    simp [Builtin.append_, h0, h1, a0, a1, r_und ht, r_und hx, r_size hs, hn, hroom, hC]
  | some a =>
    simp [Builtin.append_, h0, h1, a0, a1, r_und ht, r_und hx, r_size hs, hn, hroom, hC, hst]
theorem run_append_grow (h0 : ts[0]? = some t) (h1 : ts[1]? = some xt) (a0 : args[0]? = some (.slice base l cap)) (a1 : args[1]? = some X) (ht : P.underlying t = some (.slice e)) (hx : P.underlying xt = some (.slice e2))
    (hs : sizeT P e = some sz) (hi : P.info? e = some info) (hb : info.bytes ≤ 4096) (hn : (Builtin.lenOf X).run P w = .ok n w) (hroom : cap < l + n) (hm : l + n ≤ 1048576) {A C : Array Value} {Z : Value}
    (hA : (Builtin.firstCells sz l (.slice base l cap)).run P (drewn w) = .ok A (drewn w)) (hC : (Builtin.firstCells sz n X).run P (drewn w) = .ok C (drewn w)) (hZ : (zeroValue e).run P (drewn w) = .ok Z (drewn w)) :
    ∃ newCap, l + n ≤ newCap ∧ (Builtin.append_ ts ty args).run P w = .ok (.slice (some ⟨w.heap.size, 0, none⟩) (l + n) newCap) (pushed (drewn w) (.cells (A ++ C ++ Builtin.zeroCells Z.cells (newCap - (l + n))) e)) := by
  have hbig : Builtin.nextslicecap (l + n) cap * info.bytes ≤ 281474976710656 := by
    have h1 := nextcap_le hroom
    have h2 : Builtin.nextslicecap (l + n) cap * info.bytes ≤ 2097344 * 4096 := Nat.mul_le_mul (by omega) hb
    omega
  refine ⟨(l + n) + (w.tape w.drawn (.appendCap (l + n) cap e)) % (2 ^ 63 - (l + n)), by omega, ?_⟩
  have hr : ¬ (l + n ≤ cap) := by omega
  have hq1 : ¬ (((l + n : Nat) : Int) > IntKind.i64.max ∧ (False ∨ info.bytes = 0)) := by rw [i64max]; omega
  have hr2 : ¬ (Builtin.nextslicecap (l + n) cap * info.bytes > 2 ^ 48) := by omega
  have hch : (choose (.appendCap (l + n) cap e)).run P w = .ok ((l + n) + (w.tape w.drawn (.appendCap (l + n) cap e)) % (2 ^ 63 - (l + n))) (drewn w) := rfl
  simp only [Builtin.append_, h0, h1, a0, a1, Sem.run_bind, r_und ht, r_und hx, r_size hs, Result.andThen_ok, Sem.run_pure, Bool.false_eq_true, if_false, hn, Sem.run_ite, hr, r_info hi]
  rw [if_neg hq1, if_neg hr2]
  simp only [Result.andThen_ok, hch, run_askRoom, hA, hC, hZ, newRow, Sem.run_bind, run_newObj, Sem.run_pure, Bool.not_false, if_true]
  rfl
end
end Go.Ev

namespace Go.Ev
open Go

theorem grownNew {P : Program} {T : Tp} {hi : Nat} {σ : Sg} {g g' : G} {w : World} {e : TypeId} {sz n cap' : Nat} {c : List AV} {Cs : List Value} {Z : Array Value} {i : Nat}
    (h : alloc (.grown e c) g = .ok i g') (rl : Rel P σ T g w) (fr : Fresh σ g hi) (hh : g'.next ≤ hi) (hc : VRs σ c Cs) (hs : sizeT P e = some sz) (hz : Z.size = sz) (hl : c.length = n * sz) (hcap : n ≤ cap') :
    i = g.next ∧ Post P T σ g w (upd σ i (w.heap.size, cap')) g' (pushed w (.cells (Cs.toArray ++ Builtin.zeroCells Z (cap' - n)) e)) [⟨i, 0, 0, true⟩] := by
  have hlen := hc.length
  have hsz : (Cs.toArray ++ Builtin.zeroCells Z (cap' - n)).size = cap' * sz := by
    have : (Builtin.zeroCells Z (cap' - n)).size = (cap' - n) * sz := by rw [zeroCells_len, hz]
    have e1 : n * sz + (cap' - n) * sz = cap' * sz := by rw [← Nat.add_mul]; congr 1; omega
    simp [this]; omega
  have := alloc_sound (cap := cap') (obj := .cells (Cs.toArray ++ Builtin.zeroCells Z (cap' - n)) e) h rl fr hh
    ⟨_, (0, 0), rfl, Nat.le_refl _, by rw [hsz, hl]; exact Nat.mul_le_mul_right _ hcap, fun s hs' => by rw [hs] at hs'; injection hs' with hs'; rw [hsz, hs']⟩
    (fun o ct hct => by
      simp only [Blk.ct] at hct
      cases hv : c[o]? with
      | none => rw [hv] at hct; cases hct
      | some v =>
        rw [hv] at hct; injection hct with hct; subst hct
        obtain ⟨V, h1, h2⟩ := hc.get hv
        have hlt := (List.getElem?_eq_some_iff.1 h1).1
        exact ⟨_, e, (0, 0), V, rfl, by rw [Array.getElem?_append_left (by simpa using hlt)]; simpa using h1, h2⟩)
  exact ⟨this.1, this.2.2⟩

theorem firstA_log {s n : Nat} {x : AV} {g g' : G} {c : List AV} (h : firstA s n x g = .ok c g') : ∃ L, g'.log = L ++ g.log := by
  unfold firstA at h
  split at h
  · obtain ⟨_, _, _, e⟩ := read_ok h; exact ⟨[⟨_, _, _, false⟩], by rw [e]; rfl⟩
  · obtain ⟨_, _, _, e⟩ := read_ok h; exact ⟨[⟨_, _, _, false⟩], by rw [e]; rfl⟩
  · obtain ⟨_, e⟩ := pure_ok h; exact ⟨[], by rw [e]; rfl⟩
  · exact (no_ok h).elim
theorem log_inj {a b c : List Tch} (h : a ++ c = b ++ c) : a = b := List.append_cancel_right h
theorem first_len {s n : Nat} {x : AV} {c : List AV} {g g' : G} (h : firstA s n x g = .ok c g') (hn : slLen x = some n) : c.length = n * s := by
  unfold firstA at h
  split at h
  · obtain ⟨_, _, hr, _⟩ := read_ok h; exact (readB_some hr).1
  · obtain ⟨_, _, hr, _⟩ := read_ok h; exact (readB_some hr).1
  · obtain ⟨rfl, _⟩ := pure_ok h; simp only [slLen] at hn; injection hn with hn; subst hn; simp
  · exact (no_ok h).elim
theorem allOneV {σ : Sg} {vs : List AV} {Vs : List Value} (h : VRs σ vs Vs) (ho : allOne vs = true) : ∀ V ∈ Vs, oneV V = true := by
  intro V hm
  obtain ⟨k, hk⟩ := List.getElem?_of_mem hm
  have hlt : k < vs.length := by have := (List.getElem?_eq_some_iff.1 hk).1; have := h.length; omega
  obtain ⟨V', h5, h6⟩ := h.get (List.getElem?_eq_getElem hlt)
  rw [hk] at h5; injection h5 with h5; subst h5
  rw [h6.oneCell]
  exact allOne_mem ho _ (List.getElem_mem hlt)

theorem appendA_sound {P : Program} {T : Tp} {hi : Nat} {σ : Sg} {g : G} {w : World} {t xt ty : TypeId} {ts : Array TypeId} {s x : AV} {S X : Value} {rest : Array Value} (h0 : ts[0]? = some t) (h1 : ts[1]? = some xt)
    (hs : VR σ s S) (hx : VR σ x X) (a0 : rest[0]? = some S) (a1 : rest[1]? = some X) : VSound P T hi σ g w (appendA P t xt s x) (Builtin.append_ ts ty rest) := by
  intro v g' h p
  unfold appendA at h
  cases he : elemT P t with
  | none => rw [he] at h; exact (no_ok h).elim
  | some e =>
  cases he2 : elemT P xt with
  | none => rw [he, he2] at h; exact (no_ok h).elim
  | some e2 =>
  rw [he, he2] at h
  simp only at h
  cases hsz : sizeT P e with
  | none => rw [hsz] at h; exact (no_ok h).elim
  | some sz =>
  cases hz : zeroT P e with
  | none => rw [hsz, hz] at h; exact (no_ok h).elim
  | some z =>
  cases hinf : P.info? e with
  | none => rw [hsz, hz, hinf] at h; exact (no_ok h).elim
  | some info =>
  cases hn : slLen x with
  | none => rw [hsz, hz, hinf, hn] at h; exact (no_ok h).elim
  | some n =>
  rw [hsz, hz, hinf, hn] at h
  simp only at h
  cases hb : (Nat.beq z.cells.length sz && Nat.ble 1 sz && allOne z.cells && Nat.ble info.bytes 4096) with
  | false => rw [hb] at h; exact (no_ok h).elim
  | true =>
  rw [hb] at h
  simp only [Bool.and_eq_true] at hb
  obtain ⟨⟨⟨hb1, hb2⟩, hb3⟩, hb4⟩ := hb
  have hb1 := of_beq hb1; have hb2 := of_ble hb2; have hb4 := of_ble hb4
  simp only at h
  have hut := elemT_some he
  have hux := elemT_some he2
  have hlen : ∀ w : World, (Builtin.lenOf X).run P w = .ok n w := fun w => (slLen_sound hn hx).1
  cases s <;> simp only at h <;> first | (exact (no_ok h).elim; done) | skip
  case nilSl =>
    cases hs
    cases n with
    | zero =>
      obtain ⟨rfl, rfl⟩ := pure_ok h
      obtain ⟨_, A, C, hX⟩ := slLen_sound (P := P) (w := w) hn hx
      have hC : (Builtin.firstCells sz 0 X).run P w = .ok #[] w := by
        subst hX; cases A <;> simp [Builtin.firstCells, loadCells, loadCellsFrom]
      exact ⟨σ, _, w, [], Post.refl p.rel, .nilSl, by simpa using run_append_room (ty := ty) (l := 0) (n := 0) (cap := 0) (base := none) h0 h1 a0 a1 hut hux hsz (hlen w) (Nat.le_refl _) hC (w' := w) rfl⟩
    | succ n =>
      simp only at h
      cases hm : Nat.ble n 1048575 with
      | false => rw [hm] at h; exact (no_ok h).elim
      | true =>
        rw [hm] at h
        have hm := of_ble hm
        obtain ⟨c, g1, q1, q2⟩ := bind_ok h
        obtain ⟨i, g2, q3, q4⟩ := bind_ok q2
        obtain ⟨rfl, rfl⟩ := pure_ok q4
        obtain ⟨L1, hL1⟩ := firstA_log q1
        obtain ⟨hi1, hg2⟩ := alloc_ok q3
        have hin := p.inT ([⟨i, 0, 0, true⟩] ++ L1) (by rw [hg2, hi1]; simp [hL1])
        have rl0 : Rel P σ T g (drewn w) := p.rel.drewn
        obtain ⟨Cs, L, c1, c2, c3, _⟩ := firstA_sound q1 rl0 hx (fun L e => by rw [hL1] at e; have := log_inj e; subst this; exact (hin.of_app).2)
        obtain ⟨Z, z1, z2⟩ := r_zero (P := P) (w := drewn w) σ hz
        obtain ⟨nc, n1, n2⟩ := run_append_grow (w := w) (ty := ty) (l := 0) (n := n + 1) (cap := 0) (base := none) h0 h1 a0 a1 hut hux hsz hinf hb4 (hlen w) (by omega) (by omega) (A := #[]) (C := Cs.toArray) (Z := Z)
          (by simp [Builtin.firstCells]) c3 z1
        have hzs : Z.cells.size = sz := by have := z2.cells.length; simp at this; omega
        have hfl := first_len q1 hn
        have fr1 : Fresh σ g1 hi := c2.ext.fresh p.fresh c2.le.nx
        obtain ⟨rfl, q⟩ := grownNew (cap' := nc) (n := n + 1) (Z := Z.cells) q3 c2.rel fr1 p.hi c1 hsz hzs hfl (by omega)
        refine ⟨_, _, _, _, (Post.drewn p.rel).trans (c2.trans q p.fresh p.hi) p.fresh p.hi, .gsl (upd_same _ _ _), ?_⟩
        simp only [Nat.zero_add, Array.empty_append] at n2
        rw [n2]; rfl
  case sl i o l cap =>
    cases hs with | sl hσ =>
    rename_i b cp
    cases hr : Nat.ble (l + n) cap with
    | true =>
      rw [hr] at h
      have hr := of_ble hr
      obtain ⟨c, g1, q1, q2⟩ := bind_ok h
      obtain ⟨u, g2, q3, q4⟩ := bind_ok q2
      rw [natK_eq] at q4
      obtain ⟨rfl, rfl⟩ := pure_ok q4
      obtain ⟨L1, hL1⟩ := firstA_log q1
      obtain ⟨_, _, _, _, _, hg2⟩ := write_ok q3
      have hin := p.inT ([⟨i, o + l * sz, c.length, true⟩] ++ L1) (by rw [hg2]; simp [hL1])
      obtain ⟨Cs, L, c1, c2, c3, _⟩ := firstA_sound q1 p.rel hx (fun L e => by rw [hL1] at e; have := log_inj e; subst this; exact (hin.of_app).2)
      obtain ⟨b', cap', w', z1, z2, z3⟩ := write_sound q3 c2.rel c1 (hin.of_app).1
      rw [hσ] at z1; injection z1 with z1; injection z1 with z1 _; subst z1
      exact ⟨σ, _, w', _, c2.trans z3 p.fresh p.hi, .sl hσ, run_append_room (ty := ty) h0 h1 a0 a1 hut hux hsz (hlen w) hr c3 (w' := w') (by simpa [addr_add] using z2)⟩
    | false =>
      rw [hr] at h
      have hr := of_blef hr
      simp only at h
      cases hm : Nat.ble (l + n) 1048576 with
      | false => rw [hm] at h; exact (no_ok h).elim
      | true =>
        rw [hm] at h
        have hm := of_ble hm
        obtain ⟨a, g1, q1, q2⟩ := bind_ok h
        obtain ⟨c, g2, q3, q4⟩ := bind_ok q2
        rw [listK_eq] at q4
        obtain ⟨j, g3, q5, q6⟩ := bind_ok q4
        rw [natK_eq] at q6
        obtain ⟨rfl, rfl⟩ := pure_ok q6
        obtain ⟨_, _, hra, hg1⟩ := read_ok q1
        obtain ⟨L2, hL2⟩ := firstA_log q3
        obtain ⟨hi1, hg3⟩ := alloc_ok q5
        have hin := p.inT ([⟨j, 0, 0, true⟩] ++ (L2 ++ [⟨i, o, l * sz, false⟩])) (by rw [hg3, hi1]; simp [hL2, hg1])
        obtain ⟨in1, in2⟩ := hin.of_app
        obtain ⟨in3, in4⟩ := in2.of_app
        have rl0 : Rel P σ T g (drewn w) := p.rel.drewn
        obtain ⟨b', cap', cc, ee, fz, r1, r2, r3, r4, r5, r6, r7⟩ := read_sound q1 rl0 in4
        rw [hσ] at r1; injection r1 with r1; injection r1 with r1 _; subst r1
        obtain ⟨Cs, L, c1, c2, c3, _⟩ := firstA_sound q3 r7.rel hx (fun L e => by rw [hL2] at e; have := log_inj e; subst this; exact in3)
        obtain ⟨Z, z1, z2⟩ := r_zero (P := P) (w := drewn w) σ hz
        have hA : (Builtin.firstCells sz l (.slice (some ⟨b, o, none⟩) l cap)).run P (drewn w) = .ok ((cc.toList.drop o).take (l * sz)).toArray (drewn w) := by
          simp [Builtin.firstCells, run_loadCells' r2 _ _ r4]
        obtain ⟨nc, n1, n2⟩ := run_append_grow (w := w) (ty := ty) h0 h1 a0 a1 hut hux hsz hinf hb4 (hlen w) hr hm hA c3 z1
        have hzs : Z.cells.size = sz := by have := z2.cells.length; simp at this; omega
        have hfl := first_len q3 hn
        have hac : (a ++ c).length = (l + n) * sz := by rw [List.length_append, r5, hfl, Nat.add_mul]
        have pp := r7.trans c2 p.fresh (by have := p.hi; rw [hg3] at this; simp at this; omega)
        have fr1 : Fresh σ g2 hi := pp.ext.fresh p.fresh pp.le.nx
        obtain ⟨rfl, q⟩ := grownNew (cap' := nc) (n := l + n) (Z := Z.cells) q5 c2.rel fr1 p.hi (r6.app c1) hsz hzs hac n1
        refine ⟨_, _, _, _, (Post.drewn p.rel).trans (pp.trans q p.fresh p.hi) p.fresh p.hi, .gsl (upd_same _ _ _), ?_⟩
        rw [n2]
        rw [List.append_toArray ((cc.toList.drop o).take (l * sz)) Cs]
        rfl
  case gsl i l =>
    cases hs with | gsl hσ =>
    rename_i b cp
    cases hm : Nat.ble (l + n) 1048576 with
    | false => rw [hm] at h; exact (no_ok h).elim
    | true =>
      rw [hm] at h
      have hm := of_ble hm
      obtain ⟨a, g1, q1, q2⟩ := bind_ok h
      obtain ⟨c, g2, q3, q4⟩ := bind_ok q2
      cases hone0 : allOne c with
      | false => rw [hone0] at q4; exact (no_ok q4).elim
      | true =>
      rw [hone0] at q4
      simp only [listK_eq] at q4
      obtain ⟨j, g3, q5, q6⟩ := bind_ok q4
      rw [natK_eq] at q6
      obtain ⟨rfl, rfl⟩ := pure_ok q6
      obtain ⟨_, _, hra, hg1⟩ := read_ok q1
      obtain ⟨L2, hL2⟩ := firstA_log q3
      obtain ⟨hi1, ⟨l0, hgi⟩, hg3⟩ := regrow_ok q5
      have hin := p.inT ([⟨j, 0, 0, true⟩, ⟨i, 0, 0, true⟩] ++ (L2 ++ [⟨i, 0, l * sz, false⟩])) (by rw [hg3, hi1]; simp [hL2, hg1])
      obtain ⟨in1, in2⟩ := hin.of_app
      obtain ⟨in3, in4⟩ := in2.of_app
      have hTi : ∀ o, T i o := fun o => in1 ⟨i, 0, 0, true⟩ (by simp) o (.inl rfl)
      have hhi2 : g2.next ≤ hi := by have := p.hi; rw [hg3] at this; simp at this; omega
      by_cases hroom : l + n ≤ cp
      · -- in place
        obtain ⟨b', cap', cc, ee, fz, r1, r2, r3, r4, r5, r6, r7⟩ := read_sound q1 p.rel in4
        rw [hσ] at r1; injection r1 with r1; injection r1 with r1 _; subst r1
        obtain ⟨Cs, L, c1, c2, c3, _⟩ := firstA_sound q3 r7.rel hx (fun L e => by rw [hL2] at e; have := log_inj e; subst this; exact in3)
        have pp := r7.trans c2 p.fresh hhi2
        have hfl := first_len q3 hn
        -- the block's own shape
        obtain ⟨bb, cpp, s1, s2⟩ := pp.rel.sh i _ hgi ⟨0, hTi 0⟩
        rw [hσ] at s1; injection s1 with s1; injection s1 with s1 s1'; subst s1; subst s1'
        obtain ⟨cc', fz', s3, s4, s5, s6⟩ := s2
        rw [r2] at s3; injection s3 with s3; injection s3 with s3 s3' s3''; subst s3; subst s3'; subst s3''
        have hcs := s6 sz hsz
        have hlC := c1.length
        have hone : ∀ V ∈ Cs, oneV V = true := allOneV c1 hone0
        have hfit : l * sz + Cs.length ≤ cc.size := by
          rw [hcs, ← hlC, hfl, ← Nat.add_mul]; exact Nat.mul_le_mul_right _ hroom
        obtain ⟨w', c', y1, y2, y3, y4, y5, y6, y7, y8, y9⟩ := run_storeCells (P := P) (b := b) (o := l * sz) r3 Cs 0 w cc r2 (by omega) hone
        simp only [Nat.add_zero] at y4
        have fr1 : Fresh σ g2 hi := pp.ext.fresh p.fresh pp.le.nx
        have hrun := run_append_room (w := w) (ty := ty) h0 h1 a0 a1 hut hux hsz (hlen w) hroom c3 (w' := w') (by simpa [addr_add] using y1)
        obtain ⟨rfl, q⟩ := regrow_sound (cap' := cp) (bn := b) q5 pp.rel fr1 p.hi hTi hσ y2 r3 (by rw [y3, hcs, List.length_append, r5, hfl, ← Nat.add_mul]; exact Nat.mul_le_mul_right _ hroom)
          (fun s hs' => by rw [y3]; exact s6 s hs') (.inl rfl) (fun x hx _ => y5 x hx) (by omega) y7 y8 y9
          (fun _ c0 e0 f0 h0 => by rw [r2] at h0; injection h0 with h0; injection h0 with h0 h0' h0''; subst h0; exact ⟨h0'.symm, h0''.symm, y3⟩)
          (fun k v hk => by
            rw [y4 k]
            by_cases hka : k < a.length
            · rw [List.getElem?_append_left hka] at hk
              obtain ⟨V, v1, v2⟩ := r6.get hk
              refine ⟨V, ?_, v2⟩
              rw [if_neg (by omega)]
              have hkl : k < l * sz := by omega
              rw [List.getElem?_take_of_lt hkl] at v1
              simpa using v1
            · rw [List.getElem?_append_right (by omega)] at hk
              obtain ⟨V, v1, v2⟩ := c1.get hk
              have := (List.getElem?_eq_some_iff.1 v1).1
              refine ⟨V, ?_, v2⟩
              rw [if_pos (by omega), ← r5]
              exact v1)
        exact ⟨_, _, _, _, pp.trans q p.fresh p.hi, .gsl (upd_same _ _ _), hrun⟩
      · -- anew
        have rl0 : Rel P σ T g (drewn w) := p.rel.drewn
        obtain ⟨b', cap', cc, ee, fz, r1, r2, r3, r4, r5, r6, r7⟩ := read_sound q1 rl0 in4
        rw [hσ] at r1; injection r1 with r1; injection r1 with r1 _; subst r1
        obtain ⟨Cs, L, c1, c2, c3, _⟩ := firstA_sound q3 r7.rel hx (fun L e => by rw [hL2] at e; have := log_inj e; subst this; exact in3)
        have pp := r7.trans c2 p.fresh hhi2
        have hfl := first_len q3 hn
        obtain ⟨Z, z1, z2⟩ := r_zero (P := P) (w := drewn w) σ hz
        have hzs : Z.cells.size = sz := by have := z2.cells.length; simp at this; omega
        have hA : (Builtin.firstCells sz l (.slice (some ⟨b, 0, none⟩) l cp)).run P (drewn w) = .ok ((cc.toList.drop 0).take (l * sz)).toArray (drewn w) := by
          simp [Builtin.firstCells, run_loadCells' r2 _ _ r4]
        obtain ⟨nc, n1, n2⟩ := run_append_grow (w := w) (ty := ty) h0 h1 a0 a1 hut hux hsz hinf hb4 (hlen w) (by omega) hm hA c3 z1
        have hac : (a ++ c).length = (l + n) * sz := by rw [List.length_append, r5, hfl, Nat.add_mul]
        have fr1 : Fresh σ g2 hi := pp.ext.fresh p.fresh pp.le.nx
        have hVs := r6.app c1
        have hVl := hVs.length
        let obj : Array Value := ((cc.toList.drop 0).take (l * sz) ++ Cs).toArray ++ Builtin.zeroCells Z.cells (nc - (l + n))
        have hosz : obj.size = nc * sz := by
          have e0 : (Builtin.zeroCells Z.cells (nc - (l + n))).size = (nc - (l + n)) * sz := by rw [zeroCells_len, hzs]
          have e1 : (l + n) * sz + (nc - (l + n)) * sz = nc * sz := by rw [← Nat.add_mul]; congr 1; omega
          have e2 : obj.size = ((cc.toList.drop 0).take (l * sz) ++ Cs).length + (Builtin.zeroCells Z.cells (nc - (l + n))).size := by simp [obj]
          rw [e2, e0, ← hVl, hac, e1]
        obtain ⟨rfl, q⟩ := regrow_sound (w' := pushed (drewn w) (.cells obj e)) (cap' := nc) (bn := (drewn w).heap.size) (fz := (0, 0)) q5 pp.rel fr1 p.hi hTi hσ (pushed_new _ _) (Nat.le_refl _)
          (by rw [hosz, hac]; exact Nat.mul_le_mul_right _ n1) (fun s hs' => by rw [hsz] at hs'; injection hs' with hs'; rw [hosz, hs']) (.inr (Nat.le_refl _)) (fun x _ hx => pushed_old _ _ hx) (by simp [pushed]) rfl rfl rfl
          (fun hb' => by
            have := (Array.getElem?_eq_some_iff.1 r2).1
            omega)
          (fun k v hk => by
            obtain ⟨V, v1, v2⟩ := hVs.get hk
            have hlt := (List.getElem?_eq_some_iff.1 v1).1
            exact ⟨V, by rw [Array.getElem?_append_left (by simpa using hlt)]; simpa using v1, v2⟩)
        refine ⟨_, _, _, _, (Post.drewn p.rel).trans (pp.trans q p.fresh p.hi) p.fresh p.hi, .gsl (upd_same _ _ _), ?_⟩
        rw [n2]
        rw [List.append_toArray ((cc.toList.drop 0).take (l * sz)) Cs]
        rfl
end Go.Ev

namespace Go.Ev
open Go

theorem minA_sound {P : Program} {σ : Sg} {w : World} {x y v : AV} {X Y : Value} (h : minA x y = some v) (hx : VR σ x X) (hy : VR σ y Y) : ∃ V, (Builtin.min2 X Y).run P w = .ok V w ∧ VR σ v V := by
  unfold minA at h
  cases x <;> simp only at h <;> first | (cases h; done) | skip
  rename_i k a
  cases y <;> simp only at h <;> first | (cases h; done) | skip
  rename_i k' b
  cases hx; cases hy
  split at h
  · rename_i e; rw [leF_eq] at e; injection h with h; subst h
    have e : a ≤ b := by simpa using e
    exact ⟨.int k a, by simp [Builtin.min2]; omega, .int _ _⟩
  · rename_i e; rw [leF_eq] at e; injection h with h; subst h
    have e : ¬ a ≤ b := by simpa using e
    exact ⟨.int k b, by simp [Builtin.min2]; omega, .int _ _⟩
theorem maxA_sound {P : Program} {σ : Sg} {w : World} {x y v : AV} {X Y : Value} (h : maxA x y = some v) (hx : VR σ x X) (hy : VR σ y Y) : ∃ V, (Builtin.max2 X Y).run P w = .ok V w ∧ VR σ v V := by
  unfold maxA at h
  cases x <;> simp only at h <;> first | (cases h; done) | skip
  rename_i k a
  cases y <;> simp only at h <;> first | (cases h; done) | skip
  rename_i k' b
  cases hx; cases hy
  split at h
  · rename_i e; rw [leF_eq] at e; injection h with h; subst h
    have e : b ≤ a := by simpa using e
    exact ⟨.int k a, by simp [Builtin.max2]; omega, .int _ _⟩
  · rename_i e; rw [leF_eq] at e; injection h with h; subst h
    have e : ¬ b ≤ a := by simpa using e
    exact ⟨.int k b, by simp [Builtin.max2]; omega, .int _ _⟩
theorem foldO_sound {P : Program} {σ : Sg} {w : World} {f : AV → AV → Option AV} {F : Value → Value → Sem Value} (hf : ∀ x y v X Y, f x y = some v → VR σ x X → VR σ y Y → ∃ V, (F X Y).run P w = .ok V w ∧ VR σ v V) :
    ∀ (xs : List AV) (Xs : List Value) (a v : AV) (A : Value), foldO f a xs = some v → VR σ a A → VRs σ xs Xs → ∃ V, (Xs.foldlM F A).run P w = .ok V w ∧ VR σ v V
  | [], _, a, v, A, h, ha, .nil => by simp only [foldO] at h; injection h with h; subst h; exact ⟨A, by simp, ha⟩
  | x :: xs, _, a, v, A, h, ha, .cons hx hxs => by
    unfold foldO at h
    split at h
    · rename_i u hu
      obtain ⟨U, u1, u2⟩ := hf _ _ _ _ _ hu ha hx
      obtain ⟨V, v1, v2⟩ := foldO_sound hf xs _ u v U h u2 hxs
      exact ⟨V, by simp [List.foldlM_cons, u1, v1], v2⟩
    · cases h

/-! ### An operation, whole -/
structure PF (P : Program) : Prop where
  noNum : ∀ (f : Nat) fn, P.funcs[f]? = some fn → fn.body.isSome = true → fn.name ≠ "runtime.NumGoroutine"
  mixed : P.follows .mixedOrders = true

/-- a deferred call -/
def DR (σ : Sg) (d : FuncId × List AV) (D : Deferred) : Prop := ∃ cap, D.target = .fn (.func d.1) cap ∧ VRs σ d.2 (D.args ++ cap).toList
def OpRes (P : Program) (σ : Sg) (a : Act) (o : Oper) (w w' : World) : OpR → Prop
  | .val v => ∃ V, VR σ v V ∧ ((execOp a.eval o).run P w = .ok (.value V) w' ∨ ((execOp a.eval o).run P w = .ok .skip w' ∧ V = undef))
  | .pan v => ∃ V, VR σ v V ∧ (execOp a.eval o).run P w = .halt (.panic V) w'
  | .call f args => ∃ As : Array Value, VRs σ args As.toList ∧ (execOp a.eval o).run P w = .ok (.enter f As) w' ∧ hasBody P f = true
  | .dfr f args => ∃ D, DR σ (f, args) D ∧ (execOp a.eval o).run P w = .ok (.defer D) w' ∧ hasBody P f = true
def OpsRel (σ : Sg) (tm : Ts AV) (a : Act) (xs : List Operand) : Prop := ∀ x ∈ xs, ∀ v, opnd tm x = some v → VR σ v (a.eval x)
def OSound (P : Program) (T : Tp) (hi : Nat) (σ : Sg) (g : G) (w : World) (a : Act) (o : Oper) (m : M OpR) : Prop :=
  ∀ r g', m g = .ok r g' → Pre P T hi σ g w g' → ∃ σ' w' L, Post P T σ g w σ' g' w' L ∧ OpRes P σ' a o w w' r

section
variable {P : Program} {T : Tp} {hi : Nat} {σ : Sg} {g : G} {w : World} {a : Act} {o : Oper} {tm : Ts AV}
theorem OSound.no {n : Nat} : OSound P T hi σ g w a o (Ev.no n) := fun _ _ h _ => by cases h
theorem OSound.val {v : AV} {V : Value} (hv : VR σ v V) (h : (execOp a.eval o).run P w = .ok (.value V) w) : OSound P T hi σ g w a o (M.pure (.val v)) :=
  fun r g' e p => by obtain ⟨rfl, rfl⟩ := pure_ok e; exact ⟨σ, w, [], Post.refl p.rel, V, hv, .inl h⟩
theorem OSound.vl {m : M AV} {e : Sem Value} (h : VSound P T hi σ g w m e) (he : execOp a.eval o = do pure (.value (← e))) : OSound P T hi σ g w a o (Ev.vl m) := by
  intro r g' e1 p
  obtain ⟨v, g1, q1, q2⟩ := bind_ok e1
  obtain ⟨rfl, rfl⟩ := pure_ok q2
  obtain ⟨σ', V, w', L, h1, h2, h3⟩ := h v g' q1 p
  exact ⟨σ', w', L, h1, V, h2, .inl (by rw [he]; simp [h3])⟩
theorem OSound.ul {m : M Unit} {e : Sem Unit} (h : USound P T hi σ g w m e) (he : execOp a.eval o = do e; pure .skip) : OSound P T hi σ g w a o (Ev.ul m) := by
  intro r g' e1 p
  obtain ⟨v, g1, q1, q2⟩ := bind_ok e1
  obtain ⟨rfl, rfl⟩ := pure_ok q2
  obtain ⟨σ', w', L, h1, h3⟩ := h v g' q1 p
  exact ⟨σ', w', L, h1, undef, .tup (Cs := []) .nil, .inr ⟨by rw [he]; simp [h3], rfl⟩⟩
theorem OSound.ovl {n : Nat} {x : Option AV} {e : Sem Value} (h : ∀ v, x = some v → ∃ V, e.run P w = .ok V w ∧ VR σ v V) (he : execOp a.eval o = do pure (.value (← e))) : OSound P T hi σ g w a o (Ev.ovl n x) := by
  cases x with
  | none => exact OSound.no
  | some v =>
    obtain ⟨V, h1, h2⟩ := h v rfl
    exact OSound.val h2 (by rw [he]; simp [h1])
theorem OSound.e1 {n : Nat} {x : Operand} {f : AV → M OpR} (hr : OpsRel σ tm a [x]) (h : ∀ v, VR σ v (a.eval x) → OSound P T hi σ g w a o (f v)) : OSound P T hi σ g w a o (ev1 n tm x f) := by
  unfold ev1
  cases e : opnd tm x with
  | none => exact OSound.no
  | some v => exact h v (hr x (by simp) v e)
theorem OSound.e2 {n : Nat} {x y : Operand} {f : AV → AV → M OpR} (hr : OpsRel σ tm a [x, y]) (h : ∀ u v, VR σ u (a.eval x) → VR σ v (a.eval y) → OSound P T hi σ g w a o (f u v)) : OSound P T hi σ g w a o (ev2 n tm x y f) := by
  unfold ev2
  cases e : opnd tm x with
  | none => exact OSound.no
  | some u => cases e2 : opnd tm y with
    | none => exact OSound.no
    | some v => exact h u v (hr x (by simp) u e) (hr y (by simp) v e2)
theorem OSound.e3 {n : Nat} {x y z : Operand} {f : AV → AV → AV → M OpR} (hr : OpsRel σ tm a [x, y, z]) (h : ∀ u v s, VR σ u (a.eval x) → VR σ v (a.eval y) → VR σ s (a.eval z) → OSound P T hi σ g w a o (f u v s)) :
    OSound P T hi σ g w a o (ev3 n tm x y z f) := by
  unfold ev3
  cases e : opnd tm x with
  | none => exact OSound.no
  | some u => cases e2 : opnd tm y with
    | none => exact OSound.no
    | some v => cases e3 : opnd tm z with
      | none => exact OSound.no
      | some s => exact h u v s (hr x (by simp) u e) (hr y (by simp) v e2) (hr z (by simp) s e3)
theorem opnds_sound : ∀ (xs : List Operand) (vs : List AV), OpsRel σ tm a xs → opnds tm xs = some vs → VRs σ vs (xs.map a.eval)
  | [], vs, _, h => by simp only [opnds] at h; injection h with h; subst h; exact .nil
  | x :: xs, vs, hr, h => by
    unfold opnds at h
    split at h
    · rename_i v us h1 h2
      injection h with h; subst h
      exact .cons (hr x (by simp) v h1) (opnds_sound xs us (fun y hy => hr y (List.mem_cons_of_mem _ hy)) h2)
    · cases h
theorem partsA_sound : ∀ (xs : List (Nat × Operand)) (vs : List (Nat × AV)), OpsRel σ tm a (xs.map (·.2)) → partsA tm xs = some vs → PRs σ vs (xs.map fun (i, x) => (i, a.eval x))
  | [], vs, _, h => by simp only [partsA] at h; injection h with h; subst h; exact trivial
  | (i, x) :: xs, vs, hr, h => by
    unfold partsA at h
    split at h
    · rename_i v us h1 h2
      injection h with h; subst h
      exact ⟨rfl, hr x (by simp) v h1, partsA_sound xs us (fun y hy => hr y (List.mem_cons_of_mem _ hy)) h2⟩
    · cases h
theorem opndO_sound (x : Option Operand) (v : Option AV) (hr : OpsRel σ tm a x.toList) (h : opndO tm x = some v) : VRo σ v (x.map a.eval) := by
  cases x with
  | none => simp only [opndO] at h; injection h with h; subst h; exact trivial
  | some x =>
    simp only [opndO] at h
    split at h
    · rename_i u hu; injection h with h; subst h; exact hr x (by simp) u hu
    · cases h
theorem calleeA_sound (hP : PF P) {f : AV} {F : Value} {args : List AV} {As : List Value} {g0 : FuncId} {as : List AV} (h : calleeA P f args = some (g0, as)) (hf : VR σ f F) (ha : VRs σ args As) :
    ∃ D, DR σ (g0, as) D ∧ (∀ w : World, (Deferred.ofValue F As.toArray).run P w = .ok D w) ∧ (∀ w : World, (invoke D.target D.args).run P w = .ok (.enter g0 (D.args ++ (match D.target with | .fn _ c => c | _ => #[]))) w) ∧
      VRs σ as (D.args ++ (match D.target with | .fn _ c => c | _ => #[])).toList ∧ hasBody P g0 = true := by
  unfold calleeA at h
  split at h
  · rename_i gg first cap
    cases hb : hasBody P gg with
    | false => rw [hb] at h; cases h
    | true =>
      rw [hb] at h
      injection h with h
      injection h with h1 h2
      subst h1; subst h2
      cases hf with | func hF hC =>
      rename_i Fs Cs
      have hv : VRs σ (first ++ args ++ cap) (((Fs.toArray ++ As.toArray) ++ Cs.toArray).toList) := by
        simpa using (hF.app ha).app hC
      refine ⟨{ target := .fn (.func gg) Cs.toArray, args := Fs.toArray ++ As.toArray }, ⟨Cs.toArray, rfl, hv⟩, fun w => rfl, fun w => ?_, hv, hb⟩
      unfold hasBody at hb
      split at hb
      · rename_i fn hfn
        split at hb
        · rename_i c hc
          have hn := hP.noNum gg fn hfn (by simp [hc])
          simp [invoke, callFunc, hfn, hn, hc]
        · cases hb
      · cases hb
  · cases h
end
end Go.Ev

namespace Go.Ev
open Go

section
variable {P : Program} {T : Tp} {hi : Nat} {σ : Sg} {g : G} {w : World} {a : Act} {o : Oper} {tm : Ts AV}

theorem arr_map {α β : Type} (f : α → β) (x : Array α) : x.map f = (x.toList.map f).toArray := by apply Array.ext'; simp
theorem nilCheck_sound {x : Operand} {v : AV} (ho : o.op = .nilCheck x) (hv : VR σ v (a.eval x)) : OSound P T hi σ g w a o (nilCheckA v) := by
  unfold nilCheckA
  split
  · refine OSound.val hv ?_
    cases hx : a.eval x <;> rw [hx] at hv <;> cases hv
    simp [execOp, ho, hx]
  · refine OSound.val hv ?_
    cases hx : a.eval x <;> rw [hx] at hv <;> cases hv
    simp [execOp, ho, hx]
  · refine OSound.val hv ?_
    cases hx : a.eval x <;> rw [hx] at hv <;> cases hv
    simp only [execOp, ho, hx]
    rfl
  · exact OSound.no

theorem builtin_sound {b : Builtin} {c : Call} {args : List AV} (ho : o.op = .call c) (hb : c.callee = .builtin b) (ha : VRs σ args (c.args.toList.map a.eval)) : OSound P T hi σ g w a o (builtinA P b c.argTypes.toList args) := by
  have hargs : c.args.map a.eval = (c.args.toList.map a.eval).toArray := arr_map _ _
  have hex : execOp a.eval o = builtin b c.argTypes o.type (c.args.map fun | .const _ => true | _ => false) (c.args.map a.eval) := by
    simp only [execOp, ho, resolve, hb]
    rfl
  have hts : ∀ (i : Nat) t, c.argTypes.toList[i]? = some t → c.argTypes[i]? = some t := fun i t h => by simpa using h
  have hrs : ∀ (i : Nat) V, (c.args.toList.map a.eval)[i]? = some V → (c.args.map a.eval)[i]? = some V := fun i V h => by rw [hargs]; simpa using h
  unfold builtinA
  split
  · -- len
    split
    · rename_i t r x xs ht
      cases ha0 : c.args.toList.map a.eval with
      | nil => rw [ha0] at ha; cases ha
      | cons X Xs =>
        rw [ha0] at ha
        cases ha with | cons h1 h2 =>
        refine OSound.vl (e := Builtin.len_ c.argTypes o.type (c.args.map a.eval)) (lenA_sound (hts 0 t (by rw [ht]; rfl)) h1 (hrs 0 X (by rw [ha0]; rfl))) ?_
        rw [hex]; simp [builtin]
    · exact OSound.no
  · -- append
    split
    · rename_i t xt r s x xs ht
      cases ha0 : c.args.toList.map a.eval with
      | nil => rw [ha0] at ha; cases ha
      | cons S Ss =>
        rw [ha0] at ha
        cases ha with | cons h1 h2 =>
        cases h2 with | cons h2 h3 =>
        rename_i X Xs
        refine OSound.vl (e := Builtin.append_ c.argTypes o.type (c.args.map a.eval)) (appendA_sound (hts 0 t (by rw [ht]; rfl)) (hts 1 xt (by rw [ht]; rfl)) h1 h2 (hrs 0 S (by rw [ha0]; rfl)) (hrs 1 X (by rw [ha0]; rfl))) ?_
        rw [hex]; simp [builtin]
    · exact OSound.no
  · -- copy
    split
    · rename_i t r s x xs ht
      cases ha0 : c.args.toList.map a.eval with
      | nil => rw [ha0] at ha; cases ha
      | cons S Ss =>
        rw [ha0] at ha
        cases ha with | cons h1 h2 =>
        cases h2 with | cons h2 h3 =>
        rename_i X Xs
        refine OSound.vl (e := Builtin.copy_ c.argTypes o.type (c.args.map a.eval)) (copyA_sound (hts 0 t (by rw [ht]; rfl)) h1 h2 (hrs 0 S (by rw [ha0]; rfl)) (hrs 1 X (by rw [ha0]; rfl))) ?_
        rw [hex]; simp [builtin]
    · exact OSound.no
  · -- delete
    split
    · rename_i t r s x xs ht
      cases ha0 : c.args.toList.map a.eval with
      | nil => rw [ha0] at ha; cases ha
      | cons S Ss =>
        rw [ha0] at ha
        cases ha with | cons h1 h2 =>
        cases h2 with | cons h2 h3 =>
        rename_i X Xs
        refine OSound.vl (e := Builtin.delete_ c.argTypes o.type (c.args.map a.eval)) (deleteA_sound (hts 0 t (by rw [ht]; rfl)) h1 h2 (hrs 0 S (by rw [ha0]; rfl)) (hrs 1 X (by rw [ha0]; rfl))) ?_
        rw [hex]; simp [builtin]
    · exact OSound.no
  · -- clear
    unfold clearB
    split
    · rename_i t r ht
      split
      · rename_i x xs
        cases ha0 : c.args.toList.map a.eval with
        | nil => rw [ha0] at ha; cases ha
        | cons S Ss =>
          rw [ha0] at ha
          cases ha with | cons h1 h2 =>
          refine OSound.vl (e := Builtin.clear_ c.argTypes o.type (c.args.map a.eval)) (clearA_sound (hts 0 t (by rw [ht]; rfl)) h1 (hrs 0 S (by rw [ha0]; rfl))) ?_
          rw [hex]; simp [builtin]
      · exact OSound.no
    · exact OSound.no
  · -- min
    split
    · rename_i x r
      cases ha0 : c.args.toList.map a.eval with
      | nil => rw [ha0] at ha; cases ha
      | cons X Xs =>
        rw [ha0] at ha
        cases ha with | cons h1 h2 =>
        refine OSound.ovl (e := Builtin.min_ c.argTypes o.type (c.args.map a.eval)) (fun v hv => ?_) (by rw [hex]; simp [builtin])
        obtain ⟨V, v1, v2⟩ := foldO_sound (P := P) (w := w) (F := Builtin.min2) (fun _ _ _ _ _ => minA_sound) r Xs x v X hv h1 h2
        exact ⟨V, by simp [Builtin.min_, hargs, ha0, v1], v2⟩
    · exact OSound.no
  · -- max
    split
    · rename_i x r
      cases ha0 : c.args.toList.map a.eval with
      | nil => rw [ha0] at ha; cases ha
      | cons X Xs =>
        rw [ha0] at ha
        cases ha with | cons h1 h2 =>
        refine OSound.ovl (e := Builtin.max_ c.argTypes o.type (c.args.map a.eval)) (fun v hv => ?_) (by rw [hex]; simp [builtin])
        obtain ⟨V, v1, v2⟩ := foldO_sound (P := P) (w := w) (F := Builtin.max2) (fun _ _ _ _ _ => maxA_sound) r Xs x v X hv h1 h2
        exact ⟨V, by simp [Builtin.max_, hargs, ha0, v1], v2⟩
    · exact OSound.no
  · exact OSound.no

theorem boolOf_sound {σ : Sg} {a : AV} {x : Bool} {A : Value} (h : boolOf a = some x) (ha : VR σ a A) : A = .bool x := by
  unfold boolOf at h
  split at h
  · injection h with h; subst h; cases ha; rfl
  · injection h with h; subst h; cases ha; rfl
  · cases h
theorem joinB_sound {σ : Sg} {s : Bool} {a b v : AV} {A B : Value} (h : joinB s a b = some v) (ha : VR σ a A) (hb : VR σ b B) : VR σ v (bif s then A else B) := by
  unfold joinB at h
  split at h
  · rename_i x hx
    split at h
    · rename_i y hy
      injection h with h; subst h
      rw [boolOf_sound hx ha, boolOf_sound hy hb]
      cases s <;> exact .sbool _
    · cases h
  · cases h
theorem evOp_sound (hP : PF P) (hr : OpsRel σ tm a o.op.operands.toList) : OSound P T hi σ g w a o (evOp P tm o.op) := by
  cases ho : o.op <;> rw [ho] at hr <;> simp only [evOp, Op.operands] at hr ⊢ <;> try exact OSound.no
  case move x => exact OSound.e1 hr fun v hv => OSound.val hv (by simp [execOp, ho])
  case assign x => exact OSound.e1 hr fun v hv => OSound.val hv (by simp [execOp, ho])
  case pick c x y =>
    unfold evPick
    split
    · rename_i u s h1 h2 h3
      have q1 := hr c (by simp) _ h1; have q2 := hr x (by simp) _ h2
      refine OSound.val q2 ?_
      cases hc : a.eval c <;> rw [hc] at q1 <;> cases q1
      simp [execOp, ho, hc, asBool]
    · rename_i u s h1 h2 h3
      have q1 := hr c (by simp) _ h1; have q2 := hr y (by simp) _ h3
      refine OSound.val q2 ?_
      cases hc : a.eval c <;> rw [hc] at q1 <;> cases q1
      simp [execOp, ho, hc, asBool]
    · rename_i u s v1 v2 h1 h2 h3
      have q1 := hr c (by simp) _ h1; have q2 := hr x (by simp) _ h2; have q3 := hr y (by simp) _ h3
      unfold pickS
      cases hj : joinB s v1 v2 with
      | some v =>
        refine OSound.val (joinB_sound hj q2 q3) ?_
        cases hc : a.eval c <;> rw [hc] at q1 <;> cases q1
        cases s <;> simp [execOp, ho, hc, asBool]
      | none =>
        intro r g' h p
        obtain ⟨d, g1, a1, a2⟩ := bind_ok h
        obtain ⟨r', _, e1⟩ := ask_ok a1
        have hd : s = d ∧ g' = g1 ∧ r = .val (bif d then v1 else v2) := by
          cases d <;> (obtain ⟨rfl, rfl⟩ := pure_ok a2; refine ⟨?_, rfl, rfl⟩; exact p.owes (s, _) (by rw [e1]; exact List.mem_cons_self))
        obtain ⟨rfl, rfl, rfl⟩ := hd
        subst e1
        refine ⟨σ, w, [], Post.asked p.rel, ?_⟩
        cases hc : a.eval c <;> rw [hc] at q1 <;> cases q1
        cases s
        · exact ⟨_, q3, .inl (by simp [execOp, ho, hc, asBool])⟩
        · exact ⟨_, q2, .inl (by simp [execOp, ho, hc, asBool])⟩
    · exact OSound.no
  case alloc e =>
    unfold evAlloc
    split
    · rename_i nz hnz
      obtain ⟨n, z⟩ := nz
      intro r g' h p
      obtain ⟨i, cs, k, m, _, b1, b2, b3, b4, b5⟩ := bigT_spec hnz
      have z1 : (zeroValue e).run P w = .ok (.agg cs) w := by simp [zeroValue, r_info b1, b2]
      obtain ⟨v, g1, q1, q2⟩ := bind_ok h
      obtain ⟨rfl, rfl⟩ := pure_ok q2
      obtain ⟨σ', V, w', L, h1, h2, h3⟩ := newBig_sound (P := P) (T := T) (hi := hi) b3 b4 b5 v g' q1 p
      refine ⟨σ', w', L, h1, V, h2, .inl ?_⟩
      simp only [Sem.run_bind, Sem.run_pure] at h3
      simp only [execOp, ho, Instr.alloc, Sem.run_bind, z1, Result.andThen_ok, Sem.run_pure]
      rw [h3]; rfl
    · split
      · rename_i z hz
        intro r g' h p
        obtain ⟨Z, z1, z2⟩ := r_zero (P := P) (w := w) σ hz
        obtain ⟨v, g1, q1, q2⟩ := bind_ok h
        obtain ⟨rfl, rfl⟩ := pure_ok q2
        obtain ⟨σ', V, w', L, h1, h2, h3⟩ := newA_sound (P := P) (T := T) (hi := hi) z2 v g' q1 p
        refine ⟨σ', w', L, h1, V, h2, .inl ?_⟩
        simp only [Sem.run_bind, Sem.run_pure] at h3
        simp only [execOp, ho, Instr.alloc, Sem.run_bind, z1, Result.andThen_ok, Sem.run_pure]
        rw [h3]; rfl
      · exact OSound.no
  case box e x => exact OSound.e1 hr fun v hv => OSound.vl (boxA_sound hv) (by simp [execOp, ho, Instr.box])
  case build t ps =>
    unfold evBuild
    split
    · rename_i qs hq
      have := partsA_sound ps.toList qs (by simpa using hr) hq
      have hgen : OSound P T hi σ g w a o (ovl 104 (buildA P t qs)) := OSound.ovl (fun v hv => buildA_sound (Ps := ps.map fun (i, x) => (i, a.eval x)) hv (by simpa using this)) (by simp [execOp, ho])
      unfold buildP
      split
      · unfold repOf
        split
        · rename_i nz hnz
          obtain ⟨n, z⟩ := nz
          split
          · rename_i k m hz
            obtain ⟨k', m', Cs, e1, e2, e3⟩ := repOf_sound (σ := σ) hnz w
            have hz : z = .int k m := hz
            rw [hz] at e1; injection e1 with e1 e1'; subst e1; subst e1'
            have h0 : (ps.map fun (i, x) => (i, a.eval x)) = #[] := by
              have hl : ps.toList = [] := by
                cases hps : ps.toList with
                | nil => rfl
                | cons q qs =>
                  rw [hps] at hq
                  obtain ⟨i0, x0⟩ := q
                  simp only [partsA] at hq
                  split at hq <;> cases hq
              have : ps = #[] := by
                cases ps; simp at hl; simp [hl]
              rw [this]; simp
            exact OSound.val e3 (by simp only [execOp, ho]; rw [h0]; simp only [Sem.run_bind, e2, Result.andThen_ok]; rfl)
          · exact hgen
        · exact hgen
      · exact hgen
    · exact OSound.no
  case buildSlice t n ps =>
    unfold evBuildSlice
    split
    · rename_i qs hq
      have := partsA_sound ps.toList qs (by simpa using hr) hq
      exact OSound.vl (buildSliceA_sound (Ps := ps.map fun (i, x) => (i, a.eval x)) (by simpa using this)) (by simp [execOp, ho])
    · exact OSound.no
  case makeChan t x => exact OSound.e1 hr fun v hv => OSound.vl (makeChanA_sound hv) (by simp [execOp, ho])
  case makeSlice t x y => exact OSound.e2 hr fun u v hu hv => OSound.vl (makeSliceA_sound hu hv) (by simp [execOp, ho])
  case insert t m k x => exact OSound.e3 hr fun m k v hm hk hv => OSound.ul (mapSetA_sound hm hk hv) (by simp [execOp, ho])
  case load t x => exact OSound.e1 hr fun v hv => OSound.vl (loadA_sound hv) (by simp [execOp, ho])
  case store t x y => exact OSound.e2 hr fun u v hu hv => OSound.ul (storeA_sound hu hv) (by simp [execOp, ho])
  case nilCheck x => exact OSound.e1 hr fun v hv => nilCheck_sound ho hv
  case binOp op t x y yt => exact OSound.e2 hr fun u v hu hv => OSound.vl (binA_sound hu hv) (by simp [execOp, ho])
  case unOp op t x => exact OSound.e1 hr fun v hv => OSound.ovl (fun u hu => unA_sound hu hv) (by simp [execOp, ho])
  case convert s d x => exact OSound.e1 hr fun v hv => OSound.ovl (fun u hu => convertA_sound hu hv) (by simp [execOp, ho])
  case makeInterface t x =>
    refine OSound.e1 hr fun v hv => ?_
    unfold makeIfaceA
    split
    · exact OSound.no
    · rename_i d hd hni
      refine OSound.val (.iface hv) ?_
      have hu : P.underlying t = some d := by assumption
      cases d <;> first | exact (hd _ rfl).elim | (simp [execOp, ho, Instr.makeInterface, r_und hu]; done) | trace_state
    · exact OSound.no
  case makeFunc fn x y =>
    unfold evMakeFunc
    split
    · rename_i vs h1
      split
      · rename_i us h2
        have q1 := opnds_sound x.toList vs (fun z hz => hr z (by simp at hz ⊢; exact .inl hz)) h1
        have q2 := opnds_sound y.toList us (fun z hz => hr z (by simp at hz ⊢; exact .inr hz)) h2
        exact OSound.val (.func q1 q2) (by simp only [execOp, ho, Instr.makeFunc, arr_map a.eval x, arr_map a.eval y]; rfl)
      · exact OSound.no
    · exact OSound.no
  case makeMap t x =>
    unfold evMakeMap
    split
    · intro r g' h p
      obtain ⟨i, g1, h1, h2⟩ := bind_ok h
      obtain ⟨rfl, rfl⟩ := pure_ok h2
      have := alloc_sound (cap := 0) (obj := .map #[] 0) h1 p.rel p.fresh p.hi ⟨_, _, rfl⟩ (fun o c hc => by
        simp only [Blk.ct] at hc
        split at hc
        · injection hc with hc; subst hc; exact ⟨#[], 0, rfl, trivial⟩
        · cases hc)
      obtain ⟨rfl, hn, q⟩ := this
      exact ⟨_, _, _, q, _, .map (upd_same _ _ _), .inl (by simp [execOp, ho, Instr.makeMap, pushed])⟩
    · exact OSound.no
  case slice t x lo hi' mx =>
    unfold evSlice
    split
    · rename_i X LO HI MX h1 h2 h3 h4
      have q1 := hr x (by simp) _ h1
      have q2 := opndO_sound lo _ (fun z hz => hr z (by simp at hz ⊢; simp [hz])) h2
      have q3 := opndO_sound hi' _ (fun z hz => hr z (by simp at hz ⊢; simp [hz])) h3
      have q4 := opndO_sound mx _ (fun z hz => hr z (by simp at hz ⊢; simp [hz])) h4
      exact OSound.ovl (fun v hv => sliceA_sound hv q1 q2 q3 q4) (by simp [execOp, ho])
    · exact OSound.no
  case fieldAddr s x f => exact OSound.e1 hr fun v hv => OSound.ovl (fun u hu => fieldAt_sound hu hv) (by simp [execOp, ho])
  case field s x f => exact OSound.e1 hr fun v hv => OSound.ovl (fun u hu => fieldA_sound hu hv) (by simp [execOp, ho])
  case indexAddr t x i => exact OSound.e2 hr fun u v hu hv => OSound.vl (indexAtA_sound hu hv) (by simp [execOp, ho])
  case index t x i => exact OSound.e2 hr fun u v hu hv => OSound.ovl (fun z hz => indexA_sound hz hu hv) (by simp [execOp, ho])
  case lookup t x i ok => exact OSound.e2 hr fun u v hu hv => OSound.vl (lookupA_sound hu hv) (by simp [execOp, ho])
  case mapUpdate t m k x => exact OSound.e3 hr fun m k v hm hk hv => OSound.ul (mapSetA_sound hm hk hv) (by simp [execOp, ho])
  case typeAssert x xt t ok => exact OSound.e1 hr fun v hv => OSound.ovl (e := Instr.typeAssert (a.eval x) xt t ok) (fun u hu => typeAssertA_sound hu hv) (by simp [execOp, ho])
  case extract x n =>
    refine OSound.e1 hr fun v hv => ?_
    unfold extractA
    split
    · rename_i vs
      refine OSound.ovl (e := Instr.extract (a.eval x) n) (fun u hu => ?_) (by simp [execOp, ho])
      cases hx : a.eval x <;> rw [hx] at hv <;> cases hv
      rename_i Cs hC
      obtain ⟨V, v1, v2⟩ := hC.get hu
      exact ⟨V, by simp [Instr.extract, v1], v2⟩
    · exact OSound.no
  case call c =>
    unfold evCall
    split
    · rename_i args h1
      have q1 := opnds_sound c.args.toList args (fun z hz => hr z (by simp [Call.operands]; exact .inr (by simpa using hz))) h1
      unfold evCallee
      cases hc : c.callee with
      | value f =>
        simp only
        refine OSound.e1 (fun z hz => hr z (by simp at hz; subst hz; simp [Call.operands, hc])) fun v hv => ?_
        unfold callVal
        split
        · rename_i g0 as h2
          obtain ⟨D, d1, d2, d3, d4, d5⟩ := calleeA_sound hP h2 hv q1
          intro r g' h p
          obtain ⟨rfl, rfl⟩ := pure_ok h
          refine ⟨σ, w, [], Post.refl p.rel, _, d4, ?_, d5⟩
          have hargs : c.args.map a.eval = (c.args.toList.map a.eval).toArray := arr_map _ _
          have hd2 := d2 w
          have hd3 := d3 w
          rw [← hargs] at hd2
          simp only [execOp, ho, resolve, hc, Sem.run_bind, hd2, Result.andThen_ok, hd3]
        · exact OSound.no
      | builtin b => simp only; exact builtin_sound ho hc q1
      | invoke r m => exact OSound.no
    · exact OSound.no
  case defer c =>
    unfold evDefer
    split
    · rename_i args h1
      have q1 := opnds_sound c.args.toList args (fun z hz => hr z (by simp [Call.operands]; exact .inr (by simpa using hz))) h1
      cases hc : c.callee with
      | value f =>
        simp only
        refine OSound.e1 (fun z hz => hr z (by simp at hz; subst hz; simp [Call.operands, hc])) fun v hv => ?_
        unfold dfrVal
        split
        · rename_i g0 as h2
          obtain ⟨D, d1, d2, d3, d4, d5⟩ := calleeA_sound hP h2 hv q1
          intro r g' h p
          obtain ⟨rfl, rfl⟩ := pure_ok h
          refine ⟨σ, w, [], Post.refl p.rel, D, d1, ?_, d5⟩
          have hargs : c.args.map a.eval = (c.args.toList.map a.eval).toArray := arr_map _ _
          have hd2 := d2 w
          rw [← hargs] at hd2
          simp [execOp, ho, resolve, hc, hd2]
        · exact OSound.no
      | builtin b => exact OSound.no
      | invoke r m => exact OSound.no
    · exact OSound.no
  case panic x =>
    refine OSound.e1 hr fun v hv => ?_
    unfold panicA
    split
    · intro r g' h p
      obtain ⟨rfl, rfl⟩ := pure_ok h
      refine ⟨σ, w, [], Post.refl p.rel, _, hv, ?_⟩
      cases hx : a.eval x <;> rw [hx] at hv <;> cases hv
      simp [execOp, ho, hx, Instr.panic]
    · exact OSound.no
end
end Go.Ev
