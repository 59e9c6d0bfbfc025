/-
  A part of the evaluator of the program's code, or of what it was seen to do; its statements are Lean's own. No condition.
-/
import Derived.Test.YthclecbbebelhaaGreatEvOp5
namespace Go.Ev
open Go

theorem MRs.len {σ : Sg} : ∀ {es : List (AV × AV)} {Es : List MapEntry}, MRs σ es Es → es.length = Es.length
  | [], [], _ => rfl
  | _ :: _, _ :: _, ⟨_, _, h⟩ => congrArg (· + 1) (MRs.len h)
  | [], _ :: _, h => by cases h
  | _ :: _, [], h => by cases h
theorem MRs.snoc {σ : Sg} {k v : AV} {E : MapEntry} (hk : VR σ k E.key) (hv : VR σ v E.val) : ∀ {es : List (AV × AV)} {Es : List MapEntry}, MRs σ es Es → MRs σ (es ++ [(k, v)]) (Es ++ [E])
  | [], [], _ => ⟨hk, hv, trivial⟩
  | (_, _) :: _, _ :: _, ⟨a, b, h⟩ => ⟨a, b, MRs.snoc hk hv h⟩
  | [], _ :: _, h => by cases h
  | _ :: _, [], h => by cases h
theorem MRs.setAt {σ : Sg} {v : AV} {V : Value} (hv : VR σ v V) (f : MapEntry → MapEntry) (hf : ∀ E, (f E).val = V) : ∀ {es : List (AV × AV)} {Es : List MapEntry} (i : Nat) (_ : ∀ E, Es[i]? = some E → (f E).key = E.key), MRs σ es Es →
    MRs σ (Ev.setAt v es i) (Es.modify i f)
  | [], [], _, _, _ => by simp [Ev.setAt, MRs]
  | (_, _) :: _, E :: _, 0, hk, ⟨a, b, h⟩ => by
    have := hk E rfl
    simp only [Ev.setAt, List.modify_zero_cons]
    exact ⟨by rw [this]; exact a, by rw [hf]; exact hv, h⟩
  | (_, _) :: _, _ :: _, i + 1, hk, ⟨a, b, h⟩ => by
    simp only [Ev.setAt, List.modify_succ_cons]
    exact ⟨a, b, MRs.setAt hv f hf i (fun E hE => hk E (by simpa using hE)) h⟩
  | [], _ :: _, _, _, h => by cases h
  | _ :: _, [], _, _, h => by cases h
theorem MRs.dropAt {σ : Sg} : ∀ {es : List (AV × AV)} {Es : List MapEntry} (i : Nat), MRs σ es Es → MRs σ (Ev.dropAt es i) (Es.eraseIdx i)
  | [], [], _, _ => by simp [Ev.dropAt, MRs]
  | (_, _) :: _, _ :: _, 0, ⟨_, _, h⟩ => by simpa [Ev.dropAt] using h
  | (_, _) :: _, _ :: _, i + 1, ⟨a, b, h⟩ => by
    simp only [Ev.dropAt, List.eraseIdx_cons_succ]
    exact ⟨a, b, MRs.dropAt i h⟩
  | [], _ :: _, _, h => by cases h
  | _ :: _, [], _, h => by cases h

theorem mapSetG_sound {P : Program} {T : Tp} {hi : Nat} {σ : Sg} {g : G} {w : World} {t : TypeId} {m k v : AV} {M K V : Value} (hm : VR σ m M) (hk : VR σ k K) (hv : VR σ v V) :
    USound P T hi σ g w (mapSetG P t m k v) (Instr.mapUpdate t M K V) := by
  intro u g' h p
  unfold mapSetG at h
  cases hmi : mapAgg P t with
  | none => rw [hmi] at h; exact (no_ok h).elim
  | some kef =>
    obtain ⟨kt, e, fs⟩ := kef
    rw [hmi] at h
    obtain ⟨hu, fa, hkk, rfl, hall⟩ := mapAgg_some hmi
    cases m <;> simp only at h <;> first | (exact (no_ok h).elim; done) | skip
    cases k <;> simp only at h <;> first | (exact (no_ok h).elim; done) | skip
    rename_i i cs
    cases hpo : partsOk cs fa.toList with
    | false => rw [hpo] at h; exact (no_ok h).elim
    | true =>
    rw [hpo] at h
    have hK := hk
    obtain ⟨Cs, rfl, hC⟩ := hk.agg_inv
    cases hm with | map hσ =>
    rename_i b cap
    obtain ⟨es, g1, h1, h2⟩ := bind_ok h
    obtain ⟨hg, hlog1⟩ := getMap_ok h1
    cases hf : findG P kt (.agg cs) es 0 with
    | «at» j v0 => rw [hf] at h2; exact (no_ok h2).elim
    | bad => rw [hf] at h2; exact (no_ok h2).elim
    | absent =>
    rw [hf] at h2
    have hs : setMap i (es ++ [(.agg cs, v)]) g1 = .ok u g' := h2
    obtain ⟨_, _, hlog2⟩ := setMap_ok hs
    have hin := p.inT [⟨i, 0, 1, true⟩, ⟨i, 0, 1, false⟩] (by rw [hlog2, hlog1]; rfl)
    obtain ⟨b', cap', Es, clock, q1, q2, q3, q4⟩ := getMap_sound h1 p.rel (fun t ht => hin t (List.mem_cons_of_mem _ ht))
    rw [hσ] at q1; injection q1 with q1; injection q1 with q1 q1'; subst q1; subst q1'
    have hin2 : inT T [⟨i, 0, 1, true⟩] := fun t ht => hin t (by simp at ht; subst ht; exact List.mem_cons_self)
    have hmr : MRs σ (es ++ [(.agg cs, v)]) (Es.push { key := .agg Cs.toArray, val := V, born := clock }).toList := by
      rw [Array.toList_push]
      exact MRs.snoc (E := { key := .agg Cs.toArray, val := V, born := clock }) hK hv q3
    have hp := setMap_sound (Es := Es.push { key := .agg Cs.toArray, val := V, born := clock }) (clock := clock + 1) hs q4.rel hin2 hσ hmr
    refine ⟨σ, _, _, q4.trans hp p.fresh p.hi, ?_⟩
    have hfk := run_findKeyG (P := P) (w := w) hkk ((findG_sound (P := P) (w := w) (kt := kt) hK es Es.toList 0 q3).2 hf)
    simp only [Instr.mapUpdate, Sem.run_bind, r_und hu, Result.andThen_ok, run_getObj_map q2, run_checkKeyG hkk hall hC hpo, hfk]
    exact run_setObj_map q2
theorem mapSetA_sound {P : Program} {T : Tp} {hi : Nat} {σ : Sg} {g : G} {w : World} {t : TypeId} {m k v : AV} {M K V : Value} (hm : VR σ m M) (hk : VR σ k K) (hv : VR σ v V) :
    USound P T hi σ g w (mapSetA P t m k v) (Instr.mapUpdate t M K V) := by
  intro u g' h p
  unfold mapSetA at h
  cases hmi : mapInt P t with
  | none => rw [hmi] at h; exact mapSetG_sound hm hk hv u g' h p
  | some e =>
    rw [hmi] at h
    obtain ⟨kt, kk, hu, hkk⟩ := mapInt_some hmi
    cases m <;> simp only at h <;> first | (exact (no_ok h).elim; done) | skip
    cases k <;> simp only at h <;> first | (exact (no_ok h).elim; done) | skip
    rename_i i kd n
    cases hk
    cases hm with | map hσ =>
    rename_i b cap
    obtain ⟨es, g1, h1, h2⟩ := bind_ok h
    obtain ⟨hg, hlog1⟩ := getMap_ok h1
    -- the writing
    have hset : ∃ es', setMap i es' g1 = .ok u g' ∧ ((∃ j v0, findA n kd es 0 = .at j v0 ∧ es' = setAt v es j) ∨ (findA n kd es 0 = .absent ∧ es' = es ++ [(.int kd n, v)])) := by
      revert h2; cases hf : findA n kd es 0 <;> intro h2 <;> simp only at h2
      · exact ⟨_, h2, .inl ⟨_, _, rfl, rfl⟩⟩
      · exact ⟨_, h2, .inr ⟨rfl, rfl⟩⟩
      · exact (no_ok h2).elim
    obtain ⟨es', hs, hcase⟩ := hset
    obtain ⟨_, _, hlog2⟩ := setMap_ok hs
    have hin := p.inT [⟨i, 0, 1, true⟩, ⟨i, 0, 1, false⟩] (by rw [hlog2, hlog1]; rfl)
    obtain ⟨b', cap', Es, clock, q1, q2, q3, q4⟩ := getMap_sound h1 p.rel (fun t ht => hin t (List.mem_cons_of_mem _ ht))
    rw [hσ] at q1; injection q1 with q1; injection q1 with q1 q1'; subst q1; subst q1'
    obtain ⟨f1, f2⟩ := findA_sound (k := kd) (n := n) kk es Es.toList 0 q3
    have hin2 : inT T [⟨i, 0, 1, true⟩] := fun t ht => hin t (by simp at ht; subst ht; exact List.mem_cons_self)
    have hhi : g'.next ≤ hi := p.hi
    rcases hcase with ⟨j, v0, hf, rfl⟩ | ⟨hf, rfl⟩
    · obtain ⟨V0, E, a, c, _, d, ek⟩ := f1 j v0 hf
      have d' : Es[j]? = some E := by simpa using d
      have hmr : MRs σ (setAt v es j) (Es.modify j fun e => { e with key := .int kd n, val := V }).toList := by
        rw [Array.toList_modify]
        exact MRs.setAt hv _ (fun _ => rfl) j (fun E' hE' => by
          have : E' = E := by
            have h0 : Es.toList[j]? = some E := by simpa using d
            rw [h0] at hE'; injection hE' with hE'; exact hE'.symm
          subst this; exact ek.symm) q3
      have hp := setMap_sound (Es := Es.modify j fun e => { e with key := .int kd n, val := V }) (clock := clock) hs q4.rel hin2 hσ hmr
      refine ⟨σ, _, _, q4.trans hp p.fresh hhi, ?_⟩
      have hkt : (Instr.keyThatStays (.int kd n) (.int kd n)).run P w = .ok (.int kd n) w := by
        have : Instr.sameBits 10000 (.int kd n) (.int kd n) = true := by
          show (kd == kd && n == n) = true
          simp
        simp [Instr.keyThatStays, this]
      simp only [Instr.mapUpdate, Sem.run_bind, r_und hu, Result.andThen_ok, run_getObj_map q2, run_checkKey hkk, run_findKey hkk a, d', Option.map_some, Option.getD_some, ek, hkt]
      exact run_setObj_map q2
    · have hmr : MRs σ (es ++ [(.int kd n, v)]) (Es.push { key := .int kd n, val := V, born := clock }).toList := by
        rw [Array.toList_push]
        exact MRs.snoc (E := { key := .int kd n, val := V, born := clock }) (.int _ _) hv q3
      have hp := setMap_sound (Es := Es.push { key := .int kd n, val := V, born := clock }) (clock := clock + 1) hs q4.rel hin2 hσ hmr
      refine ⟨σ, _, _, q4.trans hp p.fresh hhi, ?_⟩
      simp only [Instr.mapUpdate, Sem.run_bind, r_und hu, Result.andThen_ok, run_getObj_map q2, run_checkKey hkk, run_findKey hkk (f2 hf)]
      exact run_setObj_map q2

theorem deleteA_sound {P : Program} {T : Tp} {hi : Nat} {σ : Sg} {g : G} {w : World} {t ty : TypeId} {ts : Array TypeId} {m k : AV} {M K : Value} {rest : Array Value} (hts : ts[0]? = some t) (hm : VR σ m M) (hk : VR σ k K)
    (h0 : rest[0]? = some M) (h1 : rest[1]? = some K) : VSound P T hi σ g w (deleteA P t m k) (Builtin.delete_ ts ty rest) := by
  intro v g' h p
  unfold deleteA at h
  cases hmi : mapInt P t with
  | none => rw [hmi] at h; exact (no_ok h).elim
  | some e =>
    rw [hmi] at h
    obtain ⟨kt, kk, hu, hkk⟩ := mapInt_some hmi
    cases m <;> simp only at h <;> first | (exact (no_ok h).elim; done) | skip
    case nilMap =>
      cases k <;> simp only at h <;> first | (exact (no_ok h).elim; done) | skip
      cases hk; cases hm
      obtain ⟨rfl, rfl⟩ := pure_ok h
      exact ⟨σ, .tuple #[], w, [], Post.refl p.rel, .tup (Cs := []) .nil, by simp [Builtin.delete_, hts, h0, h1, r_und hu, run_checkKey hkk]⟩
    case map i =>
      cases k <;> simp only at h <;> first | (exact (no_ok h).elim; done) | skip
      rename_i kd n
      cases hk
      cases hm with | map hσ =>
      rename_i b cap
      obtain ⟨es, g1, q1, h2⟩ := bind_ok h
      obtain ⟨hg, hlog1⟩ := getMap_ok q1
      have hset : ∃ es' u, setMap i es' g1 = .ok u g' ∧ v = .tup [] ∧ ((∃ j v0, findA n kd es 0 = .at j v0 ∧ es' = dropAt es j) ∨ (findA n kd es 0 = .absent ∧ es' = es)) := by
        revert h2; cases hf : findA n kd es 0 <;> intro h2 <;> simp only at h2
        · obtain ⟨u, g2, a, b⟩ := bind_ok h2; obtain ⟨rfl, rfl⟩ := pure_ok b; exact ⟨_, u, a, rfl, .inl ⟨_, _, rfl, rfl⟩⟩
        · obtain ⟨u, g2, a, b⟩ := bind_ok h2; obtain ⟨rfl, rfl⟩ := pure_ok b; exact ⟨_, u, a, rfl, .inr ⟨rfl, rfl⟩⟩
        · exact (no_ok h2).elim
      obtain ⟨es', u, hs, rfl, hcase⟩ := hset
      obtain ⟨_, _, hlog2⟩ := setMap_ok hs
      have hin := p.inT [⟨i, 0, 1, true⟩, ⟨i, 0, 1, false⟩] (by rw [hlog2, hlog1]; rfl)
      obtain ⟨b', cap', Es, clock, p1, p2, p3, p4⟩ := getMap_sound q1 p.rel (fun t ht => hin t (List.mem_cons_of_mem _ ht))
      rw [hσ] at p1; injection p1 with p1; injection p1 with p1 p1'; subst p1; subst p1'
      obtain ⟨f1, f2⟩ := findA_sound (k := kd) (n := n) kk es Es.toList 0 p3
      have hin2 : inT T [⟨i, 0, 1, true⟩] := fun t ht => hin t (by simp at ht; subst ht; exact List.mem_cons_self)
      rcases hcase with ⟨j, v0, hf, rfl⟩ | ⟨hf, rfl⟩
      · obtain ⟨V0, E, a, c, _, d, ek⟩ := f1 j v0 hf
        have hmr : MRs σ (dropAt es j) (Es.eraseIdxIfInBounds j).toList := by
          rw [Array.toList_eraseIdxIfInBounds]
          exact MRs.dropAt j p3
        have hp := setMap_sound (Es := Es.eraseIdxIfInBounds j) (clock := clock) hs p4.rel hin2 hσ hmr
        refine ⟨σ, .tuple #[], _, _, p4.trans hp p.fresh p.hi, .tup (Cs := []) .nil, ?_⟩
        simp only [Builtin.delete_, hts, h0, h1, Sem.run_bind, r_und hu, Result.andThen_ok, run_getObj_map p2, run_checkKey hkk, run_findKey hkk a, run_setObj_map p2, Sem.run_pure]
      · have hp := setMap_sound (Es := Es) (clock := clock) hs p4.rel hin2 hσ p3
        refine ⟨σ, .tuple #[], _, _, p4.trans hp p.fresh p.hi, .tup (Cs := []) .nil, ?_⟩
        simp only [Builtin.delete_, hts, h0, h1, Sem.run_bind, r_und hu, Result.andThen_ok, run_getObj_map p2, run_checkKey hkk, run_findKey hkk (f2 hf), run_setObj_map p2, Sem.run_pure]

theorem lenA_sound {P : Program} {T : Tp} {hi : Nat} {σ : Sg} {g : G} {w : World} {t ty : TypeId} {ts : Array TypeId} {x : AV} {X : Value} {rest : Array Value} (hts : ts[0]? = some t) (hx : VR σ x X) (h0 : rest[0]? = some X) :
    VSound P T hi σ g w (lenA P t x) (Builtin.len_ ts ty rest) := by
  intro v g' h p
  unfold lenA at h
  cases hu : P.underlying t with
  | none => rw [hu] at h; exact (no_ok h).elim
  | some d =>
    rw [hu] at h
    cases d <;> simp only at h <;> first | (exact (no_ok h).elim; done) | skip
    case slice e =>
      cases x <;> simp only [lenSl, intM, natK_eq] at h <;> first | (exact (no_ok h).elim; done) | skip
      all_goals
        cases hx
        obtain ⟨rfl, rfl⟩ := pure_ok h
        first
          | exact ⟨σ, _, w, [], Post.refl p.rel, .int _ _, by simp [Builtin.len_, hts, h0, r_und hu, goInt]⟩
          | exact ⟨σ, _, w, [], Post.refl p.rel, .sint _ _, by simp [Builtin.len_, hts, h0, r_und hu, goInt]⟩
    case array n e =>
      simp only [intM, natK_eq] at h
      obtain ⟨rfl, rfl⟩ := pure_ok h
      exact ⟨σ, _, w, [], Post.refl p.rel, .int _ _, by cases hx <;> simp [Builtin.len_, hts, h0, r_und hu, goInt]⟩
    case string =>
      cases x <;> simp only [lenStr, intM, natK_eq] at h <;> first | (exact (no_ok h).elim; done) | skip
      cases hx
      obtain ⟨rfl, rfl⟩ := pure_ok h
      exact ⟨σ, _, w, [], Post.refl p.rel, .int _ _, by simp [Builtin.len_, hts, h0, r_und hu, goInt]⟩
    case map k e =>
      cases x <;> simp only [lenMap] at h <;> first | (exact (no_ok h).elim; done) | skip
      case nilMap =>
        cases hx
        obtain ⟨rfl, rfl⟩ := pure_ok h
        exact ⟨σ, _, w, [], Post.refl p.rel, .int _ _, by simp [Builtin.len_, hts, h0, r_und hu, goInt]⟩
      case map i =>
        cases hx with | map hσ =>
        rename_i b cap
        obtain ⟨es, g1, h1, h2⟩ := bind_ok h
        rw [intM, natK_eq] at h2; obtain ⟨rfl, rfl⟩ := pure_ok h2
        obtain ⟨hg, hlog1⟩ := getMap_ok h1
        obtain ⟨b', cap', Es, clock, q1, q2, q3, q4⟩ := getMap_sound h1 p.rel (p.inT _ (by rw [hlog1]; rfl))
        rw [hσ] at q1; injection q1 with q1; injection q1 with q1 _; subst q1
        have := q3.len
        exact ⟨σ, .int .i64 (es.length : Int), w, _, q4, .int _ _, by simp [Builtin.len_, hts, h0, r_und hu, goInt, run_getObj_map q2, this]⟩
    case chan d e =>
      cases x <;> simp only [lenChan] at h <;> first | (exact (no_ok h).elim; done) | skip
      case nilChan =>
        cases hx
        obtain ⟨rfl, rfl⟩ := pure_ok h
        exact ⟨σ, _, w, [], Post.refl p.rel, .int _ _, by simp [Builtin.len_, hts, h0, r_und hu, goInt]⟩
      case chan i =>
        cases hx with | chan hσ =>
        rename_i b cap
        split at h
        · rename_i n0 hc
          obtain ⟨u, g1, h1, h2⟩ := bind_ok h
          rw [intM, natK_eq] at h2
          obtain ⟨rfl, rfl⟩ := pure_ok h2
          have hg1 := touch_ok h1
          have hin := p.inT [⟨i, 0, 1, false⟩] (by rw [hg1]; rfl)
          unfold chanLen at hc
          split at hc
          · rename_i c0 n1 hgi
            injection hc with hc; subst hc
            obtain ⟨b0, cap0, q1, _⟩ := p.rel.sh i _ hgi hin.some
            rw [hσ] at q1; injection q1 with q1; injection q1 with q1 _; subst q1
            have hT0 : _ := hin ⟨i, 0, 1, false⟩ (List.mem_singleton.2 rfl) 0 (.inr ⟨Nat.le_refl _, Nat.zero_lt_one⟩)
            obtain ⟨q, s, r, q2, q3⟩ := p.rel.ct i _ 0 (.chan c0 n1) b cap hgi rfl hT0 hσ
            refine ⟨σ, .int .i64 n1, w, [⟨i, 0, 1, false⟩], by rw [hg1]; exact Post.logs p.rel, .int _ _, ?_⟩
            simp [Builtin.len_, hts, h0, r_und hu, goInt, run_getObj_chan q2, q3]
          · cases hc
        · cases h

/-- the first cells of what is appended or copied -/
theorem firstA_sound {P : Program} {T : Tp} {σ : Sg} {g g' : G} {w : World} {s n : Nat} {x : AV} {X : Value} {c : List AV} (h : firstA s n x g = .ok c g') (rl : Rel P σ T g w) (hx : VR σ x X)
    (ht : ∀ L, g'.log = L ++ g.log → inT T L) : ∃ Cs L, VRs σ c Cs ∧ Post P T σ g w σ g' w L ∧ (Builtin.firstCells s n X).run P w = .ok Cs.toArray w ∧ (x ≠ .nilSl → c.length = n * s) := by
  unfold firstA at h
  split at h
  · cases hx with | sl hσ =>
    obtain ⟨blk, _, _, hg1⟩ := read_ok h
    obtain ⟨b', cap', c', e, fz, q1, q2, q3, q4, q5, q6, q7⟩ := read_sound h rl (ht _ (by rw [hg1]; rfl))
    rw [hσ] at q1; injection q1 with q1; injection q1 with q1 _; subst q1
    exact ⟨_, _, q6, q7, by simp [Builtin.firstCells, run_loadCells' q2 _ _ q4], fun _ => q5⟩
  · cases hx with | gsl hσ =>
    obtain ⟨blk, _, _, hg1⟩ := read_ok h
    obtain ⟨b', cap', c', e, fz, q1, q2, q3, q4, q5, q6, q7⟩ := read_sound h rl (ht _ (by rw [hg1]; rfl))
    rw [hσ] at q1; injection q1 with q1; injection q1 with q1 _; subst q1
    exact ⟨_, _, q6, q7, by simp [Builtin.firstCells, run_loadCells' q2 _ _ q4], fun _ => q5⟩
  · cases hx
    obtain ⟨rfl, rfl⟩ := pure_ok h
    exact ⟨[], [], .nil, Post.refl rl, by simp [Builtin.firstCells], fun h => absurd rfl h⟩
  · exact (no_ok h).elim
theorem slLen_sound {P : Program} {σ : Sg} {w : World} {x : AV} {X : Value} {n : Nat} (h : slLen x = some n) (hx : VR σ x X) : (Builtin.lenOf X).run P w = .ok n w ∧ (∃ a c, X = .slice a n c) := by
  unfold slLen at h
  split at h
  · cases hx; injection h with h; subst h; exact ⟨rfl, _, _, rfl⟩
  · cases hx; injection h with h; subst h; exact ⟨rfl, _, _, rfl⟩
  · cases hx; injection h with h; subst h; exact ⟨rfl, _, _, rfl⟩
  · cases h

theorem copyA_sound {P : Program} {T : Tp} {hi : Nat} {σ : Sg} {g : G} {w : World} {t ty : TypeId} {ts : Array TypeId} {d x : AV} {D X : Value} {rest : Array Value} (hts : ts[0]? = some t) (hd : VR σ d D) (hx : VR σ x X)
    (h0 : rest[0]? = some D) (h1 : rest[1]? = some X) : VSound P T hi σ g w (copyA P t d x) (Builtin.copy_ ts ty rest) := by
  intro v g' h p
  unfold copyA at h
  cases he : elemT P t with
  | none => rw [he] at h; exact (no_ok h).elim
  | some e =>
    cases ha : slLen d with
    | none => rw [he, ha] at h; exact (no_ok h).elim
    | some a =>
      cases hb : slLen x with
      | none => rw [he, ha, hb] at h; exact (no_ok h).elim
      | some b =>
        rw [he, ha, hb] at h
        simp only at h
        cases hs : sizeT P e with
        | none => rw [hs] at h; exact (no_ok h).elim
        | some s =>
          rw [hs] at h
          simp only at h
          obtain ⟨hl, _⟩ := slLen_sound (P := P) (w := w) hb hx
          obtain ⟨_, A, C, rfl⟩ := slLen_sound (P := P) (w := w) ha hd
          have hmin : minN a b = Nat.min b a := by
            unfold minN
            split
            · rename_i q; have := of_ble q; show a = min b a; omega
            · rename_i q; have := of_blef q; show b = min b a; omega
          rw [hmin] at h
          obtain ⟨c, g1, q1, q2⟩ := bind_ok h
          have hlog1 : ∃ L1, g1.log = L1 ++ g.log := by
            unfold firstA at q1
            split at q1
            · obtain ⟨_, _, _, e⟩ := read_ok q1; exact ⟨[⟨_, _, _, false⟩], by rw [e]; rfl⟩
            · obtain ⟨_, _, _, e⟩ := read_ok q1; exact ⟨[⟨_, _, _, false⟩], by rw [e]; rfl⟩
            · obtain ⟨_, e⟩ := pure_ok q1; exact ⟨[], by rw [e]; rfl⟩
            · exact (no_ok q1).elim
          obtain ⟨L1, hL1⟩ := hlog1
          cases d <;> simp only at q2 <;> first | (exact (no_ok q2).elim; done) | skip
          case sl i o n m =>
            cases hd with | sl hσ =>
            rename_i bb cap
            obtain ⟨u, g2, r1, r2⟩ := bind_ok q2
            rw [intM, natK_eq] at r2; obtain ⟨rfl, rfl⟩ := pure_ok r2
            obtain ⟨blk, blk', _, _, _, hg2⟩ := write_ok r1
            have hin := p.inT ([⟨i, o, c.length, true⟩] ++ L1) (by rw [hg2]; simp [hL1])
            obtain ⟨i1, i2⟩ := hin.of_app
            obtain ⟨Cs, L, c1, c2, c3, c4⟩ := firstA_sound q1 p.rel hx (fun L e => by rw [hL1] at e; have := List.append_cancel_right e; subst this; exact i2)
            obtain ⟨b', cap', w', z1, z2, z3⟩ := write_sound r1 c2.rel c1 i1
            rw [hσ] at z1; injection z1 with z1; injection z1 with z1 _; subst z1
            exact ⟨σ, _, w', _, c2.trans z3 p.fresh p.hi, .int _ _, by simp [Builtin.copy_, hts, h0, h1, r_und (elemT_some he), hl, r_size hs, c3, z2, goInt]⟩
          case gsl i n =>
            cases hd with | gsl hσ =>
            rename_i bb
            obtain ⟨u, g2, r1, r2⟩ := bind_ok q2
            rw [intM, natK_eq] at r2; obtain ⟨rfl, rfl⟩ := pure_ok r2
            obtain ⟨blk, blk', _, _, _, hg2⟩ := write_ok r1
            have hin := p.inT ([⟨i, 0, c.length, true⟩] ++ L1) (by rw [hg2]; simp [hL1])
            obtain ⟨i1, i2⟩ := hin.of_app
            obtain ⟨Cs, L, c1, c2, c3, c4⟩ := firstA_sound q1 p.rel hx (fun L e => by rw [hL1] at e; have := List.append_cancel_right e; subst this; exact i2)
            obtain ⟨b', cap', w', z1, z2, z3⟩ := write_sound r1 c2.rel c1 i1
            rw [hσ] at z1; injection z1 with z1; injection z1 with z1 _; subst z1
            exact ⟨σ, _, w', _, c2.trans z3 p.fresh p.hi, .int _ _, by simp [Builtin.copy_, hts, h0, h1, r_und (elemT_some he), hl, r_size hs, c3, z2, goInt]⟩
          case nilSl =>
            cases hd
            obtain ⟨rfl, rfl⟩ := pure_ok q2
            obtain ⟨Cs, L, c1, c2, c3, c4⟩ := firstA_sound q1 p.rel hx (fun L e => p.inT L e)
            rw [show Nat.min b 0 = 0 from Nat.min_zero b] at c3
            exact ⟨σ, _, w, _, c2, .int _ _, by simp [Builtin.copy_, hts, h0, h1, r_und (elemT_some he), hl, r_size hs, c3, goInt]⟩
end Go.Ev
