/-
  A part of the evaluator of the program's code, or of what it was seen to do; its statements are Lean's own. No condition.
-/
import Derived.Test.YthclecbbebelhaaGreatEvRun3
import Derived.LoopN
namespace Go.Ev
open Go

theorem rounds_mono {P : Program} {c : Code} {Q Q' : Exit → Act → World → Prop} (hq : ∀ e a w, Q e a w → Q' e a w) : ∀ {n : Nat} {a : Act} {w : World}, Code.rounds P c Q n a w → Code.rounds P c Q' n a w
  | 0, _, _, h => h.elim
  | n + 1, a, w, h => by
    rw [rounds_succ] at h ⊢
    refine wp_mono h fun e a w h => ?_
    cases e with
    | normal => exact rounds_mono hq h
    | _ => exact hq _ _ _ h
structure RecL (P : Program) (rec : Rec) : Prop extends RecS P rec where
  loop : ∃ m, ∀ c tm ds g x tm' ds' g', rec (.code (.loop c) tm ds) g = .fin x tm' ds' g' → ∀ T hi σ w a N, Pre P T hi σ g w g' → TR σ tm a.tmps → DRs σ ds a.defers → codeIn N c = true → N ≤ a.tmps.size →
    Code.rounds P c (CPost P T σ g w N x tm' ds' g') m a w
structure EnvS (P : Program) (Γ : Env) : Prop where
  le : ∀ f s, Γ f = some s → ∀ args g, LeRes g (s args g)
  call : ∀ f s, Γ f = some s → CallSf P f s

section
variable {P : Program} {rec : Rec} {Γ : Env} {T : Tp} {hi : Nat}
/-! ### What the parts keep -/
theorem thenDo_le {next : Ts AV → List (FuncId × List AV) → G → Res} {r : Res} {g : G} (h : LeRes g r) (hn : ∀ tm ds g, LeRes g (next tm ds g)) : LeRes g (thenDo next r) := by
  cases r with
  | fin x tm ds g1 =>
    cases x with
    | norm => obtain ⟨L, l⟩ := h; exact LeRes.trans l (hn tm ds g1)
    | _ => exact h
  | _ => exact h
theorem evRegP_le (hr : ∀ t g, LeRes g (rec t g)) {ops : Array Oper} {tm : Ts AV} {ds : List (FuncId × List AV)} {g : G} {s : Option (List Nat)} : LeRes g (evRegP rec P ops.toList tm ds g s) := by
  cases s with
  | none => trivial
  | some ms =>
    simp only [evRegP]
    cases e : evPar rec P ops.toList ms ops.toList 0 [] tm g with
    | no n => trivial
    | ok q g' => obtain ⟨tm', fs⟩ := q; exact par_le hr e
theorem evCode_le (hr : ∀ t g, LeRes g (rec t g)) (c : Code) (tm : Ts AV) (ds : List (FuncId × List AV)) (g : G) : LeRes g (evCode rec P c tm ds g) := by
  unfold evCode
  cases c with
  | skip => exact ⟨[], Le.refl g⟩
  | region id ops draw =>
    cases draw with
    | false => exact evSeq_le hr _ _ _ _
    | true => exact evRegP_le hr
  | seq a b => exact thenDo_le (hr _ _) fun _ _ _ => hr _ _
  | cond c a b =>
    simp only
    cases opnd tm c with
    | none => trivial
    | some v =>
      cases v <;> try trivial
      case bool t => cases t <;> exact hr _ _
      case sbool s =>
        simp only [evCond]
        cases e : ask s g with
        | no n => trivial
        | ok d g1 =>
          obtain ⟨L, l⟩ := Mn.ask _ _ _ e
          cases d <;> exact LeRes.trans l (hr _ _)
  | block id c =>
    simp only
    have := hr (.code c tm ds) g
    cases e : rec (.code c tm ds) g with
    | fin x tm1 ds1 g1 =>
      rw [e] at this
      cases x with
      | exit id' => simp only [inBlockA]; cases Nat.beq id' id <;> exact this
      | _ => exact this
    | _ => rw [e] at this; exact this
  | loop c => exact thenDo_le (hr _ _) fun _ _ _ => hr _ _
  | rangeFunc => trivial
  | exit id => exact ⟨[], Le.refl g⟩
  | scope c => exact hr _ _
  | label l => exact ⟨[], Le.refl g⟩
  | goto l => trivial
  | ret => exact ⟨[], Le.refl g⟩
  | refuse r => trivial
theorem afterBody_le (hr : ∀ t g, LeRes g (rec t g)) (fn : Func) {r : Res} {g : G} (h : LeRes g r) : LeRes g (afterBody rec P fn r) := by
  cases r with
  | fin x tm ds g1 =>
    obtain ⟨L, l⟩ := h
    cases x with
    | exit id => trivial
    | _ => exact LeRes.trans l (evDefers_le hr fn tm ds _ g1)
  | _ => trivial
theorem evCallF_le (hr : ∀ t g, LeRes g (rec t g)) {args : List AV} {g : G} {fn : Option Func} : LeRes g (evCallF rec P args g fn) := by
  cases fn with
  | none => trivial
  | some fn =>
    simp only [evCallF, evCallB]
    cases fn.body with
    | none => trivial
    | some c =>
      simp only [argTmps, argsK_eq]
      exact afterBody_le hr fn (hr _ _)
theorem body_le (hΓ : EnvS P Γ) (hr : ∀ t g, LeRes g (rec t g)) (t : Task) (g : G) : LeRes g (body P Γ rec t g) := by
  cases t with
  | code c tm ds => exact evCode_le hr c tm ds g
  | call f args =>
    show LeRes g (evCallE P rec f args g (Γ f))
    cases e : Γ f with
    | some s => exact hΓ.le f s e args g
    | none => exact evCallF_le hr

/-! ### The code -/
theorem CPost.from {σ σ1 : Sg} {g g1 g' : G} {w w1 : World} {N : Nat} {x : X} {tm' : Ts AV} {ds' : List (FuncId × List AV)} {L : List Tch} (h : Post P T σ g w σ1 g1 w1 L) (f : Fresh σ g hi) (hh : g'.next ≤ hi)
    {e : Exit} {a : Act} {w' : World} (q : CPost P T σ1 g1 w1 N x tm' ds' g' e a w') : CPost P T σ g w N x tm' ds' g' e a w' := by
  obtain ⟨σ', M, h1, h2⟩ := q
  exact ⟨σ', _, h.trans h1 f hh, h2⟩
theorem CPost.now {σ : Sg} {g : G} {w : World} {N : Nat} {x : X} {tm : Ts AV} {ds : List (FuncId × List AV)} {a : Act} {e : Exit} (r : Rel P σ T g w) (hx : XR σ x e) (ht : TR σ tm a.tmps) (hd : DRs σ ds a.defers) (hN : N ≤ a.tmps.size) :
    CPost P T σ g w N x tm ds g e a w := ⟨σ, [], Post.refl r, hx, ht, hd, hN⟩
theorem then_sound {a : Code} (hrec : RecS P rec) {tm tm' : Ts AV} {ds ds' : List (FuncId × List AV)} {g g' : G} {x : X} {next : Ts AV → List (FuncId × List AV) → G → Res} (h : thenDo next (rec (.code a tm ds) g) = .fin x tm' ds' g')
    (hle : ∀ tm ds g, LeRes g (next tm ds g)) {σ : Sg} {w : World} {act : Act} {N : Nat} (p : Pre P T hi σ g w g') (ht : TR σ tm act.tmps) (hd : DRs σ ds act.defers) (hin : codeIn N a = true) (hN : N ≤ act.tmps.size)
    {K : Act → World → Prop} (hK : ∀ tm1 ds1 g1 σ1 w1 a1 L, next tm1 ds1 g1 = .fin x tm' ds' g' → Post P T σ g w σ1 g1 w1 L → Pre P T hi σ1 g1 w1 g' → TR σ1 tm1 a1.tmps → DRs σ1 ds1 a1.defers → N ≤ a1.tmps.size → K a1 w1) :
    a.wp P (Exit.then K (CPost P T σ g w N x tm' ds' g')) act w := by
  cases e : rec (.code a tm ds) g with
  | no n => rw [e] at h; cases h
  | val v g1 => rw [e] at h; cases h
  | pan v g1 => rw [e] at h; cases h
  | fin y tm1 ds1 g1 =>
    rw [e] at h
    cases y with
    | norm =>
      have h' : next tm1 ds1 g1 = .fin x tm' ds' g' := h
      obtain ⟨M, l⟩ : ∃ M, Le g1 g' M := by have := hle tm1 ds1 g1; rw [h'] at this; exact this
      refine wp_mono (hrec.code a tm ds g _ _ _ _ e T hi σ w act N (p.first l) ht hd hin hN) fun ex a1 w1 q => ?_
      obtain ⟨σ1, L, q1, q2, q3, q4, q5⟩ := q
      cases q2
      exact hK tm1 ds1 g1 σ1 w1 a1 L h' q1 (p.then q1) q3 q4 q5
    | exit id =>
      injection h with h1 h2 h3 h4; subst h1; subst h2; subst h3; subst h4
      refine wp_mono (hrec.code a tm ds g _ _ _ _ e T hi σ w act N p ht hd hin hN) fun ex a1 w1 q => ?_
      obtain ⟨σ1, L, q1, q2, q3⟩ := q
      cases q2
      exact ⟨σ1, L, q1, rfl, q3⟩
    | ret =>
      injection h with h1 h2 h3 h4; subst h1; subst h2; subst h3; subst h4
      refine wp_mono (hrec.code a tm ds g _ _ _ _ e T hi σ w act N p ht hd hin hN) fun ex a1 w1 q => ?_
      obtain ⟨σ1, L, q1, q2, q3⟩ := q
      cases q2
      exact ⟨σ1, L, q1, rfl, q3⟩
    | pan v =>
      injection h with h1 h2 h3 h4; subst h1; subst h2; subst h3; subst h4
      refine wp_mono (hrec.code a tm ds g _ _ _ _ e T hi σ w act N p ht hd hin hN) fun ex a1 w1 q => ?_
      obtain ⟨σ1, L, q1, q2, q3⟩ := q
      obtain ⟨V, rfl, q4⟩ := q2
      exact ⟨σ1, L, q1, ⟨V, rfl, q4⟩, q3⟩
theorem opnd_sound {σ : Sg} {tm : Ts AV} {a : Act} (h : TR σ tm a.tmps) {x : Operand} {v : AV} (hv : opnd tm x = some v) : VR σ v (a.eval x) := h.ops [x] x (List.mem_singleton.2 rfl) v hv
theorem codeS_body (hP : PF2 P) (hrec : RecL P rec) : CodeS P (body P Γ rec) := by
  intro c tm ds g x tm' ds' g' h T hi σ w a N p ht hd hin hN
  have h : evCode rec P c tm ds g = .fin x tm' ds' g' := h
  cases c with
  | skip => injection h with h1 h2 h3 h4; subst h1; subst h2; subst h3; subst h4; exact wp_skip (CPost.now p.rel rfl ht hd hN)
  | label l => injection h with h1 h2 h3 h4; subst h1; subst h2; subst h3; subst h4; exact wp_label (CPost.now p.rel rfl ht hd hN)
  | exit id => injection h with h1 h2 h3 h4; subst h1; subst h2; subst h3; subst h4; exact wp_exit (CPost.now p.rel rfl ht hd hN)
  | ret => injection h with h1 h2 h3 h4; subst h1; subst h2; subst h3; subst h4; exact wp_ret (CPost.now p.rel rfl ht hd hN)
  | rangeFunc => cases h
  | goto l => cases h
  | refuse r => cases h
  | scope c =>
    have h : rec (.code c tm ds) g = .fin x tm' ds' g' := h
    refine wp_scope_straight (wp_mono (hrec.code c tm ds g _ _ _ _ h T hi σ w a N p ht hd hin hN) fun e a' w' q => ?_)
    cases e with
    | goto l => obtain ⟨_, _, _, q2, _⟩ := q; exact q2.notGoto.elim
    | _ => exact q
  | region id ops draw =>
    cases draw with
    | false =>
      have h : evSeq rec P ops.toList ops.toList tm ds g = .fin x tm' ds' g' := h
      refine wp_region ?_
      have := evSeq_sound hP.toPF hrec.toRecS (ops := ops) (N := N) p.fresh ops.toList 0 (fun j => by simp) _ _ _ _ _ _ _ h σ w a [] (Post.refl p.rel) p ht hd hin hN
      rw [List.range_eq_range']; simpa using this
    | true =>
      have h : evRegP rec P ops.toList tm ds g (static ops) = .fin x tm' ds' g' := h
      cases hs : static ops with
      | none => rw [hs] at h; cases h
      | some ms =>
        rw [hs] at h
        simp only [evRegP] at h
        cases e : evPar rec P ops.toList ms ops.toList 0 [] tm g with
        | no n => rw [e] at h; cases h
        | ok q g1 =>
          obtain ⟨tm1, fs⟩ := q
          rw [e] at h
          injection h with h1 h2 h3 h4; subst h1; subst h2; subst h3; subst h4
          exact par_sound hP.toPF hrec.toRecS hP.mixed (static_spec hs) e p ht hd hin hN
  | seq b c =>
    simp only [codeIn, Bool.and_eq_true] at hin
    refine wp_seq (then_sound hrec.toRecS (next := fun tm ds g => rec (.code c tm ds) g) h (fun _ _ _ => hrec.le _ _) p ht hd hin.1 hN ?_)
    intro tm1 ds1 g1 σ1 w1 a1 L h1 q1 q2 q3 q4 q5
    exact wp_mono (hrec.code c tm1 ds1 g1 _ _ _ _ h1 T hi σ1 w1 a1 N q2 q3 q4 hin.2 q5) fun e a w q => q.from q1 p.fresh p.hi
  | cond c b d =>
    simp only [codeIn, Bool.and_eq_true] at hin
    have h : evCond (rec (.code b tm ds)) (rec (.code d tm ds)) g (opnd tm c) = .fin x tm' ds' g' := h
    cases ho : opnd tm c with
    | none => rw [ho] at h; cases h
    | some v =>
      rw [ho] at h
      have hv := opnd_sound ht ho
      cases v <;> simp only [evCond] at h <;> try (cases h; done)
      case bool t =>
        have hev : a.eval c = .bool t := by generalize a.eval c = X at hv; cases hv; rfl
        cases t with
        | true => exact wp_cond_true hev (hrec.code b tm ds g _ _ _ _ h T hi σ w a N p ht hd hin.1 hN)
        | false => exact wp_cond_false hev (hrec.code d tm ds g _ _ _ _ h T hi σ w a N p ht hd hin.2 hN)
      case sbool s =>
        have hev : a.eval c = .bool s := by generalize a.eval c = X at hv; cases hv; rfl
        cases e : ask s g with
        | no n => rw [e] at h; cases h
        | ok t g1 =>
          rw [e] at h
          obtain ⟨r, hr, rfl⟩ := ask_ok e
          have hq := Post.asked (b := s) (d := t) (r := r) p.rel
          cases t with
          | true =>
            simp only [evCondS] at h
            obtain ⟨M, l⟩ : ∃ M, Le (⟨g.heap, g.next, g.log, r, (s, true) :: g.obl⟩ : G) g' M := by have := hrec.le (.code b tm ds) ⟨g.heap, g.next, g.log, r, (s, true) :: g.obl⟩; rw [h] at this; exact this
            have hs : s = true := (l.owes p.owes) (s, true) List.mem_cons_self
            subst hs
            exact wp_cond_true hev (wp_mono (hrec.code b tm ds _ _ _ _ _ h T hi σ w a N (p.then hq) ht hd hin.1 hN) fun e a w q => q.from hq p.fresh p.hi)
          | false =>
            simp only [evCondS] at h
            obtain ⟨M, l⟩ : ∃ M, Le (⟨g.heap, g.next, g.log, r, (s, false) :: g.obl⟩ : G) g' M := by have := hrec.le (.code d tm ds) ⟨g.heap, g.next, g.log, r, (s, false) :: g.obl⟩; rw [h] at this; exact this
            have hs : s = false := (l.owes p.owes) (s, false) List.mem_cons_self
            subst hs
            exact wp_cond_false hev (wp_mono (hrec.code d tm ds _ _ _ _ _ h T hi σ w a N (p.then hq) ht hd hin.2 hN) fun e a w q => q.from hq p.fresh p.hi)
  | block id c =>
    have h : inBlockA id (rec (.code c tm ds) g) = .fin x tm' ds' g' := h
    refine wp_block ?_
    cases e : rec (.code c tm ds) g with
    | no n => rw [e] at h; cases h
    | val v g1 => rw [e] at h; cases h
    | pan v g1 => rw [e] at h; cases h
    | fin y tm1 ds1 g1 =>
      rw [e] at h
      cases y with
      | norm =>
        injection h with h1 h2 h3 h4; subst h1; subst h2; subst h3; subst h4
        refine wp_mono (hrec.code c tm ds g _ _ _ _ e T hi σ w a N p ht hd hin hN) fun ex a1 w1 q => ?_
        obtain ⟨σ1, L, q1, q2, q3⟩ := q
        cases q2; exact ⟨σ1, L, q1, rfl, q3⟩
      | ret =>
        injection h with h1 h2 h3 h4; subst h1; subst h2; subst h3; subst h4
        refine wp_mono (hrec.code c tm ds g _ _ _ _ e T hi σ w a N p ht hd hin hN) fun ex a1 w1 q => ?_
        obtain ⟨σ1, L, q1, q2, q3⟩ := q
        cases q2; exact ⟨σ1, L, q1, rfl, q3⟩
      | pan v =>
        injection h with h1 h2 h3 h4; subst h1; subst h2; subst h3; subst h4
        refine wp_mono (hrec.code c tm ds g _ _ _ _ e T hi σ w a N p ht hd hin hN) fun ex a1 w1 q => ?_
        obtain ⟨σ1, L, q1, q2, q3⟩ := q
        obtain ⟨V, rfl, q4⟩ := q2; exact ⟨σ1, L, q1, ⟨V, rfl, q4⟩, q3⟩
      | exit id' =>
        simp only [inBlockA] at h
        cases hb : Nat.beq id' id with
        | true =>
          rw [hb] at h
          injection h with h1 h2 h3 h4; subst h1; subst h2; subst h3; subst h4
          have := of_beq hb
          subst this
          refine wp_mono (hrec.code c tm ds g _ _ _ _ e T hi σ w a N p ht hd hin hN) fun ex a1 w1 q => ?_
          obtain ⟨σ1, L, q1, q2, q3⟩ := q
          cases q2
          show if id' = id' then _ else _
          rw [if_pos rfl]; exact ⟨σ1, L, q1, rfl, q3⟩
        | false =>
          rw [hb] at h
          injection h with h1 h2 h3 h4; subst h1; subst h2; subst h3; subst h4
          refine wp_mono (hrec.code c tm ds g _ _ _ _ e T hi σ w a N p ht hd hin hN) fun ex a1 w1 q => ?_
          obtain ⟨σ1, L, q1, q2, q3⟩ := q
          cases q2
          show if id' = id then _ else _
          rw [if_neg (of_beqf hb)]; exact ⟨σ1, L, q1, rfl, q3⟩
  | loop c =>
    obtain ⟨m, hm⟩ := hrec.loop
    refine wp_loop_rounds (m + 1) ?_
    rw [rounds_succ]
    refine then_sound hrec.toRecS (next := fun tm ds g => rec (.code (.loop c) tm ds) g) h (fun _ _ _ => hrec.le _ _) p ht hd hin hN ?_
    intro tm1 ds1 g1 σ1 w1 a1 L h1 q1 q2 q3 q4 q5
    exact rounds_mono (fun e a w q => q.from q1 p.fresh p.hi) (hm c tm1 ds1 g1 _ _ _ _ h1 T hi σ1 w1 a1 N q2 q3 q4 hin q5)
theorem loop_body (hrec : RecL P rec) : ∃ m, ∀ c tm ds g x tm' ds' g', body P Γ rec (.code (.loop c) tm ds) g = .fin x tm' ds' g' → ∀ T hi σ w a N, Pre P T hi σ g w g' → TR σ tm a.tmps → DRs σ ds a.defers → codeIn N c = true → N ≤ a.tmps.size →
    Code.rounds P c (CPost P T σ g w N x tm' ds' g') m a w := by
  obtain ⟨m, hm⟩ := hrec.loop
  refine ⟨m + 1, fun c tm ds g x tm' ds' g' h T hi σ w a N p ht hd hin hN => ?_⟩
  rw [rounds_succ]
  refine then_sound hrec.toRecS (next := fun tm ds g => rec (.code (.loop c) tm ds) g) h (fun _ _ _ => hrec.le _ _) p ht hd hin hN ?_
  intro tm1 ds1 g1 σ1 w1 a1 L h1 q1 q2 q3 q4 q5
  exact rounds_mono (fun e a w q => q.from q1 p.fresh p.hi) (hm c tm1 ds1 g1 _ _ _ _ h1 T hi σ1 w1 a1 N q2 q3 q4 hin q5)

/-! ### The calls -/
theorem call_sound (hP : PF2 P) (hrec : RecS P rec) {f : FuncId} : CallSf P f (fun args g => evCallF rec P args g P.funcs[f]?) := by
  intro args g g' hg T hi σ w Args p hargs
  simp only at hg ⊢
  generalize hres : evCallF rec P args g P.funcs[f]? = r at hg ⊢
  cases hf : P.funcs[f]? with
  | none => rw [hf] at hres; subst hres; cases hg
  | some fn =>
    rw [hf] at hres
    simp only [evCallF, evCallB] at hres
    cases hb : fn.body with
    | none => rw [hb] at hres; subst hres; cases hg
    | some c =>
      rw [hb] at hres
      simp only [argTmps, argsK_eq] at hres
      have hin := hP.allIn f fn c hf hb
      refine calls_of_wp_defers hf hb ?_
      change c.wp P _ (entered fn Args) w
      cases e : rec (.code c (Ev.args args 0 .e) []) g with
      | no n => rw [e] at hres; subst hres; cases hg
      | val v g1 => rw [e] at hres; subst hres; cases hg
      | pan v g1 => rw [e] at hres; subst hres; cases hg
      | fin x tm1 ds1 g1 =>
        rw [e] at hres
        have key : ∀ u, evDefers rec P fn tm1 ds1 u g1 = r → ∃ M, Le g1 g' M := fun u hu => (hu ▸ evDefers_le (P := P) hrec.le fn tm1 ds1 u g1 : LeRes g1 r).of_g hg
        cases x with
        | exit id => subst hres; cases hg
        | norm =>
          have hres : evDefers rec P fn tm1 ds1 none g1 = r := hres
          obtain ⟨M, l⟩ := key none hres
          refine wp_mono (hrec.code c _ [] g _ _ _ _ e T hi σ w (entered fn Args) fn.ntmps (p.first l) (entered_TR fn hargs) trivial hin (entered_size fn Args)) fun ex a1 w1 q => ?_
          obtain ⟨σ1, L, q1, q2, q3, q4, q5⟩ := q
          cases q2
          exact evDefers_sound hP hrec p.fresh hg ds1 none g1 a1.defers .returning σ1 w1 L hres q1 (p.then q1) q3 q4 rfl
        | ret =>
          have hres : evDefers rec P fn tm1 ds1 none g1 = r := hres
          obtain ⟨M, l⟩ := key none hres
          refine wp_mono (hrec.code c _ [] g _ _ _ _ e T hi σ w (entered fn Args) fn.ntmps (p.first l) (entered_TR fn hargs) trivial hin (entered_size fn Args)) fun ex a1 w1 q => ?_
          obtain ⟨σ1, L, q1, q2, q3, q4, q5⟩ := q
          cases q2
          exact evDefers_sound hP hrec p.fresh hg ds1 none g1 a1.defers .returning σ1 w1 L hres q1 (p.then q1) q3 q4 rfl
        | pan v =>
          have hres : evDefers rec P fn tm1 ds1 (some v) g1 = r := hres
          obtain ⟨M, l⟩ := key (some v) hres
          refine wp_mono (hrec.code c _ [] g _ _ _ _ e T hi σ w (entered fn Args) fn.ntmps (p.first l) (entered_TR fn hargs) trivial hin (entered_size fn Args)) fun ex a1 w1 q => ?_
          obtain ⟨σ1, L, q1, q2, q3, q4, q5⟩ := q
          obtain ⟨V, rfl, hV⟩ := q2
          exact evDefers_sound hP hrec p.fresh hg ds1 (some v) g1 a1.defers _ σ1 w1 L hres q1 (p.then q1) q3 q4 ⟨V, rfl, hV⟩
theorem body_sound (hP : PF2 P) (hΓ : EnvS P Γ) (hrec : RecL P rec) : RecL P (body P Γ rec) where
  le := body_le hΓ hrec.le
  code := codeS_body hP hrec
  call := fun f _ => by
    show CallSf P f (fun args g => evCallE P rec f args g (Γ f))
    cases e : Γ f with
    | some s => exact hΓ.call f s e
    | none => exact call_sound hP hrec.toRecS
  loop := loop_body hrec
theorem ev_sound (hP : PF2 P) (hΓ : EnvS P Γ) : ∀ n, RecL P (ev P Γ n)
  | 0 => ⟨⟨fun _ _ => trivial, fun c tm ds g x tm' ds' g' h => (by cases h), fun f _ args g g' h => (by cases h)⟩, 0, fun c tm ds g x tm' ds' g' h => (by cases h)⟩
  | n + 1 => body_sound hP hΓ (ev_sound hP hΓ n)
theorem noEnv (P : Program) : EnvS P (fun _ => none) := ⟨fun _ _ h => (by cases h), fun _ _ h => (by cases h)⟩
end
end Go.Ev
