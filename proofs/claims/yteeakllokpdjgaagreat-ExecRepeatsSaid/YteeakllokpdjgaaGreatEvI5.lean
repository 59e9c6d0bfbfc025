/-
  A part of the evaluator of the program's code, or of what it was seen to do; its statements are Lean's own. No condition.
-/
import Derived.Test.YteeakllokpdjgaaGreatEvI4
import Derived.LoopN
import Derived.RowKit3
namespace Go.Ev
open Go

section
variable {P : Program} {T : Tp} {hi : Nat} {σ : Sg} {g g' : G} {w : World}
theorem loadA_res {t : TypeId} {a v : AV} {A : Value} (ha : VR σ a A) (h : loadA P t a g = .ok v g') (p : Pre P T hi σ g w g') :
    ∃ addr V L, A = .pointer (some addr) ∧ (loadVar t addr).run P w = .ok V w ∧ VR σ v V ∧ Post P T σ g w σ g' w L := by
  cases a <;> simp only [loadA] at h <;> first | (exact (no_ok h).elim) | skip
  case ptr i o =>
    cases ha with | ptr hσ =>
    rename_i b cap
    revert h; cases hk : kindT P t <;> intro h <;> simp only at h
    case aggr =>
      revert h; cases hn : sizeT P t <;> intro h <;> simp only at h
      case none => exact (no_ok h).elim
      case some n =>
        obtain ⟨l, g1, h1, h2⟩ := bind_ok h
        obtain ⟨rfl, rfl⟩ := pure_ok h2
        obtain ⟨blk, _, _, hg1⟩ := read_ok h1
        obtain ⟨b', cap', c, e, fz, q1, q2, q3, q4, q5, q6, q7⟩ := read_sound h1 p.rel (p.inT _ (by rw [hg1]; rfl))
        rw [hσ] at q1; injection q1 with q1; injection q1 with q1 _; subst q1
        exact ⟨_, _, _, rfl, by simp [loadVar, r_isAgg_t hk, r_size hn, run_loadCells' q2 o n q4], .agg q6, q7⟩
    case cell =>
      obtain ⟨l, g1, h1, h2⟩ := bind_ok h
      match l, h1, h2 with
      | [v'], h1, h2 =>
        obtain ⟨rfl, rfl⟩ := pure_ok h2
        obtain ⟨blk, _, _, hg1⟩ := read_ok h1
        obtain ⟨b', cap', c, e, fz, q1, q2, q3, q4, q5, q6, q7⟩ := read_sound h1 p.rel (p.inT _ (by rw [hg1]; rfl))
        rw [hσ] at q1; injection q1 with q1; injection q1 with q1 _; subst q1
        obtain ⟨V, h5, h6⟩ := q6.get (i := 0) rfl
        have h7 : w.cell? ⟨b, o, none⟩ = some V := by
          rw [cell_of q2]
          rw [List.getElem?_take_of_lt (by omega), List.getElem?_drop] at h5
          simpa using h5
        exact ⟨_, V, _, rfl, by simp [loadVar, r_isAgg_f hk, h7], h6, q7⟩
      | [], _, h2 => exact (no_ok h2).elim
      | _ :: _ :: _, _, h2 => exact (no_ok h2).elim
    case none => exact (no_ok h).elim
  case sptr i o =>
    cases ha with | sptr hσ =>
    rename_i b cap
    revert h; cases hk : kindT P t <;> intro h <;> simp only at h
    case aggr => exact (no_ok h).elim
    case none => exact (no_ok h).elim
    case cell =>
      split at h
      · rename_i e k f n hg
        obtain ⟨d, g1, h1, h2⟩ := bind_ok h
        obtain ⟨r, hr, hg1⟩ := ask_ok h1
        cases d with
        | false => exact (no_ok h2).elim
        | true =>
          obtain ⟨u, g2, h3, h4⟩ := bind_ok h2
          obtain ⟨rfl, rfl⟩ := pure_ok h4
          have hg2 := touch_ok h3
          subst hg1
          have hin := p.inT [⟨i, 0, 0, false⟩] (by rw [hg2]; rfl)
          have hlt : o < n := by
            have := p.owes (decide (o < n), true) (by rw [hg2]; exact List.mem_cons_self)
            simpa using this
          have hT : T i o := hin _ List.mem_cons_self o (.inl rfl)
          obtain ⟨b0, cap0, hs, _⟩ := p.rel.sh i _ hg ⟨o, hT⟩
          rw [hσ] at hs; injection hs with hs; injection hs with hs hs'; subst hs; subst hs'
          obtain ⟨c, e', fz, V, q1, q2, q3⟩ := p.rel.ct i _ o (.cell (.sint k (f o))) b cap hg (by simp [Blk.ct, hlt]) hT hσ
          refine ⟨_, V, [⟨i, 0, 0, false⟩], rfl, by simp [loadVar, r_isAgg_f hk, cell_of q1, q2], q3, ?_⟩
          have := Post.trans (Post.asked (b := decide (o < n)) (d := true) (r := r) p.rel) (Post.logs (i := i) (o := 0) (n := 0) (p.rel.same rfl)) p.fresh (by have := p.hi; rw [hg2] at this; exact this)
          rw [hg2]; simpa using this
      · cases h

def resultOf (tmps : Array Value) : ResultVar → Sem Value
  | .tmp t => pure (tmps.getD t undef)
  | .cell a t => do loadVar t (← asAddr (tmps.getD a undef))
theorem results_eq (fn : Func) (tmps : Array Value) : results fn tmps = (do
    let vs ← fn.results.mapM (resultOf tmps)
    pure (if h : vs.size = 1 then vs[0] else .tuple vs)) := rfl
theorem resultsA_sound {tm : Ts AV} {tmps : Array Value} (ht : TR σ tm tmps) : ∀ (rs : List ResultVar) (g : G) (vs : List AV) (g' : G), resultsA P rs tm g = .ok vs g' → Pre P T hi σ g w g' →
    ∃ Vs L, (rs.mapM (resultOf tmps)).run P w = .ok Vs w ∧ VRs σ vs Vs ∧ Post P T σ g w σ g' w L
  | [], g, vs, g', h, p => by
    obtain ⟨rfl, rfl⟩ := pure_ok h
    exact ⟨[], [], by simp, .nil, Post.refl p.rel⟩
  | .tmp t :: rs, g, vs, g', h, p => by
    simp only [resultsA] at h
    cases e : tm.get t with
    | none => rw [e] at h; exact (no_ok h).elim
    | some v =>
      rw [e] at h
      obtain ⟨us, g1, h1, h2⟩ := bind_ok h
      obtain ⟨rfl, rfl⟩ := pure_ok h2
      obtain ⟨Vs, L, q1, q2, q3⟩ := resultsA_sound ht rs g us g' h1 p
      obtain ⟨V, r1, r2⟩ := ht t v e
      have r3 : tmps.getD t undef = V := by simp [Array.getD_eq_getD_getElem?, r1]
      exact ⟨V :: Vs, L, by simp [List.mapM_cons, resultOf, r3, q1, -Array.getD_eq_getD_getElem?], .cons r2 q2, q3⟩
  | .cell a t :: rs, g, vs, g', h, p => by
    simp only [resultsA] at h
    cases e : tm.get a with
    | none => rw [e] at h; exact (no_ok h).elim
    | some v =>
      rw [e] at h
      obtain ⟨u, g1, h1, h2⟩ := bind_ok h
      obtain ⟨us, g2, h3, h4⟩ := bind_ok h2
      obtain ⟨rfl, rfl⟩ := pure_ok h4
      obtain ⟨M, hM⟩ : ∃ M, Le g1 g' M := by
        have : ∀ (rs : List ResultVar), Mn (resultsA P rs tm) := by
          intro rs
          induction rs with
          | nil => exact Mn.pure
          | cons r rs ih =>
            cases r with
            | tmp t => simp only [resultsA]; split
                       · exact ih.bind fun _ => Mn.pure
                       · exact Mn.no
            | cell a t => simp only [resultsA]; split
                          · exact Mn.loadA.bind fun _ => ih.bind fun _ => Mn.pure
                          · exact Mn.no
        exact this rs _ _ _ h3
      obtain ⟨V, r1, r2⟩ := ht a v e
      obtain ⟨addr, U, L1, s1, s2, s3, s4⟩ := loadA_res r2 h1 (p.first hM)
      obtain ⟨Vs, L, q1, q2, q3⟩ := resultsA_sound ht rs g1 us g' h3 (p.then s4)
      have r3 : tmps.getD a undef = .pointer (some addr) := by rw [Array.getD_eq_getD_getElem?, r1, ← s1]; rfl
      refine ⟨U :: Vs, _, ?_, .cons s3 q2, s4.trans q3 p.fresh p.hi⟩
      simp [List.mapM_cons, resultOf, r3, asAddr, s2, q1, -Array.getD_eq_getD_getElem?]
theorem leave_sound {fn : Func} {tm : Ts AV} {tmps : Array Value} {v : AV} (h : leave P fn tm g = .val v g') (ht : TR σ tm tmps) (p : Pre P T hi σ g w g') :
    ∃ V L, (results fn tmps).run P w = .ok V w ∧ VR σ v V ∧ Post P T σ g w σ g' w L := by
  unfold leave at h
  cases e : resultsA P fn.results.toList tm g with
  | no n => rw [e] at h; cases h
  | ok vs g1 =>
    rw [e] at h
    injection h with h1 h2
    subst h1; subst h2
    obtain ⟨Vs, L, q1, q2, q3⟩ := resultsA_sound ht _ _ _ _ e p
    refine ⟨if h : Vs.toArray.size = 1 then Vs.toArray[0] else .tuple Vs.toArray, L, ?_, ?_, q3⟩
    · rw [results_eq, Array.mapM_eq_mapM_toList]
      simp [q1]
    · cases q2 with
      | nil => exact .tup .nil
      | cons a b =>
        cases b with
        | nil => exact a
        | cons c d => simp [oneOf]; exact .tup (.cons a (.cons c d))
end
end Go.Ev

namespace Go.Ev
open Go

/-- the operation asks for the panic under way -/
def isRec (o : Oper) : Prop := ∃ c, o.op = .call c ∧ c.callee = .builtin .recover
theorem isRec.run {o : Oper} (h : isRec o) (P : Program) (a : Act) (w : World) : (execOp a.eval o).run P w = .ok .recover w := by
  obtain ⟨c, h1, h2⟩ := h
  simp [execOp, h1, resolve, h2, invoke, builtin]

def recOf : Option AV → AV
  | some v => v
  | none => .nilIface
section
variable {P : Program} {rec : Rec}
theorem evDeferK_ok {fd : Func} {k : G → Res} {r r' : Res} (h : evDeferK P fd k r = r') (hn : ∀ n, r' ≠ .no n) : ∃ x tm'' g2 v g3, (x = .norm ∨ x = .ret) ∧ r = .fin x tm'' [] g2 ∧ leave P fd tm'' g2 = .val v g3 ∧ k g3 = r' := by
  cases r with
  | no n => exact absurd h.symm (hn _)
  | val v g => exact absurd h.symm (hn _)
  | pan v g => exact absurd h.symm (hn _)
  | fin x tm'' ds g2 =>
    cases ds with
    | cons d ds => cases x <;> exact absurd h.symm (hn _)
    | nil =>
      cases x with
      | norm =>
        simp only [evDeferK] at h
        cases e : leave P fd tm'' g2 with
        | val v g3 => rw [e] at h; exact ⟨_, _, _, v, g3, .inl rfl, rfl, e, h⟩
        | no n => rw [e] at h; exact absurd h.symm (hn _)
        | pan v g => rw [e] at h; exact absurd h.symm (hn _)
        | fin x t d g => rw [e] at h; exact absurd h.symm (hn _)
      | ret =>
        simp only [evDeferK] at h
        cases e : leave P fd tm'' g2 with
        | val v g3 => rw [e] at h; exact ⟨_, _, _, v, g3, .inr rfl, rfl, e, h⟩
        | no n => rw [e] at h; exact absurd h.symm (hn _)
        | pan v g => rw [e] at h; exact absurd h.symm (hn _)
        | fin x t d g => rw [e] at h; exact absurd h.symm (hn _)
      | exit id => exact absurd h.symm (hn _)
      | pan v => exact absurd h.symm (hn _)
theorem evDeferS_ok {fd : Func} {rest : Code} {k : G → Res} {r r' : Res} (h : (match r with | .fin .norm tm' [] g => evDeferK P fd k (rec (.code rest tm' []) g) | _ => .no 173) = r') (hn : ∀ n, r' ≠ .no n) :
    ∃ tm' g1, r = .fin .norm tm' [] g1 ∧ evDeferK P fd k (rec (.code rest tm' []) g1) = r' := by
  split at h
  · exact ⟨_, _, rfl, h⟩
  · exact absurd h.symm (hn _)
theorem evDeferO_ok {fd : Func} {args : List AV} {u : Option AV} {rest : Code} {g : G} {k : G → Res} {l : List Oper} {r : Res} (h : evDeferO rec P fd args u rest g k l = r) (hn : ∀ n, r ≠ .no n) :
    ∃ o os, l = o :: os ∧ isRec o ∧ o.guard = none ∧
      (match evSeq rec P (o :: os) os (putK (Ev.args args 0 .e) o.dst (recOf u) id) [] g with | .fin .norm tm' [] g => evDeferK P fd k (rec (.code rest tm' []) g) | _ => .no 173) = r := by
  cases l with
  | nil => exact absurd h.symm (hn _)
  | cons o os =>
    simp only [evDeferO] at h
    split at h
    · rename_i ho hg
      rw [argTmps, argsK_eq, putK_eq] at h
      refine ⟨o, os, rfl, ⟨_, ho, rfl⟩, hg, ?_⟩
      cases u <;> exact h
    · exact absurd h.symm (hn _)
theorem evDeferB_ok {fd : Func} {args : List AV} {u : Option AV} {g : G} {k : G → Res} {c : Option Code} {r : Res} (h : evDeferB rec P fd args u g k c = r) (hn : ∀ n, r ≠ .no n) :
    ∃ id ops rest, c = some (.seq (.region id ops false) rest) ∧ evDeferO rec P fd args u rest g k ops.toList = r := by
  unfold evDeferB at h
  split at h
  · exact ⟨_, _, _, rfl, h⟩
  · exact absurd h.symm (hn _)
theorem evDefers_eq {fn : Func} {tm : Ts AV} {f : FuncId} {args : List AV} {ds : List (FuncId × List AV)} {u : Option AV} {g : G} : evDefers rec P fn tm ((f, args) :: ds) u g =
    match P.funcs[f]? with
    | some fd => evDeferB rec P fd args u g (fun g => evDefers rec P fn tm ds none g) fd.body
    | none => .no 177 := rfl
theorem evDefers_cons {fn : Func} {tm : Ts AV} {f : FuncId} {args : List AV} {ds : List (FuncId × List AV)} {u : Option AV} {g : G} {r : Res} (h : evDefers rec P fn tm ((f, args) :: ds) u g = r) (hn : ∀ n, r ≠ .no n) :
    ∃ (fd : Func) (rid : Nat) (ops : Array Oper) (o : Oper) (os : List Oper) (rest : Code), P.funcs[f]? = some fd ∧ fd.body = some (.seq (.region rid ops false) rest) ∧ ops.toList = o :: os ∧ isRec o ∧ o.guard = none ∧
      ∃ tm' g1, evSeq rec P (o :: os) os (putK (Ev.args args 0 .e) o.dst (recOf u) id) [] g = .fin .norm tm' [] g1 ∧
      ∃ x tm'' g2, (x = .norm ∨ x = .ret) ∧ rec (.code rest tm' []) g1 = .fin x tm'' [] g2 ∧ ∃ v g3, leave P fd tm'' g2 = .val v g3 ∧ evDefers rec P fn tm ds none g3 = r := by
  rw [evDefers_eq] at h
  cases hf : P.funcs[f]? with
  | none => rw [hf] at h; exact absurd h.symm (hn _)
  | some fd =>
    rw [hf] at h
    simp only at h
    obtain ⟨rid, ops, rest, h1, h2⟩ := evDeferB_ok h hn
    obtain ⟨o, os, h3, h4, h5, h6⟩ := evDeferO_ok h2 hn
    obtain ⟨tm', g1, h7, h8⟩ := evDeferS_ok h6 hn
    obtain ⟨x, tm'', g2, v, g3, h9, h10, h11, h12⟩ := evDeferK_ok h8 hn
    exact ⟨fd, rid, ops, o, os, rest, rfl, h1, h3, h4, h5, tm', g1, h7, x, tm'', g2, h9, h10, v, g3, h11, h12⟩

theorem Mn.resultsA {tm : Ts AV} : ∀ (rs : List ResultVar), Mn (resultsA P rs tm)
  | [] => Mn.pure
  | .tmp t :: rs => by
    simp only [Ev.resultsA]; split
    · exact (Mn.resultsA rs).bind fun _ => Mn.pure
    · exact Mn.no
  | .cell a t :: rs => by
    simp only [Ev.resultsA]; split
    · exact Mn.loadA.bind fun _ => (Mn.resultsA rs).bind fun _ => Mn.pure
    · exact Mn.no
theorem leave_le (fn : Func) (tm : Ts AV) (g : G) : LeRes g (leave P fn tm g) := by
  unfold leave
  cases e : resultsA P fn.results.toList tm g with
  | no n => trivial
  | ok vs g1 => exact Mn.resultsA _ _ _ _ e
theorem notNo (r : Res) : (∃ n, r = .no n) ∨ ∀ n, r ≠ .no n := by
  cases r with
  | no n => exact .inl ⟨n, rfl⟩
  | _ => exact .inr fun n h => by cases h
theorem evDefers_le (hr : ∀ t g, LeRes g (rec t g)) (fn : Func) (tm : Ts AV) : ∀ (ds : List (FuncId × List AV)) (u : Option AV) (g : G), LeRes g (evDefers rec P fn tm ds u g)
  | [], none, g => leave_le fn tm g
  | [], some v, g => ⟨[], Le.refl g⟩
  | (f, args) :: ds, u, g => by
    rcases notNo (evDefers rec P fn tm ((f, args) :: ds) u g) with ⟨n, e⟩ | hn
    · rw [e]; trivial
    · obtain ⟨fd, rid, ops, o, os, rest, _, _, _, _, _, tm', g1, h1, x, tm'', g2, _, h2, v, g3, h3, h4⟩ := evDefers_cons rfl hn
      have l1 := evSeq_le (P := P) hr (ops := o :: os) os (putK (Ev.args args 0 .e) o.dst (recOf u) id) [] g
      rw [h1] at l1
      obtain ⟨_, l1⟩ := l1
      have l2 := hr (.code rest tm' []) g1
      rw [h2] at l2
      obtain ⟨_, l2⟩ := l2
      have l3 := leave_le (P := P) fd tm'' g2
      rw [h3] at l3
      obtain ⟨_, l3⟩ := l3
      rw [← h4]
      exact LeRes.trans ((l1.trans l2).trans l3) (evDefers_le hr fn tm ds none g3)

/-! ### The operations behind a recover, with the callers in sight -/
theorem wpOpsS_of_wpOps {ops : Array Oper} {Q : Exit → Act → World → Prop} {Q' : Exit → Act → List Frame → World → Prop} (hno : ¬ LetsOut Q) {cs : List Frame} (hQ : ∀ e a w, Q e a w → Q' e a cs w) : ∀ (l : List Nat) (a : Act) (w : World), wpOps P ops Q l a w → wpOpsS P ops Q' l a cs w
  | [], a, w, h => hQ _ _ _ h
  | i :: l, a, w, h => by
    rw [wpOps_cons] at h
    unfold wpOp at h
    unfold wpOpsS
    cases ho : ops[i]? with
    | none => rw [ho] at h; exact wpOpsS_of_wpOps hno hQ l a w h
    | some o =>
      rw [ho] at h
      simp only at h ⊢
      cases hw : Region.wanted o (yielded ops a.tmps) with
      | false =>
        rw [hw] at h
        simp only [Bool.false_eq_true, if_false] at h ⊢
        exact wpOpsS_of_wpOps hno hQ l _ w h
      | true =>
        rw [hw] at h
        simp only [if_true] at h ⊢
        rcases h with h | h
        · unfold Oper.wp at h
          have hmono : ∀ a' w', wpOps P ops Q l a' w' → wpOpsS P ops Q' l a' cs w' := fun a' w' => wpOpsS_of_wpOps hno hQ l a' w'
          split
          · rename_i w1 hr; rw [hr] at h; exact h.elim
          · generalize (execOp a.eval o).run P w = r at h
            cases r with
            | ok n w1 =>
              cases n <;> simp only [Oper.upon] at h ⊢ <;> try exact hmono _ _ h
              · refine Calls.mono h fun e w2 he => ?_
                cases e with
                | returned v => exact hmono _ _ he
                | panicked ch => exact hQ _ _ _ he
                | outgrown => exact (hno he).elim
              · exact Rows.mono h fun _ _ he => hmono _ _ he
            | halt x w1 =>
              cases x <;> simp only [Oper.upon] at h ⊢
              exact hQ _ _ _ h
        · exact (hno h.2).elim
end
end Go.Ev

namespace Go.Ev
open Go

section
variable {P : Program} {rec : Rec} {T : Tp} {hi : Nat}
theorem XR.notOut {σ : Sg} {x : X} (h : XR σ x .outgrown) : False := by
  cases x with
  | norm => cases h
  | exit id => cases h
  | ret => cases h
  | pan v => obtain ⟨V, h, _⟩ := h; cases h
theorem XR.notGoto {σ : Sg} {x : X} {l : Nat} (h : XR σ x (.goto l)) : False := by
  cases x with
  | norm => cases h
  | exit id => cases h
  | ret => cases h
  | pan v => obtain ⟨V, h, _⟩ := h; cases h
theorem CPost.notOut {σ : Sg} {g g' : G} {w : World} {N : Nat} {x : X} {tm' : Ts AV} {ds' : List (FuncId × List AV)} : ¬ LetsOut (CPost P T σ g w N x tm' ds' g') := by
  rintro ⟨a, w', σ', L, _, hx, _⟩; exact hx.notOut
theorem LeRes.of_g {g g' : G} {r : Res} (h : LeRes g r) (hr : r.g? = some g') : ∃ L, Le g g' L := by
  cases r with
  | no n => cases hr
  | fin x t d g2 => cases hr
  | val v g2 => injection hr with hr; subst hr; exact h
  | pan v g2 => injection hr with hr; subst hr; exact h
theorem notNo_of_g {g' : G} {r : Res} (hr : r.g? = some g') : ∀ n, r ≠ .no n := fun n e => by subst e; cases hr
/-- the frame of a call -/
def entered (fn : Func) (args : Array Value) : Act := { tmps := args ++ Array.replicate (fn.ntmps - args.size) undef, defers := [] }
theorem entered_size (fn : Func) (args : Array Value) : fn.ntmps ≤ (entered fn args).tmps.size := by simp [entered]; omega
theorem entered_TR {σ : Sg} {args : List AV} {Args : Array Value} (fn : Func) (h : VRs σ args Args.toList) : TR σ (Ev.args args 0 .e) (entered fn Args).tmps := by
  intro t v ht
  rcases args_get args 0 .e t v ht with ⟨u, _, h1, rfl⟩ | h1
  · obtain ⟨V, h2, h3⟩ := h.get h1
    refine ⟨V, ?_, h3⟩
    simp only [Nat.sub_zero, Array.getElem?_toList] at h2
    have hlt : t < Args.size := (Array.getElem?_eq_some_iff.1 h2).1
    show (Args ++ _)[t]? = some V
    rw [Array.getElem?_append_left hlt]; exact h2
  · rw [Ts.get_e] at h1; cases h1
theorem DRs.nil {σ : Sg} {Ds : List Deferred} (h : DRs σ [] Ds) : Ds = [] := by
  cases Ds with
  | nil => rfl
  | cons d ds => cases h

def UR (σ : Sg) : Option AV → FrameMode → Prop
  | none, m => m = .returning
  | some v, m => ∃ V, m = .panicking [{ v := V, recovered := false }] ∧ VR σ v V
theorem evDefers_sound (hP : PF2 P) (hrec : RecS P rec) {σ0 : Sg} {g0 g' : G} {w0 : World} {r : Res} (f0 : Fresh σ0 g0 hi) (hr : r.g? = some g') {fn : Func} {tm : Ts AV} {tmps : Array Value} :
    ∀ (ds : List (FuncId × List AV)) (u : Option AV) (g : G) (Ds : List Deferred) (mode : FrameMode) (σ : Sg) (w : World) (L : List Tch), evDefers rec P fn tm ds u g = r →
      Post P T σ0 g0 w0 σ g w L → Pre P T hi σ g w g' → TR σ tm tmps → DRs σ ds Ds → UR σ u mode → Leaves P fn tmps (CallR P T σ0 g0 w0 r) Ds mode w
  | [], none, g, Ds, mode, σ, w, L, h, p0, p, ht, hd, hu => by
    have := hd.nil
    subst this
    cases hu
    have h' : leave P fn tm g = r := h
    cases r with
    | no n => cases hr
    | fin x t d g2 => cases hr
    | pan v g2 =>
      unfold leave at h'
      split at h' <;> cases h'
    | val v g2 =>
      injection hr with hr; subst hr
      obtain ⟨V, L1, h1, h2, h3⟩ := leave_sound h' ht p
      exact ⟨V, h1, σ, _, V, p0.trans h3 f0 p.hi, rfl, h2⟩
  | [], some v, g, Ds, mode, σ, w, L, h, p0, p, ht, hd, hu => by
    have := hd.nil
    subst this
    obtain ⟨V, rfl, hv⟩ := hu
    have h' : Res.pan v g = r := h
    subst h'
    injection hr with hr; subst hr
    exact ⟨σ, L, V, p0, rfl, hv⟩
  | (f, args) :: ds, u, g, Ds, mode, σ, w, L, h, p0, p, ht, hd, hu => by
    cases Ds with
    | nil => cases hd
    | cons D Ds =>
    obtain ⟨⟨cap, hD1, hD2⟩, hd⟩ := hd
    obtain ⟨tgt, dargs⟩ := D
    simp only at hD1 hD2
    subst hD1
    obtain ⟨fd, rid, ops, o, os, rest, hf, hb, hl, hrc, hg, tm', g1, h1, x, tm'', g2, hx, h2, v, g3, h3, h4⟩ := evDefers_cons h (notNo_of_g hr)
    -- what the parts keep
    obtain ⟨M3, l3⟩ := (h4 ▸ evDefers_le (P := P) hrec.le fn tm ds none g3 : LeRes g3 r).of_g hr
    obtain ⟨M2, l2⟩ : ∃ M, Le g2 g3 M := by have := leave_le (P := P) fd tm'' g2; rw [h3] at this; exact this
    obtain ⟨M1, l1⟩ : ∃ M, Le g1 g2 M := by have := hrec.le (.code rest tm' []) g1; rw [h2] at this; exact this
    have hcode := hP.allIn f fd _ hf hb
    simp only [codeIn, Bool.and_eq_true] at hcode
    have hnum := hP.noNum f fd hf (by simp [hb])
    have hmode : mode ≠ .run := by
      cases u with
      | none => rw [show mode = .returning from hu]; simp
      | some v => obtain ⟨V, rfl, _⟩ := hu; simp
    refine leaves_cons (f := f) (args := dargs ++ cap) hmode (by simp [invoke, callFunc, hf, hnum, hb]) ?_
    refine callsD_of_wpS hf hb fun c₀ cs hc => ?_
    change (Code.seq (.region rid ops false) rest).wpS P _ (entered fd (dargs ++ cap)) (c₀ :: cs) w
    refine wpS_seq (wpS_region ?_)
    have hsz : ops.size = os.length + 1 := by rw [← Array.length_toList, hl, List.length_cons]
    have ho : ops[0]? = some o := by rw [← Array.getElem?_toList, hl]; rfl
    -- what recover yields
    obtain ⟨V, u', hV, hcs, hset⟩ : ∃ V u', VR σ (recOf u) V ∧ (match recoverD (c₀ :: cs) with
        | some (v, cs') => v = V ∧ cs' = { c₀ with mode := u' } :: cs
        | none => Value.nilIface = V ∧ c₀ :: cs = { c₀ with mode := u' } :: cs) ∧ settle u' = .returning := by
      cases u with
      | none =>
        have hm : c₀.mode = .returning := hc.trans hu
        refine ⟨.nilIface, .returning, .nilIface, ?_, rfl⟩
        have hrec0 : recoverD (c₀ :: cs) = none := by simp [recoverD, hm]
        rw [hrec0]
        refine ⟨rfl, ?_⟩
        rw [← hm]
      | some v =>
        obtain ⟨V, hm, hv⟩ := hu
        have hm : c₀.mode = .panicking [{ v := V, recovered := false }] := hc.trans hm
        refine ⟨V, .panicking [{ v := V, recovered := true }], hv, ?_, rfl⟩
        have hrec0 : recoverD (c₀ :: cs) = some (V, { c₀ with mode := .panicking [{ v := V, recovered := true }] } :: cs) := by simp [recoverD, hm]
        rw [hrec0]
        exact ⟨rfl, rfl⟩
    have hdst : ∀ k, o.dst = some k → k < (entered fd (dargs ++ cap)).tmps.size := fun k hk =>
      Nat.lt_of_lt_of_le (opsIn_mem hcode.1 o (by rw [hl]; exact List.mem_cons_self) k hk) (entered_size _ _)
    have htp : TR σ (putK (Ev.args args 0 .e) o.dst (recOf u) id) ((entered fd (dargs ++ cap)).put o.dst V).tmps := by
      have := (entered_TR fd hD2).put hV hdst
      rw [putK_eq] at this; exact this
    have hosin : opsIn fd.ntmps os = true := by have := hcode.1; rw [hl] at this; simp only [opsIn, Bool.and_eq_true] at this; exact this.2
    have hpre1 : Pre P T hi σ g w g1 := p.first (l1.trans (l2.trans l3))
    -- the rest of the region
    have hreg := evSeq_sound hP.toPF hrec (ops := ops) (N := fd.ntmps) p.fresh os 1 (fun j => by rw [← Array.getElem?_toList, hl, Nat.add_comm, List.getElem?_cons_succ]) _ _ _ _ _ _ _ (by rw [hl]; exact h1)
      σ w ((entered fd (dargs ++ cap)).put o.dst V) [] (Post.refl p.rel) hpre1 htp (by rw [put_defers]; trivial) hosin (by rw [put_size]; exact entered_size _ _)
    -- and what comes behind it
    have hend : ∀ e a w', CPost P T σ g w fd.ntmps .norm tm' [] g1 e a w' → Exit.thenS (rest.wpS P (bodyPostS P fd c₀ cs (fun e' u'' w'' => (match e' with
        | .returned _ => Leaves P fn tmps (CallR P T σ0 g0 w0 r) Ds (settle u'') w''
        | .panicked chain => Leaves P fn tmps (CallR P T σ0 g0 w0 r) Ds (raised u'' chain) w''
        | .outgrown => CallR P T σ0 g0 w0 r .outgrown w'')))) (bodyPostS P fd c₀ cs (fun e' u'' w'' => (match e' with
        | .returned _ => Leaves P fn tmps (CallR P T σ0 g0 w0 r) Ds (settle u'') w''
        | .panicked chain => Leaves P fn tmps (CallR P T σ0 g0 w0 r) Ds (raised u'' chain) w''
        | .outgrown => CallR P T σ0 g0 w0 r .outgrown w''))) e a ({ c₀ with mode := u' } :: cs) w' := by
      rintro e a w' ⟨σ1, L1, q1, rfl, q3, q4, q5⟩
      have hpre2 : Pre P T hi σ1 g1 w' g2 := (p.first (l2.trans l3)).then q1
      refine wpS_of_wp (wp_mono (hrec.code rest _ _ _ _ _ _ _ h2 T hi σ1 w' a fd.ntmps hpre2 q3 q4 hcode.2 q5) ?_)
      rintro e a2 w2 ⟨σ2, L2, s1, s2, s3, s4, s5⟩
      have q12 := q1.trans s1 p.fresh (Nat.le_trans (l2.trans l3).nx p.hi)
      obtain ⟨V2, L3, t1, t2, t3⟩ := leave_sound h3 s3 ((p.first l3).then q12)
      have q13 := q12.trans t3 p.fresh (Nat.le_trans l3.nx p.hi)
      have hsub : Sub σ σ2 := q13.ext.sub p.fresh (Nat.le_trans l3.nx p.hi)
      have hL : Leaves P fn tmps (CallR P T σ0 g0 w0 r) Ds (settle u') w2 := by
        rw [hset]
        exact evDefers_sound hP hrec f0 hr ds none g3 Ds .returning σ2 w2 _ h4 (p0.trans q13 f0 (Nat.le_trans l3.nx p.hi)) (p.then q13) (ht.mono hsub) (hd.mono hsub) rfl
      have h0 := s4.nil
      rcases hx with rfl | rfl
      · cases s2
        exact ⟨h0, u', rfl, V2, t1, hL⟩
      · cases s2
        exact ⟨h0, u', rfl, V2, t1, hL⟩
    rw [hsz, List.range_eq_range', List.range'_succ]
    unfold wpOpsS
    rw [ho]
    simp only
    have hw : Region.wanted o (yielded ops (entered fd (dargs ++ cap)).tmps) = true := by simp [Region.wanted, hg]
    rw [hw, hrc.run]
    simp only [if_true]
    revert hcs
    cases recoverD (c₀ :: cs) with
    | some vc =>
      obtain ⟨v2, cs2⟩ := vc
      rintro ⟨rfl, rfl⟩
      exact wpOpsS_of_wpOps CPost.notOut hend _ _ _ hreg
    | none =>
      rintro ⟨rfl, hcs⟩
      rw [hcs]
      exact wpOpsS_of_wpOps CPost.notOut hend _ _ _ hreg
end
end Go.Ev

namespace Go.Ev
open Go

theorem rounds_mono {P : Program} {c : Code} {Q Q' : Exit → Act → World → Prop} (hq : ∀ e a w, Q e a w → Q' e a w) : ∀ {n : Nat} {a : Act} {w : World}, Code.rounds P c Q n a w → Code.rounds P c Q' n a w
  | 0, _, _, h => h.elim
  | n + 1, a, w, h => by
    rw [rounds_succ] at h ⊢
    refine wp_mono h fun e a w h => ?_
    cases e with
    | normal => exact rounds_mono hq h
    | _ => exact hq _ _ _ h
structure RecL (P : Program) (rec : Rec) : Prop extends RecS P rec where
  loop : ∃ m, ∀ c tm ds g x tm' ds' g', rec (.code (.loop c) tm ds) g = .fin x tm' ds' g' → ∀ T hi σ w a N, Pre P T hi σ g w g' → TR σ tm a.tmps → DRs σ ds a.defers → codeIn N c = true → N ≤ a.tmps.size →
    Code.rounds P c (CPost P T σ g w N x tm' ds' g') m a w
structure EnvS (P : Program) (Γ : Env) : Prop where
  le : ∀ f s, Γ f = some s → ∀ args g, LeRes g (s args g)
  call : ∀ f s, Γ f = some s → CallSf P f s

section
variable {P : Program} {rec : Rec} {Γ : Env} {T : Tp} {hi : Nat}
/-! ### What the parts keep -/
theorem thenDo_le {next : Ts AV → List (FuncId × List AV) → G → Res} {r : Res} {g : G} (h : LeRes g r) (hn : ∀ tm ds g, LeRes g (next tm ds g)) : LeRes g (thenDo next r) := by
  cases r with
  | fin x tm ds g1 =>
    cases x with
    | norm => obtain ⟨L, l⟩ := h; exact LeRes.trans l (hn tm ds g1)
    | _ => exact h
  | _ => exact h
theorem evRegP_le (hr : ∀ t g, LeRes g (rec t g)) {ops : Array Oper} {tm : Ts AV} {ds : List (FuncId × List AV)} {g : G} {s : Option (List Nat)} : LeRes g (evRegP rec P ops.toList tm ds g s) := by
  cases s with
  | none => trivial
  | some ms =>
    simp only [evRegP]
    cases e : evPar rec P ops.toList ms ops.toList 0 [] tm g with
    | no n => trivial
    | ok q g' => obtain ⟨tm', fs⟩ := q; exact par_le hr e
theorem evCode_le (hr : ∀ t g, LeRes g (rec t g)) (c : Code) (tm : Ts AV) (ds : List (FuncId × List AV)) (g : G) : LeRes g (evCode rec P c tm ds g) := by
  unfold evCode
  cases c with
  | skip => exact ⟨[], Le.refl g⟩
  | region id ops draw =>
    cases draw with
    | false => exact evSeq_le hr _ _ _ _
    | true => exact evRegP_le hr
  | seq a b => exact thenDo_le (hr _ _) fun _ _ _ => hr _ _
  | cond c a b =>
    simp only
    cases opnd tm c with
    | none => trivial
    | some v =>
      cases v <;> try trivial
      case bool t => cases t <;> exact hr _ _
      case sbool s =>
        simp only [evCond]
        cases e : ask s g with
        | no n => trivial
        | ok d g1 =>
          obtain ⟨L, l⟩ := Mn.ask _ _ _ e
          cases d <;> exact LeRes.trans l (hr _ _)
  | block id c =>
    simp only
    have := hr (.code c tm ds) g
    cases e : rec (.code c tm ds) g with
    | fin x tm1 ds1 g1 =>
      rw [e] at this
      cases x with
      | exit id' => simp only [inBlockA]; cases Nat.beq id' id <;> exact this
      | _ => exact this
    | _ => rw [e] at this; exact this
  | loop c => exact thenDo_le (hr _ _) fun _ _ _ => hr _ _
  | rangeFunc => trivial
  | exit id => exact ⟨[], Le.refl g⟩
  | scope c => exact hr _ _
  | label l => exact ⟨[], Le.refl g⟩
  | goto l => trivial
  | ret => exact ⟨[], Le.refl g⟩
  | refuse r => trivial
theorem afterBody_le (hr : ∀ t g, LeRes g (rec t g)) (fn : Func) {r : Res} {g : G} (h : LeRes g r) : LeRes g (afterBody rec P fn r) := by
  cases r with
  | fin x tm ds g1 =>
    obtain ⟨L, l⟩ := h
    cases x with
    | exit id => trivial
    | _ => exact LeRes.trans l (evDefers_le hr fn tm ds _ g1)
  | _ => trivial
theorem evCallF_le (hr : ∀ t g, LeRes g (rec t g)) {args : List AV} {g : G} {fn : Option Func} : LeRes g (evCallF rec P args g fn) := by
  cases fn with
  | none => trivial
  | some fn =>
    simp only [evCallF, evCallB]
    cases fn.body with
    | none => trivial
    | some c =>
      simp only [argTmps, argsK_eq]
      exact afterBody_le hr fn (hr _ _)
theorem body_le (hΓ : EnvS P Γ) (hr : ∀ t g, LeRes g (rec t g)) (t : Task) (g : G) : LeRes g (body P Γ rec t g) := by
  cases t with
  | code c tm ds => exact evCode_le hr c tm ds g
  | call f args =>
    show LeRes g (evCallE P rec f args g (Γ f))
    cases e : Γ f with
    | some s => exact hΓ.le f s e args g
    | none => exact evCallF_le hr

/-! ### The code -/
theorem CPost.from {σ σ1 : Sg} {g g1 g' : G} {w w1 : World} {N : Nat} {x : X} {tm' : Ts AV} {ds' : List (FuncId × List AV)} {L : List Tch} (h : Post P T σ g w σ1 g1 w1 L) (f : Fresh σ g hi) (hh : g'.next ≤ hi)
    {e : Exit} {a : Act} {w' : World} (q : CPost P T σ1 g1 w1 N x tm' ds' g' e a w') : CPost P T σ g w N x tm' ds' g' e a w' := by
  obtain ⟨σ', M, h1, h2⟩ := q
  exact ⟨σ', _, h.trans h1 f hh, h2⟩
theorem CPost.now {σ : Sg} {g : G} {w : World} {N : Nat} {x : X} {tm : Ts AV} {ds : List (FuncId × List AV)} {a : Act} {e : Exit} (r : Rel P σ T g w) (hx : XR σ x e) (ht : TR σ tm a.tmps) (hd : DRs σ ds a.defers) (hN : N ≤ a.tmps.size) :
    CPost P T σ g w N x tm ds g e a w := ⟨σ, [], Post.refl r, hx, ht, hd, hN⟩
theorem then_sound {a : Code} (hrec : RecS P rec) {tm tm' : Ts AV} {ds ds' : List (FuncId × List AV)} {g g' : G} {x : X} {next : Ts AV → List (FuncId × List AV) → G → Res} (h : thenDo next (rec (.code a tm ds) g) = .fin x tm' ds' g')
    (hle : ∀ tm ds g, LeRes g (next tm ds g)) {σ : Sg} {w : World} {act : Act} {N : Nat} (p : Pre P T hi σ g w g') (ht : TR σ tm act.tmps) (hd : DRs σ ds act.defers) (hin : codeIn N a = true) (hN : N ≤ act.tmps.size)
    {K : Act → World → Prop} (hK : ∀ tm1 ds1 g1 σ1 w1 a1 L, next tm1 ds1 g1 = .fin x tm' ds' g' → Post P T σ g w σ1 g1 w1 L → Pre P T hi σ1 g1 w1 g' → TR σ1 tm1 a1.tmps → DRs σ1 ds1 a1.defers → N ≤ a1.tmps.size → K a1 w1) :
    a.wp P (Exit.then K (CPost P T σ g w N x tm' ds' g')) act w := by
  cases e : rec (.code a tm ds) g with
  | no n => rw [e] at h; cases h
  | val v g1 => rw [e] at h; cases h
  | pan v g1 => rw [e] at h; cases h
  | fin y tm1 ds1 g1 =>
    rw [e] at h
    cases y with
    | norm =>
      have h' : next tm1 ds1 g1 = .fin x tm' ds' g' := h
      obtain ⟨M, l⟩ : ∃ M, Le g1 g' M := by have := hle tm1 ds1 g1; rw [h'] at this; exact this
      refine wp_mono (hrec.code a tm ds g _ _ _ _ e T hi σ w act N (p.first l) ht hd hin hN) fun ex a1 w1 q => ?_
      obtain ⟨σ1, L, q1, q2, q3, q4, q5⟩ := q
      cases q2
      exact hK tm1 ds1 g1 σ1 w1 a1 L h' q1 (p.then q1) q3 q4 q5
    | exit id =>
      injection h with h1 h2 h3 h4; subst h1; subst h2; subst h3; subst h4
      refine wp_mono (hrec.code a tm ds g _ _ _ _ e T hi σ w act N p ht hd hin hN) fun ex a1 w1 q => ?_
      obtain ⟨σ1, L, q1, q2, q3⟩ := q
      cases q2
      exact ⟨σ1, L, q1, rfl, q3⟩
    | ret =>
      injection h with h1 h2 h3 h4; subst h1; subst h2; subst h3; subst h4
      refine wp_mono (hrec.code a tm ds g _ _ _ _ e T hi σ w act N p ht hd hin hN) fun ex a1 w1 q => ?_
      obtain ⟨σ1, L, q1, q2, q3⟩ := q
      cases q2
      exact ⟨σ1, L, q1, rfl, q3⟩
    | pan v =>
      injection h with h1 h2 h3 h4; subst h1; subst h2; subst h3; subst h4
      refine wp_mono (hrec.code a tm ds g _ _ _ _ e T hi σ w act N p ht hd hin hN) fun ex a1 w1 q => ?_
      obtain ⟨σ1, L, q1, q2, q3⟩ := q
      obtain ⟨V, rfl, q4⟩ := q2
      exact ⟨σ1, L, q1, ⟨V, rfl, q4⟩, q3⟩
theorem opnd_sound {σ : Sg} {tm : Ts AV} {a : Act} (h : TR σ tm a.tmps) {x : Operand} {v : AV} (hv : opnd tm x = some v) : VR σ v (a.eval x) := h.ops [x] x (List.mem_singleton.2 rfl) v hv
theorem codeS_body (hP : PF2 P) (hrec : RecL P rec) : CodeS P (body P Γ rec) := by
  intro c tm ds g x tm' ds' g' h T hi σ w a N p ht hd hin hN
  have h : evCode rec P c tm ds g = .fin x tm' ds' g' := h
  cases c with
  | skip => injection h with h1 h2 h3 h4; subst h1; subst h2; subst h3; subst h4; exact wp_skip (CPost.now p.rel rfl ht hd hN)
  | label l => injection h with h1 h2 h3 h4; subst h1; subst h2; subst h3; subst h4; exact wp_label (CPost.now p.rel rfl ht hd hN)
  | exit id => injection h with h1 h2 h3 h4; subst h1; subst h2; subst h3; subst h4; exact wp_exit (CPost.now p.rel rfl ht hd hN)
  | ret => injection h with h1 h2 h3 h4; subst h1; subst h2; subst h3; subst h4; exact wp_ret (CPost.now p.rel rfl ht hd hN)
  | rangeFunc => cases h
  | goto l => cases h
  | refuse r => cases h
  | scope c =>
    have h : rec (.code c tm ds) g = .fin x tm' ds' g' := h
    refine wp_scope_straight (wp_mono (hrec.code c tm ds g _ _ _ _ h T hi σ w a N p ht hd hin hN) fun e a' w' q => ?_)
    cases e with
    | goto l => obtain ⟨_, _, _, q2, _⟩ := q; exact q2.notGoto.elim
    | _ => exact q
  | region id ops draw =>
    cases draw with
    | false =>
      have h : evSeq rec P ops.toList ops.toList tm ds g = .fin x tm' ds' g' := h
      refine wp_region ?_
      have := evSeq_sound hP.toPF hrec.toRecS (ops := ops) (N := N) p.fresh ops.toList 0 (fun j => by simp) _ _ _ _ _ _ _ h σ w a [] (Post.refl p.rel) p ht hd hin hN
      rw [List.range_eq_range']; simpa using this
    | true =>
      have h : evRegP rec P ops.toList tm ds g (static ops) = .fin x tm' ds' g' := h
      cases hs : static ops with
      | none => rw [hs] at h; cases h
      | some ms =>
        rw [hs] at h
        simp only [evRegP] at h
        cases e : evPar rec P ops.toList ms ops.toList 0 [] tm g with
        | no n => rw [e] at h; cases h
        | ok q g1 =>
          obtain ⟨tm1, fs⟩ := q
          rw [e] at h
          injection h with h1 h2 h3 h4; subst h1; subst h2; subst h3; subst h4
          exact par_sound hP.toPF hrec.toRecS hP.mixed (static_spec hs) e p ht hd hin hN
  | seq b c =>
    simp only [codeIn, Bool.and_eq_true] at hin
    refine wp_seq (then_sound hrec.toRecS (next := fun tm ds g => rec (.code c tm ds) g) h (fun _ _ _ => hrec.le _ _) p ht hd hin.1 hN ?_)
    intro tm1 ds1 g1 σ1 w1 a1 L h1 q1 q2 q3 q4 q5
    exact wp_mono (hrec.code c tm1 ds1 g1 _ _ _ _ h1 T hi σ1 w1 a1 N q2 q3 q4 hin.2 q5) fun e a w q => q.from q1 p.fresh p.hi
  | cond c b d =>
    simp only [codeIn, Bool.and_eq_true] at hin
    have h : evCond (rec (.code b tm ds)) (rec (.code d tm ds)) g (opnd tm c) = .fin x tm' ds' g' := h
    cases ho : opnd tm c with
    | none => rw [ho] at h; cases h
    | some v =>
      rw [ho] at h
      have hv := opnd_sound ht ho
      cases v <;> simp only [evCond] at h <;> try (cases h; done)
      case bool t =>
        have hev : a.eval c = .bool t := by generalize a.eval c = X at hv; cases hv; rfl
        cases t with
        | true => exact wp_cond_true hev (hrec.code b tm ds g _ _ _ _ h T hi σ w a N p ht hd hin.1 hN)
        | false => exact wp_cond_false hev (hrec.code d tm ds g _ _ _ _ h T hi σ w a N p ht hd hin.2 hN)
      case sbool s =>
        have hev : a.eval c = .bool s := by generalize a.eval c = X at hv; cases hv; rfl
        cases e : ask s g with
        | no n => rw [e] at h; cases h
        | ok t g1 =>
          rw [e] at h
          obtain ⟨r, hr, rfl⟩ := ask_ok e
          have hq := Post.asked (b := s) (d := t) (r := r) p.rel
          cases t with
          | true =>
            simp only [evCondS] at h
            obtain ⟨M, l⟩ : ∃ M, Le (⟨g.heap, g.next, g.log, r, (s, true) :: g.obl⟩ : G) g' M := by have := hrec.le (.code b tm ds) ⟨g.heap, g.next, g.log, r, (s, true) :: g.obl⟩; rw [h] at this; exact this
            have hs : s = true := (l.owes p.owes) (s, true) List.mem_cons_self
            subst hs
            exact wp_cond_true hev (wp_mono (hrec.code b tm ds _ _ _ _ _ h T hi σ w a N (p.then hq) ht hd hin.1 hN) fun e a w q => q.from hq p.fresh p.hi)
          | false =>
            simp only [evCondS] at h
            obtain ⟨M, l⟩ : ∃ M, Le (⟨g.heap, g.next, g.log, r, (s, false) :: g.obl⟩ : G) g' M := by have := hrec.le (.code d tm ds) ⟨g.heap, g.next, g.log, r, (s, false) :: g.obl⟩; rw [h] at this; exact this
            have hs : s = false := (l.owes p.owes) (s, false) List.mem_cons_self
            subst hs
            exact wp_cond_false hev (wp_mono (hrec.code d tm ds _ _ _ _ _ h T hi σ w a N (p.then hq) ht hd hin.2 hN) fun e a w q => q.from hq p.fresh p.hi)
  | block id c =>
    have h : inBlockA id (rec (.code c tm ds) g) = .fin x tm' ds' g' := h
    refine wp_block ?_
    cases e : rec (.code c tm ds) g with
    | no n => rw [e] at h; cases h
    | val v g1 => rw [e] at h; cases h
    | pan v g1 => rw [e] at h; cases h
    | fin y tm1 ds1 g1 =>
      rw [e] at h
      cases y with
      | norm =>
        injection h with h1 h2 h3 h4; subst h1; subst h2; subst h3; subst h4
        refine wp_mono (hrec.code c tm ds g _ _ _ _ e T hi σ w a N p ht hd hin hN) fun ex a1 w1 q => ?_
        obtain ⟨σ1, L, q1, q2, q3⟩ := q
        cases q2; exact ⟨σ1, L, q1, rfl, q3⟩
      | ret =>
        injection h with h1 h2 h3 h4; subst h1; subst h2; subst h3; subst h4
        refine wp_mono (hrec.code c tm ds g _ _ _ _ e T hi σ w a N p ht hd hin hN) fun ex a1 w1 q => ?_
        obtain ⟨σ1, L, q1, q2, q3⟩ := q
        cases q2; exact ⟨σ1, L, q1, rfl, q3⟩
      | pan v =>
        injection h with h1 h2 h3 h4; subst h1; subst h2; subst h3; subst h4
        refine wp_mono (hrec.code c tm ds g _ _ _ _ e T hi σ w a N p ht hd hin hN) fun ex a1 w1 q => ?_
        obtain ⟨σ1, L, q1, q2, q3⟩ := q
        obtain ⟨V, rfl, q4⟩ := q2; exact ⟨σ1, L, q1, ⟨V, rfl, q4⟩, q3⟩
      | exit id' =>
        simp only [inBlockA] at h
        cases hb : Nat.beq id' id with
        | true =>
          rw [hb] at h
          injection h with h1 h2 h3 h4; subst h1; subst h2; subst h3; subst h4
          have := of_beq hb
          subst this
          refine wp_mono (hrec.code c tm ds g _ _ _ _ e T hi σ w a N p ht hd hin hN) fun ex a1 w1 q => ?_
          obtain ⟨σ1, L, q1, q2, q3⟩ := q
          cases q2
          show if id' = id' then _ else _
          rw [if_pos rfl]; exact ⟨σ1, L, q1, rfl, q3⟩
        | false =>
          rw [hb] at h
          injection h with h1 h2 h3 h4; subst h1; subst h2; subst h3; subst h4
          refine wp_mono (hrec.code c tm ds g _ _ _ _ e T hi σ w a N p ht hd hin hN) fun ex a1 w1 q => ?_
          obtain ⟨σ1, L, q1, q2, q3⟩ := q
          cases q2
          show if id' = id then _ else _
          rw [if_neg (of_beqf hb)]; exact ⟨σ1, L, q1, rfl, q3⟩
  | loop c =>
    obtain ⟨m, hm⟩ := hrec.loop
    refine wp_loop_rounds (m + 1) ?_
    rw [rounds_succ]
    refine then_sound hrec.toRecS (next := fun tm ds g => rec (.code (.loop c) tm ds) g) h (fun _ _ _ => hrec.le _ _) p ht hd hin hN ?_
    intro tm1 ds1 g1 σ1 w1 a1 L h1 q1 q2 q3 q4 q5
    exact rounds_mono (fun e a w q => q.from q1 p.fresh p.hi) (hm c tm1 ds1 g1 _ _ _ _ h1 T hi σ1 w1 a1 N q2 q3 q4 hin q5)
theorem loop_body (hrec : RecL P rec) : ∃ m, ∀ c tm ds g x tm' ds' g', body P Γ rec (.code (.loop c) tm ds) g = .fin x tm' ds' g' → ∀ T hi σ w a N, Pre P T hi σ g w g' → TR σ tm a.tmps → DRs σ ds a.defers → codeIn N c = true → N ≤ a.tmps.size →
    Code.rounds P c (CPost P T σ g w N x tm' ds' g') m a w := by
  obtain ⟨m, hm⟩ := hrec.loop
  refine ⟨m + 1, fun c tm ds g x tm' ds' g' h T hi σ w a N p ht hd hin hN => ?_⟩
  rw [rounds_succ]
  refine then_sound hrec.toRecS (next := fun tm ds g => rec (.code (.loop c) tm ds) g) h (fun _ _ _ => hrec.le _ _) p ht hd hin hN ?_
  intro tm1 ds1 g1 σ1 w1 a1 L h1 q1 q2 q3 q4 q5
  exact rounds_mono (fun e a w q => q.from q1 p.fresh p.hi) (hm c tm1 ds1 g1 _ _ _ _ h1 T hi σ1 w1 a1 N q2 q3 q4 hin q5)

/-! ### The calls -/
theorem call_sound (hP : PF2 P) (hrec : RecS P rec) {f : FuncId} : CallSf P f (fun args g => evCallF rec P args g P.funcs[f]?) := by
  intro args g g' hg T hi σ w Args p hargs
  simp only at hg ⊢
  generalize hres : evCallF rec P args g P.funcs[f]? = r at hg ⊢
  cases hf : P.funcs[f]? with
  | none => rw [hf] at hres; subst hres; cases hg
  | some fn =>
    rw [hf] at hres
    simp only [evCallF, evCallB] at hres
    cases hb : fn.body with
    | none => rw [hb] at hres; subst hres; cases hg
    | some c =>
      rw [hb] at hres
      simp only [argTmps, argsK_eq] at hres
      have hin := hP.allIn f fn c hf hb
      refine calls_of_wp_defers hf hb ?_
      change c.wp P _ (entered fn Args) w
      cases e : rec (.code c (Ev.args args 0 .e) []) g with
      | no n => rw [e] at hres; subst hres; cases hg
      | val v g1 => rw [e] at hres; subst hres; cases hg
      | pan v g1 => rw [e] at hres; subst hres; cases hg
      | fin x tm1 ds1 g1 =>
        rw [e] at hres
        have key : ∀ u, evDefers rec P fn tm1 ds1 u g1 = r → ∃ M, Le g1 g' M := fun u hu => (hu ▸ evDefers_le (P := P) hrec.le fn tm1 ds1 u g1 : LeRes g1 r).of_g hg
        cases x with
        | exit id => subst hres; cases hg
        | norm =>
          have hres : evDefers rec P fn tm1 ds1 none g1 = r := hres
          obtain ⟨M, l⟩ := key none hres
          refine wp_mono (hrec.code c _ [] g _ _ _ _ e T hi σ w (entered fn Args) fn.ntmps (p.first l) (entered_TR fn hargs) trivial hin (entered_size fn Args)) fun ex a1 w1 q => ?_
          obtain ⟨σ1, L, q1, q2, q3, q4, q5⟩ := q
          cases q2
          exact evDefers_sound hP hrec p.fresh hg ds1 none g1 a1.defers .returning σ1 w1 L hres q1 (p.then q1) q3 q4 rfl
        | ret =>
          have hres : evDefers rec P fn tm1 ds1 none g1 = r := hres
          obtain ⟨M, l⟩ := key none hres
          refine wp_mono (hrec.code c _ [] g _ _ _ _ e T hi σ w (entered fn Args) fn.ntmps (p.first l) (entered_TR fn hargs) trivial hin (entered_size fn Args)) fun ex a1 w1 q => ?_
          obtain ⟨σ1, L, q1, q2, q3, q4, q5⟩ := q
          cases q2
          exact evDefers_sound hP hrec p.fresh hg ds1 none g1 a1.defers .returning σ1 w1 L hres q1 (p.then q1) q3 q4 rfl
        | pan v =>
          have hres : evDefers rec P fn tm1 ds1 (some v) g1 = r := hres
          obtain ⟨M, l⟩ := key (some v) hres
          refine wp_mono (hrec.code c _ [] g _ _ _ _ e T hi σ w (entered fn Args) fn.ntmps (p.first l) (entered_TR fn hargs) trivial hin (entered_size fn Args)) fun ex a1 w1 q => ?_
          obtain ⟨σ1, L, q1, q2, q3, q4, q5⟩ := q
          obtain ⟨V, rfl, hV⟩ := q2
          exact evDefers_sound hP hrec p.fresh hg ds1 (some v) g1 a1.defers _ σ1 w1 L hres q1 (p.then q1) q3 q4 ⟨V, rfl, hV⟩
theorem body_sound (hP : PF2 P) (hΓ : EnvS P Γ) (hrec : RecL P rec) : RecL P (body P Γ rec) where
  le := body_le hΓ hrec.le
  code := codeS_body hP hrec
  call := fun f _ => by
    show CallSf P f (fun args g => evCallE P rec f args g (Γ f))
    cases e : Γ f with
    | some s => exact hΓ.call f s e
    | none => exact call_sound hP hrec.toRecS
  loop := loop_body hrec
theorem ev_sound (hP : PF2 P) (hΓ : EnvS P Γ) : ∀ n, RecL P (ev P Γ n)
  | 0 => ⟨⟨fun _ _ => trivial, fun c tm ds g x tm' ds' g' h => (by cases h), fun f _ args g g' h => (by cases h)⟩, 0, fun c tm ds g x tm' ds' g' h => (by cases h)⟩
  | n + 1 => body_sound hP hΓ (ev_sound hP hΓ n)
theorem noEnv (P : Program) : EnvS P (fun _ => none) := ⟨fun _ _ h => (by cases h), fun _ _ h => (by cases h)⟩
end
end Go.Ev

namespace Go.Ev
open Go

/-- what was there is there still -/
def Still (w w' : World) : Prop := w.keptBut w' (fun _ => False) ∧ w.heap.size ≤ w'.heap.size
theorem Fr.still {σ : Sg} {L : List Tch} {w w' : World} (f : Fr σ L w w') (h : ∀ b o, b < w.heap.size → ¬ Chg σ L b o) : Still w w' := by
  have hsame : ∀ b : Nat, b < w.heap.size → w'.heap[b]? = w.heap[b]? := fun b hb => f.same b hb fun o => h b o hb
  refine ⟨⟨f.os, f.output, fun i hi => ?_⟩, f.size⟩
  rw [hsame i hi]
  cases w.heap[i]? with
  | none => rfl
  | some o =>
    cases o <;> first | exact ⟨rfl, rfl, rfl, fun _ _ => rfl⟩ | exact .inr ⟨rfl, rfl⟩ | rfl
/-- the run says yes, and owes nothing -/
def Res.yes : Res → Bool
  | .val (.bool b) g => b && g.obl.isEmpty
  | _ => false
theorem Res.yes_spec {r : Res} (h : r.yes = true) : ∃ g, r = .val (.bool true) g ∧ g.obl = [] := by
  unfold Res.yes at h
  split at h
  · rename_i b g
    simp only [Bool.and_eq_true, List.isEmpty_iff] at h
    obtain ⟨rfl, h2⟩ := h
    exact ⟨g, rfl, h2⟩
  · cases h
theorem closed_yes {P : Program} (hP : PF2 P) {n : Nat} {f : FuncId} (hb : hasBody P f = true) (h : (ev P (fun _ => none) n (.call f []) G.init).yes = true) (w : World) :
    Calls P f #[] w fun e w' => e = .returned (.bool true) ∧ Still w w' := by
  obtain ⟨g', h1, h2⟩ := Res.yes_spec h
  have hs := (ev_sound hP (noEnv P) n).call f hb [] G.init g' (by show (ev P (fun _ => none) n (.call f []) G.init).g? = _; rw [h1]; rfl) (fun _ _ => True) g'.next (fun _ => none) w #[]
    { rel := ⟨fun i blk hg => (by cases hg), fun i blk o c b cap hg => (by cases hg), fun i j bi bj b c c' hg => (by cases hg)⟩
      fresh := fun _ _ _ => rfl
      hi := Nat.le_refl _
      inT := fun _ _ _ _ _ _ => trivial
      owes := fun p hp => by rw [h2] at hp; cases hp } .nil
  refine hs.mono fun e w' hw => ?_
  simp only [CallR, h1] at hw
  obtain ⟨σ', L, V, hp, rfl, hV⟩ := hw
  cases hV
  refine ⟨rfl, hp.fr.still fun b o hb hc => ?_⟩
  obtain ⟨i, c, hi, _⟩ := hc
  by_cases hlt : i < g'.next
  · rcases hp.nw i b c (Nat.zero_le _) hlt hi with h3 | ⟨_, _, _, h4⟩
    · omega
    · cases h4
  · rw [hp.ext i (.inr (by omega))] at hi; cases hi

/-! ### What is asked of the program, as a test -/
def funcOk (fn : Func) : Bool := match fn.body with
  | none => true
  | some c => codeIn fn.ntmps c && decide (fn.name ≠ "runtime.NumGoroutine")
def progOk (P : Program) : Bool := P.funcs.toList.all funcOk && P.follows .mixedOrders
theorem PF2.of {P : Program} (h : progOk P = true) : PF2 P := by
  unfold progOk at h
  simp only [Bool.and_eq_true, List.all_eq_true] at h
  obtain ⟨h1, h2⟩ := h
  have key : ∀ (f : Nat) fn, P.funcs[f]? = some fn → funcOk fn = true := fun f fn hf => h1 fn (by rw [Array.mem_toList_iff]; exact Array.mem_of_getElem? hf)
  refine ⟨⟨fun f fn hf hb => ?_, h2⟩, fun f fn c hf hc => ?_⟩
  · have := key f fn hf
    unfold funcOk at this
    cases hc : fn.body with
    | none => rw [hc] at hb; cases hb
    | some c =>
      rw [hc] at this
      simp only [Bool.and_eq_true, decide_eq_true_eq] at this
      exact this.2
  · have := key f fn hf
    unfold funcOk at this
    rw [hc] at this
    simp only [Bool.and_eq_true] at this
    exact this.1

/-! ### The row's last step, where the run need not be said again -/
section
open Go.ChangeShapes Go.WideShapes
variable {H : Type} {enc : TypeId × Value → H} {P : Program}
theorem post_still {f : Func} {s : ChangeSpec} {apart fresh handsOn : Bool} {W W' : World} {args : Array Value} {v : Value} {ds gs : List (DataW H)} {before pa pv : List MemPlace}
    (hW : DataW.Whole enc P f.params.toList s.vars apart W args.toList ds gs before)
    (hres : ∀ (b : Nat) (sp : Nat → Bool) (hd : Bool), DataW.TrodAll enc P W' b sp hd f.resultTypes.toList (v.resultList f.resultTypes.size) (s.fn H (ds ++ gs)).results [])
    (hargs : ∀ sp : Nat → Bool, (∀ p ∈ before, sp p.block = true) → DataW.TrodAll enc P W' 0 sp true f.params.toList args.toList (s.fn H (ds ++ gs)).args pa)
    (hvars : ∀ sp : Nat → Bool, (∀ p ∈ before, sp p.block = true) → DataW.TrodVars enc P W' sp s.vars (s.fn H (ds ++ gs)).vars pv)
    (hk : Still W W') : s.post enc P f apart fresh handsOn false W args v W' := by
  have old : ∀ p ∈ before, decide (p.block < W.heap.size) = true := fun p hp => decide_eq_true (hW.lt p hp)
  exact ⟨ds, gs, before, [], pa, pv, hW, hres _ _ _, hargs _ old, hvars _ old, World.keptBut_mono (fun _ h => h.elim) hk.1, fun h => nomatch h⟩
end
end Go.Ev

namespace Go.Ev
open Go

/-! ### Frequent operations, made short -/
inductive Bx (α : Type) : Type where
  | mk (a : α)
inductive IV where
  | int (k : IntKind) (n : Int)
  | no
inductive PV where
  | ptr (i o : Nat)
  | no
inductive SV where
  | sl (i o n c : Nat)
  | no
inductive TV where
  | tup (l : List AV)
  | no
noncomputable section
def asI (v : AV) : IV := match v with
  | .int k n => .int k n
  | _ => .no
def asP (v : AV) : PV := match v with
  | .ptr i o => .ptr i o
  | _ => .no
def asS (v : AV) : SV := match v with
  | .sl i o n c => .sl i o n c
  | _ => .no
def asT (v : AV) : TV := match v with
  | .tup l => .tup l
  | _ => .no
def nthF (l : List AV) (o : Nat) : Option AV := List.rec (motive := fun _ => Nat → Option AV) (fun _ => none)
  (fun x _ ih n => Bool.rec (motive := fun _ => Option AV) (ih (Nat.sub n (nat_lit 1))) (some x) (Nat.beq n (nat_lit 0))) l o
theorem nthF_eq : ∀ (l : List AV) (o : Nat), nthF l o = l[o]?
  | [], o => by simp [nthF]
  | x :: l, 0 => rfl
  | x :: l, o + 1 => by
    show nthF l (o + 1 - 1) = _
    rw [nthF_eq]; simp
def setF {R : Type} (l : List AV) (o : Nat) (v : AV) (bad : R) (k : List AV → R) : R :=
  List.rec (motive := fun _ => Nat → (List AV → R) → R) (fun _ _ => bad)
    (fun x xs ih n k => Bool.rec (motive := fun _ => R) (ih (Nat.sub n (nat_lit 1)) fun r => k (x :: r)) (k (v :: xs)) (Nat.beq n (nat_lit 0))) l o k
theorem setF_eq {R : Type} (v : AV) (bad : R) : ∀ (l : List AV) (o : Nat) (k : List AV → R), setF l o v bad k = if o < l.length then k (l.set o v) else bad
  | [], o, k => by simp [setF]
  | x :: l, 0, k => by simp [setF]
  | x :: l, o + 1, k => by
    show setF l (o + 1 - 1) v bad (fun r => k (x :: r)) = _
    rw [setF_eq]; simp
theorem lay_one (l : List AV) (o : Nat) (v : AV) : lay l o [v] = if o < l.length then some (l.set o v) else none := by
  unfold lay
  by_cases h : o < l.length
  · have : Nat.ble (o + [v].length) l.length = true := Nat.ble_eq_true_of_le (by simp; omega)
    rw [this, if_pos h]
    simp only [listK_eq]
    rw [List.set_eq_take_append_cons_drop, if_pos h]; simp
  · cases e : Nat.ble (o + [v].length) l.length with
    | true => have := of_ble e; simp at this; omega
    | false => rw [if_neg h]

def cellAt (b : Blk) (o : Nat) : Option AV := match b with
  | .cells _ l => nthF l o
  | .grown _ l => nthF l o
  | .big _ t d m => Bool.rec (motive := fun _ => Option AV) none (Option.rec (motive := fun _ => Option AV) (some d) (fun v => some v) (t.get o)) (Nat.ble (Nat.add o (nat_lit 1)) m)
  | _ => none
theorem cut_one (l : List AV) (o : Nat) : cut l o 1 = (l[o]?).map fun v => [v] := by
  unfold cut
  rw [listK_eq]
  cases h : l[o]? with
  | none =>
    have : l.drop o = [] := by simp at h; simpa using h
    rw [this]; rfl
  | some v =>
    obtain ⟨hl, he⟩ := List.getElem?_eq_some_iff.1 h
    rw [List.drop_eq_getElem_cons hl, he]; rfl
theorem cellAt_eq (b : Blk) (o : Nat) : readB b o 1 = (cellAt b o).map fun v => [v] := by
  cases b with
  | cells e l => simp only [readB, cellAt, nthF_eq, cut_one]
  | grown e l => simp only [readB, cellAt, nthF_eq, cut_one]
  | big e t d m =>
    simp only [readB, cellAt]
    show (match Nat.ble (o + 1) m with | true => _ | false => _) = Option.map _ (Bool.rec (motive := fun _ => Option AV) none _ (Nat.ble (o + 1) m))
    cases Nat.ble (o + 1) m with
    | false => rfl
    | true => simp only [listK_eq, tread]; cases t.get o <;> rfl
  | seq => rfl
  | map => rfl
  | chan _ _ => rfl
  | pmap => rfl
def readCell (i o : Nat) (g : G) : Out OpR := G.rec (motive := fun _ => Out OpR) (fun h nx l oc ob => Option.rec (motive := fun _ => Out OpR) (.no 3)
  (fun b => Option.rec (motive := fun _ => Out OpR) (.no 2) (fun v => .ok (.val v) ⟨h, nx, ⟨i, o, 1, false⟩ :: l, oc, ob⟩) (cellAt b o)) (h.get i)) g
theorem readCell_eq {P : Program} {t : TypeId} (hk : kindT P t = .cell) (i o : Nat) (g : G) : readCell i o g = vl (loadA P t (.ptr i o)) g := by
  obtain ⟨h, nx, l, oc, ob⟩ := g
  simp only [vl, loadA, hk, M.bind, read, readCell]
  cases h.get i with
  | none => rfl
  | some b =>
    simp only [cellAt_eq]
    cases cellAt b o <;> rfl
def loadHot (P : Program) (t : TypeId) (a : AV) : M OpR := fun g => PV.rec (motive := fun _ => Out OpR) (fun i o => readCell i o g) (vl (loadA P t a) g) (asP a)
theorem loadHot_eq {P : Program} {t : TypeId} (hk : kindT P t = .cell) (a : AV) : loadHot P t a = vl (loadA P t a) := by
  funext g
  cases a <;> first | rfl | exact readCell_eq hk _ _ _
def storeCell (i o : Nat) (v : AV) (g : G) : Out OpR := G.rec (motive := fun _ => Out OpR) (fun h nx l oc ob => Option.rec (motive := fun _ => Out OpR) (.no 6)
  (fun b => match b with
    | .cells e c => setF c o v (.no 4) fun c => h.setK i (.cells e c) fun h => .ok (.val (.tup [])) ⟨h, nx, ⟨i, o, 1, true⟩ :: l, oc, ob⟩
    | _ => ul (write i o [v]) ⟨h, nx, l, oc, ob⟩) (h.get i)) g
theorem storeCell_eq (i o : Nat) (v : AV) (hv : v.oneCell = true) (g : G) : storeCell i o v g = ul (write i o [v]) g := by
  obtain ⟨h, nx, l, oc, ob⟩ := g
  cases hb : h.get i with
  | none => simp only [storeCell, ul, M.bind, write, hb]
  | some b =>
    cases b with
    | cells e c =>
      simp only [storeCell, hb, ul, M.bind, write, allOne, hv, writeB, setF_eq, lay_one]
      by_cases hl : o < c.length
      · simp only [if_pos hl, Tr.setK_eq, natK_eq]; rfl
      · simp only [if_neg hl]
    | grown e c => simp only [storeCell, hb]
    | seq e k f n => simp only [storeCell, hb]
    | big e t d n => simp only [storeCell, hb]
    | map es => simp only [storeCell, hb]
    | chan _ _ => simp only [storeCell, hb]
    | pmap es => simp only [storeCell, hb]
def storeHot (P : Program) (t : TypeId) (a v : AV) : M OpR := fun g => PV.rec (motive := fun _ => Out OpR)
  (fun i o => Bool.rec (motive := fun _ => Out OpR) (ul (storeA P t a v) g) (storeCell i o v g) v.oneCell) (ul (storeA P t a v) g) (asP a)
theorem cells_one {v : AV} (h : v.oneCell = true) : v.cells = [v] := by cases v <;> first | rfl | cases h
theorem storeHot_eq {P : Program} {t : TypeId} (hs : sizeT P t = some 1) (a v : AV) : storeHot P t a v = ul (storeA P t a v) := by
  funext g
  cases a <;> first | rfl | skip
  rename_i i o
  show Bool.rec (motive := fun _ => Out OpR) (ul (storeA P t (.ptr i o) v) g) (storeCell i o v g) v.oneCell = ul (storeA P t (.ptr i o) v) g
  cases hv : v.oneCell with
  | false => rfl
  | true =>
    show storeCell i o v g = _
    rw [storeCell_eq i o v hv]
    simp only [storeA, hs, cells_one hv]; rfl
def faHot (off : Nat) (a : AV) : M OpR := fun g => PV.rec (motive := fun _ => Out OpR) (fun i o => natK (Nat.add o off) fun o => .ok (.val (.ptr i o)) g) (.no 121) (asP a)
theorem faHot_eq {P : Program} {s : TypeId} {f : Nat} {fs : Array Field} {fd : Field} {n : Nat} (h1 : P.underlying s = some (.struct fs)) (h2 : fs[f]? = some fd) (h3 : sizeT P fd.type = some (n + 1)) (a : AV) :
    faHot fd.offset a = ovl 121 (fieldAt P s a f) := by
  funext g
  cases a <;> first | rfl | skip
  rename_i i o
  show natK (o + fd.offset) (fun o => Out.ok (OpR.val (.ptr i o)) g) = _
  simp only [fieldAt, h1, h2, h3, ptrO, natK_eq, ovl, M.pure]
def nilHot (a : AV) : M OpR := fun g => PV.rec (motive := fun _ => Out OpR) (fun i o => .ok (.val (.ptr i o)) g) (nilCheckA a g) (asP a)
theorem nilHot_eq (a : AV) : nilHot a = nilCheckA a := by
  funext g; cases a <;> rfl
def convHot (P : Program) (s d : TypeId) (k : IntKind) (a : AV) : M OpR := fun g => IV.rec (motive := fun _ => Out OpR) (fun _ n => intK (wrapF k n) fun n => .ok (.val (.int k n)) g) (ovl 113 (convertA P s d a) g) (asI a)
theorem convHot_eq {P : Program} {s d : TypeId} {k0 k : IntKind} (h1 : P.underlying s = some (.int k0)) (h2 : P.underlying d = some (.int k)) (a : AV) : convHot P s d k a = ovl 113 (convertA P s d a) := by
  funext g
  cases a <;> first | rfl | skip
  rename_i k' n
  show intK (wrapF k n) (fun n => Out.ok (OpR.val (.int k n)) g) = _
  simp only [convertA, h1, h2, intV, intK_eq, ovl, M.pure]
def extHot (n : Nat) (a : AV) : M OpR := fun g => TV.rec (motive := fun _ => Out OpR) (fun l => Option.rec (motive := fun _ => Out OpR) (.no 132) (fun v => .ok (.val v) g) (nthF l n)) (.no 133) (asT a)
theorem extHot_eq (n : Nat) (a : AV) : extHot n a = extractA n a := by
  funext g
  cases a <;> first | rfl | skip
  rename_i l
  show Option.rec (motive := fun _ => Out OpR) (.no 132) (fun v => .ok (.val v) g) (nthF l n) = ovl 132 l[n]? g
  rw [nthF_eq]
  cases l[n]? <;> rfl
def ixHot (P : Program) (t : TypeId) (s : Nat) (a b : AV) : M OpR := fun g => SV.rec (motive := fun _ => Out OpR) (fun i o n _ =>
    IV.rec (motive := fun _ => Out OpR) (fun _ k => Int.rec (motive := fun _ => Out OpR)
      (fun k => Bool.rec (motive := fun _ => Out OpR) (.no 33) (natK (Nat.add o (Nat.mul k s)) fun o => .ok (.val (.ptr i o)) g) (Nat.ble (Nat.add k (nat_lit 1)) n)) (fun _ => vl (indexAtA P t a b) g) k)
      (vl (indexAtA P t a b) g) (asI b)) (vl (indexAtA P t a b) g) (asS a)
theorem ixHot_eq {P : Program} {t e : TypeId} {s : Nat} (h1 : P.underlying t = some (.slice e)) (h2 : sizeT P e = some s) (a b : AV) : ixHot P t s a b = vl (indexAtA P t a b) := by
  funext g
  cases a <;> first | rfl | skip
  rename_i i o n c
  cases b <;> first | rfl | skip
  rename_i kk k
  cases k with
  | negSucc m => rfl
  | ofNat k =>
    show Bool.rec (motive := fun _ => Out OpR) (.no 33) (natK (o + k * s) fun o => .ok (.val (.ptr i o)) g) (Nat.ble (k + 1) n) = _
    simp only [vl, indexAtA, h1, h2, M.bind]
    cases Nat.ble (k + 1) n with
    | false => rfl
    | true => simp only [ptrM, natK_eq, M.pure]
def ixArr (P : Program) (t : TypeId) (m s : Nat) (a b : AV) : M OpR := fun g => PV.rec (motive := fun _ => Out OpR) (fun i o =>
    IV.rec (motive := fun _ => Out OpR) (fun _ k => Int.rec (motive := fun _ => Out OpR)
      (fun k => Bool.rec (motive := fun _ => Out OpR) (.no 30) (natK (Nat.add o (Nat.mul k s)) fun o => .ok (.val (.ptr i o)) g) (Nat.ble (Nat.add k (nat_lit 1)) m)) (fun _ => vl (indexAtA P t a b) g) k)
      (vl (indexAtA P t a b) g) (asI b)) (vl (indexAtA P t a b) g) (asP a)
theorem ixArr_eq {P : Program} {t e : TypeId} {m s : Nat} (h1 : P.underlying t = some (.array m e)) (h2 : sizeT P e = some s) (a b : AV) : ixArr P t m s a b = vl (indexAtA P t a b) := by
  funext g
  cases a <;> first | rfl | skip
  rename_i i o
  cases b <;> first | rfl | skip
  rename_i kk k
  cases k with
  | negSucc m => rfl
  | ofNat k =>
    show Bool.rec (motive := fun _ => Out OpR) (.no 30) (natK (o + k * s) fun o => .ok (.val (.ptr i o)) g) (Nat.ble (k + 1) m) = _
    simp only [vl, indexAtA, h1, h2, M.bind]
    cases Nat.ble (k + 1) m with
    | false => rfl
    | true => simp only [ptrM, natK_eq, M.pure]
abbrev Con := IntKind → IntKind → Int → Int → Option AV
def sameI (k k' : IntKind) (v : Option AV) : Option AV := Bool.rec (motive := fun _ => Option AV) none v (sameK k k')
def tb (b : Bool) : Option AV := Bool.rec (motive := fun _ => Option AV) (some (.bool false)) (some (.bool true)) b
def fb (b : Bool) : Option AV := Bool.rec (motive := fun _ => Option AV) (some (.bool true)) (some (.bool false)) b
def conS (op : BinOp) : Bx Con := match op with
  | .add => .mk fun k k' a b => sameI k k' (intV k (wrapF k (addF a b)))
  | .sub => .mk fun k k' a b => sameI k k' (intV k (wrapF k (subF a b)))
  | .mul => .mk fun k k' a b => sameI k k' (intV k (wrapF k (mulF a b)))
  | .and => .mk fun k k' a b => sameI k k' (intV k (ofU k (Nat.land (toU k a) (toU k b))))
  | .or => .mk fun k k' a b => sameI k k' (intV k (ofU k (Nat.lor (toU k a) (toU k b))))
  | .xor => .mk fun k k' a b => sameI k k' (intV k (ofU k (Nat.xor (toU k a) (toU k b))))
  | .shl => .mk fun k _ a b => shlOp k a b
  | .shr => .mk fun k _ a b => shrOp k a b
  | .eql => .mk fun k k' a b => sameI k k' (tb (eqF a b))
  | .neq => .mk fun k k' a b => sameI k k' (fb (eqF a b))
  | .lss => .mk fun k k' a b => sameI k k' (fb (leF b a))
  | .leq => .mk fun k k' a b => sameI k k' (tb (leF a b))
  | .gtr => .mk fun k k' a b => sameI k k' (fb (leF a b))
  | .geq => .mk fun k k' a b => sameI k k' (tb (leF b a))
  | op => .mk fun k k' a b => conOp op k k' a b
theorem conS_spec (op : BinOp) : ∃ f, conS op = .mk f ∧ ∀ k k' a b, f k k' a b = conOp op k k' a b := by
  have hs : ∀ k k' v, sameI k k' v = sameDo k k' v := fun k k' v => by unfold sameI sameDo; cases sameK k k' <;> rfl
  have hf : ∀ b, fb b = boolV (!b) := fun b => by cases b <;> rfl
  cases op
  case eql => exact ⟨_, rfl, fun k k' a b => (hs k k' _).trans rfl⟩
  case neq => exact ⟨_, rfl, fun k k' a b => by rw [hs, hf]; rfl⟩
  case lss => exact ⟨_, rfl, fun k k' a b => by rw [hs, hf]; rfl⟩
  case gtr => exact ⟨_, rfl, fun k k' a b => by rw [hs, hf]; rfl⟩
  case add => exact ⟨_, rfl, fun k k' a b => by rw [hs]; rfl⟩
  case sub => exact ⟨_, rfl, fun k k' a b => by rw [hs]; rfl⟩
  case mul => exact ⟨_, rfl, fun k k' a b => by rw [hs]; rfl⟩
  case and => exact ⟨_, rfl, fun k k' a b => by rw [hs]; rfl⟩
  case or => exact ⟨_, rfl, fun k k' a b => by rw [hs]; rfl⟩
  case xor => exact ⟨_, rfl, fun k k' a b => by rw [hs]; rfl⟩
  case leq => exact ⟨_, rfl, fun k k' a b => by rw [hs]; rfl⟩
  case geq => exact ⟨_, rfl, fun k k' a b => by rw [hs]; rfl⟩
  all_goals exact ⟨_, rfl, fun k k' a b => rfl⟩
def binHot (f : Con) (P : Program) (op : BinOp) (t : TypeId) (cx cy : Bool) (a b : AV) : M OpR := fun g =>
  IV.rec (motive := fun _ => Out OpR) (fun k x => IV.rec (motive := fun _ => Out OpR) (fun k' y =>
    Option.rec (motive := fun _ => Out OpR) (vl (binA P op t cx cy a b) g) (fun v => .ok (.val v) g) (f k k' x y))
    (vl (binA P op t cx cy a b) g) (asI b)) (vl (binA P op t cx cy a b) g) (asI a)
theorem binHot_eq {f : Con} {op : BinOp} (hf : ∀ k k' a b, f k k' a b = conOp op k k' a b) (P : Program) (t : TypeId) (cx cy : Bool) (a b : AV) : binHot f P op t cx cy a b = vl (binA P op t cx cy a b) := by
  funext g
  cases a <;> first | rfl | skip
  rename_i k x
  cases b <;> first | rfl | skip
  rename_i k' y
  show Option.rec (motive := fun _ => Out OpR) (vl (binA P op t cx cy (.int k x) (.int k' y)) g) (fun v => .ok (.val v) g) (f k k' x y) = _
  rw [hf]
  cases e : conOp op k k' x y with
  | none => rfl
  | some v =>
    have hc : concOf op (.int k x) (.int k' y) v = none := by cases op <;> rfl
    simp only [vl, binA, arith, e, conc, hc, M.bind, M.pure]
end
end Go.Ev
