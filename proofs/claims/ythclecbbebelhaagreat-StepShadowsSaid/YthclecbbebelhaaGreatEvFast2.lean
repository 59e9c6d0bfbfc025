/-
  A part of the evaluator of the program's code, or of what it was seen to do; its statements are Lean's own. No condition.
-/
import Derived.Test.YthclecbbebelhaaGreatEvLit3
namespace Go.Ev
open Go
noncomputable section
def parRegM (P : Program) (ops : List Oper) (ms : List Nat) : Bx Sc := Bx.rec (motive := fun _ => Bx Sc)
  (fun f => .mk fun rec tm ds g => Out.rec (motive := fun _ => Res) (fun q g' => Prod.rec (motive := fun _ => Res) (fun tm fs =>
      G.rec (motive := fun _ => Res) (fun h nx _ oc ob => .fin .norm tm ds ⟨h, nx, joinLogs fs g.log, oc, ob⟩) g') q) (fun w => .no w) (f rec [] tm g)) (parC P ops ms ops 0)
def parRegC (P : Program) (ops : Array Oper) : Bx Sc := Option.rec (motive := fun _ => Bx Sc) (.mk fun _ _ _ _ => .no 180) (fun ms => parRegM P ops.toList ms) (static ops)
theorem parRegC_spec (P : Program) (ops : Array Oper) (rec : Rec) (tm : Ts AV) (ds : List (FuncId × List AV)) (g : G) : runSc (parRegC P ops) rec tm ds g = evRegP rec P ops.toList tm ds g (static ops) := by
  unfold parRegC
  cases hs : static ops with
  | none => rfl
  | some ms =>
    have hl : ∀ j, 0 ≤ j → j < 0 + ops.toList.length → ∃ m, ms[j]? = some m := by
      intro j _ hj
      have hj : j < ops.size := by simpa using hj
      obtain ⟨m, h, _⟩ := (static_spec hs).bits j ops[j] (by simp [hj])
      exact ⟨m, h⟩
    have := parC_spec P ops.toList ms rec ops.toList 0 hl
    have h2 := congrFun (congrFun (congrFun this []) tm) g
    simp only [evRegP]
    rw [← h2]
    show runSc (parRegM P ops.toList ms) rec tm ds g = _
    unfold parRegM
    cases parC P ops.toList ms ops.toList 0 with
    | mk f =>
      show Out.rec (motive := fun _ => Res) _ _ (f rec [] tm g) = match f rec [] tm g with
        | .ok (tm, fs) g' => .fin .norm tm ds (joinG g fs g')
        | .no w => .no w
      cases f rec [] tm g with
      | no w => rfl
      | ok q g' => obtain ⟨tm', fs⟩ := q; cases g'; rfl
/-- a region in any order; a map's literal is laid at once -/
def litSc (D : LitD) : Bx Sc := .mk fun _ tm ds g => litRun D tm ds g
def parRegL (P : Program) (ops : Array Oper) : Bx Sc := Option.rec (motive := fun _ => Bx Sc) (parRegC P ops)
  (fun D => Option.rec (motive := fun _ => Bx Sc) (.mk fun _ _ _ _ => .no 180) (fun _ => litSc D) (static ops)) (litOf P ops.toList)
theorem parRegL_spec (P : Program) (ops : Array Oper) (rec : Rec) : (∀ tm ds g, runSc (parRegL P ops) rec tm ds g = evRegP rec P ops.toList tm ds g (static ops)) ∨
    ∃ D ms, litOf P ops.toList = some D ∧ static ops = some ms ∧ ∀ tm ds g, runSc (parRegL P ops) rec tm ds g = litRun D tm ds g := by
  unfold parRegL
  cases hl : litOf P ops.toList with
  | none => exact .inl fun tm ds g => parRegC_spec P ops rec tm ds g
  | some D =>
    cases hs : static ops with
    | none => exact .inl fun tm ds g => rfl
    | some ms => exact .inr ⟨D, ms, rfl, rfl, fun tm ds g => rfl⟩
def thenF (next : Next) (r : Res) : Res := Res.rec (motive := fun _ => Res) (fun w => .no w)
  (fun x tm ds g => X.rec (motive := fun _ => Res) (next tm ds g) (fun id => .fin (.exit id) tm ds g) (.fin .ret tm ds g) (fun v => .fin (.pan v) tm ds g) x) (fun v g => .val v g) (fun v g => .pan v g) r
theorem thenF_eq (next : Next) (r : Res) : thenF next r = thenDo next r := by
  cases r with
  | fin x => cases x <;> rfl
  | _ => rfl
inductive B3 where
  | t
  | f
  | s (b : Bool)
  | x
def asB (v : AV) : B3 := match v with
  | .bool b => Bool.rec (motive := fun _ => B3) .f .t b
  | .sbool b => .s b
  | _ => .x
def condF (t e : G → Res) (g : G) (o : Option AV) : Res := Option.rec (motive := fun _ => Res) (.no 181)
  (fun v => B3.rec (motive := fun _ => Res) (t g) (e g) (fun s => evCondS t e (ask s g)) (.no 181) (asB v)) o
theorem condF_eq (t e : G → Res) (g : G) (o : Option AV) : condF t e g o = evCond t e g o := by
  cases o with
  | none => rfl
  | some v =>
    cases v <;> first | rfl | skip
    rename_i b; cases b <;> rfl
def condJ (a b : Code) (t e : G → Res) (tm : Ts AV) (ds : List (FuncId × List AV)) (g : G) (o : Option AV) : Res := Option.rec (motive := fun _ => Res) (.no 181)
  (fun v => B3.rec (motive := fun _ => Res) (t g) (e g) (fun s => Option.rec (motive := fun _ => Res) (evCondS t e (ask s g)) (fun tm3 => .fin .norm tm3 ds g) (joinC s a b tm)) (.no 181) (asB v)) o
theorem condJ_eq (a b : Code) (t e : G → Res) (tm : Ts AV) (ds : List (FuncId × List AV)) (g : G) (o : Option AV) :
    condJ a b t e tm ds g o = evCond t e g o ∨ ∃ s tm3, o = some (.sbool s) ∧ joinC s a b tm = some tm3 ∧ condJ a b t e tm ds g o = .fin .norm tm3 ds g := by
  cases o with
  | none => exact .inl rfl
  | some v =>
    cases v <;> first | exact .inl rfl | skip
    · rename_i b; cases b <;> exact .inl rfl
    · rename_i s
      cases h : joinC s a b tm with
      | none => left; simp only [condJ, asB, h]; rfl
      | some tm3 => right; exact ⟨s, tm3, rfl, h, by simp only [condJ, asB, h]⟩
def codeC (P : Program) (c : Code) : Bx Sc := Code.rec (motive := fun _ => Bx Sc)
  (.mk fun _ tm ds g => .fin .norm tm ds g)
  (fun _ ops draw => Bool.rec (motive := fun _ => Bx Sc) (seqC P ops.toList ops.toList) (parRegL P ops) draw)
  (fun _ _ a b => .mk fun rec tm ds g => thenF (fun tm ds g => Bx.rec (motive := fun _ => Res) (fun h => h rec tm ds g) b) (Bx.rec (motive := fun _ => Res) (fun h => h rec tm ds g) a))
  (fun c ca cb a b => Bx.rec (motive := fun _ => Bx Sc) (fun gc => Bool.rec (motive := fun _ => Bx Sc)
    (.mk fun rec tm ds g => condF (fun g => Bx.rec (motive := fun _ => Res) (fun h => h rec tm ds g) a) (fun g => Bx.rec (motive := fun _ => Res) (fun h => h rec tm ds g) b) g (gc tm))
    (.mk fun rec tm ds g => condJ ca cb (fun g => Bx.rec (motive := fun _ => Res) (fun h => h rec tm ds g) a) (fun g => Bx.rec (motive := fun _ => Res) (fun h => h rec tm ds g) b) tm ds g (gc tm)) (flatC ca && flatC cb)) (getC c))
  (fun id _ a => .mk fun rec tm ds g => inBlockA id (Bx.rec (motive := fun _ => Res) (fun h => h rec tm ds g) a))
  (fun c a => .mk fun rec tm ds g => thenF (fun tm ds g => rec (.code (.loop c) tm ds) g) (Bx.rec (motive := fun _ => Res) (fun h => h rec tm ds g) a))
  (fun _ _ _ _ _ _ => .mk fun _ _ _ _ => .no 182)
  (fun id => .mk fun _ tm ds g => .fin (.exit id) tm ds g)
  (fun _ a => a)
  (fun _ => .mk fun _ tm ds g => .fin .norm tm ds g)
  (fun _ => .mk fun _ _ _ _ => .no 182)
  (.mk fun _ tm ds g => .fin .ret tm ds g)
  (fun _ => .mk fun _ _ _ _ => .no 182) c
def runC (P : Program) (c : Code) (rec : Rec) : Next := runSc (codeC P c) rec
end
noncomputable section
theorem pureOp_ev {P : Program} {tm : Ts AV} {op : Op} {v : AV} (h : pureOp tm op = some v) (g : G) : evOp P tm op g = .ok (.val v) g := by
  unfold pureOp at h
  split at h
  · simp only [evOp, ev1, h]; rfl
  · simp only [evOp, ev1, h]; rfl
  · split at h
    · rename_i a ha
      split at h
      · rename_i b hb
        split at h
        · rename_i u hu
          split at h
          · cases h
          · rename_i hc
            injection h with h; subst h
            simp only [evOp, ev2, ha, hb, vl, M.bind, binA, hu, conc, hc]; rfl
        · cases h
      · cases h
    · cases h
  · split at h
    · rename_i a ha
      simp only [evOp, ev1, ha, h]; rfl
    · cases h
  · cases h
theorem pureOps_ev {P : Program} {rec : Rec} {ops : List Oper} : ∀ (l : List Oper) (tm tm' : Ts AV), pureOps l tm = some tm' → ∀ ds g, evSeq rec P ops l tm ds g = .fin .norm tm' ds g
  | [], tm, tm', h, ds, g => by simp only [pureOps] at h; injection h with h; subst h; rfl
  | o :: os, tm, tm', h, ds, g => by
    unfold pureOps at h
    split at h
    · rename_i hg
      split at h
      · rename_i v hv
        rw [putK_eq] at h
        have ih := pureOps_ev os _ tm' h ds g (P := P) (rec := rec) (ops := ops)
        rw [evSeq_cons]
        have hw : wantedA ops o tm g = .ok true g := by unfold wantedA; rw [hg]; rfl
        rw [hw]
        simp only [evSeqW]
        have hr : runOp rec P o tm g = .ok (.val v) g := by unfold runOp; rw [pureOp_ev hv]
        rw [hr]
        simp only [evSeqR, evSeqV]
        rw [putK_eq]; exact ih
      · cases h
    · cases h
theorem pureC_run {P : Program} {rec : Rec} : ∀ (c : Code) (tm tm' : Ts AV), pureC c tm = some tm' → ∀ ds g, runC P c rec tm ds g = .fin .norm tm' ds g
  | .skip, tm, tm', h, ds, g => by simp only [pureC] at h; injection h with h; subst h; rfl
  | .region id ops draw, tm, tm', h, ds, g => by
    simp only [pureC] at h
    cases draw with
    | true => cases h
    | false =>
      have := congrFun (congrFun (congrFun (seqC_spec P ops.toList rec ops.toList) tm) ds) g
      exact this.trans (pureOps_ev _ _ _ h ds g)
  | .seq a b, tm, tm', h, ds, g => by
    simp only [pureC] at h
    cases ha : pureC a tm with
    | none => rw [ha] at h; cases h
    | some tm1 =>
      rw [ha] at h
      show thenF (fun tm ds g => runC P b rec tm ds g) (runC P a rec tm ds g) = _
      rw [pureC_run a tm tm1 ha]
      exact pureC_run b tm1 tm' h ds g
  | .cond .., _, _, h, _, _ => by simp [pureC] at h
  | .block .., _, _, h, _, _ => by simp [pureC] at h
  | .loop .., _, _, h, _, _ => by simp [pureC] at h
  | .rangeFunc .., _, _, h, _, _ => by simp [pureC] at h
  | .exit .., _, _, h, _, _ => by simp [pureC] at h
  | .scope .., _, _, h, _, _ => by simp [pureC] at h
  | .label .., _, _, h, _, _ => by simp [pureC] at h
  | .goto .., _, _, h, _, _ => by simp [pureC] at h
  | .ret, _, _, h, _, _ => by simp [pureC] at h
  | .refuse .., _, _, h, _, _ => by simp [pureC] at h
end
noncomputable section
def codeRec (P : Program) (rec : Rec) : Rec := fun t g => Task.rec (motive := fun _ => Res)
  (fun c tm ds => Bx.rec (motive := fun _ => Res) (fun h => h rec tm ds g) (codeC P c)) (fun f args => rec (.call f args) g) t
def bodyF (P : Program) (Γ : Env) (rec : Rec) : Rec := fun t g => Task.rec (motive := fun _ => Res)
  (fun c tm ds => Bx.rec (motive := fun _ => Res) (fun h => h rec tm ds g) (codeC P c))
  (fun f args => Option.rec (motive := fun _ => Res) (evCallF (codeRec P rec) P args g P.funcs[f]?) (fun s => s args g) (Γ f)) t
def evF (P : Program) (Γ : Env) (n : Nat) : Rec := Nat.rec (motive := fun _ => Rec) (fun _ _ => .no 0) (fun _ ih => bodyF P Γ ih) n

/-! ### It is sound -/
section
variable {P : Program} {rec : Rec} {Γ : Env}
theorem rounds_up {c : Code} {Q : Exit → Act → World → Prop} : ∀ {n : Nat} {a : Act} {w : World}, Code.rounds P c Q n a w → Code.rounds P c Q (n + 1) a w
  | 0, _, _, h => h.elim
  | n + 1, a, w, h => by
    rw [rounds_succ] at h ⊢
    refine wp_mono h fun e a w h => ?_
    cases e with
    | normal => exact rounds_up h
    | _ => exact h
def LoopM (P : Program) (rec : Rec) (m : Nat) : Prop := ∀ c tm ds g x tm' ds' g', rec (.code (.loop c) tm ds) g = .fin x tm' ds' g' → ∀ T hi σ w a N, Pre P T hi σ g w g' → TR σ tm a.tmps → DRs σ ds a.defers → codeIn N c = true → N ≤ a.tmps.size →
    Code.rounds P c (CPost P T σ g w N x tm' ds' g') m a w
structure Good (P : Program) (rec : Rec) (m : Nat) (c : Code) : Prop where
  le : ∀ tm ds g, LeRes g (runC P c rec tm ds g)
  code : ∀ tm ds g x tm' ds' g', runC P c rec tm ds g = .fin x tm' ds' g' → ∀ T hi σ w a N, Pre P T hi σ g w g' → TR σ tm a.tmps → DRs σ ds a.defers → codeIn N c = true → N ≤ a.tmps.size →
    c.wp P (CPost P T σ g w N x tm' ds' g') a w
  loop : ∀ b, c = .loop b → ∀ tm ds g x tm' ds' g', runC P c rec tm ds g = .fin x tm' ds' g' → ∀ T hi σ w a N, Pre P T hi σ g w g' → TR σ tm a.tmps → DRs σ ds a.defers → codeIn N b = true → N ≤ a.tmps.size →
    Code.rounds P b (CPost P T σ g w N x tm' ds' g') m a w
open Classical in
def recAt (P : Program) (rec : Rec) (S : Code → Prop) : Rec := fun t g => match t with
  | .code c tm ds => if S c then runC P c rec tm ds g else rec (.code c tm ds) g
  | .call f args => rec (.call f args) g
theorem recAt_in {S : Code → Prop} {c : Code} (h : S c) (tm : Ts AV) (ds : List (FuncId × List AV)) (g : G) : recAt P rec S (.code c tm ds) g = runC P c rec tm ds g := by
  simp [recAt, h]
theorem recAt_out {S : Code → Prop} {c : Code} (h : ¬ S c) (tm : Ts AV) (ds : List (FuncId × List AV)) (g : G) : recAt P rec S (.code c tm ds) g = rec (.code c tm ds) g := by
  simp [recAt, h]
theorem recAt_none : recAt P rec (fun _ => False) = rec := by
  funext t g
  cases t with
  | code c tm ds => exact recAt_out id tm ds g
  | call f args => rfl
theorem recAt_all : codeRec P rec = recAt P rec (fun _ => True) := by
  funext t g
  cases t with
  | code c tm ds => exact (recAt_in trivial tm ds g).symm
  | call f args => rfl
theorem recAt_L (hrec : RecS P rec) {m : Nat} (hm : LoopM P rec m) {S : Code → Prop} (hS : ∀ c, S c → Good P rec (m + 1) c) : RecL P (recAt P rec S) where
  le := fun t g => by
    cases t with
    | code c tm ds =>
      by_cases h : S c
      · rw [recAt_in h]; exact (hS c h).le tm ds g
      · rw [recAt_out h]; exact hrec.le _ _
    | call f args => exact hrec.le (.call f args) g
  code := fun c tm ds g x tm' ds' g' h => by
    by_cases hs : S c
    · rw [recAt_in hs] at h; exact (hS c hs).code tm ds g x tm' ds' g' h
    · rw [recAt_out hs] at h; exact hrec.code c tm ds g x tm' ds' g' h
  call := fun f hb => hrec.call f hb
  loop := ⟨m + 1, fun c tm ds g x tm' ds' g' h => by
    by_cases hs : S (.loop c)
    · rw [recAt_in hs] at h; exact (hS _ hs).loop c rfl tm ds g x tm' ds' g' h
    · rw [recAt_out hs] at h
      exact fun T hi σ w a N p ht hd hin hN => rounds_up (hm c tm ds g x tm' ds' g' h T hi σ w a N p ht hd hin hN)⟩
theorem good_of (hP : PF2 P) (hrec : RecS P rec) {m : Nat} (hm : LoopM P rec m) {S : Code → Prop} (hS : ∀ c, S c → Good P rec (m + 1) c) {c : Code}
    (heq : ∀ tm ds g, runC P c rec tm ds g = evCode (recAt P rec S) P c tm ds g) (hn : ∀ b, c ≠ .loop b) : Good P rec (m + 1) c where
  le := fun tm ds g => by rw [heq]; exact evCode_le (recAt_L hrec hm hS).le c tm ds g
  code := fun tm ds g x tm' ds' g' h => codeS_body (Γ := fun _ => none) hP (recAt_L hrec hm hS) c tm ds g x tm' ds' g' (by rw [← h, heq]; rfl)
  loop := fun b hb => absurd hb (hn b)
theorem loop_ne (c : Code) : Code.loop c ≠ c := by
  intro h
  have := congrArg (fun c : Code => SizeOf.sizeOf c) h
  simp at this
theorem good (hP : PF2 P) (hrec : RecS P rec) {m : Nat} (hm : LoopM P rec m) : ∀ c, Good P rec (m + 1) c := by
  have none : ∀ c, False → Good P rec (m + 1) c := fun _ h => h.elim
  intro c
  induction c with
  | skip => exact good_of hP hrec hm none (S := fun _ => False) (fun _ _ _ => rfl) (fun _ h => by cases h)
  | region id ops draw =>
    cases draw with
    | false =>
      refine good_of hP hrec hm none (S := fun _ => False) (fun tm ds g => ?_) (fun _ h => by cases h)
      rw [recAt_none]
      exact congrFun (congrFun (congrFun (seqC_spec P ops.toList rec ops.toList) tm) ds) g
    | true =>
      rcases parRegL_spec P ops rec with hold | ⟨D, ms, hl, hst, hnew⟩
      · refine good_of hP hrec hm none (S := fun _ => False) (fun tm ds g => ?_) (fun _ h => by cases h)
        rw [recAt_none]
        exact hold tm ds g
      · refine ⟨fun tm ds g => ?_, fun tm ds g x tm' ds' g' hr T hi σ w a N p ht hd hin hN => ?_, fun b hb => by cases hb⟩
        · have : runC P (.region id ops true) rec tm ds g = litRun D tm ds g := hnew tm ds g
          rw [this]; exact litRun_le D tm ds g
        · have hr : litRun D tm ds g = .fin x tm' ds' g' := by rw [← hr]; exact (hnew tm ds g).symm
          exact lit_sound hP.mixed (static_spec hst) hl hr p ht hd hin hN
  | seq a b iha ihb =>
    refine good_of hP hrec hm (S := fun c => c = a ∨ c = b) (fun c h => h.elim (fun e => e ▸ iha) (fun e => e ▸ ihb)) (fun tm ds g => ?_) (fun _ h => by cases h)
    show thenF (fun tm ds g => runC P b rec tm ds g) (runC P a rec tm ds g) = thenDo (fun tm ds g => recAt P rec _ (.code b tm ds) g) (recAt P rec _ (.code a tm ds) g)
    rw [thenF_eq, recAt_in (.inl rfl)]
    congr 1
    funext tm ds g
    exact (recAt_in (S := fun c => c = a ∨ c = b) (.inr rfl) tm ds g).symm
  | cond c a b iha ihb =>
    have hL := recAt_L hrec hm (S := fun c => c = a ∨ c = b) (fun c h => h.elim (fun e => e ▸ iha) (fun e => e ▸ ihb))
    have hold : ∀ tm ds g, evCond (fun g => runC P a rec tm ds g) (fun g => runC P b rec tm ds g) g (opnd tm c) = evCode (recAt P rec fun c => c = a ∨ c = b) P (.cond c a b) tm ds g := by
      intro tm ds g
      show _ = evCond (recAt P rec (fun c => c = a ∨ c = b) (.code a tm ds)) (recAt P rec (fun c => c = a ∨ c = b) (.code b tm ds)) g (opnd tm c)
      congr 1
      · funext g; exact (recAt_in (S := fun c => c = a ∨ c = b) (.inl rfl) tm ds g).symm
      · funext g; exact (recAt_in (S := fun c => c = a ∨ c = b) (.inr rfl) tm ds g).symm
    have hnew : ∀ tm ds g, runC P (.cond c a b) rec tm ds g = evCond (fun g => runC P a rec tm ds g) (fun g => runC P b rec tm ds g) g (opnd tm c) ∨
        ∃ s tm3, opnd tm c = some (.sbool s) ∧ joinC s a b tm = some tm3 ∧ runC P (.cond c a b) rec tm ds g = .fin .norm tm3 ds g := by
      intro tm ds g
      have hr : runC P (.cond c a b) rec tm ds g = runSc (Bx.rec (motive := fun _ => Bx Sc) (fun gc => Bool.rec (motive := fun _ => Bx Sc)
          (.mk fun rec tm ds g => condF (fun g => runC P a rec tm ds g) (fun g => runC P b rec tm ds g) g (gc tm))
          (.mk fun rec tm ds g => condJ a b (fun g => runC P a rec tm ds g) (fun g => runC P b rec tm ds g) tm ds g (gc tm)) (flatC a && flatC b)) (getC c)) rec tm ds g := rfl
      obtain ⟨gc, e, h⟩ := getC_spec c
      rw [hr, e]
      simp only
      cases flatC a && flatC b with
      | false =>
        left
        show condF (fun g => runC P a rec tm ds g) (fun g => runC P b rec tm ds g) g (gc tm) = _
        rw [condF_eq, h]
      | true =>
        show condJ a b (fun g => runC P a rec tm ds g) (fun g => runC P b rec tm ds g) tm ds g (gc tm) = _ ∨ ∃ s tm3, opnd tm c = some (.sbool s) ∧ joinC s a b tm = some tm3 ∧ condJ a b (fun g => runC P a rec tm ds g) (fun g => runC P b rec tm ds g) tm ds g (gc tm) = .fin .norm tm3 ds g
        rw [h]
        exact condJ_eq a b _ _ tm ds g _
    refine ⟨fun tm ds g => ?_, fun tm ds g x tm' ds' g' hr => ?_, fun b hb => by cases hb⟩
    · rcases hnew tm ds g with e | ⟨s, tm3, _, _, e⟩
      · rw [e, hold]; exact evCode_le hL.le _ tm ds g
      · rw [e]; exact ⟨[], Le.refl g⟩
    · rcases hnew tm ds g with e | ⟨s, tm3, e1, e2, e⟩
      · rw [e, hold] at hr
        exact codeS_body (Γ := fun _ => Option.none) hP hL _ tm ds g x tm' ds' g' hr
      · rw [e] at hr
        injection hr with h1 h2 h3 h4; subst h1; subst h2; subst h3; subst h4
        intro T hi σ w act N p ht hd hin hN
        simp only [codeIn, Bool.and_eq_true] at hin
        obtain ⟨tm1, tm2, j1, j2, j3, j4⟩ := joinC_spec e2
        have hv := opnd_sound ht e1
        have hev : act.eval c = .bool s := by generalize act.eval c = X at hv; cases hv; rfl
        cases s with
        | true =>
          refine wp_cond_true hev (wp_mono (iha.code tm ds g _ _ _ _ (pureC_run a tm tm1 j1 ds g) T hi σ w act N p ht hd hin.1 hN) fun e a w q => ?_)
          obtain ⟨σ', L, q1, q2, q3, q4⟩ := q
          exact ⟨σ', L, q1, q2, j3 rfl _ _ q3, q4⟩
        | false =>
          refine wp_cond_false hev (wp_mono (ihb.code tm ds g _ _ _ _ (pureC_run b tm tm2 j2 ds g) T hi σ w act N p ht hd hin.2 hN) fun e a w q => ?_)
          obtain ⟨σ', L, q1, q2, q3, q4⟩ := q
          exact ⟨σ', L, q1, q2, j4 rfl _ _ q3, q4⟩
  | block id a iha =>
    refine good_of hP hrec hm (S := fun c => c = a) (fun c h => by subst h; exact iha) (fun tm ds g => ?_) (fun _ h => by cases h)
    show inBlockA id (runC P a rec tm ds g) = inBlockA id (recAt P rec _ (.code a tm ds) g)
    rw [recAt_in (S := fun c => c = a) rfl]
  | scope a iha =>
    refine good_of hP hrec hm (S := fun c => c = a) (fun c h => by subst h; exact iha) (fun tm ds g => ?_) (fun _ h => by cases h)
    show runC P a rec tm ds g = recAt P rec (fun c => c = a) (.code a tm ds) g
    rw [recAt_in (S := fun c => c = a) rfl]
  | loop b ih =>
    have heq : ∀ tm ds g, runC P (.loop b) rec tm ds g = evCode (recAt P rec fun c => c = b) P (.loop b) tm ds g := by
      intro tm ds g
      show thenF (fun tm ds g => rec (.code (.loop b) tm ds) g) (runC P b rec tm ds g) = thenDo (fun tm ds g => recAt P rec _ (.code (.loop b) tm ds) g) (recAt P rec _ (.code b tm ds) g)
      rw [thenF_eq, recAt_in (S := fun c => c = b) rfl]
      congr 1
      funext tm ds g
      exact (recAt_out (S := fun c => c = b) (loop_ne b) tm ds g).symm
    have hL := recAt_L hrec hm (S := fun c => c = b) (fun c h => by subst h; exact ih)
    refine ⟨fun tm ds g => by rw [heq]; exact evCode_le hL.le _ tm ds g, fun tm ds g x tm' ds' g' h => codeS_body (Γ := fun _ => Option.none) hP hL _ tm ds g x tm' ds' g' (by rw [← h, heq]; rfl), ?_⟩
    intro b' hb tm ds g x tm' ds' g' h T hi σ w a N p ht hd hin hN
    injection hb with hb; subst hb
    rw [heq] at h
    have h : thenDo (fun tm ds g => recAt P rec (fun c => c = b) (.code (.loop b) tm ds) g) (recAt P rec (fun c => c = b) (.code b tm ds) g) = .fin x tm' ds' g' := h
    rw [rounds_succ]
    refine then_sound hL.toRecS (next := fun tm ds g => recAt P rec (fun c => c = b) (.code (.loop b) tm ds) g) h (fun _ _ _ => hL.le _ _) p ht hd hin hN ?_
    intro tm1 ds1 g1 σ1 w1 a1 L h1 q1 q2 q3 q4 q5
    rw [recAt_out (S := fun c => c = b) (loop_ne b)] at h1
    exact rounds_mono (fun e a w q => q.from q1 p.fresh p.hi) (hm b tm1 ds1 g1 _ _ _ _ h1 T hi σ1 w1 a1 N q2 q3 q4 hin q5)
  | rangeFunc => exact good_of hP hrec hm none (S := fun _ => False) (fun _ _ _ => rfl) (fun _ h => by cases h)
  | exit id => exact good_of hP hrec hm none (S := fun _ => False) (fun _ _ _ => rfl) (fun _ h => by cases h)
  | label l => exact good_of hP hrec hm none (S := fun _ => False) (fun _ _ _ => rfl) (fun _ h => by cases h)
  | goto l => exact good_of hP hrec hm none (S := fun _ => False) (fun _ _ _ => rfl) (fun _ h => by cases h)
  | ret => exact good_of hP hrec hm none (S := fun _ => False) (fun _ _ _ => rfl) (fun _ h => by cases h)
  | refuse r => exact good_of hP hrec hm none (S := fun _ => False) (fun _ _ _ => rfl) (fun _ h => by cases h)
theorem bodyF_sound (hP : PF2 P) (hΓ : EnvS P Γ) (hrec : RecL P rec) : RecL P (bodyF P Γ rec) := by
  obtain ⟨m, hm⟩ := hrec.loop
  have hg := good hP hrec.toRecS (m := m) hm
  have hall : RecL P (codeRec P rec) := by rw [recAt_all]; exact recAt_L hrec.toRecS hm (fun c _ => hg c)
  refine { le := fun t g => ?_, code := fun c tm ds g x tm' ds' g' h => (hg c).code tm ds g x tm' ds' g' h, call := fun f _ => ?_, loop := ⟨m + 1, fun c tm ds g x tm' ds' g' h => (hg (.loop c)).loop c rfl tm ds g x tm' ds' g' h⟩ }
  · cases t with
    | code c tm ds => exact (hg c).le tm ds g
    | call f args =>
      show LeRes g (Option.rec (motive := fun _ => Res) (evCallF (codeRec P rec) P args g P.funcs[f]?) (fun s => s args g) (Γ f))
      cases e : Γ f with
      | none => exact evCallF_le hall.le
      | some s => exact hΓ.le f s e args g
  · show CallSf P f (fun args g => Option.rec (motive := fun _ => Res) (evCallF (codeRec P rec) P args g P.funcs[f]?) (fun s => s args g) (Γ f))
    cases e : Γ f with
    | none => exact call_sound hP hall.toRecS
    | some s => exact hΓ.call f s e
theorem evF_sound (hP : PF2 P) (hΓ : EnvS P Γ) : ∀ n, RecL P (evF P Γ n)
  | 0 => ⟨⟨fun _ _ => trivial, fun c tm ds g x tm' ds' g' h => (by cases h), fun f _ args g g' h => (by cases h)⟩, 0, fun c tm ds g x tm' ds' g' h => (by cases h)⟩
  | n + 1 => bodyF_sound hP hΓ (evF_sound hP hΓ n)
end
end
end Go.Ev
