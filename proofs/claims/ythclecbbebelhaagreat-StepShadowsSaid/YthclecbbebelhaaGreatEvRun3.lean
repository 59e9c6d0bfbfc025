/-
  A part of the evaluator of the program's code, or of what it was seen to do; its statements are Lean's own. No condition.
-/
import Derived.Test.YthclecbbebelhaaGreatEvRun2
namespace Go.Ev
open Go

section
variable {P : Program} {rec : Rec} {T : Tp} {hi : Nat}
theorem XR.notOut {σ : Sg} {x : X} (h : XR σ x .outgrown) : False := by
  cases x with
  | norm => cases h
  | exit id => cases h
  | ret => cases h
  | pan v => obtain ⟨V, h, _⟩ := h; cases h
theorem XR.notGoto {σ : Sg} {x : X} {l : Nat} (h : XR σ x (.goto l)) : False := by
  cases x with
  | norm => cases h
  | exit id => cases h
  | ret => cases h
  | pan v => obtain ⟨V, h, _⟩ := h; cases h
theorem CPost.notOut {σ : Sg} {g g' : G} {w : World} {N : Nat} {x : X} {tm' : Ts AV} {ds' : List (FuncId × List AV)} : ¬ LetsOut (CPost P T σ g w N x tm' ds' g') := by
  rintro ⟨a, w', σ', L, _, hx, _⟩; exact hx.notOut
theorem LeRes.of_g {g g' : G} {r : Res} (h : LeRes g r) (hr : r.g? = some g') : ∃ L, Le g g' L := by
  cases r with
  | no n => cases hr
  | fin x t d g2 => cases hr
  | val v g2 => injection hr with hr; subst hr; exact h
  | pan v g2 => injection hr with hr; subst hr; exact h
theorem notNo_of_g {g' : G} {r : Res} (hr : r.g? = some g') : ∀ n, r ≠ .no n := fun n e => by subst e; cases hr
/-- the frame of a call -/
def entered (fn : Func) (args : Array Value) : Act := { tmps := args ++ Array.replicate (fn.ntmps - args.size) undef, defers := [] }
theorem entered_size (fn : Func) (args : Array Value) : fn.ntmps ≤ (entered fn args).tmps.size := by simp [entered]; omega
theorem entered_TR {σ : Sg} {args : List AV} {Args : Array Value} (fn : Func) (h : VRs σ args Args.toList) : TR σ (Ev.args args 0 .e) (entered fn Args).tmps := by
  intro t v ht
  rcases args_get args 0 .e t v ht with ⟨u, _, h1, rfl⟩ | h1
  · obtain ⟨V, h2, h3⟩ := h.get h1
    refine ⟨V, ?_, h3⟩
    simp only [Nat.sub_zero, Array.getElem?_toList] at h2
    have hlt : t < Args.size := (Array.getElem?_eq_some_iff.1 h2).1
    show (Args ++ _)[t]? = some V
    rw [Array.getElem?_append_left hlt]; exact h2
  · rw [Ts.get_e] at h1; cases h1
theorem DRs.nil {σ : Sg} {Ds : List Deferred} (h : DRs σ [] Ds) : Ds = [] := by
  cases Ds with
  | nil => rfl
  | cons d ds => cases h

def UR (σ : Sg) : Option AV → FrameMode → Prop
  | none, m => m = .returning
  | some v, m => ∃ V, m = .panicking [{ v := V, recovered := false }] ∧ VR σ v V
theorem evDefers_sound (hP : PF2 P) (hrec : RecS P rec) {σ0 : Sg} {g0 g' : G} {w0 : World} {r : Res} (f0 : Fresh σ0 g0 hi) (hr : r.g? = some g') {fn : Func} {tm : Ts AV} {tmps : Array Value} :
    ∀ (ds : List (FuncId × List AV)) (u : Option AV) (g : G) (Ds : List Deferred) (mode : FrameMode) (σ : Sg) (w : World) (L : List Tch), evDefers rec P fn tm ds u g = r →
      Post P T σ0 g0 w0 σ g w L → Pre P T hi σ g w g' → TR σ tm tmps → DRs σ ds Ds → UR σ u mode → Leaves P fn tmps (CallR P T σ0 g0 w0 r) Ds mode w
  | [], none, g, Ds, mode, σ, w, L, h, p0, p, ht, hd, hu => by
    have := hd.nil
    subst this
    cases hu
    have h' : leave P fn tm g = r := h
    cases r with
    | no n => cases hr
    | fin x t d g2 => cases hr
    | pan v g2 =>
      unfold leave at h'
      split at h' <;> cases h'
    | val v g2 =>
      injection hr with hr; subst hr
      obtain ⟨V, L1, h1, h2, h3⟩ := leave_sound h' ht p
      exact ⟨V, h1, σ, _, V, p0.trans h3 f0 p.hi, rfl, h2⟩
  | [], some v, g, Ds, mode, σ, w, L, h, p0, p, ht, hd, hu => by
    have := hd.nil
    subst this
    obtain ⟨V, rfl, hv⟩ := hu
    have h' : Res.pan v g = r := h
    subst h'
    injection hr with hr; subst hr
    exact ⟨σ, L, V, p0, rfl, hv⟩
  | (f, args) :: ds, u, g, Ds, mode, σ, w, L, h, p0, p, ht, hd, hu => by
    cases Ds with
    | nil => cases hd
    | cons D Ds =>
    obtain ⟨⟨cap, hD1, hD2⟩, hd⟩ := hd
    obtain ⟨tgt, dargs⟩ := D
    simp only at hD1 hD2
    subst hD1
    obtain ⟨fd, rid, ops, o, os, rest, hf, hb, hl, hrc, hg, tm', g1, h1, x, tm'', g2, hx, h2, v, g3, h3, h4⟩ := evDefers_cons h (notNo_of_g hr)
    -- what the parts keep
    obtain ⟨M3, l3⟩ := (h4 ▸ evDefers_le (P := P) hrec.le fn tm ds none g3 : LeRes g3 r).of_g hr
    obtain ⟨M2, l2⟩ : ∃ M, Le g2 g3 M := by have := leave_le (P := P) fd tm'' g2; rw [h3] at this; exact this
    obtain ⟨M1, l1⟩ : ∃ M, Le g1 g2 M := by have := hrec.le (.code rest tm' []) g1; rw [h2] at this; exact this
    have hcode := hP.allIn f fd _ hf hb
    simp only [codeIn, Bool.and_eq_true] at hcode
    have hnum := hP.noNum f fd hf (by simp [hb])
    have hmode : mode ≠ .run := by
      cases u with
      | none => rw [show mode = .returning from hu]; simp
      | some v => obtain ⟨V, rfl, _⟩ := hu; simp
    refine leaves_cons (f := f) (args := dargs ++ cap) hmode (by simp [invoke, callFunc, hf, hnum, hb]) ?_
    refine callsD_of_wpS hf hb fun c₀ cs hc => ?_
    change (Code.seq (.region rid ops false) rest).wpS P _ (entered fd (dargs ++ cap)) (c₀ :: cs) w
    refine wpS_seq (wpS_region ?_)
    have hsz : ops.size = os.length + 1 := by rw [← Array.length_toList, hl, List.length_cons]
    have ho : ops[0]? = some o := by rw [← Array.getElem?_toList, hl]; rfl
    -- what recover yields
    obtain ⟨V, u', hV, hcs, hset⟩ : ∃ V u', VR σ (recOf u) V ∧ (match recoverD (c₀ :: cs) with
        | some (v, cs') => v = V ∧ cs' = { c₀ with mode := u' } :: cs
        | none => Value.nilIface = V ∧ c₀ :: cs = { c₀ with mode := u' } :: cs) ∧ settle u' = .returning := by
      cases u with
      | none =>
        have hm : c₀.mode = .returning := hc.trans hu
        refine ⟨.nilIface, .returning, .nilIface, ?_, rfl⟩
        have hrec0 : recoverD (c₀ :: cs) = none := by simp [recoverD, hm]
        rw [hrec0]
        refine ⟨rfl, ?_⟩
        rw [← hm]
      | some v =>
        obtain ⟨V, hm, hv⟩ := hu
        have hm : c₀.mode = .panicking [{ v := V, recovered := false }] := hc.trans hm
        refine ⟨V, .panicking [{ v := V, recovered := true }], hv, ?_, rfl⟩
        have hrec0 : recoverD (c₀ :: cs) = some (V, { c₀ with mode := .panicking [{ v := V, recovered := true }] } :: cs) := by simp [recoverD, hm]
        rw [hrec0]
        exact ⟨rfl, rfl⟩
    have hdst : ∀ k, o.dst = some k → k < (entered fd (dargs ++ cap)).tmps.size := fun k hk =>
      Nat.lt_of_lt_of_le (opsIn_mem hcode.1 o (by rw [hl]; exact List.mem_cons_self) k hk) (entered_size _ _)
    have htp : TR σ (putK (Ev.args args 0 .e) o.dst (recOf u) id) ((entered fd (dargs ++ cap)).put o.dst V).tmps := by
      have := (entered_TR fd hD2).put hV hdst
      rw [putK_eq] at this; exact this
    have hosin : opsIn fd.ntmps os = true := by have := hcode.1; rw [hl] at this; simp only [opsIn, Bool.and_eq_true] at this; exact this.2
    have hpre1 : Pre P T hi σ g w g1 := p.first (l1.trans (l2.trans l3))
    -- the rest of the region
    have hreg := evSeq_sound hP.toPF hrec (ops := ops) (N := fd.ntmps) p.fresh os 1 (fun j => by rw [← Array.getElem?_toList, hl, Nat.add_comm, List.getElem?_cons_succ]) _ _ _ _ _ _ _ (by rw [hl]; exact h1)
      σ w ((entered fd (dargs ++ cap)).put o.dst V) [] (Post.refl p.rel) hpre1 htp (by rw [put_defers]; trivial) hosin (by rw [put_size]; exact entered_size _ _)
    -- and what comes behind it
    have hend : ∀ e a w', CPost P T σ g w fd.ntmps .norm tm' [] g1 e a w' → Exit.thenS (rest.wpS P (bodyPostS P fd c₀ cs (fun e' u'' w'' => (match e' with
        | .returned _ => Leaves P fn tmps (CallR P T σ0 g0 w0 r) Ds (settle u'') w''
        | .panicked chain => Leaves P fn tmps (CallR P T σ0 g0 w0 r) Ds (raised u'' chain) w''
        | .outgrown => CallR P T σ0 g0 w0 r .outgrown w'')))) (bodyPostS P fd c₀ cs (fun e' u'' w'' => (match e' with
        | .returned _ => Leaves P fn tmps (CallR P T σ0 g0 w0 r) Ds (settle u'') w''
        | .panicked chain => Leaves P fn tmps (CallR P T σ0 g0 w0 r) Ds (raised u'' chain) w''
        | .outgrown => CallR P T σ0 g0 w0 r .outgrown w''))) e a ({ c₀ with mode := u' } :: cs) w' := by
      rintro e a w' ⟨σ1, L1, q1, rfl, q3, q4, q5⟩
      have hpre2 : Pre P T hi σ1 g1 w' g2 := (p.first (l2.trans l3)).then q1
      refine wpS_of_wp (wp_mono (hrec.code rest _ _ _ _ _ _ _ h2 T hi σ1 w' a fd.ntmps hpre2 q3 q4 hcode.2 q5) ?_)
      rintro e a2 w2 ⟨σ2, L2, s1, s2, s3, s4, s5⟩
      have q12 := q1.trans s1 p.fresh (Nat.le_trans (l2.trans l3).nx p.hi)
      obtain ⟨V2, L3, t1, t2, t3⟩ := leave_sound h3 s3 ((p.first l3).then q12)
      have q13 := q12.trans t3 p.fresh (Nat.le_trans l3.nx p.hi)
      have hsub : Sub σ σ2 := q13.ext.sub p.fresh (Nat.le_trans l3.nx p.hi)
      have hL : Leaves P fn tmps (CallR P T σ0 g0 w0 r) Ds (settle u') w2 := by
        rw [hset]
        exact evDefers_sound hP hrec f0 hr ds none g3 Ds .returning σ2 w2 _ h4 (p0.trans q13 f0 (Nat.le_trans l3.nx p.hi)) (p.then q13) (ht.mono hsub) (hd.mono hsub) rfl
      have h0 := s4.nil
      rcases hx with rfl | rfl
      · cases s2
        exact ⟨h0, u', rfl, V2, t1, hL⟩
      · cases s2
        exact ⟨h0, u', rfl, V2, t1, hL⟩
    rw [hsz, List.range_eq_range', List.range'_succ]
    unfold wpOpsS
    rw [ho]
    simp only
    have hw : Region.wanted o (yielded ops (entered fd (dargs ++ cap)).tmps) = true := by simp [Region.wanted, hg]
    rw [hw, hrc.run]
    simp only [if_true]
    revert hcs
    cases recoverD (c₀ :: cs) with
    | some vc =>
      obtain ⟨v2, cs2⟩ := vc
      rintro ⟨rfl, rfl⟩
      exact wpOpsS_of_wpOps CPost.notOut hend _ _ _ hreg
    | none =>
      rintro ⟨rfl, hcs⟩
      rw [hcs]
      exact wpOpsS_of_wpOps CPost.notOut hend _ _ _ hreg
end
end Go.Ev
