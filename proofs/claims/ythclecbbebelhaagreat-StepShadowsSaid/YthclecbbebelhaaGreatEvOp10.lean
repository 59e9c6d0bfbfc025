/-
  A part of the evaluator of the program's code, or of what it was seen to do; its statements are Lean's own. No condition.
-/
import Derived.Test.YthclecbbebelhaaGreatEvOp9
namespace Go.Ev
open Go

section
variable {P : Program} {T : Tp} {hi : Nat} {σ : Sg} {g : G} {w : World} {a : Act} {o : Oper} {tm : Ts AV}

theorem arr_map {α β : Type} (f : α → β) (x : Array α) : x.map f = (x.toList.map f).toArray := by apply Array.ext'; simp
theorem nilCheck_sound {x : Operand} {v : AV} (ho : o.op = .nilCheck x) (hv : VR σ v (a.eval x)) : OSound P T hi σ g w a o (nilCheckA v) := by
  unfold nilCheckA
  split
  · refine OSound.val hv ?_
    cases hx : a.eval x <;> rw [hx] at hv <;> cases hv
    simp [execOp, ho, hx]
  · refine OSound.val hv ?_
    cases hx : a.eval x <;> rw [hx] at hv <;> cases hv
    simp [execOp, ho, hx]
  · refine OSound.val hv ?_
    cases hx : a.eval x <;> rw [hx] at hv <;> cases hv
    simp only [execOp, ho, hx]
    rfl
  · exact OSound.no

theorem builtin_sound {b : Builtin} {c : Call} {args : List AV} (ho : o.op = .call c) (hb : c.callee = .builtin b) (ha : VRs σ args (c.args.toList.map a.eval)) : OSound P T hi σ g w a o (builtinA P b c.argTypes.toList args) := by
  have hargs : c.args.map a.eval = (c.args.toList.map a.eval).toArray := arr_map _ _
  have hex : execOp a.eval o = builtin b c.argTypes o.type (c.args.map fun | .const _ => true | _ => false) (c.args.map a.eval) := by
    simp only [execOp, ho, resolve, hb]
    rfl
  have hts : ∀ (i : Nat) t, c.argTypes.toList[i]? = some t → c.argTypes[i]? = some t := fun i t h => by simpa using h
  have hrs : ∀ (i : Nat) V, (c.args.toList.map a.eval)[i]? = some V → (c.args.map a.eval)[i]? = some V := fun i V h => by rw [hargs]; simpa using h
  unfold builtinA
  split
  · -- len
    split
    · rename_i t r x xs ht
      cases ha0 : c.args.toList.map a.eval with
      | nil => rw [ha0] at ha; cases ha
      | cons X Xs =>
        rw [ha0] at ha
        cases ha with | cons h1 h2 =>
        refine OSound.vl (e := Builtin.len_ c.argTypes o.type (c.args.map a.eval)) (lenA_sound (hts 0 t (by rw [ht]; rfl)) h1 (hrs 0 X (by rw [ha0]; rfl))) ?_
        rw [hex]; simp [builtin]
    · exact OSound.no
  · -- append
    split
    · rename_i t xt r s x xs ht
      cases ha0 : c.args.toList.map a.eval with
      | nil => rw [ha0] at ha; cases ha
      | cons S Ss =>
        rw [ha0] at ha
        cases ha with | cons h1 h2 =>
        cases h2 with | cons h2 h3 =>
        rename_i X Xs
        refine OSound.vl (e := Builtin.append_ c.argTypes o.type (c.args.map a.eval)) (appendA_sound (hts 0 t (by rw [ht]; rfl)) (hts 1 xt (by rw [ht]; rfl)) h1 h2 (hrs 0 S (by rw [ha0]; rfl)) (hrs 1 X (by rw [ha0]; rfl))) ?_
        rw [hex]; simp [builtin]
    · exact OSound.no
  · -- copy
    split
    · rename_i t r s x xs ht
      cases ha0 : c.args.toList.map a.eval with
      | nil => rw [ha0] at ha; cases ha
      | cons S Ss =>
        rw [ha0] at ha
        cases ha with | cons h1 h2 =>
        cases h2 with | cons h2 h3 =>
        rename_i X Xs
        refine OSound.vl (e := Builtin.copy_ c.argTypes o.type (c.args.map a.eval)) (copyA_sound (hts 0 t (by rw [ht]; rfl)) h1 h2 (hrs 0 S (by rw [ha0]; rfl)) (hrs 1 X (by rw [ha0]; rfl))) ?_
        rw [hex]; simp [builtin]
    · exact OSound.no
  · -- delete
    split
    · rename_i t r s x xs ht
      cases ha0 : c.args.toList.map a.eval with
      | nil => rw [ha0] at ha; cases ha
      | cons S Ss =>
        rw [ha0] at ha
        cases ha with | cons h1 h2 =>
        cases h2 with | cons h2 h3 =>
        rename_i X Xs
        refine OSound.vl (e := Builtin.delete_ c.argTypes o.type (c.args.map a.eval)) (deleteA_sound (hts 0 t (by rw [ht]; rfl)) h1 h2 (hrs 0 S (by rw [ha0]; rfl)) (hrs 1 X (by rw [ha0]; rfl))) ?_
        rw [hex]; simp [builtin]
    · exact OSound.no
  · -- min
    split
    · rename_i x r
      cases ha0 : c.args.toList.map a.eval with
      | nil => rw [ha0] at ha; cases ha
      | cons X Xs =>
        rw [ha0] at ha
        cases ha with | cons h1 h2 =>
        refine OSound.ovl (e := Builtin.min_ c.argTypes o.type (c.args.map a.eval)) (fun v hv => ?_) (by rw [hex]; simp [builtin])
        obtain ⟨V, v1, v2⟩ := foldO_sound (P := P) (w := w) (F := Builtin.min2) (fun _ _ _ _ _ => minA_sound) r Xs x v X hv h1 h2
        exact ⟨V, by simp [Builtin.min_, hargs, ha0, v1], v2⟩
    · exact OSound.no
  · -- max
    split
    · rename_i x r
      cases ha0 : c.args.toList.map a.eval with
      | nil => rw [ha0] at ha; cases ha
      | cons X Xs =>
        rw [ha0] at ha
        cases ha with | cons h1 h2 =>
        refine OSound.ovl (e := Builtin.max_ c.argTypes o.type (c.args.map a.eval)) (fun v hv => ?_) (by rw [hex]; simp [builtin])
        obtain ⟨V, v1, v2⟩ := foldO_sound (P := P) (w := w) (F := Builtin.max2) (fun _ _ _ _ _ => maxA_sound) r Xs x v X hv h1 h2
        exact ⟨V, by simp [Builtin.max_, hargs, ha0, v1], v2⟩
    · exact OSound.no
  · exact OSound.no

theorem evOp_sound (hP : PF P) (hr : OpsRel σ tm a o.op.operands.toList) : OSound P T hi σ g w a o (evOp P tm o.op) := by
  cases ho : o.op <;> rw [ho] at hr <;> simp only [evOp, Op.operands] at hr ⊢ <;> try exact OSound.no
  case move x => exact OSound.e1 hr fun v hv => OSound.val hv (by simp [execOp, ho])
  case assign x => exact OSound.e1 hr fun v hv => OSound.val hv (by simp [execOp, ho])
  case pick c x y =>
    unfold evPick
    split
    · rename_i u s h1 h2 h3
      have q1 := hr c (by simp) _ h1; have q2 := hr x (by simp) _ h2
      refine OSound.val q2 ?_
      cases hc : a.eval c <;> rw [hc] at q1 <;> cases q1
      simp [execOp, ho, hc, asBool]
    · rename_i u s h1 h2 h3
      have q1 := hr c (by simp) _ h1; have q2 := hr y (by simp) _ h3
      refine OSound.val q2 ?_
      cases hc : a.eval c <;> rw [hc] at q1 <;> cases q1
      simp [execOp, ho, hc, asBool]
    · exact OSound.no
  case alloc e =>
    unfold evAlloc
    split
    · rename_i nz hnz
      obtain ⟨n, z⟩ := nz
      intro r g' h p
      obtain ⟨i, cs, k, m, _, b1, b2, b3, b4, b5⟩ := bigT_spec hnz
      have z1 : (zeroValue e).run P w = .ok (.agg cs) w := by simp [zeroValue, r_info b1, b2]
      obtain ⟨v, g1, q1, q2⟩ := bind_ok h
      obtain ⟨rfl, rfl⟩ := pure_ok q2
      obtain ⟨σ', V, w', L, h1, h2, h3⟩ := newBig_sound (P := P) (T := T) (hi := hi) b3 b4 b5 v g' q1 p
      refine ⟨σ', w', L, h1, V, h2, .inl ?_⟩
      simp only [Sem.run_bind, Sem.run_pure] at h3
      simp only [execOp, ho, Instr.alloc, Sem.run_bind, z1, Result.andThen_ok, Sem.run_pure]
      rw [h3]; rfl
    · split
      · rename_i z hz
        intro r g' h p
        obtain ⟨Z, z1, z2⟩ := r_zero (P := P) (w := w) σ hz
        obtain ⟨v, g1, q1, q2⟩ := bind_ok h
        obtain ⟨rfl, rfl⟩ := pure_ok q2
        obtain ⟨σ', V, w', L, h1, h2, h3⟩ := newA_sound (P := P) (T := T) (hi := hi) z2 v g' q1 p
        refine ⟨σ', w', L, h1, V, h2, .inl ?_⟩
        simp only [Sem.run_bind, Sem.run_pure] at h3
        simp only [execOp, ho, Instr.alloc, Sem.run_bind, z1, Result.andThen_ok, Sem.run_pure]
        rw [h3]; rfl
      · exact OSound.no
  case box e x => exact OSound.e1 hr fun v hv => OSound.vl (boxA_sound hv) (by simp [execOp, ho, Instr.box])
  case build t ps =>
    unfold evBuild
    split
    · rename_i qs hq
      have := partsA_sound ps.toList qs (by simpa using hr) hq
      have hgen : OSound P T hi σ g w a o (ovl 104 (buildA P t qs)) := OSound.ovl (fun v hv => buildA_sound (Ps := ps.map fun (i, x) => (i, a.eval x)) hv (by simpa using this)) (by simp [execOp, ho])
      unfold buildP
      split
      · unfold repOf
        split
        · rename_i nz hnz
          obtain ⟨n, z⟩ := nz
          split
          · rename_i k m hz
            obtain ⟨k', m', Cs, e1, e2, e3⟩ := repOf_sound (σ := σ) hnz w
            have hz : z = .int k m := hz
            rw [hz] at e1; injection e1 with e1 e1'; subst e1; subst e1'
            have h0 : (ps.map fun (i, x) => (i, a.eval x)) = #[] := by
              have hl : ps.toList = [] := by
                cases hps : ps.toList with
                | nil => rfl
                | cons q qs =>
                  rw [hps] at hq
                  obtain ⟨i0, x0⟩ := q
                  simp only [partsA] at hq
                  split at hq <;> cases hq
              have : ps = #[] := by
                cases ps; simp at hl; simp [hl]
              rw [this]; simp
            exact OSound.val e3 (by simp only [execOp, ho]; rw [h0]; simp only [Sem.run_bind, e2, Result.andThen_ok]; rfl)
          · exact hgen
        · exact hgen
      · exact hgen
    · exact OSound.no
  case buildSlice t n ps =>
    unfold evBuildSlice
    split
    · rename_i qs hq
      have := partsA_sound ps.toList qs (by simpa using hr) hq
      exact OSound.vl (buildSliceA_sound (Ps := ps.map fun (i, x) => (i, a.eval x)) (by simpa using this)) (by simp [execOp, ho])
    · exact OSound.no
  case makeChan t x => exact OSound.e1 hr fun v hv => OSound.vl (makeChanA_sound hv) (by simp [execOp, ho])
  case makeSlice t x y => exact OSound.e2 hr fun u v hu hv => OSound.vl (makeSliceA_sound hu hv) (by simp [execOp, ho])
  case insert t m k x => exact OSound.e3 hr fun m k v hm hk hv => OSound.ul (mapSetA_sound hm hk hv) (by simp [execOp, ho])
  case load t x => exact OSound.e1 hr fun v hv => OSound.vl (loadA_sound hv) (by simp [execOp, ho])
  case store t x y => exact OSound.e2 hr fun u v hu hv => OSound.ul (storeA_sound hu hv) (by simp [execOp, ho])
  case nilCheck x => exact OSound.e1 hr fun v hv => nilCheck_sound ho hv
  case binOp op t x y yt => exact OSound.e2 hr fun u v hu hv => OSound.vl (binA_sound hu hv) (by simp [execOp, ho])
  case unOp op t x => exact OSound.e1 hr fun v hv => OSound.ovl (fun u hu => unA_sound hu hv) (by simp [execOp, ho])
  case convert s d x => exact OSound.e1 hr fun v hv => OSound.ovl (fun u hu => convertA_sound hu hv) (by simp [execOp, ho])
  case makeInterface t x =>
    refine OSound.e1 hr fun v hv => ?_
    unfold makeIfaceA
    split
    · exact OSound.no
    · rename_i d hd hni
      refine OSound.val (.iface hv) ?_
      have hu : P.underlying t = some d := by assumption
      cases d <;> first | exact (hd _ rfl).elim | (simp [execOp, ho, Instr.makeInterface, r_und hu]; done) | trace_state
    · exact OSound.no
  case makeFunc fn x y =>
    unfold evMakeFunc
    split
    · rename_i vs h1
      split
      · rename_i us h2
        have q1 := opnds_sound x.toList vs (fun z hz => hr z (by simp at hz ⊢; exact .inl hz)) h1
        have q2 := opnds_sound y.toList us (fun z hz => hr z (by simp at hz ⊢; exact .inr hz)) h2
        exact OSound.val (.func q1 q2) (by simp only [execOp, ho, Instr.makeFunc, arr_map a.eval x, arr_map a.eval y]; rfl)
      · exact OSound.no
    · exact OSound.no
  case makeMap t x =>
    unfold evMakeMap
    split
    · intro r g' h p
      obtain ⟨i, g1, h1, h2⟩ := bind_ok h
      obtain ⟨rfl, rfl⟩ := pure_ok h2
      have := alloc_sound (cap := 0) (obj := .map #[] 0) h1 p.rel p.fresh p.hi ⟨_, _, rfl⟩ (fun o c hc => by
        simp only [Blk.ct] at hc
        split at hc
        · injection hc with hc; subst hc; exact ⟨#[], 0, rfl, trivial⟩
        · cases hc)
      obtain ⟨rfl, hn, q⟩ := this
      exact ⟨_, _, _, q, _, .map (upd_same _ _ _), .inl (by simp [execOp, ho, Instr.makeMap, pushed])⟩
    · exact OSound.no
  case slice t x lo hi' mx =>
    unfold evSlice
    split
    · rename_i X LO HI MX h1 h2 h3 h4
      have q1 := hr x (by simp) _ h1
      have q2 := opndO_sound lo _ (fun z hz => hr z (by simp at hz ⊢; simp [hz])) h2
      have q3 := opndO_sound hi' _ (fun z hz => hr z (by simp at hz ⊢; simp [hz])) h3
      have q4 := opndO_sound mx _ (fun z hz => hr z (by simp at hz ⊢; simp [hz])) h4
      exact OSound.ovl (fun v hv => sliceA_sound hv q1 q2 q3 q4) (by simp [execOp, ho])
    · exact OSound.no
  case fieldAddr s x f => exact OSound.e1 hr fun v hv => OSound.ovl (fun u hu => fieldAt_sound hu hv) (by simp [execOp, ho])
  case field s x f => exact OSound.e1 hr fun v hv => OSound.ovl (fun u hu => fieldA_sound hu hv) (by simp [execOp, ho])
  case indexAddr t x i => exact OSound.e2 hr fun u v hu hv => OSound.vl (indexAtA_sound hu hv) (by simp [execOp, ho])
  case index t x i => exact OSound.e2 hr fun u v hu hv => OSound.ovl (fun z hz => indexA_sound hz hu hv) (by simp [execOp, ho])
  case lookup t x i ok => exact OSound.e2 hr fun u v hu hv => OSound.vl (lookupA_sound hu hv) (by simp [execOp, ho])
  case mapUpdate t m k x => exact OSound.e3 hr fun m k v hm hk hv => OSound.ul (mapSetA_sound hm hk hv) (by simp [execOp, ho])
  case typeAssert x xt t ok => exact OSound.e1 hr fun v hv => OSound.ovl (e := Instr.typeAssert (a.eval x) xt t ok) (fun u hu => typeAssertA_sound hu hv) (by simp [execOp, ho])
  case extract x n =>
    refine OSound.e1 hr fun v hv => ?_
    unfold extractA
    split
    · rename_i vs
      refine OSound.ovl (e := Instr.extract (a.eval x) n) (fun u hu => ?_) (by simp [execOp, ho])
      cases hx : a.eval x <;> rw [hx] at hv <;> cases hv
      rename_i Cs hC
      obtain ⟨V, v1, v2⟩ := hC.get hu
      exact ⟨V, by simp [Instr.extract, v1], v2⟩
    · exact OSound.no
  case call c =>
    unfold evCall
    split
    · rename_i args h1
      have q1 := opnds_sound c.args.toList args (fun z hz => hr z (by simp [Call.operands]; exact .inr (by simpa using hz))) h1
      unfold evCallee
      cases hc : c.callee with
      | value f =>
        simp only
        refine OSound.e1 (fun z hz => hr z (by simp at hz; subst hz; simp [Call.operands, hc])) fun v hv => ?_
        unfold callVal
        split
        · rename_i g0 as h2
          obtain ⟨D, d1, d2, d3, d4, d5⟩ := calleeA_sound hP h2 hv q1
          intro r g' h p
          obtain ⟨rfl, rfl⟩ := pure_ok h
          refine ⟨σ, w, [], Post.refl p.rel, _, d4, ?_, d5⟩
          have hargs : c.args.map a.eval = (c.args.toList.map a.eval).toArray := arr_map _ _
          have hd2 := d2 w
          have hd3 := d3 w
          rw [← hargs] at hd2
          simp only [execOp, ho, resolve, hc, Sem.run_bind, hd2, Result.andThen_ok, hd3]
        · exact OSound.no
      | builtin b => simp only; exact builtin_sound ho hc q1
      | invoke r m => exact OSound.no
    · exact OSound.no
  case defer c =>
    unfold evDefer
    split
    · rename_i args h1
      have q1 := opnds_sound c.args.toList args (fun z hz => hr z (by simp [Call.operands]; exact .inr (by simpa using hz))) h1
      cases hc : c.callee with
      | value f =>
        simp only
        refine OSound.e1 (fun z hz => hr z (by simp at hz; subst hz; simp [Call.operands, hc])) fun v hv => ?_
        unfold dfrVal
        split
        · rename_i g0 as h2
          obtain ⟨D, d1, d2, d3, d4, d5⟩ := calleeA_sound hP h2 hv q1
          intro r g' h p
          obtain ⟨rfl, rfl⟩ := pure_ok h
          refine ⟨σ, w, [], Post.refl p.rel, D, d1, ?_, d5⟩
          have hargs : c.args.map a.eval = (c.args.toList.map a.eval).toArray := arr_map _ _
          have hd2 := d2 w
          rw [← hargs] at hd2
          simp [execOp, ho, resolve, hc, hd2]
        · exact OSound.no
      | builtin b => exact OSound.no
      | invoke r m => exact OSound.no
    · exact OSound.no
  case panic x =>
    refine OSound.e1 hr fun v hv => ?_
    unfold panicA
    split
    · intro r g' h p
      obtain ⟨rfl, rfl⟩ := pure_ok h
      refine ⟨σ, w, [], Post.refl p.rel, _, hv, ?_⟩
      cases hx : a.eval x <;> rw [hx] at hv <;> cases hv
      simp [execOp, ho, hx, Instr.panic]
    · exact OSound.no
end
end Go.Ev
