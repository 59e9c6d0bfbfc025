/-
  A part of the evaluator of the program's code, or of what it was seen to do; its statements are Lean's own. No condition.
-/
import Derived.Test.YthclecbbebelhaaGreatEvLit
namespace Go.Ev
open Go

/-! ### The walk through a map's literal: what holds behind any of its rows -/
section
variable {P : Program} {ops : Array Oper} {D : LitD} {kt e : TypeId} {fa : Array Field}
theorem put_at {a : Act} {d : Tmp} {V : Value} (h : d < a.tmps.size) : (a.put (some d) V).tmps[d]? = some V := by simp [Act.put, h]
theorem put_ne {a : Act} {d t : Tmp} {V : Value} (h : t ≠ d) : (a.put (some d) V).tmps[t]? = a.tmps[t]? := by
  simp only [Act.put]; rw [Array.getElem?_setIfInBounds_ne (fun e => h e.symm)]
theorem eval_tmp {a : Act} {t : Tmp} {V : Value} (h : a.tmps[t]? = some V) : a.eval (.tmp t) = V := by simp [Act.eval, h]
theorem replaced_pushed (w : World) (o o' : Obj) : replaced (pushed w o) w.heap.size o' = pushed w o' := by
  unfold replaced pushed
  congr 1
  apply Array.ext_getElem?
  intro i
  rw [Array.getElem?_setIfInBounds]
  by_cases h : w.heap.size = i
  · subst h; simp
  · rw [if_neg h]
    simp only [Array.getElem?_push]
    rw [if_neg (fun e => h e.symm), if_neg (fun e => h e.symm)]
theorem MRs_mem {σ : Sg} : ∀ {es : List (AV × AV)} {Es : List MapEntry}, MRs σ es Es → ∀ E ∈ Es, ∃ p ∈ es, VR σ p.1 E.key
  | [], [], _, E, h => by cases h
  | (k, v) :: es, F :: Es, ⟨a, _, c⟩, E, h => by
    rcases List.mem_cons.1 h with rfl | h
    · exact ⟨(k, v), List.mem_cons_self, a⟩
    · obtain ⟨p, h1, h2⟩ := MRs_mem c E h
      exact ⟨p, List.mem_cons_of_mem _ h1, h2⟩
  | [], _ :: _, h, _, _ => by cases h
  | _ :: _, [], h, _, _ => by cases h
def σN : Sg := fun _ => none
structure LInv (D : LitD) (w0 : World) (a0 : Act) (listed : Array Bool) (a : Act) (w : World) : Prop where
  sz : a.tmps.size = a0.tmps.size
  df : a.defers = a0.defers
  kp : ∀ t, t ≠ D.m → t ≠ D.x → t ≠ D.y → (∀ r ∈ D.kn, t ≠ r.d) → a.tmps[t]? = a0.tmps[t]?
  bl : ∀ r ∈ D.kn, listed.getD r.i false = true → ∃ V, a.tmps[r.d]? = some V ∧ VR σN r.v V
  h0 : listed.getD 0 false = false → w = w0 ∧ ∀ q ∈ D.ins, listed.getD q.1 false = false
  h1 : listed.getD 0 false = true → a.tmps[D.m]? = some (.map (some w0.heap.size)) ∧ ∃ (Es : Array MapEntry) (cl : Nat) (sel : List (Nat × AV × AV)), w = pushed w0 (.map Es cl) ∧ sel.Nodup ∧ (∀ q, q ∈ sel ↔ q ∈ D.ins ∧ listed.getD q.1 false = true) ∧ MRs σN (sel.map (·.2)) Es.toList
  mv : listed.getD D.iM false = true → a.tmps[D.x]? = some (.map (some w0.heap.size))
  as : listed.getD (D.iM + 1) false = true → a.tmps[D.y]? = some (.map (some w0.heap.size))
theorem LitH.slots (H : LitH P ops D kt e fa) : D.m ≠ D.x ∧ D.m ≠ D.y ∧ D.x ≠ D.y ∧ (∀ r ∈ D.kn, D.m ≠ r.d ∧ D.x ≠ r.d ∧ D.y ≠ r.d) ∧ ∀ r ∈ D.kn, ∀ r' ∈ D.kn, r.d = r'.d → r = r' := by
  have h := H.tmps
  simp only [tmpsApart, Bool.and_eq_true] at h
  obtain ⟨h1, h2, h3, h4⟩ := h
  have k1 := noTmp_spec h1; have k2 := noTmp_spec h2; have k3 := noTmp_spec h3
  refine ⟨k1 _ (by simp), k1 _ (by simp), k2 _ (by simp), fun r hr => ?_, tmpsApart_map h4⟩
  have hm : r.d ∈ D.kn.map (·.d) := List.mem_map_of_mem hr
  exact ⟨k1 _ (by simp [hm]), k2 _ (by simp [hm]), k3 _ hm⟩
theorem edgeTo_listed {o : Oper} {j : Nat} {listed : Array Bool} (h : edgeTo o j = true) (hes : ∀ e ∈ o.after, Region.binds .any e = true → listed.getD e.on false = true) : listed.getD j false = true := by
  unfold edgeTo at h
  rw [List.any_eq_true] at h
  obtain ⟨e, he, hb⟩ := h
  simp only [Bool.and_eq_true] at hb
  have := hes e (by simpa using he) hb.2
  rw [← of_beq hb.1]; exact this
theorem KV.sound {w0 : World} {a0 : Act} {listed : Array Bool} {a : Act} {w : World} {o : Oper} {x : Operand} {v : AV} (h : KV o D.kn x v) (I : LInv D w0 a0 listed a w) (hes : ∀ e ∈ o.after, Region.binds .any e = true → listed.getD e.on false = true) :
    VR σN v (a.eval x) := by
  rcases h with ⟨V, rfl, hv⟩ | ⟨r, hr, rfl, rfl, he⟩
  · exact ofV_sound σN 6 V v hv
  · obtain ⟨V, h1, h2⟩ := I.bl r hr (edgeTo_listed he hes)
    rw [eval_tmp h1]; exact h2
theorem lit_step {Q : Exit → Act → World → Prop} (H : LitH P ops D kt e fa) {w0 : World} {a0 : Act} {listed : Array Bool} {a : Act} {w : World} {i N : Nat} (hs : listed.size = ops.size) (I : LInv D w0 a0 listed a w) (hi : i ∈ Region.ready .any ops listed)
    (hin : opsIn N ops.toList = true) (hN : N ≤ a0.tmps.size) : wpOp P ops Q i (LInv D w0 a0 (listed.setIfInBounds i true)) a w := by
  obtain ⟨hl0, o, ho, hes⟩ := mem_ready.1 hi
  have hlt := (Array.getElem?_eq_some_iff.1 ho).1
  have hlt' : i < listed.size := by omega
  have hno : listed.getD i false = false := by simp [hlt'] at hl0 ⊢; exact hl0
  have hset : ∀ j, (listed.setIfInBounds i true).getD j false = if j = i then true else listed.getD j false := fun j => getD_set listed i j false hlt'
  have hsne : ∀ j, j ≠ i → (listed.setIfInBounds i true).getD j false = listed.getD j false := fun j hj => by rw [hset, if_neg hj]
  have hsi : (listed.setIfInBounds i true).getD i false = true := by rw [hset, if_pos rfl]
  have hdst : ∀ k, o.dst = some k → k < a.tmps.size := fun k hk => by
    have h9 : k < N := opsIn_mem hin o (by rw [Array.mem_toList_iff]; exact Array.mem_of_getElem? ho) k hk
    rw [I.sz]; exact Nat.lt_of_lt_of_le h9 hN
  obtain ⟨n1, n2, n3, n4, n5⟩ := H.slots
  unfold wpOp
  rw [ho]
  simp only
  by_cases hi0 : i = 0
  · subst hi0
    obtain ⟨o', ho', hg, hop, hd⟩ := H.o0
    rw [ho] at ho'; injection ho' with ho'; subst ho'
    have hw : Region.wanted o (yielded ops a.tmps) = true := by simp [Region.wanted, hg]
    rw [hw]
    simp only [if_true]
    refine .inl ?_
    obtain ⟨rfl, hq0⟩ := I.h0 hno
    have hx : (execOp a.eval o).run P w = .ok (.value (.map (some w.heap.size))) (pushed w (.map #[] 0)) := by simp [execOp, hop, Instr.makeMap, pushed]
    unfold Oper.wp
    rw [hx, Oper.upon_value, hd]
    show LInv D w a0 _ (a.put (some D.m) (.map (some w.heap.size))) (pushed w (.map #[] 0))
    refine ⟨by rw [put_size]; exact I.sz, by rw [put_defers]; exact I.df, fun t t1 t2 t3 t4 => by rw [put_ne t1]; exact I.kp t t1 t2 t3 t4, fun r hr hl => ?_, fun h => (by rw [hsi] at h; cases h), fun _ => ⟨put_at (hdst _ hd), #[], 0, [], rfl, List.nodup_nil, fun q => ?_, trivial⟩, fun h => ?_, fun h => ?_⟩
    · have := (H.kn r hr).1
      rw [hsne _ (by omega)] at hl
      rw [put_ne (fun e => (n4 r hr).1 e.symm)]; exact I.bl r hr hl
    · refine ⟨fun h => (by cases h), fun ⟨h1, h2⟩ => ?_⟩
      have := (H.ins q h1).1
      rw [hsne _ (by omega), hq0 q h1] at h2; cases h2
    · have := H.iM.1
      rw [hsne _ (by omega)] at h
      rw [put_ne (fun e => n1 e.symm)]; exact I.mv h
    · rw [hsne _ (by omega)] at h
      rw [put_ne (fun e => n2 e.symm)]; exact I.as h
  have hi0' : (0 : Nat) ≠ i := fun e => hi0 e.symm
  -- the roles of the rows
  have hins : ∀ q ∈ D.ins, q.1 = i → IsIns D o q.2.1 q.2.2 := fun q hq e => by
    obtain ⟨_, o', h1, h2⟩ := H.ins q hq
    rw [e, ho] at h1; injection h1 with h1; subst h1; exact h2
  have hkn : ∀ r ∈ D.kn, r.i = i → IsBld P o r.d r.v := fun r hr e => by
    obtain ⟨_, o', h1, h2⟩ := H.kn r hr
    rw [e, ho] at h1; injection h1 with h1; subst h1; exact h2
  have hmov : D.iM = i → IsMov D o := fun e => by
    obtain ⟨o', h1, h2⟩ := H.mov
    rw [e, ho] at h1; injection h1 with h1; subst h1; exact h2
  have hasg : D.iM + 1 = i → IsAsg D o := fun e => by
    obtain ⟨o', h1, h2⟩ := H.asg
    rw [e, ho] at h1; injection h1 with h1; subst h1; exact h2
  have wanted : o.guard = none → Region.wanted o (yielded ops a.tmps) = true := fun hg => by simp [Region.wanted, hg]
  rcases H.row i o (by omega) ho with ⟨d, v, hm, hb⟩ | ⟨k, v, hm, hb⟩ | ⟨_, hb⟩ | ⟨_, hb⟩
  · -- a value is built
    obtain ⟨hg, hd, t, ps, qs, hop, hq, hv⟩ := hb
    rw [wanted hg]
    simp only [if_true]
    refine .inl ?_
    have hpr := partsA_sound (σ := σN) (tm := .e) (a := a) ps.toList qs (TR.ops (show TR σN .e a.tmps from fun t v h => by rw [Ts.get_e] at h; cases h) _) hq
    obtain ⟨V, r1, r2⟩ := buildA_sound (P := P) (w := w) (Ps := ps.map fun (i, x) => (i, a.eval x)) hv (by simpa using hpr)
    have hx : (execOp a.eval o).run P w = .ok (.value V) w := by simp [execOp, hop, r1]
    unfold Oper.wp
    rw [hx, Oper.upon_value, hd]
    show LInv D w0 a0 _ (a.put (some d) V) w
    have nI : ∀ q ∈ D.ins, q.1 ≠ i := fun q hq e => by have := (hins q hq e).dst; rw [hd] at this; cases this
    have nM : D.iM ≠ i := fun e => by have := (hmov e).op; rw [hop] at this; cases this
    have nA : D.iM + 1 ≠ i := fun e => by have := (hasg e).op; rw [hop] at this; cases this
    have hdm := n4 _ hm
    refine ⟨by rw [put_size]; exact I.sz, by rw [put_defers]; exact I.df, fun t' t1 t2 t3 t4 => by rw [put_ne (t4 _ hm)]; exact I.kp t' t1 t2 t3 t4, fun r hr hl => ?_, fun h => ?_, fun h => ?_, fun h => ?_, fun h => ?_⟩
    · by_cases hri : r.i = i
      · obtain ⟨_, e1, t', ps', qs', e2, e3, e4⟩ := hkn r hr hri
        rw [hd] at e1; injection e1 with e1
        rw [hop] at e2; injection e2 with e2 e2'; subst e2; subst e2'
        rw [hq] at e3; injection e3 with e3; subst e3
        rw [hv] at e4; injection e4 with e4
        rw [← e1, ← e4]
        exact ⟨V, put_at (hdst _ hd), r2⟩
      · rw [hsne _ hri] at hl
        have hne : r.d ≠ d := fun e => hri (congrArg Known.i (n5 r hr ⟨i, d, v⟩ hm e))
        rw [put_ne hne]; exact I.bl r hr hl
    · rw [hsne _ hi0'] at h
      obtain ⟨a1, a2⟩ := I.h0 h
      exact ⟨a1, fun q hq => by rw [hsne _ (nI q hq)]; exact a2 q hq⟩
    · rw [hsne _ hi0'] at h
      obtain ⟨a1, Es, cl, sel, a2, a3, a4, a5⟩ := I.h1 h
      refine ⟨by rw [put_ne hdm.1]; exact a1, Es, cl, sel, a2, a3, fun q => ?_, a5⟩
      rw [a4 q]
      exact ⟨fun ⟨x1, x2⟩ => ⟨x1, by rw [hsne _ (nI q x1)]; exact x2⟩, fun ⟨x1, x2⟩ => ⟨x1, by rw [hsne _ (nI q x1)] at x2; exact x2⟩⟩
    · rw [hsne _ nM] at h; rw [put_ne hdm.2.1]; exact I.mv h
    · rw [hsne _ nA] at h; rw [put_ne hdm.2.2]; exact I.as h
  · -- an entry is laid
    obtain ⟨hg, hd, he0, ko, vo, hop, hk, hv⟩ := hb
    rw [wanted hg]
    simp only [if_true]
    refine .inl ?_
    obtain ⟨a1, Es, cl, sel, a2, a3, a4, a5⟩ := I.h1 (edgeTo_listed he0 hes)
    subst a2
    have hkV := hk.sound I hes
    have hvV := hv.sound I hes
    obtain ⟨cs, hcs, hpo⟩ := H.keys _ hm
    have hcs : k = .agg cs := hcs
    rw [hcs] at hkV
    obtain ⟨Cs, hKe, hC⟩ := hkV.agg_inv
    have hnon : ∀ E ∈ Es.toList, (Op.equal kt (a.eval ko) E.key).run P (pushed w0 (.map Es cl)) = .ok false (pushed w0 (.map Es cl)) := by
      intro E hE
      obtain ⟨p, hp, hpk⟩ := MRs_mem a5 E hE
      obtain ⟨q, hq, rfl⟩ := List.mem_map.1 hp
      obtain ⟨q1, q2⟩ := (a4 q).1 hq
      have hqi : i ≠ q.1 := fun e => by rw [← e, hno] at q2; cases q2
      have := pairOk_spec H.ne (i, k, v) hm q q1 hqi
      rw [← hcs] at hkV
      exact neK_sound this hkV hpk
    have hfk := run_findKeyG (P := P) (w := pushed w0 (.map Es cl)) H.keyT (asking_none Es.toList 0 hnon)
    have hob : (pushed w0 (.map Es cl)).heap[w0.heap.size]? = some (.map Es cl) := pushed_new w0 _
    have hx : (execOp a.eval o).run P (pushed w0 (.map Es cl)) = .ok .skip (pushed w0 (.map (Es.push { key := a.eval ko, val := a.eval vo, born := cl }) (cl + 1))) := by
      have hup : (Instr.mapUpdate D.T (.map (some w0.heap.size)) (a.eval ko) (a.eval vo)).run P (pushed w0 (.map Es cl)) = .ok () (pushed w0 (.map (Es.push { key := a.eval ko, val := a.eval vo, born := cl }) (cl + 1))) := by
        have hck : ∀ b, (Instr.checkKey b 10000 kt (a.eval ko)).run P (pushed w0 (.map Es cl)) = .ok () (pushed w0 (.map Es cl)) := fun b => by rw [hKe]; exact run_checkKeyG H.keyT H.plain hC hpo
        simp only [Instr.mapUpdate, Sem.run_bind, r_und H.mapT, Result.andThen_ok, run_getObj_map hob, hck, hfk]
        rw [run_setObj_map hob, replaced_pushed]
      simp [execOp, hop, eval_tmp a1, hup]
    unfold Oper.wp
    rw [hx, Oper.upon_skip, hd]
    show LInv D w0 a0 _ (a.put none undef) _
    have hpn : a.put none undef = a := rfl
    rw [hpn]
    have nB : ∀ r ∈ D.kn, r.i ≠ i := fun r hr e => by have := (hkn r hr e).dst; rw [hd] at this; cases this
    have nM : D.iM ≠ i := fun e => by have := (hmov e).dst; rw [hd] at this; cases this
    have nA : D.iM + 1 ≠ i := fun e => by have := (hasg e).dst; rw [hd] at this; cases this
    refine ⟨I.sz, I.df, I.kp, fun r hr hl => I.bl r hr (by rw [hsne _ (nB r hr)] at hl; exact hl), fun h => ?_, fun _ => ⟨a1, _, cl + 1, sel ++ [(i, k, v)], rfl, ?_, fun q => ?_, ?_⟩, fun h => I.mv (by rw [hsne _ nM] at h; exact h), fun h => I.as (by rw [hsne _ nA] at h; exact h)⟩
    · rw [hsne _ hi0', edgeTo_listed he0 hes] at h; cases h
    · refine List.nodup_append.2 ⟨a3, by simp, fun x hx y hy e => ?_⟩
      simp at hy; subst hy; subst e
      have := ((a4 _).1 hx).2
      rw [hno] at this; cases this
    · rw [List.mem_append, a4 q]
      constructor
      · rintro (⟨x1, x2⟩ | x1)
        · refine ⟨x1, ?_⟩
          rw [hset]; split
          · rfl
          · exact x2
        · simp at x1; subst x1; exact ⟨hm, hsi⟩
      · rintro ⟨x1, x2⟩
        by_cases hqi : q.1 = i
        · right
          have : q = (i, k, v) := tmpsApart_map H.idx q x1 (i, k, v) hm hqi
          simp [this]
        · rw [hsne _ hqi] at x2; exact .inl ⟨x1, x2⟩
    · rw [List.map_append, Array.toList_push]
      exact MRs.snoc (E := { key := a.eval ko, val := a.eval vo, born := cl }) (by rw [hcs]; exact hkV) hvV a5
  · -- it is moved
    obtain ⟨hg, hd, hop, he0, _⟩ := hb
    rw [wanted hg]
    simp only [if_true]
    refine .inl ?_
    obtain ⟨a1, Es, cl, sel, a2, a3, a4, a5⟩ := I.h1 (edgeTo_listed he0 hes)
    have hx : (execOp a.eval o).run P w = .ok (.value (.map (some w0.heap.size))) w := by simp [execOp, hop, eval_tmp a1]
    unfold Oper.wp
    rw [hx, Oper.upon_value, hd]
    show LInv D w0 a0 _ (a.put (some D.x) (.map (some w0.heap.size))) w
    have nB : ∀ r ∈ D.kn, r.i ≠ i := fun r hr e => by obtain ⟨_, _, t, ps, qs, h, _⟩ := hkn r hr e; rw [hop] at h; cases h
    have nI : ∀ q ∈ D.ins, q.1 ≠ i := fun q hq e => by have := (hins q hq e).dst; rw [hd] at this; cases this
    have nA : D.iM + 1 ≠ i := fun e => by have := (hasg e).op; rw [hop] at this; cases this
    refine ⟨by rw [put_size]; exact I.sz, by rw [put_defers]; exact I.df, fun t t1 t2 t3 t4 => by rw [put_ne t2]; exact I.kp t t1 t2 t3 t4, fun r hr hl => ?_, fun h => ?_, fun _ => ⟨by rw [put_ne n1]; exact a1, Es, cl, sel, a2, a3, fun q => ?_, a5⟩, fun _ => put_at (hdst _ hd), fun h => ?_⟩
    · rw [hsne _ (nB r hr)] at hl
      rw [put_ne (fun e => (n4 r hr).2.1 e.symm)]; exact I.bl r hr hl
    · rw [hsne _ hi0', edgeTo_listed he0 hes] at h; cases h
    · rw [a4 q]
      exact ⟨fun ⟨x1, x2⟩ => ⟨x1, by rw [hsne _ (nI q x1)]; exact x2⟩, fun ⟨x1, x2⟩ => ⟨x1, by rw [hsne _ (nI q x1)] at x2; exact x2⟩⟩
    · rw [hsne _ nA] at h
      rw [put_ne (fun e => n3 e.symm)]; exact I.as h
  · -- and assigned
    obtain ⟨hg, hd, hop, heM⟩ := hb
    rw [wanted hg]
    simp only [if_true]
    refine .inl ?_
    have a1 := I.mv (edgeTo_listed heM hes)
    have hx : (execOp a.eval o).run P w = .ok (.value (.map (some w0.heap.size))) w := by simp [execOp, hop, eval_tmp a1]
    unfold Oper.wp
    rw [hx, Oper.upon_value, hd]
    show LInv D w0 a0 _ (a.put (some D.y) (.map (some w0.heap.size))) w
    have nB : ∀ r ∈ D.kn, r.i ≠ i := fun r hr e => by obtain ⟨_, _, t, ps, qs, h, _⟩ := hkn r hr e; rw [hop] at h; cases h
    have nI : ∀ q ∈ D.ins, q.1 ≠ i := fun q hq e => by have := (hins q hq e).dst; rw [hd] at this; cases this
    have nM : D.iM ≠ i := fun e => by have := (hmov e).op; rw [hop] at this; cases this
    refine ⟨by rw [put_size]; exact I.sz, by rw [put_defers]; exact I.df, fun t t1 t2 t3 t4 => by rw [put_ne t3]; exact I.kp t t1 t2 t3 t4, fun r hr hl => ?_, fun h => ?_, fun h => ?_, fun h => ?_, fun _ => put_at (hdst _ hd)⟩
    · rw [hsne _ (nB r hr)] at hl
      rw [put_ne (fun e => (n4 r hr).2.2 e.symm)]; exact I.bl r hr hl
    · rw [hsne _ hi0'] at h
      obtain ⟨b1, b2⟩ := I.h0 h
      exact ⟨b1, fun q hq => by rw [hsne _ (nI q hq)]; exact b2 q hq⟩
    · rw [hsne _ hi0'] at h
      obtain ⟨b1, Es, cl, sel, b2, b3, b4, b5⟩ := I.h1 h
      refine ⟨by rw [put_ne n2]; exact b1, Es, cl, sel, b2, b3, fun q => ?_, b5⟩
      rw [b4 q]
      exact ⟨fun ⟨x1, x2⟩ => ⟨x1, by rw [hsne _ (nI q x1)]; exact x2⟩, fun ⟨x1, x2⟩ => ⟨x1, by rw [hsne _ (nI q x1)] at x2; exact x2⟩⟩
    · rw [hsne _ nM] at h
      rw [put_ne n3]; exact I.mv h
end
end Go.Ev
