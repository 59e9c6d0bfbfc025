/-
  A part of the evaluator of the program's code, or of what it was seen to do; its statements are Lean's own. No condition.
-/
import Derived.Test.YthclecbbebelhaaGreatEvSel1
import Derived.Test.YthclecbbebelhaaGreatEvFew
namespace Go.Ev
open Go
noncomputable section

/-! ### A select of one send with a way out -/
def sendA (i : Nat) : M Unit := fun g => match g with
  | ⟨h, nx, l, oc, ob⟩ => match h.get i with
    | some (.chan n k) => match Nat.blt k n with
      | true => h.setK i (.chan n (Nat.succ k)) fun h => .ok () ⟨h, nx, ⟨i, 0, 1, true⟩ :: l, oc, ob⟩
      | false => .no 190
    | _ => .no 190
theorem sendA_ok {i : Nat} {g g' : G} {u : Unit} (h : sendA i g = .ok u g') : ∃ n k, g.heap.get i = some (.chan n k) ∧ k < n ∧ g' = ⟨g.heap.set i (.chan n (k + 1)), g.next, ⟨i, 0, 1, true⟩ :: g.log, g.orc, g.obl⟩ := by
  obtain ⟨hp, nx, l, oc, ob⟩ := g
  simp only [sendA] at h
  cases e : hp.get i with
  | none => rw [e] at h; cases h
  | some blk =>
    rw [e] at h
    cases blk with
    | chan n k =>
      simp only at h
      cases hb : Nat.blt k n with
      | false => rw [hb] at h; cases h
      | true =>
        rw [hb] at h
        simp only [Tr.setK_eq] at h; injection h with h1 h2
        exact ⟨n, k, rfl, by simpa [Nat.blt_eq] using hb, h2.symm⟩
    | _ => cases h
theorem sendA_le {i : Nat} {g g' : G} {u : Unit} (h : sendA i g = .ok u g') : Le g g' [⟨i, 0, 1, true⟩] := by
  obtain ⟨n, c, hg, _, rfl⟩ := sendA_ok h
  refine ⟨rfl, Nat.le_refl _, ⟨[], rfl⟩, fun j bj _ hj => ?_, fun j k bj ct hn hj hc => ?_, fun t ht _ => by simp at ht; subst ht; exact .inl ⟨_, hg⟩⟩
  · rcases Tr.get_set hj with ⟨rfl, rfl⟩ | ⟨_, h⟩
    · exact ⟨_, hg, rfl⟩
    · exact ⟨bj, h, rfl⟩
  · rcases Tr.get_set hj with ⟨rfl, rfl⟩ | ⟨_, h⟩
    · by_cases hk : k = 0
      · subst hk; exact absurd ⟨_, List.mem_cons_self, rfl, rfl, .inr (by simp)⟩ hn
      · simp [Blk.ct, hk] at hc
    · exact ⟨bj, h, hc⟩
theorem sendA_sound {P : Program} {σ : Sg} {T : Tp} {g g' : G} {w : World} {i b cap : Nat} {u : Unit} (h : sendA i g = .ok u g') (rl : Rel P σ T g w)
    (ht : inT T [⟨i, 0, 1, true⟩]) (hσ : σ i = some (b, cap)) :
    ∃ n q s r, w.heap[b]? = some (.chan n q false s r false) ∧ q.size < n ∧ ∀ v, Post P T σ g w σ g' (sentW w b n q s r v) [⟨i, 0, 1, true⟩] := by
  have hle := sendA_le h
  obtain ⟨n, c, hg, hroom, rfl⟩ := sendA_ok h
  obtain ⟨b0, cap0, h1, _⟩ := rl.sh i _ hg ht.some
  rw [hσ] at h1; injection h1 with h1; injection h1 with h1 h1'; subst h1; subst h1'
  have hT0 : T i 0 := ht ⟨i, 0, 1, true⟩ (List.mem_singleton.2 rfl) 0 (.inr ⟨Nat.le_refl _, Nat.zero_lt_one⟩)
  obtain ⟨q, s, r, h2, hq⟩ := rl.ct i _ 0 (.chan n c) b cap hg rfl hT0 hσ
  refine ⟨n, q, s, r, h2, by omega, fun V => ?_⟩
  have hlt : b < w.heap.size := (Array.getElem?_eq_some_iff.1 h2).1
  have hb : (sentW w b n q s r V).heap[b]? = some (.chan n (q.push V) false (s + 1) r false) := by simp [sentW, replaced, hlt]
  have ho : ∀ x, x ≠ b → (sentW w b n q s r V).heap[x]? = w.heap[x]? := fun x hx => by
    simp only [sentW, replaced]; rw [Array.getElem?_setIfInBounds_ne (fun e => hx e.symm)]
  have hold : ∀ j bj, (g.heap.set i (.chan n (c + 1))).get j = some bj → (j = i ∧ bj = .chan n (c + 1)) ∨ (j ≠ i ∧ g.heap.get j = some bj) := fun j bj hj => Tr.get_set hj
  have hne : ∀ j bj x cp, j ≠ i → g.heap.get j = some bj → (∃ o, T j o) → σ j = some (x, cp) → x ≠ b := fun j bj x cp hji hj hT hσ' e => by
    subst e; exact hji (rl.inj j i bj _ x cp cap hj hg hT ht.some hσ' hσ)
  refine { le := hle, ext := fun _ _ => rfl, rel := ⟨fun j bj hj hT => ?_, fun j bj k ct x cp hj hc hT hσ' => ?_, fun j j' bj bj' x c1 c2 hj hj' hT hT' hσ' hσ'' => ?_⟩,
           fr := ⟨by simp [sentW, replaced], rfl, rfl, rfl, fun x hx hn => ?_, fun x cx ex fx hx => ?_, fun x es cl hx => ?_, fun x n1 n2 n3 n4 hx => ?_⟩, nw := fun _ _ _ h1 h2 _ => absurd h1 (Nat.not_le_of_lt h2) }
  · rcases hold j bj hj with ⟨rfl, rfl⟩ | ⟨hji, h⟩
    · exact ⟨b, cap, hσ, n, _, _, _, hb⟩
    · obtain ⟨x, cp, h5, h6⟩ := rl.sh j bj h hT
      exact ⟨x, cp, h5, by rw [ho x (hne j bj x cp hji h hT h5)]; exact h6⟩
  · rcases hold j bj hj with ⟨rfl, rfl⟩ | ⟨hji, h⟩
    · rw [hσ] at hσ'; injection hσ' with hσ'; injection hσ' with hσ' _; subst hσ'
      by_cases hk : k = 0
      · simp [Blk.ct, hk] at hc; subst hc; exact ⟨_, _, _, hb, by simp [hq]⟩
      · simp [Blk.ct, hk] at hc
    · rw [ho x (hne j bj x cp hji h ⟨k, hT⟩ hσ')]
      exact rl.ct j bj k ct x cp h hc hT hσ'
  · have hd : ∀ j bj, (g.heap.set i (.chan n (c + 1))).get j = some bj → ∃ b0, g.heap.get j = some b0 := fun j bj hj => by
      rcases hold j bj hj with ⟨rfl, _⟩ | ⟨_, h⟩
      · exact ⟨_, hg⟩
      · exact ⟨_, h⟩
    obtain ⟨b0, h5⟩ := hd j bj hj
    obtain ⟨b1, h6⟩ := hd j' bj' hj'
    exact rl.inj j j' b0 b1 x c1 c2 h5 h6 hT hT' hσ' hσ''
  · by_cases hxb : x = b
    · subst hxb; exact absurd ⟨i, cap, hσ, _, List.mem_cons_self, rfl, rfl, .inr (by simp)⟩ (hn 0)
    · exact ho x hxb
  · by_cases hxb : x = b
    · subst hxb; rw [h2] at hx; cases hx
    · exact ⟨cx, by rw [ho x hxb]; exact hx, rfl, fun _ _ => rfl⟩
  · by_cases hxb : x = b
    · subst hxb; rw [h2] at hx; cases hx
    · exact ⟨es, cl, by rw [ho x hxb]; exact hx, fun _ => ⟨rfl, rfl⟩⟩
  · by_cases hxb : x = b
    · subst hxb; rw [h2] at hx; injection hx with hx; injection hx with hx1 hx2 _ hx3 hx4 _
      subst hx1
      exact ⟨_, _, _, hb, fun hn => absurd ⟨i, cap, hσ, _, List.mem_cons_self, rfl, rfl, .inr (by simp)⟩ hn⟩
    · exact ⟨n2, n3, n4, by rw [ho x hxb]; exact hx, fun _ => ⟨rfl, rfl, rfl⟩⟩

/-- the one case's channel, value and type -/
def selOf (o : Oper) : Option (Operand × Operand × TypeId) := match o.op with
  | .select cs false => match cs.toList with
    | [c] => match c.send, o.guard with
      | some x, none => some (c.chan, x, c.elem)
      | _, _ => none
    | _ => none
  | _ => none
theorem selOf_spec {o : Oper} {ch x : Operand} {e : TypeId} (h : selOf o = some (ch, x, e)) : o.op = .select #[⟨ch, some x, e⟩] false ∧ o.guard = none := by
  unfold selOf at h
  split at h
  · rename_i cs hop
    split at h
    · rename_i c hc
      split at h
      · rename_i x' h1 h2
        injection h with h; injection h with h3 h4; injection h4 with h4 h5
        subst h3; subst h4; subst h5
        have : cs = #[c] := by apply Array.toList_inj.1; simpa using hc
        subst this
        refine ⟨?_, h2⟩
        rw [hop]
        obtain ⟨c1, c2, c3⟩ := c
        simp only at h1
        rw [h1]
      · cases h
    · cases h
  · cases h
def selV : AV := .tup [.int .i64 (.ofNat (nat_lit 0)), .bool false]
def evSel (rec : Rec) (P : Program) (all : List Oper) (o : Oper) (os : List Oper) (tm : Ts AV) (ds : List (FuncId × List AV)) (g : G) (t : Option (Operand × Operand × TypeId)) : Res :=
  match t with
  | some (ch, _, e) => match opnd tm ch, zeroT P e with
    | some (.chan i), some _ => match sendA i g with
      | .ok _ g => evSeq rec P all os (putK tm o.dst selV id) ds g
      | .no w => .no w
    | _, _ => .no 191
  | none => .no 191
def selReg (rec rec' : Rec) (P : Program) (t : Task) (tm : Ts AV) (ds : List (FuncId × List AV)) (g : G) (draw : Bool) (ops : List Oper) : Res := match draw, ops with
  | false, o :: os => match selOf o with
    | some q => evSel rec' P (o :: os) o os tm ds g (some q)
    | none => rec t g
  | _, _ => rec t g
def selBody (rec rec' : Rec) (P : Program) : Rec := fun t g => match t with
  | .code (.seq a b) tm ds => thenDo (fun tm ds g => rec' (.code b tm ds) g) (rec' (.code a tm ds) g)
  | .code (.region id ops draw) tm ds => selReg rec rec' P (.code (.region id ops draw) tm ds) tm ds g draw ops.toList
  | t => rec t g
def selRec (rec : Rec) (P : Program) : Nat → Rec
  | 0 => rec
  | n + 1 => selBody rec (selRec rec P n) P

theorem wp_sel {P : Program} {id : Nat} {ops : Array Oper} {Q : Exit → Act → World → Prop} {a : Act} {w : World} {o : Oper} {r n s rc : Nat} {q : Array Value} {v z : Value} (ho : ops[0]? = some o) (hw : Region.wanted o (yielded ops a.tmps) = true)
    (hrun : (execOp a.eval o).run P w = .ok (.comm #[{ chan := .chan (some r), send := some v, zero := z }] false .select) w)
    (hc : w.heap[r]? = some (.chan n q false s rc false)) (hroom : q.size < n)
    (h : wpOps P ops Q (List.range' 1 (ops.size - 1)) (a.put o.dst (.tuple #[goInt 0, .bool false])) (sentW w r n q s rc v)) : (Code.region id ops false).wp P Q a w := by
  intro b k cs
  obtain ⟨e, a', w', q1, r1⟩ := wp_ops _ _ _ h b k cs
  refine ⟨e, a', w', q1, .of_steps (.head step_region (.one ?_)) r1⟩
  have hs : 0 < ops.size := (Array.getElem?_eq_some_iff.1 ho).1
  have : List.range ops.size = 0 :: List.range' 1 (ops.size - 1) := by
    rw [List.range_eq_range']
    obtain ⟨m, hm⟩ : ∃ m, ops.size = m + 1 := ⟨ops.size - 1, by omega⟩
    rw [hm, List.range'_succ]; rfl
  rw [this]
  exact step_send ho hw hrun hc hroom

theorem evSel_le {P : Program} {rec : Rec} (hr : ∀ t g, LeRes g (rec t g)) {all os : List Oper} {o : Oper} {tm : Ts AV} {ds : List (FuncId × List AV)} {g : G} {t : Option (Operand × Operand × TypeId)} : LeRes g (evSel rec P all o os tm ds g t) := by
  unfold evSel
  split
  · split
    · cases h : sendA _ g with
      | no w => trivial
      | ok u g1 => exact LeRes.trans (sendA_le h) (evSeq_le hr _ _ _ _)
    · trivial
  · trivial
theorem selRec_sound {P : Program} {rec : Rec} (hP : PF2 P) (hrec : RecS P rec) : ∀ n, RecS P (selRec rec P n)
  | 0 => hrec
  | m + 1 => by
    have ih := selRec_sound hP hrec m
    generalize hre : selRec rec P m = rec' at ih
    have hdef : selRec rec P (m + 1) = selBody rec rec' P := by rw [← hre]; rfl
    rw [hdef]
    refine ⟨fun t g => ?_, fun c tm ds g x tm' ds' g' h T hi σ w a N p ht hd hin hN => ?_, fun f hb => hrec.call f hb⟩
    · unfold selBody
      split
      · exact thenDo_le (ih.le _ _) fun _ _ _ => ih.le _ _
      · unfold selReg
        split
        · split
          · exact evSel_le ih.le
          · exact hrec.le _ _
        · exact hrec.le _ _
      · exact hrec.le _ _
    · cases c with
      | seq b c =>
        simp only [codeIn, Bool.and_eq_true] at hin
        have h : thenDo (fun tm ds g => rec' (.code c tm ds) g) (rec' (.code b tm ds) g) = .fin x tm' ds' g' := h
        refine wp_seq (then_sound ih h (fun _ _ _ => ih.le _ _) p ht hd hin.1 hN ?_)
        intro tm1 ds1 g1 σ1 w1 a1 L h1 q1 q2 q3 q4 q5
        exact wp_mono (ih.code c tm1 ds1 g1 _ _ _ _ h1 T hi σ1 w1 a1 N q2 q3 q4 hin.2 q5) fun e a w q => q.from q1 p.fresh p.hi
      | region rid ops draw =>
        have h : selReg rec rec' P (.code (.region rid ops draw) tm ds) tm ds g draw ops.toList = .fin x tm' ds' g' := h
        have old : rec (.code (.region rid ops draw) tm ds) g = .fin x tm' ds' g' → (Code.region rid ops draw).wp P (CPost P T σ g w N x tm' ds' g') a w := fun h => hrec.code _ tm ds g _ _ _ _ h T hi σ w a N p ht hd hin hN
        unfold selReg at h
        split at h
        · rename_i o os hops _
          split at h
          · rename_i qq hsel
            obtain ⟨ch, xx, e⟩ := qq
            obtain ⟨hop, hgd⟩ := selOf_spec hsel
            simp only [evSel] at h
            cases h1 : opnd tm ch with
            | none => rw [h1] at h; cases h
            | some cv =>
            cases h2 : zeroT P e with
            | none => rw [h1, h2] at h; cases cv <;> cases h
            | some zv =>
            rw [h1, h2] at h
            cases cv <;> simp only at h <;> first | (cases h; done) | skip
            rename_i i
            cases h3 : sendA i g with
            | no w => rw [h3] at h; cases h
            | ok u g1 =>
              rw [h3] at h
              simp only at h
              have hle := evSeq_le (P := P) ih.le (ops := o :: os) os (putK tm o.dst selV id) ds g1
              rw [h] at hle
              obtain ⟨M, hM⟩ := hle
              have hin' : opsIn N ops.toList = true := hin
              rw [hops] at hin'
              simp only [opsIn, Bool.and_eq_true] at hin'
              have ho : ops[0]? = some o := by rw [← Array.getElem?_toList, hops]; rfl
              have hsz : ops.size = os.length + 1 := by rw [← Array.length_toList, hops]; rfl
              have hdst : ∀ k, o.dst = some k → k < a.tmps.size := fun k hk => by
                have h1 := hin'.1
                rw [hk] at h1
                exact Nat.lt_of_lt_of_le (of_ble h1) hN
              have hin1 : inT T [⟨i, 0, 1, true⟩] := (p.first hM).inT _ (by rw [(sendA_le h3).log])
              have hv := opnd_sound ht h1
              have hch : ∃ b cap, a.eval ch = .chan (some b) ∧ σ i = some (b, cap) := by
                generalize a.eval ch = X at hv; cases hv with | chan e => exact ⟨_, _, rfl, e⟩
              obtain ⟨b, cap, hch, hσ⟩ := hch
              obtain ⟨n, q, s, r, q1, q2, q3⟩ := sendA_sound h3 p.rel hin1 hσ
              obtain ⟨Z, hZ, _⟩ := r_zero (P := P) (w := w) σ h2
              have hrun : (execOp a.eval o).run P w = .ok (.comm #[{ chan := .chan (some b), send := some (a.eval xx), zero := Z }] false .select) w := by
                simp only [execOp, hop]
                simp [Array.mapM_eq_mapM_toList, List.mapM_cons, hch, hZ]
              refine wp_sel ho (by simp [Region.wanted, hgd]) hrun q1 q2 ?_
              have hq := q3 (a.eval xx)
              have htp : TR σ (putK tm o.dst selV id) (a.put o.dst (.tuple #[goInt 0, .bool false])).tmps := by
                have hvv : VR σ selV (.tuple #[goInt 0, .bool false]) := .tup (.cons (.int _ _) (.cons (.bool _) .nil))
                have := ht.put (v := selV) hvv hdst
                rw [putK_eq] at this; exact this
              have := evSeq_sound hP.toPF ih (ops := ops) (T := T) (hi := hi) (N := N) p.fresh os 1 (fun j => by
                rw [← Array.getElem?_toList, hops, show 1 + j = j + 1 from by omega]; rfl) _ ds g1 x tm' ds' g' (by rw [hops]; exact h) σ _ (a.put o.dst (.tuple #[goInt 0, .bool false])) _ hq (p.then hq) htp (by rw [put_defers]; exact hd) hin'.2 (by rw [put_size]; exact hN)
              rw [hsz]; exact this
          · exact old h
        · exact old h
      | _ => exact hrec.code _ tm ds g _ _ _ _ h T hi σ w a N p ht hd hin hN
/-- the contract of a function with such a select on its way -/
def selS (rec : Rec) (P : Program) (f : FuncId) (n : Nat) : List AV → G → Res := fun args g => evCallF (selRec rec P n) P args g P.funcs[f]?
theorem selS_sound {P : Program} {rec : Rec} (hP : PF2 P) (hrec : RecS P rec) {f : FuncId} {n : Nat} : CallSf P f (selS rec P f n) := call_sound hP (selRec_sound hP hrec n)
theorem selS_le {P : Program} {rec : Rec} (hP : PF2 P) (hrec : RecS P rec) {f : FuncId} {n : Nat} (args : List AV) (g : G) : LeRes g (selS rec P f n args g) := evCallF_le (selRec_sound hP hrec n).le
/-- an environment with such a function's contract -/
def addSel (P : Program) (f : FuncId) (m n : Nat) (Γ : Env) : Env := addFn f (selS (evF P Γ m) P f n) Γ
theorem addSel_ok {P : Program} (hP : PF2 P) {Γ : Env} (hΓ : EnvS P Γ) (f : FuncId) (m n : Nat) : EnvS P (addSel P f m n Γ) :=
  addFn_ok hΓ (selS_le hP (evF_sound hP hΓ m).toRecS) (selS_sound hP (evF_sound hP hΓ m).toRecS)
end
end Go.Ev
