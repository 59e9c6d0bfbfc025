/-
  A part of the evaluator of the program's code, or of what it was seen to do; its statements are Lean's own. No condition.
-/
import Derived.Test.YthclecbbebelhaaGreatEvPure
namespace Go.Ev
open Go

/-! ### A map's literal, laid in any order -/
structure Known where
  i : Nat
  d : Tmp
  v : AV
structure LitD where
  m : Tmp
  x : Tmp
  y : Tmp
  T : TypeId
  iM : Nat
  kn : List Known
  ins : List (Nat × AV × AV)
noncomputable section
def edgeTo (o : Oper) (j : Nat) : Bool := o.after.toList.any fun e => Nat.beq e.on j && Region.binds .any e
def knownT (o : Oper) (t : Tmp) : List Known → Option AV
  | [] => none
  | r :: rs => match Nat.beq r.d t with
    | true => match edgeTo o r.i with
      | true => some r.v
      | false => none
    | false => knownT o t rs
def knownV (o : Oper) (kn : List Known) (x : Operand) : Option AV := match x with
  | .const V => ofV 6 V
  | .tmp t => knownT o t kn
  | _ => none
def bldOf (P : Program) (o : Oper) : Option (Tmp × AV) := match o.guard with
  | some _ => none
  | none => match o.op with
    | .build t ps => match o.dst with
      | some d => match partsA .e ps.toList with
        | some qs => match buildA P t qs with
          | some v => some (d, v)
          | none => none
        | none => none
      | none => none
    | _ => none
def insOf (m : Tmp) (T : TypeId) (kn : List Known) (o : Oper) : Option (AV × AV) := match o.guard with
  | some _ => none
  | none => match o.dst with
    | some _ => none
    | none => match o.op with
      | .insert T' (.tmp m') k v => match Nat.beq m' m && (Nat.beq T' T && edgeTo o 0) with
        | true => match knownV o kn k with
          | some a => match knownV o kn v with
            | some b => some (a, b)
            | none => none
          | none => none
        | false => none
      | _ => none
def lastOf (m : Tmp) (T : TypeId) (oM oA : Oper) (i : Nat) (kn : List Known) (ins : List (Nat × AV × AV)) : Option LitD := match oM.guard with
  | some _ => none
  | none => match oA.guard with
    | some _ => none
    | none => match oM.op with
      | .move (.tmp m') => match oA.op with
        | .assign (.tmp x') => match oM.dst with
          | some x => match oA.dst with
            | some y => match (Nat.beq m' m && Nat.beq x' x) && ((edgeTo oM 0 && edgeTo oA i) && ins.all fun q => edgeTo oM q.1) with
              | true => some ⟨m, x, y, T, i, kn, ins⟩
              | false => none
            | none => none
          | none => none
        | _ => none
      | _ => none
def scan (P : Program) (m : Tmp) (T : TypeId) : List Oper → Nat → List Known → List (Nat × AV × AV) → Option LitD
  | [], _, _, _ => none
  | [_], _, _, _ => none
  | o :: o' :: os, i, kn, ins => match bldOf P o with
    | some dv => scan P m T (o' :: os) (i + 1) (⟨i, dv.1, dv.2⟩ :: kn) ins
    | none => match insOf m T kn o with
      | some kv => scan P m T (o' :: os) (i + 1) kn ((i, kv.1, kv.2) :: ins)
      | none => match os with
        | [] => lastOf m T o o' i kn ins
        | _ => none

/-! what the look tells -/
def KV (o : Oper) (kn : List Known) (x : Operand) (a : AV) : Prop := (∃ V, x = .const V ∧ ofV 6 V = some a) ∨ ∃ r ∈ kn, x = .tmp r.d ∧ r.v = a ∧ edgeTo o r.i = true
theorem knownT_spec {o : Oper} {t : Tmp} {a : AV} : ∀ {kn : List Known}, knownT o t kn = some a → ∃ r ∈ kn, t = r.d ∧ r.v = a ∧ edgeTo o r.i = true
  | r :: rs, h => by
    unfold knownT at h
    split at h
    · rename_i hb
      split at h
      · rename_i he
        injection h with h
        exact ⟨r, List.mem_cons_self, (of_beq hb).symm, h, he⟩
      · cases h
    · obtain ⟨r', h1, h2⟩ := knownT_spec h
      exact ⟨r', List.mem_cons_of_mem _ h1, h2⟩
theorem knownV_spec {o : Oper} {kn : List Known} {x : Operand} {a : AV} (h : knownV o kn x = some a) : KV o kn x a := by
  cases x <;> simp only [knownV] at h <;> first | (cases h; done) | skip
  · obtain ⟨r, h1, h2, h3, h4⟩ := knownT_spec h
    exact .inr ⟨r, h1, by rw [h2], h3, h4⟩
  · exact .inl ⟨_, rfl, h⟩
theorem KV.mono {o : Oper} {kn kn' : List Known} {x : Operand} {a : AV} (hs : ∀ r ∈ kn, r ∈ kn') (h : KV o kn x a) : KV o kn' x a := by
  rcases h with h | ⟨r, h1, h2⟩
  · exact .inl h
  · exact .inr ⟨r, hs r h1, h2⟩
structure IsBld (P : Program) (o : Oper) (d : Tmp) (v : AV) : Prop where
  guard : o.guard = none
  dst : o.dst = some d
  op : ∃ t ps qs, o.op = .build t ps ∧ partsA .e ps.toList = some qs ∧ buildA P t qs = some v
structure IsIns (D : LitD) (o : Oper) (k v : AV) : Prop where
  guard : o.guard = none
  dst : o.dst = none
  e0 : edgeTo o 0 = true
  op : ∃ ko vo, o.op = .insert D.T (.tmp D.m) ko vo ∧ KV o D.kn ko k ∧ KV o D.kn vo v
structure IsMov (D : LitD) (o : Oper) : Prop where
  guard : o.guard = none
  dst : o.dst = some D.x
  op : o.op = .move (.tmp D.m)
  e0 : edgeTo o 0 = true
  es : ∀ q ∈ D.ins, edgeTo o q.1 = true
structure IsAsg (D : LitD) (o : Oper) : Prop where
  guard : o.guard = none
  dst : o.dst = some D.y
  op : o.op = .assign (.tmp D.x)
  eM : edgeTo o D.iM = true
theorem bldOf_spec {P : Program} {o : Oper} {dv : Tmp × AV} (h : bldOf P o = some dv) : IsBld P o dv.1 dv.2 := by
  unfold bldOf at h
  split at h
  · cases h
  · rename_i hg
    split at h
    · rename_i t ps ho
      split at h
      · rename_i d hd
        split at h
        · rename_i qs hq
          split at h
          · rename_i v hv
            injection h with h; subst h
            exact ⟨hg, hd, t, ps, qs, ho, hq, hv⟩
          · cases h
        · cases h
      · cases h
    · cases h
theorem insOf_spec {D : LitD} {kn : List Known} {o : Oper} {kv : AV × AV} (h : insOf D.m D.T kn o = some kv) (hs : ∀ r ∈ kn, r ∈ D.kn) : IsIns D o kv.1 kv.2 := by
  unfold insOf at h
  split at h
  · cases h
  · rename_i hg
    split at h
    · cases h
    · rename_i hd
      split at h
      · rename_i T' m' k v ho
        split at h
        · rename_i hb
          simp only [Bool.and_eq_true] at hb
          obtain ⟨h1, h2, h3⟩ := hb
          have h1 := of_beq h1; have h2 := of_beq h2
          subst h1; subst h2
          split at h
          · rename_i a ha
            split at h
            · rename_i b hb
              injection h with h; subst h
              exact ⟨hg, hd, h3, k, v, ho, (knownV_spec ha).mono hs, (knownV_spec hb).mono hs⟩
            · cases h
          · cases h
        · cases h
      · cases h
/-- what every row of the rest is; what was known stays known -/
def RowOk (P : Program) (D : LitD) (k : Nat) (o : Oper) : Prop :=
  (∃ d v, (⟨k, d, v⟩ : Known) ∈ D.kn ∧ IsBld P o d v) ∨ (∃ a b, (k, a, b) ∈ D.ins ∧ IsIns D o a b) ∨ (k = D.iM ∧ IsMov D o) ∨ (k = D.iM + 1 ∧ IsAsg D o)
theorem lastOf_spec {m : Tmp} {T : TypeId} {oM oA : Oper} {i : Nat} {kn : List Known} {ins : List (Nat × AV × AV)} {D : LitD} (h : lastOf m T oM oA i kn ins = some D) :
    D.m = m ∧ D.T = T ∧ D.kn = kn ∧ D.ins = ins ∧ D.iM = i ∧ IsMov D oM ∧ IsAsg D oA := by
  unfold lastOf at h
  split at h
  · cases h
  · rename_i g1
    split at h
    · cases h
    · rename_i g2
      split at h
      · rename_i m' o1
        split at h
        · rename_i x' o2
          split at h
          · rename_i x d1
            split at h
            · rename_i y d2
              split at h
              · rename_i hb
                injection h with h; subst h
                simp only [Bool.and_eq_true, List.all_eq_true] at hb
                obtain ⟨⟨b1, b2⟩, ⟨b3, b4⟩, b5⟩ := hb
                have b1 := of_beq b1; have b2 := of_beq b2
                subst b1; subst b2
                exact ⟨rfl, rfl, rfl, rfl, rfl, ⟨g1, d1, o1, b3, fun q hq => b5 q hq⟩, ⟨g2, d2, o2, b4⟩⟩
              · cases h
            · cases h
          · cases h
        · cases h
      · cases h
theorem scan_spec {P : Program} {m : Tmp} {T : TypeId} {D : LitD} : ∀ (l : List Oper) (i : Nat) (kn : List Known) (ins : List (Nat × AV × AV)), scan P m T l i kn ins = some D →
    D.m = m ∧ D.T = T ∧ (∀ r ∈ kn, r ∈ D.kn) ∧ (∀ q ∈ ins, q ∈ D.ins) ∧ (∀ j o, l[j]? = some o → RowOk P D (i + j) o) ∧
    (∀ r ∈ D.kn, r ∈ kn ∨ ∃ j o, l[j]? = some o ∧ r.i = i + j ∧ IsBld P o r.d r.v) ∧ (∀ q ∈ D.ins, q ∈ ins ∨ ∃ j o, l[j]? = some o ∧ q.1 = i + j ∧ IsIns D o q.2.1 q.2.2) ∧ i ≤ D.iM ∧ D.iM + 2 = i + l.length ∧
    (∃ o j, l[j]? = some o ∧ D.iM = i + j ∧ IsMov D o) ∧ (∃ o j, l[j]? = some o ∧ D.iM + 1 = i + j ∧ IsAsg D o)
  | [], _, _, _, h => by simp [scan] at h
  | [_], _, _, _, h => by simp [scan] at h
  | o :: o' :: os, i, kn, ins, h => by
    unfold scan at h
    cases hb : bldOf P o with
    | some dv =>
      rw [hb] at h
      obtain ⟨a1, a2, a3, a4, a5, a6, a7, a8, a9, ⟨pM, jM, b1, b2, b3⟩, ⟨pA, jA, c1, c2, c3⟩⟩ := scan_spec (o' :: os) (i + 1) _ ins h
      refine ⟨a1, a2, fun r hr => a3 r (List.mem_cons_of_mem _ hr), a4, fun j p hp => ?_, fun r hr => ?_, fun q hq => ?_, by omega, by simp only [List.length_cons] at a9 ⊢; omega, ⟨pM, jM + 1, by simpa using b1, by omega, b3⟩, ⟨pA, jA + 1, by simpa using c1, by omega, c3⟩⟩
      · cases j with
        | zero => simp at hp; subst hp; exact .inl ⟨dv.1, dv.2, a3 _ List.mem_cons_self, bldOf_spec hb⟩
        | succ j => have := a5 j p (by simpa using hp); rw [show i + 1 + j = i + (j + 1) from by omega] at this; exact this
      · rcases a6 r hr with h1 | ⟨j, p, h1, h2, h3⟩
        · rcases List.mem_cons.1 h1 with rfl | h1
          · exact .inr ⟨0, o, rfl, rfl, bldOf_spec hb⟩
          · exact .inl h1
        · exact .inr ⟨j + 1, p, by simpa using h1, by omega, h3⟩
      · rcases a7 q hq with h1 | ⟨j, p, h1, h2, h3⟩
        · exact .inl h1
        · exact .inr ⟨j + 1, p, by simpa using h1, by omega, h3⟩
    | none =>
      rw [hb] at h
      cases hi : insOf m T kn o with
      | some kv =>
        rw [hi] at h
        obtain ⟨a1, a2, a3, a4, a5, a6, a7, a8, a9, ⟨pM, jM, b1, b2, b3⟩, ⟨pA, jA, c1, c2, c3⟩⟩ := scan_spec (o' :: os) (i + 1) kn _ h
        have hio : IsIns D o kv.1 kv.2 := insOf_spec (D := D) (by rw [a1, a2]; exact hi) a3
        refine ⟨a1, a2, a3, fun q hq => a4 q (List.mem_cons_of_mem _ hq), fun j p hp => ?_, fun r hr => ?_, fun q hq => ?_, by omega, by simp only [List.length_cons] at a9 ⊢; omega, ⟨pM, jM + 1, by simpa using b1, by omega, b3⟩, ⟨pA, jA + 1, by simpa using c1, by omega, c3⟩⟩
        · cases j with
          | zero => simp at hp; subst hp; exact .inr (.inl ⟨kv.1, kv.2, a4 _ List.mem_cons_self, hio⟩)
          | succ j => have := a5 j p (by simpa using hp); rw [show i + 1 + j = i + (j + 1) from by omega] at this; exact this
        · rcases a6 r hr with h1 | ⟨j, p, h1, h2, h3⟩
          · exact .inl h1
          · exact .inr ⟨j + 1, p, by simpa using h1, by omega, h3⟩
        · rcases a7 q hq with h1 | ⟨j, p, h1, h2, h3⟩
          · rcases List.mem_cons.1 h1 with rfl | h1
            · exact .inr ⟨0, o, rfl, rfl, hio⟩
            · exact .inl h1
          · exact .inr ⟨j + 1, p, by simpa using h1, by omega, h3⟩
      | none =>
        rw [hi] at h
        cases os with
        | cons p ps => cases h
        | nil =>
          obtain ⟨a1, a2, a3, a4, a5, a6, a7⟩ := lastOf_spec h
          refine ⟨a1, a2, fun r hr => by rw [a3]; exact hr, fun q hq => by rw [a4]; exact hq, fun j p hp => ?_, fun r hr => .inl (by rw [a3] at hr; exact hr), fun q hq => .inl (by rw [a4] at hq; exact hq), by omega, by simp; omega, ⟨o, 0, rfl, by omega, a6⟩, ⟨o', 1, rfl, by omega, a7⟩⟩
          match j, hp with
          | 0, hp => simp at hp; subst hp; exact .inr (.inr (.inl ⟨by omega, a6⟩))
          | 1, hp => simp at hp; subst hp; exact .inr (.inr (.inr ⟨by omega, a7⟩))
          | j + 2, hp => simp at hp

/-! the whole look -/
def neK (P : Program) (kt : TypeId) (a b : AV) : Bool := match aeq P .lf 12 kt a b with
  | some r => !r.sym && !r.b
  | none => false
def pairOk (P : Program) (kt : TypeId) : List (Nat × AV × AV) → Bool
  | [] => true
  | q :: qs => (qs.all fun q' => neK P kt q.2.1 q'.2.1 && neK P kt q'.2.1 q.2.1) && pairOk P kt qs
def keyOk (fs : List Field) (q : Nat × AV × AV) : Bool := match q.2.1 with
  | .agg cs => partsOk cs fs
  | _ => false
def noTmp (t : Nat) : List Nat → Bool
  | [] => true
  | u :: us => !(Nat.beq t u) && noTmp t us
def tmpsApart : List Nat → Bool
  | [] => true
  | t :: ts => noTmp t ts && tmpsApart ts
def litG (P : Program) (D : LitD) : Bool := match mapAgg P D.T with
  | some (kt, _, fs) => (tmpsApart (D.m :: D.x :: D.y :: D.kn.map (·.d)) && tmpsApart (D.ins.map (·.1))) && (pairOk P kt D.ins && D.ins.all (keyOk fs))
  | none => false
def litOf (P : Program) (ops : List Oper) : Option LitD := match ops with
  | [] => none
  | o :: os => match o.guard with
    | some _ => none
    | none => match o.dst with
      | none => none
      | some m => match o.op with
        | .makeMap T none => match scan P m T os 1 [] [] with
          | some D => match litG P D with
            | true => some D
            | false => none
          | none => none
        | _ => none
structure LitH (P : Program) (ops : Array Oper) (D : LitD) (kt e : TypeId) (fa : Array Field) : Prop where
  o0 : ∃ o, ops[0]? = some o ∧ o.guard = none ∧ o.op = .makeMap D.T none ∧ o.dst = some D.m
  row : ∀ k o, 1 ≤ k → ops[k]? = some o → RowOk P D k o
  kn : ∀ r ∈ D.kn, 1 ≤ r.i ∧ ∃ o, ops[r.i]? = some o ∧ IsBld P o r.d r.v
  ins : ∀ q ∈ D.ins, 1 ≤ q.1 ∧ ∃ o, ops[q.1]? = some o ∧ IsIns D o q.2.1 q.2.2
  iM : 1 ≤ D.iM ∧ D.iM + 2 = ops.size
  mov : ∃ o, ops[D.iM]? = some o ∧ IsMov D o
  asg : ∃ o, ops[D.iM + 1]? = some o ∧ IsAsg D o
  mapT : P.underlying D.T = some (.map kt e)
  keyT : P.underlying kt = some (.struct fa)
  plain : allPlain P fa.toList = true
  tmps : tmpsApart (D.m :: D.x :: D.y :: D.kn.map (·.d)) = true
  idx : tmpsApart (D.ins.map (·.1)) = true
  ne : pairOk P kt D.ins = true
  keys : ∀ q ∈ D.ins, ∃ cs, q.2.1 = .agg cs ∧ partsOk cs fa.toList = true
theorem litOf_spec {P : Program} {ops : Array Oper} {D : LitD} (h : litOf P ops.toList = some D) : ∃ kt e fa, LitH P ops D kt e fa := by
  unfold litOf at h
  split at h
  · cases h
  · rename_i o os hl
    split at h
    · cases h
    · rename_i hg
      split at h
      · cases h
      · rename_i m hd
        split at h
        · rename_i T ho
          split at h
          · rename_i D' hs
            split at h
            · rename_i hG
              injection h with h; subst h
              obtain ⟨a1, a2, a3, a4, a5, a6, a7, a8, a9, ⟨pM, jM, b1, b2, b3⟩, ⟨pA, jA, c1, c2, c3⟩⟩ := scan_spec os 1 [] [] hs
              unfold litG at hG
              split at hG
              · rename_i kt e fs hm
                obtain ⟨hu, fa, hk, rfl, hall⟩ := mapAgg_some hm
                simp only [Bool.and_eq_true, List.all_eq_true] at hG
                obtain ⟨⟨g1, g2⟩, g3, g4⟩ := hG
                have hat : ∀ j, ops[j + 1]? = os[j]? := fun j => by rw [← Array.getElem?_toList, hl]; simp
                have hsz : ops.size = os.length + 1 := by rw [← Array.length_toList, hl]; rfl
                refine ⟨kt, e, fa, ⟨o, by rw [← Array.getElem?_toList, hl]; rfl, hg, by rw [ho, a2], by rw [hd, a1]⟩, fun k p hk1 hp => ?_, fun r hr => ?_, fun q hq => ?_, ⟨a8, by omega⟩, ⟨pM, by rw [b2, Nat.add_comm, hat]; exact b1, b3⟩, ⟨pA, by rw [c2, Nat.add_comm, hat]; exact c1, c3⟩, hu, hk, hall, g1, g2, g3, fun q hq => ?_⟩
                · obtain ⟨j, rfl⟩ : ∃ j, k = 1 + j := ⟨k - 1, by omega⟩
                  exact a5 j p (by rw [← hat, Nat.add_comm]; exact hp)
                · rcases a6 r hr with h1 | ⟨j, p, h1, h2, h3⟩
                  · cases h1
                  · exact ⟨by omega, p, by rw [h2, Nat.add_comm, hat]; exact h1, h3⟩
                · rcases a7 q hq with h1 | ⟨j, p, h1, h2, h3⟩
                  · cases h1
                  · exact ⟨by omega, p, by rw [h2, Nat.add_comm, hat]; exact h1, h3⟩
                · have := g4 q hq
                  unfold keyOk at this
                  split at this
                  · rename_i cs e; exact ⟨cs, e, this⟩
                  · cases this
              · cases hG
            · cases h
          · cases h
        · cases h
theorem noTmp_spec {t : Nat} : ∀ {l : List Nat}, noTmp t l = true → ∀ u ∈ l, t ≠ u
  | v :: us, h, u, hu => by
    simp only [noTmp, Bool.and_eq_true, Bool.not_eq_true'] at h
    rcases List.mem_cons.1 hu with rfl | hu
    · exact of_beqf h.1
    · exact noTmp_spec h.2 u hu
theorem tmpsApart_map {α : Type} {f : α → Nat} : ∀ {l : List α}, tmpsApart (l.map f) = true → ∀ x ∈ l, ∀ y ∈ l, f x = f y → x = y
  | a :: l, h, x, hx, y, hy, e => by
    simp only [List.map_cons, tmpsApart, Bool.and_eq_true] at h
    rcases List.mem_cons.1 hx with rfl | hx' <;> rcases List.mem_cons.1 hy with rfl | hy'
    · rfl
    · exact absurd e (noTmp_spec h.1 _ (List.mem_map_of_mem hy'))
    · exact absurd e.symm (noTmp_spec h.1 _ (List.mem_map_of_mem hx'))
    · exact tmpsApart_map h.2 x hx' y hy' e
theorem tmpsApart_nodup {α : Type} {f : α → Nat} : ∀ {l : List α}, tmpsApart (l.map f) = true → l.Nodup
  | [], _ => List.nodup_nil
  | a :: l, h => by
    simp only [List.map_cons, tmpsApart, Bool.and_eq_true] at h
    exact List.nodup_cons.2 ⟨fun hm => noTmp_spec h.1 _ (List.mem_map_of_mem hm) rfl, tmpsApart_nodup h.2⟩
theorem pairOk_spec {P : Program} {kt : TypeId} : ∀ {l : List (Nat × AV × AV)}, pairOk P kt l = true → ∀ q ∈ l, ∀ q' ∈ l, q.1 ≠ q'.1 → neK P kt q.2.1 q'.2.1 = true
  | a :: l, h, q, hq, q', hq', hne => by
    simp only [pairOk, Bool.and_eq_true, List.all_eq_true] at h
    rcases List.mem_cons.1 hq with rfl | hq2 <;> rcases List.mem_cons.1 hq' with rfl | hq3
    · exact absurd rfl hne
    · exact (h.1 q' hq3).1
    · exact (h.1 q hq2).2
    · exact pairOk_spec h.2 q hq2 q' hq3 hne
theorem neK_sound {P : Program} {σ : Sg} {w : World} {kt : TypeId} {a b : AV} {A B : Value} (h : neK P kt a b = true) (ha : VR σ a A) (hb : VR σ b B) : (Op.equal kt A B).run P w = .ok false w := by
  unfold neK at h
  split at h
  · rename_i r hr
    simp only [Bool.and_eq_true, Bool.not_eq_true'] at h
    have := aeq_sound (relEmpty P σ w) 12 10000 kt a b r A B (by omega) hr ha hb fun _ _ => ⟨0, trivial⟩
    rw [h.2] at this; exact this
  · cases h
/-- the entries of a map, in another order of the list -/
theorem MRs.perm {σ : Sg} {es es' : List (AV × AV)} (h : List.Perm es es') : ∀ {Es : List MapEntry}, MRs σ es Es → ∃ Es', List.Perm Es' Es ∧ MRs σ es' Es' := by
  induction h with
  | nil => intro Es hm; exact ⟨Es, .refl _, hm⟩
  | cons x _ ih =>
    intro Es hm
    cases Es with
    | nil => cases hm
    | cons E Es =>
      obtain ⟨k, v⟩ := x
      obtain ⟨Es', h1, h2⟩ := ih hm.2.2
      exact ⟨E :: Es', h1.cons E, hm.1, hm.2.1, h2⟩
  | swap x y l =>
    intro Es hm
    obtain ⟨k, v⟩ := x
    obtain ⟨k', v'⟩ := y
    match Es, hm with
    | E :: F :: Es, ⟨a, b, c, d, e⟩ => exact ⟨F :: E :: Es, .swap E F Es, c, d, a, b, e⟩
  | trans _ _ ih1 ih2 =>
    intro Es hm
    obtain ⟨E1, p1, m1⟩ := ih1 hm
    obtain ⟨E2, p2, m2⟩ := ih2 m1
    exact ⟨E2, p2.trans p1, m2⟩
end
end Go.Ev
