/-
  A part of the evaluator of the program's code, or of what it was seen to do; its statements are Lean's own. No condition.
-/
import Derived.Test.YthclecbbebelhaaGreatEvOp6
namespace Go.Ev
open Go

theorem regrow_ok {i e : Nat} {c : List AV} {g g' : G} {j : Nat} (h : regrow i e c g = .ok j g') :
    j = g.next ∧ (∃ l0, g.heap.get i = some (.grown e l0)) ∧ g' = ⟨(g.heap.del i).set g.next (.grown e c), g.next + 1, ⟨g.next, 0, 0, true⟩ :: ⟨i, 0, 0, true⟩ :: g.log, g.orc, g.obl⟩ := by
  obtain ⟨hp, nx, l, oc, ob⟩ := g
  simp only [regrow] at h
  cases hg : hp.get i with
  | none => rw [hg] at h; cases h
  | some blk =>
    rw [hg] at h
    cases blk <;> simp only at h <;> first | (cases h; done) | skip
    rename_i e' l0
    cases he : Nat.beq e' e with
    | false => rw [he] at h; cases h
    | true =>
      rw [he] at h
      have he := of_beq he
      subst he
      simp only [Tr.delK_eq, Tr.setK_eq, natK_eq] at h
      injection h with h1 h2
      exact ⟨h1.symm, ⟨l0, rfl⟩, h2.symm⟩

theorem regrow_le {i e : Nat} {c : List AV} {g g' : G} {j : Nat} (h : regrow i e c g = .ok j g') : Le g g' [⟨j, 0, 0, true⟩, ⟨i, 0, 0, true⟩] := by
  obtain ⟨rfl, ⟨l0, hg⟩, rfl⟩ := regrow_ok h
  have hold : ∀ j bj, ((g.heap.del i).set g.next (.grown e c)).get j = some bj → (j = g.next ∧ bj = .grown e c) ∨ (j ≠ g.next ∧ j ≠ i ∧ g.heap.get j = some bj) := fun j bj hj => by
    rcases Tr.get_set hj with h1 | ⟨h1, h2⟩
    · exact .inl h1
    · obtain ⟨h3, h4⟩ := Tr.get_del h2; exact .inr ⟨h1, h3, h4⟩
  refine ⟨rfl, Nat.le_succ _, ⟨[], rfl⟩, fun j bj hn hj => ?_, fun j k bj ct hn hj hk => ?_, fun t ht _ => ?_⟩
  · rcases hold j bj hj with ⟨rfl, rfl⟩ | ⟨_, _, h⟩
    · exact absurd ⟨⟨g.next, 0, 0, true⟩, by simp, rfl, rfl, rfl⟩ hn
    · exact ⟨bj, h, rfl⟩
  · rcases hold j bj hj with ⟨rfl, rfl⟩ | ⟨_, _, h⟩
    · exact absurd ⟨⟨g.next, 0, 0, true⟩, by simp, rfl, rfl, .inl rfl⟩ hn
    · exact ⟨bj, h, hk⟩
  · simp at ht
    rcases ht with rfl | rfl
    · exact .inr ⟨Nat.le_refl _, Nat.lt_succ_self _⟩
    · exact .inl ⟨_, hg⟩
/-- a grown block at the place of an elder one: in place, or anew -/
theorem regrow_sound {P : Program} {σ : Sg} {T : Tp} {g g' : G} {w w' : World} {i e j hi : Nat} {c : List AV} {b cap cap' bn : Nat} {cn : Array Value} {fz : Nat × Nat} (h : regrow i e c g = .ok j g') (rl : Rel P σ T g w)
    (fr : Fresh σ g hi) (hhi : g'.next ≤ hi) (hT : ∀ o, T i o) (hσ : σ i = some (b, cap)) (hb : w'.heap[bn]? = some (.cells cn e fz)) (hf : noFz fz) (hl : c.length ≤ cn.size) (hcap : ∀ s, sizeT P e = some s → cn.size = cap' * s)
    (hbn : bn = b ∨ w.heap.size ≤ bn) (hoth : ∀ x, x ≠ bn → x < w.heap.size → w'.heap[x]? = w.heap[x]?) (hsz : w.heap.size ≤ w'.heap.size) (ht : w'.tape = w.tape) (ho : w'.os = w.os) (hou : w'.output = w.output)
    (hin : bn = b → ∀ c0 e0 f0, w.heap[b]? = some (.cells c0 e0 f0) → e0 = e ∧ f0 = fz ∧ cn.size = c0.size)
    (hv : ∀ (k : Nat) v, c[k]? = some v → ∃ V, cn[k]? = some V ∧ VR σ v V) :
    j = g.next ∧ Post P T σ g w (upd σ j (bn, cap')) g' w' [⟨j, 0, 0, true⟩, ⟨i, 0, 0, true⟩] := by
  have hle := regrow_le h
  obtain ⟨rfl, ⟨l0, hg⟩, rfl⟩ := regrow_ok h
  have hnone : σ g.next = none := fr _ (Nat.le_refl _) (by simp at hhi; omega)
  have hine : i ≠ g.next := fun e => by rw [e, hnone] at hσ; cases hσ
  have hsub : Sub σ (upd σ g.next (bn, cap')) := upd_sub hnone
  have hold : ∀ j bj, ((g.heap.del i).set g.next (.grown e c)).get j = some bj → (j = g.next ∧ bj = .grown e c) ∨ (j ≠ g.next ∧ j ≠ i ∧ g.heap.get j = some bj) := fun j bj hj => by
    rcases Tr.get_set hj with h1 | ⟨h1, h2⟩
    · exact .inl h1
    · obtain ⟨h3, h4⟩ := Tr.get_del h2; exact .inr ⟨h1, h3, h4⟩
  have hne : ∀ j bj x cp, j ≠ i → g.heap.get j = some bj → (∃ o, T j o) → σ j = some (x, cp) → x ≠ bn ∧ x < w.heap.size := fun j bj x cp hji hj hTj hσj => by
    obtain ⟨b0, cp0, h1, h2⟩ := rl.sh j bj hj hTj
    rw [hσj] at h1; injection h1 with h1; injection h1 with h1 _; subst h1
    refine ⟨fun e => ?_, h2.lt⟩
    rcases hbn with rfl | hbn
    · subst e; exact hji (rl.inj j i bj _ x cp cap hj hg hTj ⟨0, hT 0⟩ hσj hσ)
    · have := h2.lt; omega
  have hcov : ∀ o, covW [⟨g.next, 0, 0, true⟩, ⟨i, 0, 0, true⟩] i o := fun o => ⟨⟨i, 0, 0, true⟩, by simp, rfl, rfl, .inl rfl⟩
  refine ⟨rfl, { le := hle, ext := fun j hj => ?_, rel := ⟨fun j bj hj hTj => ?_, fun j bj k ct x cp hj hk hTj hσj => ?_, fun j j' bj bj' x c1 c2 hj hj' hTj hTj' hσj hσj' => ?_⟩,
                 fr := ⟨hsz, ht, ho, hou, fun x hx hn => ?_, fun x cx ex fx hx => ?_, fun x es cl hx => ?_, fun x n1 n2 n3 n4 hx => ?_⟩, nw := fun j x cp h1 h2 h3 => ?_ }⟩
  · refine upd_ne _ _ ?_
    rcases hj with hj | hj
    · omega
    · simp at hj; omega
  · rcases hold j bj hj with ⟨rfl, rfl⟩ | ⟨hn1, hn2, h⟩
    · exact ⟨bn, cap', upd_same _ _ _, cn, fz, hb, hf, hl, hcap⟩
    · obtain ⟨x, cp, h1, h2⟩ := rl.sh j bj h hTj
      obtain ⟨h3, h4⟩ := hne j bj x cp hn2 h hTj h1
      exact ⟨x, cp, by rw [upd_ne _ _ hn1]; exact h1, by rw [hoth x h3 h4]; exact h2⟩
  · rcases hold j bj hj with ⟨rfl, rfl⟩ | ⟨hn1, hn2, h⟩
    · rw [upd_same] at hσj; injection hσj with hσj; injection hσj with hσj _; subst hσj
      simp only [Blk.ct] at hk
      cases hc : c[k]? with
      | none => rw [hc] at hk; cases hk
      | some v =>
        rw [hc] at hk; injection hk with hk; subst hk
        obtain ⟨V, h1, h2⟩ := hv k v hc
        exact ⟨cn, e, fz, V, hb, h1, h2.mono hsub⟩
    · rw [upd_ne _ _ hn1] at hσj
      obtain ⟨h3, h4⟩ := hne j bj x cp hn2 h ⟨k, hTj⟩ hσj
      rw [hoth x h3 h4]
      exact (rl.ct j bj k ct x cp h hk hTj hσj).mono hsub
  · rcases hold j bj hj with ⟨rfl, rfl⟩ | ⟨hn1, hn2, h1⟩
    · rcases hold j' bj' hj' with ⟨rfl, rfl⟩ | ⟨hn3, hn4, h2⟩
      · rfl
      · rw [upd_same] at hσj; rw [upd_ne _ _ hn3] at hσj'
        injection hσj with hσj; injection hσj with hσj _
        exact absurd hσj.symm (hne j' bj' x c2 hn4 h2 hTj' hσj').1
    · rw [upd_ne _ _ hn1] at hσj
      rcases hold j' bj' hj' with ⟨rfl, rfl⟩ | ⟨hn3, hn4, h2⟩
      · rw [upd_same] at hσj'; injection hσj' with hσj'; injection hσj' with hσj' _
        exact absurd hσj'.symm (hne j bj x c1 hn2 h1 hTj hσj).1
      · rw [upd_ne _ _ hn3] at hσj'
        exact rl.inj j j' bj bj' x c1 c2 h1 h2 hTj hTj' hσj hσj'
  · refine hoth x (fun e => ?_) hx
    rcases hbn with h1 | h1
    · exact hn 0 ⟨i, cap, by rw [upd_ne _ _ hine, hσ, e, h1], hcov 0⟩
    · omega
  · have hxlt := (Array.getElem?_eq_some_iff.1 hx).1
    by_cases hxb : x = bn
    · rcases hbn with h1 | h1
      · subst hxb; subst h1
        obtain ⟨e1, e2, e3⟩ := hin rfl cx ex fx hx
        subst e1; subst e2
        exact ⟨cn, hb, e3, fun o hno => absurd ⟨i, cap, by rw [upd_ne _ _ hine, hσ], hcov o⟩ hno⟩
      · omega
    · exact ⟨cx, by rw [hoth x hxb hxlt]; exact hx, rfl, fun _ _ => rfl⟩
  · have hxlt := (Array.getElem?_eq_some_iff.1 hx).1
    by_cases hxb : x = bn
    · rcases hbn with h1 | h1
      · subst hxb; subst h1
        obtain ⟨b0, cp0, q1, q2⟩ := rl.sh i _ hg ⟨0, hT 0⟩
        rw [hσ] at q1; injection q1 with q1; injection q1 with q1 _; subst q1
        obtain ⟨c0, f0, q3, _⟩ := q2
        rw [q3] at hx; cases hx
      · omega
    · exact ⟨es, cl, by rw [hoth x hxb hxlt]; exact hx, fun _ => ⟨rfl, rfl⟩⟩
  · have hxlt := (Array.getElem?_eq_some_iff.1 hx).1
    by_cases hxb : x = bn
    · rcases hbn with h1 | h1
      · subst hxb; subst h1
        obtain ⟨b0, cp0, q1, q2⟩ := rl.sh i _ hg ⟨0, hT 0⟩
        rw [hσ] at q1; injection q1 with q1; injection q1 with q1 _; subst q1
        obtain ⟨c0, f0, q3, _⟩ := q2
        rw [q3] at hx; cases hx
      · omega
    · exact ⟨n2, n3, n4, by rw [hoth x hxb hxlt]; exact hx, fun _ => ⟨rfl, rfl, rfl⟩⟩
  · have : j = g.next := by simp at h2; omega
    subst this
    rw [upd_same] at h3; injection h3 with h3; injection h3 with h3 _
    rcases hbn with h4 | h4
    · exact .inr ⟨i, cap, ⟨⟨i, 0, 0, true⟩, by simp, rfl, rfl, rfl⟩, by rw [hσ, ← h3, h4]⟩
    · exact .inl (by omega)


theorem growBy_le (n : Nat) : ∀ (r c : Nat), c ≤ 2 * n + 192 → Builtin.growBy n r c ≤ 2 * n + 192
  | 0, c, h => h
  | r + 1, c, h => by
    unfold Builtin.growBy
    split
    · exact h
    · exact growBy_le n r _ (by omega)
theorem nextcap_le {n c : Nat} (h : c < n) : Builtin.nextslicecap n c ≤ 2 * n + 192 := by
  unfold Builtin.nextslicecap
  split
  · omega
  · split
    · omega
    · exact growBy_le n 4 c (by omega)
theorem i64max : IntKind.i64.max = 9223372036854775807 := rfl
theorem zeroCells_len (Z : Array Value) (n : Nat) : (Builtin.zeroCells Z n).size = n * Z.size := by simp [Builtin.zeroCells]

section
variable {P : Program} {w : World} {ts : Array TypeId} {ty t xt e e2 : TypeId} {args : Array Value} {sz n l cap : Nat} {base : Option Addr} {X : Value} {info : TypeInfo}
theorem run_append_room (h0 : ts[0]? = some t) (h1 : ts[1]? = some xt) (a0 : args[0]? = some (.slice base l cap)) (a1 : args[1]? = some X) (ht : P.underlying t = some (.slice e)) (hx : P.underlying xt = some (.slice e2))
    (hs : sizeT P e = some sz) (hn : (Builtin.lenOf X).run P w = .ok n w) (hroom : l + n ≤ cap) {C : Array Value} (hC : (Builtin.firstCells sz n X).run P w = .ok C w) {w' : World}
    (hst : match base with | none => w' = w | some a => (storeCells (a.add (l * sz)) C.toList 0).run P w = .ok () w') :
    (Builtin.append_ ts ty args).run P w = .ok (.slice base (l + n) cap) w' := by
  cases base with
  | none =>
    subst hst
    simp [Builtin.append_, h0, h1, a0, a1, r_und ht, r_und hx, r_size hs, hn, hroom, hC]
  | some a =>
    simp [Builtin.append_, h0, h1, a0, a1, r_und ht, r_und hx, r_size hs, hn, hroom, hC, hst]
theorem run_append_grow (h0 : ts[0]? = some t) (h1 : ts[1]? = some xt) (a0 : args[0]? = some (.slice base l cap)) (a1 : args[1]? = some X) (ht : P.underlying t = some (.slice e)) (hx : P.underlying xt = some (.slice e2))
    (hs : sizeT P e = some sz) (hi : P.info? e = some info) (hb : info.bytes ≤ 4096) (hn : (Builtin.lenOf X).run P w = .ok n w) (hroom : cap < l + n) (hm : l + n ≤ 1048576) {A C : Array Value} {Z : Value}
    (hA : (Builtin.firstCells sz l (.slice base l cap)).run P (drewn w) = .ok A (drewn w)) (hC : (Builtin.firstCells sz n X).run P (drewn w) = .ok C (drewn w)) (hZ : (zeroValue e).run P (drewn w) = .ok Z (drewn w)) :
    ∃ newCap, l + n ≤ newCap ∧ (Builtin.append_ ts ty args).run P w = .ok (.slice (some ⟨w.heap.size, 0, none⟩) (l + n) newCap) (pushed (drewn w) (.cells (A ++ C ++ Builtin.zeroCells Z.cells (newCap - (l + n))) e)) := by
  have hbig : Builtin.nextslicecap (l + n) cap * info.bytes ≤ 281474976710656 := by
    have h1 := nextcap_le hroom
    have h2 : Builtin.nextslicecap (l + n) cap * info.bytes ≤ 2097344 * 4096 := Nat.mul_le_mul (by omega) hb
    omega
  refine ⟨(l + n) + (w.tape w.drawn (.appendCap (l + n) cap e)) % (2 ^ 63 - (l + n)), by omega, ?_⟩
  have hr : ¬ (l + n ≤ cap) := by omega
  have hq1 : ¬ (((l + n : Nat) : Int) > IntKind.i64.max ∧ (False ∨ info.bytes = 0)) := by rw [i64max]; omega
  have hr2 : ¬ (Builtin.nextslicecap (l + n) cap * info.bytes > 2 ^ 48) := by omega
  have hch : (choose (.appendCap (l + n) cap e)).run P w = .ok ((l + n) + (w.tape w.drawn (.appendCap (l + n) cap e)) % (2 ^ 63 - (l + n))) (drewn w) := rfl
  simp only [Builtin.append_, h0, h1, a0, a1, Sem.run_bind, r_und ht, r_und hx, r_size hs, Result.andThen_ok, Sem.run_pure, Bool.false_eq_true, if_false, hn, Sem.run_ite, hr, r_info hi]
  rw [if_neg hq1, if_neg hr2]
  simp only [Result.andThen_ok, hch, run_askRoom, hA, hC, hZ, newRow, Sem.run_bind, run_newObj, Sem.run_pure, Bool.not_false, if_true]
  rfl
end
end Go.Ev
