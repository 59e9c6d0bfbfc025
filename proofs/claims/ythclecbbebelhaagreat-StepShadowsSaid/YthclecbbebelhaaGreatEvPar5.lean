/-
  A part of the evaluator of the program's code, or of what it was seen to do; its statements are Lean's own. No condition.
-/
import Derived.Test.YthclecbbebelhaaGreatEvPar4
namespace Go.Ev
open Go

theorem Le.relog {g g' : G} {L : List Tch} (h : Le g g' L) (l : List Tch) : Le ⟨g.heap, g.next, l, g.orc, g.obl⟩ ⟨g'.heap, g'.next, L ++ l, g'.orc, g'.obl⟩ L :=
  ⟨rfl, h.nx, h.ob, h.sh, h.ct, h.ex⟩
section
variable {P : Program} {rec : Rec} {ops : Array Oper} {ms : List Nat} {tms : Nat → Ts AV} {gs : Nat → G} {vs : Nat → AV} {T : Tp} {hi : Nat} {σ0 : Sg} {w0 : World} {a0 : Act} {S : Nat → Prop} {σ : Sg} {a : Act} {w : World}

theorem Step.le (hr : ∀ t g, LeRes g (rec t g)) {k : Nat} {o : Oper} (h : Step rec P ops ms tms gs vs k o) : Le (noLog (gs k)) (gs (k + 1)) (gs (k + 1)).log := by
  obtain ⟨b, g1, h1, h2, h3⟩ := h.run
  obtain ⟨L1, l1⟩ := wantedA_le _ _ _ h1
  have key : ∃ L, Le (noLog (gs k)) (gs (k + 1)) L := by
    cases b with
    | false => rw [(h2 rfl).1]; exact ⟨L1, l1⟩
    | true => obtain ⟨L2, l2⟩ := runOp_le hr _ _ _ (h3 rfl); exact ⟨_, l1.trans l2⟩
  obtain ⟨L, l⟩ := key
  have := l.log
  rw [noLog_eq, List.append_nil] at this
  rw [this]; exact l
theorem PT.leAll (H : PT P ops ms tms gs vs T hi σ0 w0) : ∀ k, k ≤ ops.size → Le (gs 0) ⟨(gs k).heap, (gs k).next, Lsum gs k ++ (gs 0).log, (gs k).orc, (gs k).obl⟩ (Lsum gs k)
  | 0, _ => Le.refl _
  | k + 1, hk => by
    have h1 := H.leAll k (by omega)
    have h2 := (H.le k (by omega)).relog (Lsum gs k ++ (gs 0).log)
    rw [noLog_eq] at h2
    have := h1.trans h2
    rw [← List.append_assoc] at this
    exact this

theorem par_le (hr : ∀ t g, LeRes g (rec t g)) {tm tm' : Ts AV} {g g' : G} {fs : List Foot} (h : evPar rec P ops.toList ms ops.toList 0 [] tm g = .ok (tm', fs) g') : ∃ L, Le g (joinG g fs g') L := by
  obtain ⟨tms, gs, vs, q1, q2, q3, q4, q5, q6⟩ := evPar_trace ops.toList 0 [] tm g tm' fs g' h (fun j => by simp) (fun _ => tm) (fun _ => g) (fun _ => .nilPtr) rfl rfl rfl (fun k hk => by omega)
  simp only [Nat.zero_add, Array.length_toList] at q3 q4 q5 q6
  have key : ∀ k, k ≤ ops.size → Le (gs 0) ⟨(gs k).heap, (gs k).next, Lsum gs k ++ (gs 0).log, (gs k).orc, (gs k).obl⟩ (Lsum gs k) := by
    intro k
    induction k with
    | zero => intro _; exact Le.refl _
    | succ k ih =>
      intro hk
      have hlt : k < ops.size := by omega
      have h2 := ((q6 k hlt ops[k] (by simp [hlt])).le hr).relog (Lsum gs k ++ (gs 0).log)
      rw [noLog_eq] at h2
      have := (ih (by omega)).trans h2
      rw [← List.append_assoc] at this
      exact this
  have h1 := key ops.size (Nat.le_refl _)
  have h2 := joinLogs_eq (gs 0).log q5
  have h3 : joinG g fs g' = ⟨(gs ops.size).heap, (gs ops.size).next, Lsum gs ops.size ++ (gs 0).log, (gs ops.size).orc, (gs ops.size).obl⟩ := by
    rw [← h2, q2, q4]; cases g'; rfl
  rw [h3, ← show gs 0 = g from q2]
  exact ⟨_, h1⟩

theorem par_sound (hP : PF P) (hrec : RecS P rec) (hm : P.follows .mixedOrders = true) {id N : Nat} {tm tm' : Ts AV} {g g' : G} {fs : List Foot} {ds : List (FuncId × List AV)}
    (hst : Stat ops ms) (h : evPar rec P ops.toList ms ops.toList 0 [] tm g = .ok (tm', fs) g') (p : Pre P T hi σ g w (joinG g fs g')) (ht : TR σ tm a.tmps) (hd : DRs σ ds a.defers) (hin : opsIn N ops.toList = true) (hN : N ≤ a.tmps.size) :
    (Code.region id ops true).wp P (CPost P T σ g w N .norm tm' ds (joinG g fs g')) a w := by
  obtain ⟨tms, gs, vs, q1, q2, q3, q4, q5, q6⟩ := evPar_trace ops.toList 0 [] tm g tm' fs g' h (fun j => by simp) (fun _ => tm) (fun _ => g) (fun _ => .nilPtr) rfl rfl rfl (fun k hk => by omega)
  simp only [Nat.zero_add, Array.length_toList] at q3 q4 q5 q6
  have hj : joinG g fs g' = ⟨(gs ops.size).heap, (gs ops.size).next, Lsum gs ops.size ++ (gs 0).log, (gs ops.size).orc, (gs ops.size).obl⟩ := by
    rw [← joinLogs_eq (gs 0).log q5, q2, q4]; cases g'; rfl
  have hg0 : gs 0 = g := q2
  subst hg0
  rw [hj] at p ⊢
  have hop : ∀ k, k < ops.size → ∃ o, ops[k]? = some o := fun k hk => ⟨ops[k], by simp [hk]⟩
  have H : PT P ops ms tms gs vs T hi σ (drewn w) := {
    st := hst
    apL := fun j k hjk hk => by
      obtain ⟨o, ho⟩ := hop k hk
      obtain ⟨m, hm, _⟩ := hst.bits k o ho
      rcases (q6 k hk o ho).apart m hm j hjk with h1 | h1
      · exact .inl ⟨m, hm, h1⟩
      · exact .inr h1
    le := fun k hk => by obtain ⟨o, ho⟩ := hop k hk; exact (q6 k hk o ho).le hrec.le
    put := fun k o ho => (q6 k (Array.getElem?_eq_some_iff.1 ho).1 o ho).put
    rel0 := p.rel.drewn
    fresh0 := p.fresh
    hiN := p.hi
    inT := fun k hk t ht => p.inT (Lsum gs ops.size) rfl t (mem_Lsum hk ht)
    owes := p.owes }
  refine wp_region_any hm ?_
  have hS0 : ∀ j, ¬ (Array.replicate ops.size false).getD j false = true := fun j => by
    intro hc
    by_cases hj : j < ops.size <;> simp [hj] at hc
  refine wpAny_inv (fun listed a' w' => ∃ σ', Inv P ops ms tms gs T σ (drewn w) a (fun j => listed.getD j false = true) σ' a' w') ?_ ?_ ops.size _ _ _ ?_ (by simp) ?_
  · -- a step
    rintro listed a' w' i hs ⟨σ', I⟩ hi'
    obtain ⟨h0, o, ho, hes⟩ := mem_ready.1 hi'
    have hlt := (Array.getElem?_eq_some_iff.1 ho).1
    have hlt' : i < listed.size := by omega
    have hS : ¬ listed.getD i false = true := by simp [hlt'] at h0 ⊢; exact h0
    have hb : ∀ j, Bit ms j i → listed.getD j false = true := by
      rintro j ⟨m, hm, hj⟩
      obtain ⟨b, h1, h2, h3⟩ := hst.bits i o ho
      rw [hm] at h1; injection h1 with h1; subst h1
      obtain ⟨e, he, hbd, h4⟩ := h3 j hj
      have h5 := hes e he hbd
      rcases h4 with rfl | ⟨m', h6, h7⟩
      · exact h5
      · exact I.bits e.on h5 j ⟨m', h6, h7⟩
    have hset : (fun j => (listed.setIfInBounds i true).getD j false = true) = (fun j => listed.getD j false = true ∨ j = i) := by
      funext j
      rw [getD_set listed i j false hlt']
      by_cases hji : j = i <;> simp [hji]
    have hpre := I.pre H hlt hS hb
    obtain ⟨r1, r2⟩ := I.opsRel H ho hS hb
    obtain ⟨b, g1, s1, s2, s3⟩ := (q6 i hlt o ho).run
    have hdst : ∀ k, o.dst = some k → k < a'.tmps.size := fun k hk => by
      have h9 : k < N := opsIn_mem hin o (by rw [Array.mem_toList_iff]; exact Array.mem_of_getElem? ho) k hk
      rw [I.sz]; exact Nat.lt_of_lt_of_le h9 hN
    unfold wpOp
    rw [ho]
    simp only
    cases b with
    | false =>
      obtain ⟨s4, s5⟩ := s2 rfl
      obtain ⟨hw, pw⟩ := wantedA_sound s1 (by rw [← s4]; exact hpre) r2
      rw [hw]
      simp only [Bool.false_eq_true, if_false]
      refine ⟨σ', ?_⟩
      rw [hset]
      have hlog : (gs (i + 1)).log = [] := by rw [s4, wantedA_log s1, noLog_eq]
      refine I.next H ho hS hb (V := undef) ?_ (by rw [s5]; exact .tup (Cs := []) .nil) hdst
      rw [hlog, s4]; exact pw
    | true =>
      have s4 := s3 rfl
      obtain ⟨M, hM⟩ := runOp_le hrec.le _ _ _ s4
      obtain ⟨hw, pw⟩ := wantedA_sound s1 (hpre.first hM) r2
      rw [hw]
      simp only [if_true]
      refine .inl (opStep hP hrec s4 (hpre.then pw) r1 fun σ1 w1 L pp => ?_)
      intro V hV
      refine ⟨σ1, ?_⟩
      rw [hset]
      have ptot := pw.trans pp hpre.fresh hpre.hi
      have hlog : L ++ [] = (gs (i + 1)).log := by
        have := ptot.le.log
        rw [noLog_eq] at this
        rw [this]; simp
      rw [hlog] at ptot
      exact I.next H ho hS hb ptot hV hdst
  · -- the end
    rintro listed a' w' hs ⟨σ', I⟩ hr
    have hall : ∀ d k, k ≤ d → k < ops.size → listed.getD k false = true := by
      intro d
      induction d with
      | zero =>
        intro k hk hlt
        by_cases hc : listed.getD k false = true
        · exact hc
        · exfalso
          obtain ⟨o, ho⟩ := hop k hlt
          have hlt' : k < listed.size := by omega
          have : k ∈ Region.ready .any ops listed := mem_ready.2 ⟨by simp [hlt'] at hc ⊢; exact hc, o, ho, fun e he hb => by
            obtain ⟨b, _, h2, _⟩ := hst.bits k o ho
            have := h2 e he hb
            omega⟩
          rw [hr] at this; cases this
      | succ d ih =>
        intro k hk hlt
        by_cases hc : listed.getD k false = true
        · exact hc
        · exfalso
          obtain ⟨o, ho⟩ := hop k hlt
          have hlt' : k < listed.size := by omega
          have : k ∈ Region.ready .any ops listed := mem_ready.2 ⟨by simp [hlt'] at hc ⊢; exact hc, o, ho, fun e he hb => by
            obtain ⟨b, _, h2, _⟩ := hst.bits k o ho
            have := h2 e he hb
            exact ih e.on (by omega) (by omega)⟩
          rw [hr] at this; cases this
    have hvalid : ∀ W, Valid ops.size (fun j => listed.getD j false = true) W ops.size := fun W => ⟨fun j hj _ => hall j j (Nat.le_refl _) hj, fun j h1 h2 => by omega⟩
    refine ⟨σ', Lsum gs ops.size, ?_, rfl, fun t v hv => I.tmp ops.size t v (Nat.le_refl _) (hvalid _) (by rw [q3]; exact hv), ?_, by rw [I.sz]; exact hN⟩
    · have hle := H.leAll ops.size (Nat.le_refl _)
      have hfr := (Fr.drewn σ w)
      refine ⟨hle, fun j hj => I.out j hj, ⟨fun i blk hg ht => I.sh ops.size i blk (Nat.le_refl _) (hvalid _) hg ht, fun i blk o c b cap hg hc ht hs => I.ct ops.size i blk o c b cap (Nat.le_refl _) (hvalid _) hg hc ht hs,
        fun i j bi bj b c c' h1 h2 h3 h4 h5 h6 => I.inj ops.size ops.size i j bi bj b c c' (Nat.le_refl _) (Nat.le_refl _) (hvalid _) (hvalid _) h1 h2 h3 h4 h5 h6⟩, ?_, I.nw⟩
      exact ⟨I.fr.size, I.fr.tape, I.fr.os, I.fr.output, I.fr.same, I.fr.cells, I.fr.maps, I.fr.oth⟩
    · rw [I.df]
      refine hd.mono fun i x hx => ?_
      by_cases hc : i < (gs 0).next ∨ (gs ops.size).next ≤ i
      · rw [I.out i hc]; exact hx
      · have h3 := p.hi
        have h4 := p.fresh i (by omega) (Nat.lt_of_lt_of_le (by show i < (gs ops.size).next; omega) h3)
        rw [h4] at hx; cases hx
  · unfold unl
    exact Nat.le_trans (List.length_filter_le _ _) (by simp)
  · -- the beginning
    refine ⟨σ, ?_⟩
    have h00 : ∀ {W : Nat → Prop} {k : Nat}, Valid ops.size (fun j => (Array.replicate ops.size false).getD j false = true) W k → ∀ j, 0 ≤ j → j < k → ¬ W j := fun v j _ hj hw => hS0 j (v.1 j hj hw)
    refine ⟨fun k hk => absurd hk (hS0 k), ?_, ?_, ?_, ?_, fun _ _ => rfl, ?_, ?_, ?_, rfl, rfl⟩
    · intro k t v hk hv hg
      have := H.tmBack (Nat.zero_le k) hk (h00 hv) hg
      rw [q1] at this
      exact ht t v this
    · intro k i blk hk hv hg hT
      obtain ⟨b, h1, h2⟩ := H.shBack (Nat.zero_le k) hk (h00 hv) hg
      rw [← h2]
      exact p.rel.sh i b h1 hT
    · intro k i blk o c b cap hk hv hg hc hT hs
      obtain ⟨b', h1, h2⟩ := H.ctBack (Nat.zero_le k) hk (h00 hv) hg hc
      exact p.rel.ct i b' o c b cap h1 h2 hT hs
    · intro k k' i j bi bj b c c' hk hk' hv hv' hg hg' hT hT' hs hs'
      obtain ⟨b1, h1, _⟩ := H.shBack (Nat.zero_le k) hk (h00 hv) hg
      obtain ⟨b2, h2, _⟩ := H.shBack (Nat.zero_le k') hk' (h00 hv') hg'
      exact p.rel.inj i j b1 b2 b c c' h1 h2 hT hT' hs hs'
    · intro k i hk _ h1 h2
      have h3 := H.nx (Nat.zero_le k) (Nat.le_of_lt hk)
      have h4 := H.nx (show k + 1 ≤ ops.size by omega) (Nat.le_refl _)
      have h5 := H.hiN
      exact p.fresh i (by omega) (by omega)
    · exact ⟨Nat.le_refl _, rfl, rfl, rfl, fun _ _ _ => rfl, fun _ c _ _ h => ⟨c, h, rfl, fun _ _ => rfl⟩, fun _ es cl h => ⟨es, cl, h, fun _ => ⟨rfl, rfl⟩⟩, fun _ _ q s r h => ⟨q, s, r, h, fun _ => ⟨rfl, rfl, rfl⟩⟩⟩
    · intro j b c h1 h2 hs
      have h5 := H.hiN
      rw [p.fresh j h1 (by omega)] at hs; cases hs
end
end Go.Ev
