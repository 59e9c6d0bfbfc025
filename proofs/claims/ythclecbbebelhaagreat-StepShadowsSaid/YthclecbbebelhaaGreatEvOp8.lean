/-
  A part of the evaluator of the program's code, or of what it was seen to do; its statements are Lean's own. No condition.
-/
import Derived.Test.YthclecbbebelhaaGreatEvOp7
namespace Go.Ev
open Go

theorem grownNew {P : Program} {T : Tp} {hi : Nat} {σ : Sg} {g g' : G} {w : World} {e : TypeId} {sz n cap' : Nat} {c : List AV} {Cs : List Value} {Z : Array Value} {i : Nat}
    (h : alloc (.grown e c) g = .ok i g') (rl : Rel P σ T g w) (fr : Fresh σ g hi) (hh : g'.next ≤ hi) (hc : VRs σ c Cs) (hs : sizeT P e = some sz) (hz : Z.size = sz) (hl : c.length = n * sz) (hcap : n ≤ cap') :
    i = g.next ∧ Post P T σ g w (upd σ i (w.heap.size, cap')) g' (pushed w (.cells (Cs.toArray ++ Builtin.zeroCells Z (cap' - n)) e)) [⟨i, 0, 0, true⟩] := by
  have hlen := hc.length
  have hsz : (Cs.toArray ++ Builtin.zeroCells Z (cap' - n)).size = cap' * sz := by
    have : (Builtin.zeroCells Z (cap' - n)).size = (cap' - n) * sz := by rw [zeroCells_len, hz]
    have e1 : n * sz + (cap' - n) * sz = cap' * sz := by rw [← Nat.add_mul]; congr 1; omega
    simp [this]; omega
  have := alloc_sound (cap := cap') (obj := .cells (Cs.toArray ++ Builtin.zeroCells Z (cap' - n)) e) h rl fr hh
    ⟨_, (0, 0), rfl, Nat.le_refl _, by rw [hsz, hl]; exact Nat.mul_le_mul_right _ hcap, fun s hs' => by rw [hs] at hs'; injection hs' with hs'; rw [hsz, hs']⟩
    (fun o ct hct => by
      simp only [Blk.ct] at hct
      cases hv : c[o]? with
      | none => rw [hv] at hct; cases hct
      | some v =>
        rw [hv] at hct; injection hct with hct; subst hct
        obtain ⟨V, h1, h2⟩ := hc.get hv
        have hlt := (List.getElem?_eq_some_iff.1 h1).1
        exact ⟨_, e, (0, 0), V, rfl, by rw [Array.getElem?_append_left (by simpa using hlt)]; simpa using h1, h2⟩)
  exact ⟨this.1, this.2.2⟩

theorem firstA_log {s n : Nat} {x : AV} {g g' : G} {c : List AV} (h : firstA s n x g = .ok c g') : ∃ L, g'.log = L ++ g.log := by
  unfold firstA at h
  split at h
  · obtain ⟨_, _, _, e⟩ := read_ok h; exact ⟨[⟨_, _, _, false⟩], by rw [e]; rfl⟩
  · obtain ⟨_, _, _, e⟩ := read_ok h; exact ⟨[⟨_, _, _, false⟩], by rw [e]; rfl⟩
  · obtain ⟨_, e⟩ := pure_ok h; exact ⟨[], by rw [e]; rfl⟩
  · exact (no_ok h).elim
theorem log_inj {a b c : List Tch} (h : a ++ c = b ++ c) : a = b := List.append_cancel_right h
theorem first_len {s n : Nat} {x : AV} {c : List AV} {g g' : G} (h : firstA s n x g = .ok c g') (hn : slLen x = some n) : c.length = n * s := by
  unfold firstA at h
  split at h
  · obtain ⟨_, _, hr, _⟩ := read_ok h; exact (readB_some hr).1
  · obtain ⟨_, _, hr, _⟩ := read_ok h; exact (readB_some hr).1
  · obtain ⟨rfl, _⟩ := pure_ok h; simp only [slLen] at hn; injection hn with hn; subst hn; simp
  · exact (no_ok h).elim
theorem allOneV {σ : Sg} {vs : List AV} {Vs : List Value} (h : VRs σ vs Vs) (ho : allOne vs = true) : ∀ V ∈ Vs, oneV V = true := by
  intro V hm
  obtain ⟨k, hk⟩ := List.getElem?_of_mem hm
  have hlt : k < vs.length := by have := (List.getElem?_eq_some_iff.1 hk).1; have := h.length; omega
  obtain ⟨V', h5, h6⟩ := h.get (List.getElem?_eq_getElem hlt)
  rw [hk] at h5; injection h5 with h5; subst h5
  rw [h6.oneCell]
  exact allOne_mem ho _ (List.getElem_mem hlt)

theorem appendA_sound {P : Program} {T : Tp} {hi : Nat} {σ : Sg} {g : G} {w : World} {t xt ty : TypeId} {ts : Array TypeId} {s x : AV} {S X : Value} {rest : Array Value} (h0 : ts[0]? = some t) (h1 : ts[1]? = some xt)
    (hs : VR σ s S) (hx : VR σ x X) (a0 : rest[0]? = some S) (a1 : rest[1]? = some X) : VSound P T hi σ g w (appendA P t xt s x) (Builtin.append_ ts ty rest) := by
  intro v g' h p
  unfold appendA at h
  cases he : elemT P t with
  | none => rw [he] at h; exact (no_ok h).elim
  | some e =>
  cases he2 : elemT P xt with
  | none => rw [he, he2] at h; exact (no_ok h).elim
  | some e2 =>
  rw [he, he2] at h
  simp only at h
  cases hsz : sizeT P e with
  | none => rw [hsz] at h; exact (no_ok h).elim
  | some sz =>
  cases hz : zeroT P e with
  | none => rw [hsz, hz] at h; exact (no_ok h).elim
  | some z =>
  cases hinf : P.info? e with
  | none => rw [hsz, hz, hinf] at h; exact (no_ok h).elim
  | some info =>
  cases hn : slLen x with
  | none => rw [hsz, hz, hinf, hn] at h; exact (no_ok h).elim
  | some n =>
  rw [hsz, hz, hinf, hn] at h
  simp only at h
  cases hb : (Nat.beq z.cells.length sz && Nat.ble 1 sz && allOne z.cells && Nat.ble info.bytes 4096) with
  | false => rw [hb] at h; exact (no_ok h).elim
  | true =>
  rw [hb] at h
  simp only [Bool.and_eq_true] at hb
  obtain ⟨⟨⟨hb1, hb2⟩, hb3⟩, hb4⟩ := hb
  have hb1 := of_beq hb1; have hb2 := of_ble hb2; have hb4 := of_ble hb4
  simp only at h
  have hut := elemT_some he
  have hux := elemT_some he2
  have hlen : ∀ w : World, (Builtin.lenOf X).run P w = .ok n w := fun w => (slLen_sound hn hx).1
  cases s <;> simp only at h <;> first | (exact (no_ok h).elim; done) | skip
  case nilSl =>
    cases hs
    cases n with
    | zero =>
      obtain ⟨rfl, rfl⟩ := pure_ok h
      obtain ⟨_, A, C, hX⟩ := slLen_sound (P := P) (w := w) hn hx
      have hC : (Builtin.firstCells sz 0 X).run P w = .ok #[] w := by
        subst hX; cases A <;> simp [Builtin.firstCells, loadCells, loadCellsFrom]
      exact ⟨σ, _, w, [], Post.refl p.rel, .nilSl, by simpa using run_append_room (ty := ty) (l := 0) (n := 0) (cap := 0) (base := none) h0 h1 a0 a1 hut hux hsz (hlen w) (Nat.le_refl _) hC (w' := w) rfl⟩
    | succ n =>
      simp only at h
      cases hm : Nat.ble n 1048575 with
      | false => rw [hm] at h; exact (no_ok h).elim
      | true =>
        rw [hm] at h
        have hm := of_ble hm
        obtain ⟨c, g1, q1, q2⟩ := bind_ok h
        obtain ⟨i, g2, q3, q4⟩ := bind_ok q2
        obtain ⟨rfl, rfl⟩ := pure_ok q4
        obtain ⟨L1, hL1⟩ := firstA_log q1
        obtain ⟨hi1, hg2⟩ := alloc_ok q3
        have hin := p.inT ([⟨i, 0, 0, true⟩] ++ L1) (by rw [hg2, hi1]; simp [hL1])
        have rl0 : Rel P σ T g (drewn w) := p.rel.drewn
        obtain ⟨Cs, L, c1, c2, c3, _⟩ := firstA_sound q1 rl0 hx (fun L e => by rw [hL1] at e; have := log_inj e; subst this; exact (hin.of_app).2)
        obtain ⟨Z, z1, z2⟩ := r_zero (P := P) (w := drewn w) σ hz
        obtain ⟨nc, n1, n2⟩ := run_append_grow (w := w) (ty := ty) (l := 0) (n := n + 1) (cap := 0) (base := none) h0 h1 a0 a1 hut hux hsz hinf hb4 (hlen w) (by omega) (by omega) (A := #[]) (C := Cs.toArray) (Z := Z)
          (by simp [Builtin.firstCells]) c3 z1
        have hzs : Z.cells.size = sz := by have := z2.cells.length; simp at this; omega
        have hfl := first_len q1 hn
        have fr1 : Fresh σ g1 hi := c2.ext.fresh p.fresh c2.le.nx
        obtain ⟨rfl, q⟩ := grownNew (cap' := nc) (n := n + 1) (Z := Z.cells) q3 c2.rel fr1 p.hi c1 hsz hzs hfl (by omega)
        refine ⟨_, _, _, _, (Post.drewn p.rel).trans (c2.trans q p.fresh p.hi) p.fresh p.hi, .gsl (upd_same _ _ _), ?_⟩
        simp only [Nat.zero_add, Array.empty_append] at n2
        rw [n2]; rfl
  case sl i o l cap =>
    cases hs with | sl hσ =>
    rename_i b cp
    cases hr : Nat.ble (l + n) cap with
    | true =>
      rw [hr] at h
      have hr := of_ble hr
      obtain ⟨c, g1, q1, q2⟩ := bind_ok h
      obtain ⟨u, g2, q3, q4⟩ := bind_ok q2
      rw [natK_eq] at q4
      obtain ⟨rfl, rfl⟩ := pure_ok q4
      obtain ⟨L1, hL1⟩ := firstA_log q1
      obtain ⟨_, _, _, _, _, hg2⟩ := write_ok q3
      have hin := p.inT ([⟨i, o + l * sz, c.length, true⟩] ++ L1) (by rw [hg2]; simp [hL1])
      obtain ⟨Cs, L, c1, c2, c3, _⟩ := firstA_sound q1 p.rel hx (fun L e => by rw [hL1] at e; have := log_inj e; subst this; exact (hin.of_app).2)
      obtain ⟨b', cap', w', z1, z2, z3⟩ := write_sound q3 c2.rel c1 (hin.of_app).1
      rw [hσ] at z1; injection z1 with z1; injection z1 with z1 _; subst z1
      exact ⟨σ, _, w', _, c2.trans z3 p.fresh p.hi, .sl hσ, run_append_room (ty := ty) h0 h1 a0 a1 hut hux hsz (hlen w) hr c3 (w' := w') (by simpa [addr_add] using z2)⟩
    | false =>
      rw [hr] at h
      have hr := of_blef hr
      simp only at h
      cases hm : Nat.ble (l + n) 1048576 with
      | false => rw [hm] at h; exact (no_ok h).elim
      | true =>
        rw [hm] at h
        have hm := of_ble hm
        obtain ⟨a, g1, q1, q2⟩ := bind_ok h
        obtain ⟨c, g2, q3, q4⟩ := bind_ok q2
        rw [listK_eq] at q4
        obtain ⟨j, g3, q5, q6⟩ := bind_ok q4
        rw [natK_eq] at q6
        obtain ⟨rfl, rfl⟩ := pure_ok q6
        obtain ⟨_, _, hra, hg1⟩ := read_ok q1
        obtain ⟨L2, hL2⟩ := firstA_log q3
        obtain ⟨hi1, hg3⟩ := alloc_ok q5
        have hin := p.inT ([⟨j, 0, 0, true⟩] ++ (L2 ++ [⟨i, o, l * sz, false⟩])) (by rw [hg3, hi1]; simp [hL2, hg1])
        obtain ⟨in1, in2⟩ := hin.of_app
        obtain ⟨in3, in4⟩ := in2.of_app
        have rl0 : Rel P σ T g (drewn w) := p.rel.drewn
        obtain ⟨b', cap', cc, ee, fz, r1, r2, r3, r4, r5, r6, r7⟩ := read_sound q1 rl0 in4
        rw [hσ] at r1; injection r1 with r1; injection r1 with r1 _; subst r1
        obtain ⟨Cs, L, c1, c2, c3, _⟩ := firstA_sound q3 r7.rel hx (fun L e => by rw [hL2] at e; have := log_inj e; subst this; exact in3)
        obtain ⟨Z, z1, z2⟩ := r_zero (P := P) (w := drewn w) σ hz
        have hA : (Builtin.firstCells sz l (.slice (some ⟨b, o, none⟩) l cap)).run P (drewn w) = .ok ((cc.toList.drop o).take (l * sz)).toArray (drewn w) := by
          simp [Builtin.firstCells, run_loadCells' r2 _ _ r4]
        obtain ⟨nc, n1, n2⟩ := run_append_grow (w := w) (ty := ty) h0 h1 a0 a1 hut hux hsz hinf hb4 (hlen w) hr hm hA c3 z1
        have hzs : Z.cells.size = sz := by have := z2.cells.length; simp at this; omega
        have hfl := first_len q3 hn
        have hac : (a ++ c).length = (l + n) * sz := by rw [List.length_append, r5, hfl, Nat.add_mul]
        have pp := r7.trans c2 p.fresh (by have := p.hi; rw [hg3] at this; simp at this; omega)
        have fr1 : Fresh σ g2 hi := pp.ext.fresh p.fresh pp.le.nx
        obtain ⟨rfl, q⟩ := grownNew (cap' := nc) (n := l + n) (Z := Z.cells) q5 c2.rel fr1 p.hi (r6.app c1) hsz hzs hac n1
        refine ⟨_, _, _, _, (Post.drewn p.rel).trans (pp.trans q p.fresh p.hi) p.fresh p.hi, .gsl (upd_same _ _ _), ?_⟩
        rw [n2]
        rw [List.append_toArray ((cc.toList.drop o).take (l * sz)) Cs]
        rfl
  case gsl i l =>
    cases hs with | gsl hσ =>
    rename_i b cp
    cases hm : Nat.ble (l + n) 1048576 with
    | false => rw [hm] at h; exact (no_ok h).elim
    | true =>
      rw [hm] at h
      have hm := of_ble hm
      obtain ⟨a, g1, q1, q2⟩ := bind_ok h
      obtain ⟨c, g2, q3, q4⟩ := bind_ok q2
      cases hone0 : allOne c with
      | false => rw [hone0] at q4; exact (no_ok q4).elim
      | true =>
      rw [hone0] at q4
      simp only [listK_eq] at q4
      obtain ⟨j, g3, q5, q6⟩ := bind_ok q4
      rw [natK_eq] at q6
      obtain ⟨rfl, rfl⟩ := pure_ok q6
      obtain ⟨_, _, hra, hg1⟩ := read_ok q1
      obtain ⟨L2, hL2⟩ := firstA_log q3
      obtain ⟨hi1, ⟨l0, hgi⟩, hg3⟩ := regrow_ok q5
      have hin := p.inT ([⟨j, 0, 0, true⟩, ⟨i, 0, 0, true⟩] ++ (L2 ++ [⟨i, 0, l * sz, false⟩])) (by rw [hg3, hi1]; simp [hL2, hg1])
      obtain ⟨in1, in2⟩ := hin.of_app
      obtain ⟨in3, in4⟩ := in2.of_app
      have hTi : ∀ o, T i o := fun o => in1 ⟨i, 0, 0, true⟩ (by simp) o (.inl rfl)
      have hhi2 : g2.next ≤ hi := by have := p.hi; rw [hg3] at this; simp at this; omega
      by_cases hroom : l + n ≤ cp
      · -- in place
        obtain ⟨b', cap', cc, ee, fz, r1, r2, r3, r4, r5, r6, r7⟩ := read_sound q1 p.rel in4
        rw [hσ] at r1; injection r1 with r1; injection r1 with r1 _; subst r1
        obtain ⟨Cs, L, c1, c2, c3, _⟩ := firstA_sound q3 r7.rel hx (fun L e => by rw [hL2] at e; have := log_inj e; subst this; exact in3)
        have pp := r7.trans c2 p.fresh hhi2
        have hfl := first_len q3 hn
        -- the block's own shape
        obtain ⟨bb, cpp, s1, s2⟩ := pp.rel.sh i _ hgi ⟨0, hTi 0⟩
        rw [hσ] at s1; injection s1 with s1; injection s1 with s1 s1'; subst s1; subst s1'
        obtain ⟨cc', fz', s3, s4, s5, s6⟩ := s2
        rw [r2] at s3; injection s3 with s3; injection s3 with s3 s3' s3''; subst s3; subst s3'; subst s3''
        have hcs := s6 sz hsz
        have hlC := c1.length
        have hone : ∀ V ∈ Cs, oneV V = true := allOneV c1 hone0
        have hfit : l * sz + Cs.length ≤ cc.size := by
          rw [hcs, ← hlC, hfl, ← Nat.add_mul]; exact Nat.mul_le_mul_right _ hroom
        obtain ⟨w', c', y1, y2, y3, y4, y5, y6, y7, y8, y9⟩ := run_storeCells (P := P) (b := b) (o := l * sz) r3 Cs 0 w cc r2 (by omega) hone
        simp only [Nat.add_zero] at y4
        have fr1 : Fresh σ g2 hi := pp.ext.fresh p.fresh pp.le.nx
        have hrun := run_append_room (w := w) (ty := ty) h0 h1 a0 a1 hut hux hsz (hlen w) hroom c3 (w' := w') (by simpa [addr_add] using y1)
        obtain ⟨rfl, q⟩ := regrow_sound (cap' := cp) (bn := b) q5 pp.rel fr1 p.hi hTi hσ y2 r3 (by rw [y3, hcs, List.length_append, r5, hfl, ← Nat.add_mul]; exact Nat.mul_le_mul_right _ hroom)
          (fun s hs' => by rw [y3]; exact s6 s hs') (.inl rfl) (fun x hx _ => y5 x hx) (by omega) y7 y8 y9
          (fun _ c0 e0 f0 h0 => by rw [r2] at h0; injection h0 with h0; injection h0 with h0 h0' h0''; subst h0; exact ⟨h0'.symm, h0''.symm, y3⟩)
          (fun k v hk => by
            rw [y4 k]
            by_cases hka : k < a.length
            · rw [List.getElem?_append_left hka] at hk
              obtain ⟨V, v1, v2⟩ := r6.get hk
              refine ⟨V, ?_, v2⟩
              rw [if_neg (by omega)]
              have hkl : k < l * sz := by omega
              rw [List.getElem?_take_of_lt hkl] at v1
              simpa using v1
            · rw [List.getElem?_append_right (by omega)] at hk
              obtain ⟨V, v1, v2⟩ := c1.get hk
              have := (List.getElem?_eq_some_iff.1 v1).1
              refine ⟨V, ?_, v2⟩
              rw [if_pos (by omega), ← r5]
              exact v1)
        exact ⟨_, _, _, _, pp.trans q p.fresh p.hi, .gsl (upd_same _ _ _), hrun⟩
      · -- anew
        have rl0 : Rel P σ T g (drewn w) := p.rel.drewn
        obtain ⟨b', cap', cc, ee, fz, r1, r2, r3, r4, r5, r6, r7⟩ := read_sound q1 rl0 in4
        rw [hσ] at r1; injection r1 with r1; injection r1 with r1 _; subst r1
        obtain ⟨Cs, L, c1, c2, c3, _⟩ := firstA_sound q3 r7.rel hx (fun L e => by rw [hL2] at e; have := log_inj e; subst this; exact in3)
        have pp := r7.trans c2 p.fresh hhi2
        have hfl := first_len q3 hn
        obtain ⟨Z, z1, z2⟩ := r_zero (P := P) (w := drewn w) σ hz
        have hzs : Z.cells.size = sz := by have := z2.cells.length; simp at this; omega
        have hA : (Builtin.firstCells sz l (.slice (some ⟨b, 0, none⟩) l cp)).run P (drewn w) = .ok ((cc.toList.drop 0).take (l * sz)).toArray (drewn w) := by
          simp [Builtin.firstCells, run_loadCells' r2 _ _ r4]
        obtain ⟨nc, n1, n2⟩ := run_append_grow (w := w) (ty := ty) h0 h1 a0 a1 hut hux hsz hinf hb4 (hlen w) (by omega) hm hA c3 z1
        have hac : (a ++ c).length = (l + n) * sz := by rw [List.length_append, r5, hfl, Nat.add_mul]
        have fr1 : Fresh σ g2 hi := pp.ext.fresh p.fresh pp.le.nx
        have hVs := r6.app c1
        have hVl := hVs.length
        let obj : Array Value := ((cc.toList.drop 0).take (l * sz) ++ Cs).toArray ++ Builtin.zeroCells Z.cells (nc - (l + n))
        have hosz : obj.size = nc * sz := by
          have e0 : (Builtin.zeroCells Z.cells (nc - (l + n))).size = (nc - (l + n)) * sz := by rw [zeroCells_len, hzs]
          have e1 : (l + n) * sz + (nc - (l + n)) * sz = nc * sz := by rw [← Nat.add_mul]; congr 1; omega
          have e2 : obj.size = ((cc.toList.drop 0).take (l * sz) ++ Cs).length + (Builtin.zeroCells Z.cells (nc - (l + n))).size := by simp [obj]
          rw [e2, e0, ← hVl, hac, e1]
        obtain ⟨rfl, q⟩ := regrow_sound (w' := pushed (drewn w) (.cells obj e)) (cap' := nc) (bn := (drewn w).heap.size) (fz := (0, 0)) q5 pp.rel fr1 p.hi hTi hσ (pushed_new _ _) (Nat.le_refl _)
          (by rw [hosz, hac]; exact Nat.mul_le_mul_right _ n1) (fun s hs' => by rw [hsz] at hs'; injection hs' with hs'; rw [hosz, hs']) (.inr (Nat.le_refl _)) (fun x _ hx => pushed_old _ _ hx) (by simp [pushed]) rfl rfl rfl
          (fun hb' => by
            have := (Array.getElem?_eq_some_iff.1 r2).1
            omega)
          (fun k v hk => by
            obtain ⟨V, v1, v2⟩ := hVs.get hk
            have hlt := (List.getElem?_eq_some_iff.1 v1).1
            exact ⟨V, by rw [Array.getElem?_append_left (by simpa using hlt)]; simpa using v1, v2⟩)
        refine ⟨_, _, _, _, (Post.drewn p.rel).trans (pp.trans q p.fresh p.hi) p.fresh p.hi, .gsl (upd_same _ _ _), ?_⟩
        rw [n2]
        rw [List.append_toArray ((cc.toList.drop 0).take (l * sz)) Cs]
        rfl
end Go.Ev
