/-
  A part of the evaluator of the program's code, or of what it was seen to do; its statements are Lean's own. No condition.
-/
import Derived.Test.YteeakllokpdjgaaGreatHMoves1
import Derived.Test.YteeakllokpdjgaaGreatHMoves2
import Derived.Test.YteeakllokpdjgaaGreatHMoves3
import Derived.Test.YteeakllokpdjgaaGreatHMoves4
import Derived.Test.YteeakllokpdjgaaGreatHArr
namespace Go.Proofs.YteeakllokpdjgaaGreat.execMoves.runs
open Go.Ev
noncomputable section

theorem mem : ∀ a : Nat, a < 8 → ∀ t : Nat, t < 8 → ∀ b : Bool, (a, t, b) ∈ (l0 ++ l1 ++ l2 ++ l3 ++ l4 ++ l5 ++ l6 ++ l7 ++ l8 ++ l9 ++ l10 ++ l11 ++ l12 ++ l13 ++ l14 ++ l15 : List (Nat × Nat × Bool)) := by decide
theorem all (u : Nat → Int) (n1 n2 : Int) (v : Nat × Nat × Bool) (h : v ∈ (l0 ++ l1 ++ l2 ++ l3 ++ l4 ++ l5 ++ l6 ++ l7 ++ l8 ++ l9 ++ l10 ++ l11 ++ l12 ++ l13 ++ l14 ++ l15 : List (Nat × Nat × Bool))) : R u n1 n2 v = E u n1 n2 v := by
  simp only [List.mem_append] at h
  rcases h with ((((((((((((((h | h) | h) | h) | h) | h) | h) | h) | h) | h) | h) | h) | h) | h) | h) | h
  · exact p0 u n1 n2 v h
  · exact p1 u n1 n2 v h
  · exact p2 u n1 n2 v h
  · exact p3 u n1 n2 v h
  · exact p4 u n1 n2 v h
  · exact p5 u n1 n2 v h
  · exact p6 u n1 n2 v h
  · exact p7 u n1 n2 v h
  · exact p8 u n1 n2 v h
  · exact p9 u n1 n2 v h
  · exact p10 u n1 n2 v h
  · exact p11 u n1 n2 v h
  · exact p12 u n1 n2 v h
  · exact p13 u n1 n2 v h
  · exact p14 u n1 n2 v h
  · exact p15 u n1 n2 v h

/-! ### The plain law: bytes laid and read again -/
theorem W_nat (n : Nat) : W (Int.ofNat n) = Int.ofNat (n % 4294967296) := by
  show IntKind.u32.wrap (Int.ofNat n) = _
  simp [IntKind.wrap, IntKind.bits, IntKind.signed]
theorem W8_nat (n : Nat) : IntKind.u8.wrap (Int.ofNat n) = Int.ofNat (n % 256) := by
  simp [IntKind.wrap, IntKind.bits, IntKind.signed]
theorem bv_nat (n : Nat) (h : n < 4294967296) : (bv (Int.ofNat n)).toNat = n := by
  show (BitVec.ofInt 32 (Int.ofNat n)).toNat = n
  rw [BitVec.toNat_ofInt]
  simp
  omega
theorem and_wide (n : Nat) (h : n < 4294967296) : and32 (Int.ofNat n) (mask true) = Int.ofNat n := by
  unfold and32
  rw [BitVec.toNat_and, bv_nat n h, show (bv (mask true)).toNat = 2 ^ 32 - 1 from by decide, Nat.and_two_pow_sub_one_eq_mod, W_nat]
  congr 1; omega
theorem and_low (n : Nat) (h : n < 4294967296) : and32 (Int.ofNat n) (mask false) = Int.ofNat (n % 65536) := by
  unfold and32
  rw [BitVec.toNat_and, bv_nat n h, show (bv (mask false)).toNat = 2 ^ 16 - 1 from by decide, Nat.and_two_pow_sub_one_eq_mod, W_nat]
  congr 1; omega
theorem andn_wide (y : Int) : andn y (mask true) = Int.ofNat 0 := by
  unfold andn
  rw [BitVec.toNat_and, show (~~~(bv (mask true))).toNat = 0 from by decide, Nat.and_zero]
  rfl
theorem or_nat (k a c : Nat) (ha : a < 2 ^ k) (h : a + 2 ^ k * c < 4294967296) : or32 (Int.ofNat a) (Int.ofNat (2 ^ k * c)) = Int.ofNat (a + 2 ^ k * c) := by
  unfold or32
  rw [BitVec.toNat_or, bv_nat _ (by omega), bv_nat _ (by omega), Nat.or_comm, ← Nat.two_pow_add_eq_or_of_lt ha, W_nat]
  congr 1
  rw [Nat.mod_eq_of_lt (by omega)]; omega
theorem or_zero (c : Nat) (h : c < 4294967296) : or32 (Int.ofNat 0) (Int.ofNat c) = Int.ofNat c := by
  have := or_nat 0 0 c (by omega) (by omega)
  simpa using this
theorem or_zero' (c : Nat) (h : c < 4294967296) : or32 0 (Int.ofNat c) = Int.ofNat c := or_zero c h
theorem mul_sh0 (n : Nat) (h : n < 4294967296) : W (Int.ofNat n * sh 0) = Int.ofNat n := by
  have : (Int.ofNat n * sh 0) = Int.ofNat n := by show Int.ofNat n * 1 = _; simp
  rw [this, W_nat]; congr 1; omega
theorem byt_nat (z : Nat) : byt (Int.ofNat z) = Int.ofNat (z % 256) := by
  unfold byt
  rw [W8_nat, W_nat, Nat.mod_eq_of_lt (show z % 256 < 4294967296 by omega), mul_sh0 _ (by omega), or_zero' _ (by omega)]
theorem part_nat (z s : Nat) (hs : s ≤ 24) : part (Int.ofNat z) s = Int.ofNat (2 ^ s * (z % 256)) := by
  unfold part
  rw [byt_nat]
  have h1 : (Int.ofNat (z % 256) * sh s) = Int.ofNat (2 ^ s * (z % 256)) := by
    show Int.ofNat (z % 256) * 2 ^ min s 32 = _
    rw [Nat.min_eq_left (by omega), Nat.mul_comm]
    simp
  rw [h1, W_nat, Nat.mod_eq_of_lt]
  have : 2 ^ s ≤ 2 ^ 24 := Nat.pow_le_pow_right (by omega) hs
  calc 2 ^ s * (z % 256) ≤ 2 ^ 24 * 255 := Nat.mul_le_mul this (by omega)
    _ < 4294967296 := by decide
theorem fdiv0 (n : Nat) : (Int.ofNat n).fdiv (sh 0) = Int.ofNat n := by
  show (Int.ofNat n).fdiv 1 = _
  simp
theorem fdiv8 (n : Nat) : (Int.ofNat n).fdiv (sh 8) = Int.ofNat (n / 256) := by
  show (Int.ofNat n).fdiv 256 = _
  cases n <;> rfl
theorem rd_wide (n : Nat) (h : n < 4294967296) : rd true (Int.ofNat n) = Int.ofNat n := by
  unfold rd
  simp only [fdiv8, fdiv0]
  rw [part_nat _ 0 (by omega), part_nat _ 8 (by omega), part_nat _ 16 (by omega), part_nat _ 24 (by omega)]
  rw [or_zero' _ (by omega), or_nat 8 _ _ (by omega) (by omega), or_nat 16 _ _ (by omega) (by omega), or_nat 24 _ _ (by omega) (by omega)]
  congr 1
  omega
theorem rd_low (n : Nat) (h : n < 65536) : rd false (Int.ofNat n) = Int.ofNat n := by
  unfold rd
  simp only [fdiv8, fdiv0]
  rw [part_nat _ 0 (by omega), part_nat _ 8 (by omega)]
  rw [or_zero' _ (by omega), or_nat 8 _ _ (by omega) (by omega)]
  congr 1
  omega
theorem fR_eq (wide : Bool) (x : Nat) (y : Int) (h : x < 4294967296) : fR wide (Int.ofNat x) y = fW wide (Int.ofNat x) y := by
  cases wide with
  | true =>
    unfold fR fW
    rw [and_wide x h, mul_sh0 x h, and_wide x h, andn_wide, or_zero x h]
  | false =>
    have e : and32 (Int.ofNat x) 65535 = Int.ofNat (x % 65536) := and_low x h
    show or32 (andn y (mask false)) (and32 (W (and32 (Int.ofNat x) (mask false) * sh 0)) (mask false)) = or32 (andn y 65535) (and32 (Int.ofNat x) 65535)
    rw [e, and_low x h, mul_sh0 _ (by omega), and_low _ (by omega), Nat.mod_mod]
    rfl
theorem fM_eq (wide : Bool) (x : Nat) (y : Int) (h : x < 4294967296) : fM wide (Int.ofNat x) y = fW wide (Int.ofNat x) y := by
  cases wide with
  | true =>
    unfold fM fW
    rw [and_wide x h, rd_wide x h, mul_sh0 x h, and_wide x h, andn_wide, or_zero x h]
  | false =>
    have e : and32 (Int.ofNat x) 65535 = Int.ofNat (x % 65536) := and_low x h
    show or32 (andn y (mask false)) (and32 (W (rd false (and32 (Int.ofNat x) (mask false)) * sh 0)) (mask false)) = or32 (andn y 65535) (and32 (Int.ofNat x) 65535)
    rw [e, and_low x h, rd_low _ (by omega), mul_sh0 _ (by omega), and_low _ (by omega), Nat.mod_mod]
    rfl
theorem eqs_true {f h : Int → Int → Int} {u : Nat → Int} {a t : Nat} (e : f (u a) (u t) = h (u a) (u t)) : ∀ l, eqs f h u a t l = true
  | [] => rfl
  | i :: is => by
    show ((reg f u a t i == reg h u a t i) && eqs f h u a t is) = true
    have : reg f u a t i = reg h u a t i := by
      unfold reg
      cases Nat.beq i t with
      | true => exact e
      | false => rfl
    rw [this, eqs_true e is]
    simp
def okL (l : List (Bool × Bool)) : Prop := ∀ q ∈ l, q.1 = q.2
theorem okL_nil : okL [] := fun _ h => nomatch h
theorem okL_cons {a b : Bool} {l : List (Bool × Bool)} (h : a = b) (hl : okL l) : okL ((a, b) :: l) := fun q hq => by
  rcases List.mem_cons.1 hq with rfl | hq
  · exact h
  · exact hl q hq
theorem ok_ccF {x : Int} {k : Nat} (h : fewI (nat_lit 7) x = Int.ofNat k) {l : List (Bool × Bool)} (hl : okL l) : ∀ i, i ≤ k → okL (ccF x i l)
  | 0, _ => hl
  | i + 1, hi => okL_cons (by rw [h]; simp; omega) (ok_ccF h hl i (by omega))
theorem ok_ob {u : Nat → Int} {n1 n2 : Int} {a t : Nat} {wide : Bool} (h1 : fewI (nat_lit 7) n1 = Int.ofNat a) (h2 : fewI (nat_lit 7) n2 = Int.ofNat t) (h0 : 0 ≤ u a) (h3 : u a < 4294967296) : okL (ob u n1 n2 a t wide) := by
  obtain ⟨x, hx⟩ := Int.eq_ofNat_of_zero_le h0
  have hx : u a = Int.ofNat x := hx
  have hlt : x < 4294967296 := by rw [hx] at h3; simp at h3; omega
  have eR : fR wide (u a) (u t) = fW wide (u a) (u t) := by rw [hx]; exact fR_eq wide x _ hlt
  have eM : fM wide (u a) (u t) = fW wide (u a) (u t) := by rw [hx]; exact fM_eq wide x _ hlt
  exact okL_cons (eqs_true eM _) (okL_cons (by rw [eqs_true eR]; rfl) (okL_cons (by rw [h2]; simp) (ok_ccF h2 (okL_cons (by rw [h1]; simp) (ok_ccF h1 okL_nil a (Nat.le_refl _))) t (Nat.le_refl _))))
theorem range_of {n : Int} (hw : (Lit.int .i64 n).wf = true) : ∃ k, k < 8 ∧ fewI (nat_lit 7) n = Int.ofNat k := by
  have hr : -9223372036854775808 ≤ n ∧ n ≤ 9223372036854775807 := by
    simpa [Lit.wf, IntKind.min, IntKind.max, IntKind.signed, IntKind.bits] using hw
  obtain ⟨h1, h2⟩ := few_range (M := nat_lit 7) hr.1 hr.2
  obtain ⟨k, hk⟩ := Int.eq_ofNat_of_zero_le h1
  exact ⟨k, by rw [hk] at h2; simp at h2; omega, hk⟩
def regsS : Shp := [some .u32, some .u32, some .u32, some .u32, some .u32, some .u32, some .u32, some .u32]
theorem shape : shapeT Tryz.prog 40 23 = some regsS := by kernel_rfl
theorem walk (u : Nat → Int) (b : Nat → Bool) (hu : ∀ i, i < 8 → (Lit.int .u32 (u i)).wf = true) (n1 : Int) (hw1 : (Lit.int .i64 n1).wf = true) (n2 : Int) (hw2 : (Lit.int .i64 n2).wf = true) (b3 : Bool) (w : World) :
    Calls Tryz.prog 3 #[.agg (symV u b 0 regsS).toArray, .int .i64 n1, .int .i64 n2, .bool b3] w fun e w' => e = .returned (.bool true) ∧ Still w w' := by
  obtain ⟨a, ha, h1⟩ := range_of hw1
  obtain ⟨t, ht, h2⟩ := range_of hw2
  have hua : 0 ≤ u a ∧ u a < 4294967296 := by
    have := hu a ha
    simp [Lit.wf, IntKind.min, IntKind.max, IntKind.signed, IntKind.bits] at this
    omega
  have h := all u n1 n2 (a, t, b3) (mem a ha t ht b3)
  exact args_owedS sums.pf sums.env4_ok (by kernel_rfl) (h : (evF Tryz.prog sums.env4 10000 (.call 3 [regs u, .sint .i64 n1, .sint .i64 n2, .bool b3]) (G.asks (ccB a (ccB t [false])))).owedS = some (ob u n1 n2 a t b3)) (ok_ob h1 h2 hua.1 hua.2)
    (.cons (.agg (sym_VRs _ u b regsS 0)) (.cons (.sint _ _) (.cons (.sint _ _) (.cons (.bool _) .nil)))) w
end
end Go.Proofs.YteeakllokpdjgaaGreat.execMoves.runs
