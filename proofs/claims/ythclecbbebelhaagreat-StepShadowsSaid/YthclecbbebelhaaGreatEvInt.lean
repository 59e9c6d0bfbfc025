/-
  A part of the evaluator of the program's code, or of what it was seen to do; its statements are Lean's own. No condition.
-/
import Derived.Test.YthclecbbebelhaaGreatEvNew
import Derived.Laws.Sem
namespace Go.Ev
open Go

/-! ### Whole numbers -/
theorem toU_lt (k : IntKind) (n : Int) : toU k n < whole k := by
  cases n with
  | ofNat m => cases k <;> simp only [toU, whole] <;> omega
  | negSucc m => cases k <;> simp only [toU, whole] <;> omega
theorem toU_eq (k : IntKind) (n : Int) : (toU k n : Int) = n % (whole k : Int) := by
  cases n with
  | ofNat m => cases k <;> simp only [toU, whole, Int.ofNat_eq_natCast] <;> omega
  | negSucc m => cases k <;> simp only [toU, whole, Int.negSucc_eq] <;> omega
theorem whole_eq (k : IntKind) : (2 : Int) ^ k.bits = (whole k : Int) := by cases k <;> rfl
theorem whole_eqN (k : IntKind) : 2 ^ k.bits = whole k := by cases k <;> rfl
theorem ofU_eq (k : IntKind) (m : Nat) (h : m < whole k) : ofU k m = k.wrap (m : Int) := by
  cases k <;> simp only [ofU, IntKind.wrap, IntKind.bits, IntKind.signed, whole, half] at * <;> (try (split <;> rename_i hb)) <;>
    (try have hb := of_ble hb) <;> (try have hb := of_blef hb) <;> simp <;> (try omega)
theorem wrap_emod (k : IntKind) (n : Int) : k.wrap (n % (whole k : Int)) = k.wrap n := by
  unfold IntKind.wrap
  rw [whole_eq]
  simp
theorem wrapF_eq (k : IntKind) (n : Int) : wrapF k n = k.wrap n := by
  unfold wrapF
  rw [ofU_eq k _ (toU_lt k n), toU_eq, wrap_emod]
theorem toU_bv (k : IntKind) (n : Int) : (BitVec.ofInt k.bits n).toNat = toU k n := by
  have : ((BitVec.ofInt k.bits n).toNat : Int) = (toU k n : Int) := by
    rw [BitVec.toNat_ofInt, toU_eq]
    have h2 : (0 : Int) ≤ n % ((2 ^ k.bits : Nat) : Int) := Int.emod_nonneg _ (by have := Nat.two_pow_pos k.bits; omega)
    rw [Int.toNat_of_nonneg h2, whole_eqN]
  omega
theorem sameK_eq {k k' : IntKind} (h : sameK k k' = true) : k = k' := by cases k <;> cases k' <;> first | rfl | cases h
theorem addF_eq (x y : Int) : addF x y = x + y := by cases x <;> cases y <;> rfl
theorem subF_eq (x y : Int) : subF x y = x - y := by
  cases x with
  | ofNat a => cases y with
    | ofNat b =>
      simp only [subF]
      split
      · rename_i h; have h := of_ble h; simp; omega
      · rename_i h; have h := of_blef h; simp [Int.negSucc_eq]; omega
    | negSucc b => rfl
  | negSucc a => rfl
theorem mulF_eq (x y : Int) : mulF x y = x * y := by cases x <;> cases y <;> rfl
theorem eqF_eq (x y : Int) : eqF x y = (x == y) := by
  cases x <;> cases y <;> simp only [eqF]
  · rename_i a b
    by_cases h : a = b
    · subst h; simp
    · rw [beq_f h]; symm; simp; omega
  · rename_i a b; symm; simp [Int.negSucc_eq]; omega
  · rename_i a b; symm; simp [Int.negSucc_eq]; omega
  · rename_i a b
    by_cases h : a = b
    · subst h; simp
    · rw [beq_f h]; symm; simp; omega
theorem leF_eq (x y : Int) : leF x y = decide (x ≤ y) := by
  cases x <;> cases y <;> simp only [leF]
  · rename_i a b
    by_cases h : a ≤ b
    · rw [Nat.ble_eq_true_of_le h]; symm; simp; omega
    · have : Nat.ble a b = false := by cases e : Nat.ble a b with | false => rfl | true => exact absurd (of_ble e) h
      rw [this]; symm; simp; omega
  · rename_i a b; symm; simp [Int.negSucc_eq]; omega
  · rename_i a b; symm; simp [Int.negSucc_eq]; omega
  · rename_i a b
    by_cases h : b ≤ a
    · rw [Nat.ble_eq_true_of_le h]; symm; simp [Int.negSucc_eq]; omega
    · have : Nat.ble b a = false := by cases e : Nat.ble b a with | false => rfl | true => exact absurd (of_ble e) h
      rw [this]; symm; simp [Int.negSucc_eq]; omega

theorem intV_eq {k : IntKind} {n : Int} {v : AV} (h : intV k n = some v) : v = .int k n := by
  unfold intV at h; rw [intK_eq] at h; injection h with h; exact h.symm
theorem boolV_eq {b : Bool} {v : AV} (h : boolV b = some v) : v = .bool b := by cases b <;> (injection h with h; exact h.symm)

/-! what the model itself says of each -/
section
variable (P : Program) (w : World) (t : TypeId) (k : IntKind) (x y : Int)
theorem rb_add : (binOp .add t (.int k x) (.int k y)).run P w = .ok (.int k (k.wrap (x + y))) w := by simp [binOp, Op.intArith]
theorem rb_sub : (binOp .sub t (.int k x) (.int k y)).run P w = .ok (.int k (k.wrap (x - y))) w := by simp [binOp, Op.intArith]
theorem rb_mul : (binOp .mul t (.int k x) (.int k y)).run P w = .ok (.int k (k.wrap (x * y))) w := by simp [binOp, Op.intArith]
theorem rb_quo (h : y ≠ 0) : (binOp .quo t (.int k x) (.int k y)).run P w = .ok (.int k (k.wrap (x.tdiv y))) w := by simp [binOp, Op.intDiv, h]
theorem rb_rem (h : y ≠ 0) : (binOp .rem t (.int k x) (.int k y)).run P w = .ok (.int k (x.tmod y)) w := by simp [binOp, Op.intDiv, h]
theorem rb_and : (binOp .and t (.int k x) (.int k y)).run P w = .ok (.int k (k.wrap (BitVec.ofInt k.bits x &&& BitVec.ofInt k.bits y).toNat)) w := by simp only [binOp, ne_eq, not_true_eq_false, if_false]; rfl
theorem rb_or : (binOp .or t (.int k x) (.int k y)).run P w = .ok (.int k (k.wrap (BitVec.ofInt k.bits x ||| BitVec.ofInt k.bits y).toNat)) w := by simp only [binOp, ne_eq, not_true_eq_false, if_false]; rfl
theorem rb_xor : (binOp .xor t (.int k x) (.int k y)).run P w = .ok (.int k (k.wrap (BitVec.ofInt k.bits x ^^^ BitVec.ofInt k.bits y).toNat)) w := by simp only [binOp, ne_eq, not_true_eq_false, if_false]; rfl
theorem rb_andNot : (binOp .andNot t (.int k x) (.int k y)).run P w = .ok (.int k (k.wrap (BitVec.ofInt k.bits x &&& ~~~(BitVec.ofInt k.bits y)).toNat)) w := by simp only [binOp, ne_eq, not_true_eq_false, if_false]; rfl
theorem rb_eql : (binOp .eql t (.int k x) (.int k y)).run P w = .ok (.bool (x == y)) w := by simp only [binOp, ne_eq, not_true_eq_false, if_false]; rfl
theorem rb_neq : (binOp .neq t (.int k x) (.int k y)).run P w = .ok (.bool (x != y)) w := by simp only [binOp, ne_eq, not_true_eq_false, if_false]; rfl
theorem rb_lss : (binOp .lss t (.int k x) (.int k y)).run P w = .ok (.bool (x < y)) w := by simp only [binOp, ne_eq, not_true_eq_false, if_false]; rfl
theorem rb_leq : (binOp .leq t (.int k x) (.int k y)).run P w = .ok (.bool (x ≤ y)) w := by simp only [binOp, ne_eq, not_true_eq_false, if_false]; rfl
theorem rb_gtr : (binOp .gtr t (.int k x) (.int k y)).run P w = .ok (.bool (x > y)) w := by simp only [binOp, ne_eq, not_true_eq_false, if_false]; rfl
theorem rb_geq : (binOp .geq t (.int k x) (.int k y)).run P w = .ok (.bool (x ≥ y)) w := by simp only [binOp, ne_eq, not_true_eq_false, if_false]; rfl
theorem rb_shl (k' : IntKind) (h : ¬ y < 0) : (binOp .shl t (.int k x) (.int k' y)).run P w = .ok (.int k (k.wrap (x * 2 ^ (min y.toNat k.bits)))) w := by simp [binOp, Op.shift, h]
theorem rb_shr (k' : IntKind) (h : ¬ y < 0) : (binOp .shr t (.int k x) (.int k' y)).run P w = .ok (.int k (x.fdiv (2 ^ (min y.toNat k.bits)))) w := by simp [binOp, Op.shift, h]
end
theorem and_eq (k : IntKind) (x y : Int) : ofU k (Nat.land (toU k x) (toU k y)) = k.wrap (BitVec.ofInt k.bits x &&& BitVec.ofInt k.bits y).toNat := by
  rw [BitVec.toNat_and, toU_bv, toU_bv]
  exact ofU_eq k _ (Nat.lt_of_le_of_lt Nat.and_le_left (toU_lt k x))
theorem or_eq (k : IntKind) (x y : Int) : ofU k (Nat.lor (toU k x) (toU k y)) = k.wrap (BitVec.ofInt k.bits x ||| BitVec.ofInt k.bits y).toNat := by
  rw [BitVec.toNat_or, toU_bv, toU_bv]
  refine ofU_eq k _ ?_
  have a := toU_lt k x; have b := toU_lt k y
  rw [← whole_eqN] at a b ⊢
  exact Nat.or_lt_two_pow a b
theorem xor_eq (k : IntKind) (x y : Int) : ofU k (Nat.xor (toU k x) (toU k y)) = k.wrap (BitVec.ofInt k.bits x ^^^ BitVec.ofInt k.bits y).toNat := by
  rw [BitVec.toNat_xor, toU_bv, toU_bv]
  refine ofU_eq k _ ?_
  have a := toU_lt k x; have b := toU_lt k y
  rw [← whole_eqN] at a b ⊢
  exact Nat.xor_lt_two_pow a b
theorem andNot_eq (k : IntKind) (x y : Int) : ofU k (Nat.land (toU k x) (whole k - 1 - toU k y)) = k.wrap (BitVec.ofInt k.bits x &&& ~~~(BitVec.ofInt k.bits y)).toNat := by
  rw [BitVec.toNat_and, BitVec.toNat_not, toU_bv, toU_bv, whole_eqN]
  exact ofU_eq k _ (Nat.lt_of_le_of_lt Nat.and_le_left (toU_lt k x))
theorem lt_leF (x y : Int) : (!leF y x) = decide (x < y) := by rw [leF_eq]; by_cases h : y ≤ x <;> simp [h] <;> omega

/-- an operation on two whole numbers -/
theorem intOp_sound {P : Program} {w : World} {op : BinOp} {t : TypeId} {k : IntKind} {x y : Int} {v : AV} (σ : Sg) (h : intOp op k x y = some v) :
    ∃ V, (binOp op t (.int k x) (.int k y)).run P w = .ok V w ∧ VR σ v V := by
  cases op <;> simp only [intOp] at h
  case add => cases intV_eq h; exact ⟨_, rb_add .., by rw [wrapF_eq, addF_eq]; exact .int _ _⟩
  case sub => cases intV_eq h; exact ⟨_, rb_sub .., by rw [wrapF_eq, subF_eq]; exact .int _ _⟩
  case mul => cases intV_eq h; exact ⟨_, rb_mul .., by rw [wrapF_eq, mulF_eq]; exact .int _ _⟩
  case quo =>
    split at h
    · cases h
    · rename_i hz; rw [eqF_eq] at hz; cases intV_eq h
      exact ⟨_, rb_quo _ _ _ _ _ _ (by simpa using hz), by rw [wrapF_eq]; exact .int _ _⟩
  case rem =>
    split at h
    · cases h
    · rename_i hz; rw [eqF_eq] at hz; cases intV_eq h
      exact ⟨_, rb_rem _ _ _ _ _ _ (by simpa using hz), .int _ _⟩
  case and => cases intV_eq h; exact ⟨_, rb_and .., by rw [and_eq]; exact .int _ _⟩
  case or => cases intV_eq h; exact ⟨_, rb_or .., by rw [or_eq]; exact .int _ _⟩
  case xor => cases intV_eq h; exact ⟨_, rb_xor .., by rw [xor_eq]; exact .int _ _⟩
  case andNot => cases intV_eq h; exact ⟨_, rb_andNot .., by rw [andNot_eq]; exact .int _ _⟩
  case shl => cases h
  case shr => cases h
  case eql => cases boolV_eq h; exact ⟨_, rb_eql .., by rw [eqF_eq]; exact .bool _⟩
  case neq => cases boolV_eq h; exact ⟨_, rb_neq .., by rw [eqF_eq]; exact .bool _⟩
  case lss => cases boolV_eq h; exact ⟨_, rb_lss .., by rw [lt_leF]; exact .bool _⟩
  case leq => cases boolV_eq h; exact ⟨_, rb_leq .., by rw [leF_eq]; exact .bool _⟩
  case gtr => cases boolV_eq h; exact ⟨_, rb_gtr .., by rw [lt_leF]; exact .bool _⟩
  case geq => cases boolV_eq h; exact ⟨_, rb_geq .., by rw [leF_eq]; exact .bool _⟩
theorem sIntOp_sound {P : Program} {w : World} {op : BinOp} {t : TypeId} {k : IntKind} {x y : Int} {v : AV} (σ : Sg) (h : sIntOp op k x y = some v) :
    ∃ V, (binOp op t (.int k x) (.int k y)).run P w = .ok V w ∧ VR σ v V := by
  cases op <;> simp only [sIntOp] at h <;> first | (cases h; done) | (injection h with h; subst h)
  case add => exact ⟨_, rb_add .., .sint _ _⟩
  case sub => exact ⟨_, rb_sub .., .sint _ _⟩
  case mul => exact ⟨_, rb_mul .., .sint _ _⟩
  case and => exact ⟨_, rb_and .., .sint _ _⟩
  case or => exact ⟨_, rb_or .., .sint _ _⟩
  case xor => exact ⟨_, rb_xor .., .sint _ _⟩
  case andNot => exact ⟨_, rb_andNot .., .sint _ _⟩
  case eql => exact ⟨_, rb_eql .., .sbool _⟩
  case neq => exact ⟨_, rb_neq .., .sbool _⟩
  case lss => exact ⟨_, rb_lss .., .sbool _⟩
  case leq => exact ⟨_, rb_leq .., .sbool _⟩
  case gtr => exact ⟨_, rb_gtr .., .sbool _⟩
  case geq => exact ⟨_, rb_geq .., .sbool _⟩
theorem bits_eq (k : IntKind) : bits k = k.bits := by cases k <;> rfl
theorem shiftBy_eq (k : IntKind) (m : Nat) : shiftBy k m = min m k.bits := by
  unfold shiftBy; rw [bits_eq]; split
  · rename_i h; have := of_ble h; omega
  · rename_i h; have := of_blef h; omega
theorem shlOp_sound {P : Program} {w : World} {t : TypeId} {k k' : IntKind} {x y : Int} {v : AV} (σ : Sg) (h : shlOp k x y = some v) :
    ∃ V, (binOp .shl t (.int k x) (.int k' y)).run P w = .ok V w ∧ VR σ v V := by
  cases y with
  | ofNat m =>
    cases intV_eq h
    refine ⟨_, rb_shl _ _ _ _ _ _ _ (by simp), ?_⟩
    rw [wrapF_eq, mulF_eq, shiftBy_eq]
    have : (Int.ofNat (2 ^ min m k.bits)) = (2 : Int) ^ min (Int.ofNat m).toNat k.bits := by simp
    rw [this]; exact .int _ _
  | negSucc m => cases h
theorem shrInt_eq (x : Int) (n : Nat) : shrInt x n = x.fdiv (2 ^ n) := by
  have e : (2 : Int) ^ n = ((2 ^ n : Nat) : Int) := by simp
  have hp : 0 < 2 ^ n := Nat.two_pow_pos n
  rw [e]
  cases x with
  | ofNat a => rw [Int.fdiv_eq_ediv_of_nonneg _ (by omega)]; simp [shrInt]
  | negSucc a =>
    rw [Int.fdiv_eq_ediv_of_nonneg _ (by omega)]
    simp only [shrInt]
    obtain ⟨d, hd⟩ : ∃ d, 2 ^ n = d + 1 := ⟨2 ^ n - 1, by omega⟩
    rw [hd]; rfl
theorem shrOp_sound {P : Program} {w : World} {t : TypeId} {k k' : IntKind} {x y : Int} {v : AV} (σ : Sg) (h : shrOp k x y = some v) :
    ∃ V, (binOp .shr t (.int k x) (.int k' y)).run P w = .ok V w ∧ VR σ v V := by
  cases y with
  | ofNat m =>
    cases intV_eq h
    refine ⟨_, rb_shr _ _ _ _ _ _ _ (by simp), ?_⟩
    rw [shrInt_eq, shiftBy_eq]; exact .int _ _
  | negSucc m => cases h
theorem sShl_sound {P : Program} {w : World} {t : TypeId} {k k' : IntKind} {x y : Int} {v : AV} (σ : Sg) (h : sShl k x y = some v) :
    ∃ V, (binOp .shl t (.int k x) (.int k' y)).run P w = .ok V w ∧ VR σ v V := by
  cases y with
  | ofNat m => injection h with h; subst h; exact ⟨_, rb_shl _ _ _ _ _ _ _ (by simp), .sint _ _⟩
  | negSucc m => cases h
theorem sShr_sound {P : Program} {w : World} {t : TypeId} {k k' : IntKind} {x y : Int} {v : AV} (σ : Sg) (h : sShr k x y = some v) :
    ∃ V, (binOp .shr t (.int k x) (.int k' y)).run P w = .ok V w ∧ VR σ v V := by
  cases y with
  | ofNat m => injection h with h; subst h; exact ⟨_, rb_shr _ _ _ _ _ _ _ (by simp), .sint _ _⟩
  | negSucc m => cases h
theorem sameDo_some {k k' : IntKind} {o : Option AV} {v : AV} (h : sameDo k k' o = some v) : k = k' ∧ o = some v := by
  unfold sameDo at h
  split at h
  · rename_i e; exact ⟨sameK_eq e, h⟩
  · cases h
theorem sDiv_sound {P : Program} {w : World} {op : BinOp} {t : TypeId} {k : IntKind} {x y : Int} {v : AV} (σ : Sg) (hz : eqF y 0 = false) (h : sDiv op k x y = some v) :
    ∃ V, (binOp op t (.int k x) (.int k y)).run P w = .ok V w ∧ VR σ v V := by
  rw [eqF_eq] at hz
  cases op <;> simp only [sDiv] at h <;> first | (cases h; done) | (injection h with h; subst h)
  case quo => exact ⟨_, rb_quo _ _ _ _ _ _ (by simpa using hz), .sint _ _⟩
  case rem => exact ⟨_, rb_rem _ _ _ _ _ _ (by simpa using hz), .sint _ _⟩

theorem arith_sound {P : Program} {σ : Sg} {w : World} {op : BinOp} {t : TypeId} {x y v : AV} {X Y : Value} (h : arith op x y = some v) (hx : VR σ x X) (hy : VR σ y Y) :
    ∃ V, (binOp op t X Y).run P w = .ok V w ∧ VR σ v V ∧ (∃ k n, X = .int k n) := by
  cases x <;> simp only [arith] at h <;> first | (cases h; done) | skip
  case int k a =>
    cases hx
    cases y <;> simp only at h <;> first | (cases h; done) | skip
    case int k' b =>
      cases hy
      unfold conOp at h
      split at h
      · obtain ⟨V, h1, h2⟩ := shlOp_sound (P := P) (w := w) (t := t) (k' := k') σ h; exact ⟨V, h1, h2, _, _, rfl⟩
      · obtain ⟨V, h1, h2⟩ := shrOp_sound (P := P) (w := w) (t := t) (k' := k') σ h; exact ⟨V, h1, h2, _, _, rfl⟩
      · obtain ⟨rfl, h'⟩ := sameDo_some h
        obtain ⟨V, h1, h2⟩ := intOp_sound (P := P) (w := w) (t := t) σ h'; exact ⟨V, h1, h2, _, _, rfl⟩
    case sint k' b =>
      cases hy
      obtain ⟨rfl, h'⟩ := sameDo_some h
      obtain ⟨V, h1, h2⟩ := sIntOp_sound (P := P) (w := w) (t := t) σ h'; exact ⟨V, h1, h2, _, _, rfl⟩
  case sint k a =>
    cases hx
    cases y <;> simp only at h <;> first | (cases h; done) | skip
    case int k' b =>
      cases hy
      unfold namOp at h
      split at h
      · obtain ⟨V, h1, h2⟩ := sShl_sound (P := P) (w := w) (t := t) (k' := k') σ h; exact ⟨V, h1, h2, _, _, rfl⟩
      · obtain ⟨V, h1, h2⟩ := sShr_sound (P := P) (w := w) (t := t) (k' := k') σ h; exact ⟨V, h1, h2, _, _, rfl⟩
      · split at h
        · cases h
        · rename_i hz; obtain ⟨rfl, h'⟩ := sameDo_some h; obtain ⟨V, h1, h2⟩ := sDiv_sound (P := P) (w := w) (t := t) σ hz h'; exact ⟨V, h1, h2, _, _, rfl⟩
      · split at h
        · cases h
        · rename_i hz; obtain ⟨rfl, h'⟩ := sameDo_some h; obtain ⟨V, h1, h2⟩ := sDiv_sound (P := P) (w := w) (t := t) σ hz h'; exact ⟨V, h1, h2, _, _, rfl⟩
      · obtain ⟨rfl, h'⟩ := sameDo_some h
        obtain ⟨V, h1, h2⟩ := sIntOp_sound (P := P) (w := w) (t := t) σ h'; exact ⟨V, h1, h2, _, _, rfl⟩
    case sint k' b =>
      cases hy
      obtain ⟨rfl, h'⟩ := sameDo_some h
      obtain ⟨V, h1, h2⟩ := sIntOp_sound (P := P) (w := w) (t := t) σ h'; exact ⟨V, h1, h2, _, _, rfl⟩
end Go.Ev
