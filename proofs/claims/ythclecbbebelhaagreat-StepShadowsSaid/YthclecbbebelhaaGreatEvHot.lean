/-
  A part of the evaluator of the program's code, or of what it was seen to do; its statements are Lean's own. No condition.
-/
import Derived.Test.YthclecbbebelhaaGreatEvTop
namespace Go.Ev
open Go

/-! ### Frequent operations, made short -/
inductive Bx (α : Type) : Type where
  | mk (a : α)
inductive IV where
  | int (k : IntKind) (n : Int)
  | no
inductive PV where
  | ptr (i o : Nat)
  | no
inductive SV where
  | sl (i o n c : Nat)
  | no
inductive TV where
  | tup (l : List AV)
  | no
noncomputable section
def asI (v : AV) : IV := match v with
  | .int k n => .int k n
  | _ => .no
def asP (v : AV) : PV := match v with
  | .ptr i o => .ptr i o
  | _ => .no
def asS (v : AV) : SV := match v with
  | .sl i o n c => .sl i o n c
  | _ => .no
def asT (v : AV) : TV := match v with
  | .tup l => .tup l
  | _ => .no
def nthF (l : List AV) (o : Nat) : Option AV := List.rec (motive := fun _ => Nat → Option AV) (fun _ => none)
  (fun x _ ih n => Bool.rec (motive := fun _ => Option AV) (ih (Nat.sub n (nat_lit 1))) (some x) (Nat.beq n (nat_lit 0))) l o
theorem nthF_eq : ∀ (l : List AV) (o : Nat), nthF l o = l[o]?
  | [], o => by simp [nthF]
  | x :: l, 0 => rfl
  | x :: l, o + 1 => by
    show nthF l (o + 1 - 1) = _
    rw [nthF_eq]; simp
def setF {R : Type} (l : List AV) (o : Nat) (v : AV) (bad : R) (k : List AV → R) : R :=
  List.rec (motive := fun _ => Nat → (List AV → R) → R) (fun _ _ => bad)
    (fun x xs ih n k => Bool.rec (motive := fun _ => R) (ih (Nat.sub n (nat_lit 1)) fun r => k (x :: r)) (k (v :: xs)) (Nat.beq n (nat_lit 0))) l o k
theorem setF_eq {R : Type} (v : AV) (bad : R) : ∀ (l : List AV) (o : Nat) (k : List AV → R), setF l o v bad k = if o < l.length then k (l.set o v) else bad
  | [], o, k => by simp [setF]
  | x :: l, 0, k => by simp [setF]
  | x :: l, o + 1, k => by
    show setF l (o + 1 - 1) v bad (fun r => k (x :: r)) = _
    rw [setF_eq]; simp
theorem lay_one (l : List AV) (o : Nat) (v : AV) : lay l o [v] = if o < l.length then some (l.set o v) else none := by
  unfold lay
  by_cases h : o < l.length
  · have : Nat.ble (o + [v].length) l.length = true := Nat.ble_eq_true_of_le (by simp; omega)
    rw [this, if_pos h]
    simp only [listK_eq]
    rw [List.set_eq_take_append_cons_drop, if_pos h]; simp
  · cases e : Nat.ble (o + [v].length) l.length with
    | true => have := of_ble e; simp at this; omega
    | false => rw [if_neg h]

def cellAt (b : Blk) (o : Nat) : Option AV := match b with
  | .cells _ l => nthF l o
  | .grown _ l => nthF l o
  | .big _ t d m => Bool.rec (motive := fun _ => Option AV) none (Option.rec (motive := fun _ => Option AV) (some d) (fun v => some v) (t.get o)) (Nat.ble (Nat.add o (nat_lit 1)) m)
  | _ => none
theorem cut_one (l : List AV) (o : Nat) : cut l o 1 = (l[o]?).map fun v => [v] := by
  unfold cut
  rw [listK_eq]
  cases h : l[o]? with
  | none =>
    have : l.drop o = [] := by simp at h; simpa using h
    rw [this]; rfl
  | some v =>
    obtain ⟨hl, he⟩ := List.getElem?_eq_some_iff.1 h
    rw [List.drop_eq_getElem_cons hl, he]; rfl
theorem cellAt_eq (b : Blk) (o : Nat) : readB b o 1 = (cellAt b o).map fun v => [v] := by
  cases b with
  | cells e l => simp only [readB, cellAt, nthF_eq, cut_one]
  | grown e l => simp only [readB, cellAt, nthF_eq, cut_one]
  | big e t d m =>
    simp only [readB, cellAt]
    show (match Nat.ble (o + 1) m with | true => _ | false => _) = Option.map _ (Bool.rec (motive := fun _ => Option AV) none _ (Nat.ble (o + 1) m))
    cases Nat.ble (o + 1) m with
    | false => rfl
    | true => simp only [listK_eq, tread]; cases t.get o <;> rfl
  | seq => rfl
  | map => rfl
  | chan _ _ => rfl
  | pmap => rfl
def readCell (i o : Nat) (g : G) : Out OpR := G.rec (motive := fun _ => Out OpR) (fun h nx l oc ob => Option.rec (motive := fun _ => Out OpR) (.no 3)
  (fun b => Option.rec (motive := fun _ => Out OpR) (.no 2) (fun v => .ok (.val v) ⟨h, nx, ⟨i, o, 1, false⟩ :: l, oc, ob⟩) (cellAt b o)) (h.get i)) g
theorem readCell_eq {P : Program} {t : TypeId} (hk : kindT P t = .cell) (i o : Nat) (g : G) : readCell i o g = vl (loadA P t (.ptr i o)) g := by
  obtain ⟨h, nx, l, oc, ob⟩ := g
  simp only [vl, loadA, hk, M.bind, read, readCell]
  cases h.get i with
  | none => rfl
  | some b =>
    simp only [cellAt_eq]
    cases cellAt b o <;> rfl
def loadHot (P : Program) (t : TypeId) (a : AV) : M OpR := fun g => PV.rec (motive := fun _ => Out OpR) (fun i o => readCell i o g) (vl (loadA P t a) g) (asP a)
theorem loadHot_eq {P : Program} {t : TypeId} (hk : kindT P t = .cell) (a : AV) : loadHot P t a = vl (loadA P t a) := by
  funext g
  cases a <;> first | rfl | exact readCell_eq hk _ _ _
def storeCell (i o : Nat) (v : AV) (g : G) : Out OpR := G.rec (motive := fun _ => Out OpR) (fun h nx l oc ob => Option.rec (motive := fun _ => Out OpR) (.no 6)
  (fun b => match b with
    | .cells e c => setF c o v (.no 4) fun c => h.setK i (.cells e c) fun h => .ok (.val (.tup [])) ⟨h, nx, ⟨i, o, 1, true⟩ :: l, oc, ob⟩
    | _ => ul (write i o [v]) ⟨h, nx, l, oc, ob⟩) (h.get i)) g
theorem storeCell_eq (i o : Nat) (v : AV) (hv : v.oneCell = true) (g : G) : storeCell i o v g = ul (write i o [v]) g := by
  obtain ⟨h, nx, l, oc, ob⟩ := g
  cases hb : h.get i with
  | none => simp only [storeCell, ul, M.bind, write, hb]
  | some b =>
    cases b with
    | cells e c =>
      simp only [storeCell, hb, ul, M.bind, write, allOne, hv, writeB, setF_eq, lay_one]
      by_cases hl : o < c.length
      · simp only [if_pos hl, Tr.setK_eq, natK_eq]; rfl
      · simp only [if_neg hl]
    | grown e c => simp only [storeCell, hb]
    | seq e k f n => simp only [storeCell, hb]
    | big e t d n => simp only [storeCell, hb]
    | map es => simp only [storeCell, hb]
    | chan _ _ => simp only [storeCell, hb]
    | pmap es => simp only [storeCell, hb]
def storeHot (P : Program) (t : TypeId) (a v : AV) : M OpR := fun g => PV.rec (motive := fun _ => Out OpR)
  (fun i o => Bool.rec (motive := fun _ => Out OpR) (ul (storeA P t a v) g) (storeCell i o v g) v.oneCell) (ul (storeA P t a v) g) (asP a)
theorem cells_one {v : AV} (h : v.oneCell = true) : v.cells = [v] := by cases v <;> first | rfl | cases h
theorem storeHot_eq {P : Program} {t : TypeId} (hs : sizeT P t = some 1) (a v : AV) : storeHot P t a v = ul (storeA P t a v) := by
  funext g
  cases a <;> first | rfl | skip
  rename_i i o
  show Bool.rec (motive := fun _ => Out OpR) (ul (storeA P t (.ptr i o) v) g) (storeCell i o v g) v.oneCell = ul (storeA P t (.ptr i o) v) g
  cases hv : v.oneCell with
  | false => rfl
  | true =>
    show storeCell i o v g = _
    rw [storeCell_eq i o v hv]
    simp only [storeA, hs, cells_one hv]; rfl
def faHot (off : Nat) (a : AV) : M OpR := fun g => PV.rec (motive := fun _ => Out OpR) (fun i o => natK (Nat.add o off) fun o => .ok (.val (.ptr i o)) g) (.no 121) (asP a)
theorem faHot_eq {P : Program} {s : TypeId} {f : Nat} {fs : Array Field} {fd : Field} {n : Nat} (h1 : P.underlying s = some (.struct fs)) (h2 : fs[f]? = some fd) (h3 : sizeT P fd.type = some (n + 1)) (a : AV) :
    faHot fd.offset a = ovl 121 (fieldAt P s a f) := by
  funext g
  cases a <;> first | rfl | skip
  rename_i i o
  show natK (o + fd.offset) (fun o => Out.ok (OpR.val (.ptr i o)) g) = _
  simp only [fieldAt, h1, h2, h3, ptrO, natK_eq, ovl, M.pure]
def nilHot (a : AV) : M OpR := fun g => PV.rec (motive := fun _ => Out OpR) (fun i o => .ok (.val (.ptr i o)) g) (nilCheckA a g) (asP a)
theorem nilHot_eq (a : AV) : nilHot a = nilCheckA a := by
  funext g; cases a <;> rfl
def convHot (P : Program) (s d : TypeId) (k : IntKind) (a : AV) : M OpR := fun g => IV.rec (motive := fun _ => Out OpR) (fun _ n => intK (wrapF k n) fun n => .ok (.val (.int k n)) g) (ovl 113 (convertA P s d a) g) (asI a)
theorem convHot_eq {P : Program} {s d : TypeId} {k0 k : IntKind} (h1 : P.underlying s = some (.int k0)) (h2 : P.underlying d = some (.int k)) (a : AV) : convHot P s d k a = ovl 113 (convertA P s d a) := by
  funext g
  cases a <;> first | rfl | skip
  rename_i k' n
  show intK (wrapF k n) (fun n => Out.ok (OpR.val (.int k n)) g) = _
  simp only [convertA, h1, h2, intV, intK_eq, ovl, M.pure]
def extHot (n : Nat) (a : AV) : M OpR := fun g => TV.rec (motive := fun _ => Out OpR) (fun l => Option.rec (motive := fun _ => Out OpR) (.no 132) (fun v => .ok (.val v) g) (nthF l n)) (.no 133) (asT a)
theorem extHot_eq (n : Nat) (a : AV) : extHot n a = extractA n a := by
  funext g
  cases a <;> first | rfl | skip
  rename_i l
  show Option.rec (motive := fun _ => Out OpR) (.no 132) (fun v => .ok (.val v) g) (nthF l n) = ovl 132 l[n]? g
  rw [nthF_eq]
  cases l[n]? <;> rfl
def ixHot (P : Program) (t : TypeId) (s : Nat) (a b : AV) : M OpR := fun g => SV.rec (motive := fun _ => Out OpR) (fun i o n _ =>
    IV.rec (motive := fun _ => Out OpR) (fun _ k => Int.rec (motive := fun _ => Out OpR)
      (fun k => Bool.rec (motive := fun _ => Out OpR) (.no 33) (natK (Nat.add o (Nat.mul k s)) fun o => .ok (.val (.ptr i o)) g) (Nat.ble (Nat.add k (nat_lit 1)) n)) (fun _ => vl (indexAtA P t a b) g) k)
      (vl (indexAtA P t a b) g) (asI b)) (vl (indexAtA P t a b) g) (asS a)
theorem ixHot_eq {P : Program} {t e : TypeId} {s : Nat} (h1 : P.underlying t = some (.slice e)) (h2 : sizeT P e = some s) (a b : AV) : ixHot P t s a b = vl (indexAtA P t a b) := by
  funext g
  cases a <;> first | rfl | skip
  rename_i i o n c
  cases b <;> first | rfl | skip
  rename_i kk k
  cases k with
  | negSucc m => rfl
  | ofNat k =>
    show Bool.rec (motive := fun _ => Out OpR) (.no 33) (natK (o + k * s) fun o => .ok (.val (.ptr i o)) g) (Nat.ble (k + 1) n) = _
    simp only [vl, indexAtA, h1, h2, M.bind]
    cases Nat.ble (k + 1) n with
    | false => rfl
    | true => simp only [ptrM, natK_eq, M.pure]
def ixArr (P : Program) (t : TypeId) (m s : Nat) (a b : AV) : M OpR := fun g => PV.rec (motive := fun _ => Out OpR) (fun i o =>
    IV.rec (motive := fun _ => Out OpR) (fun _ k => Int.rec (motive := fun _ => Out OpR)
      (fun k => Bool.rec (motive := fun _ => Out OpR) (.no 30) (natK (Nat.add o (Nat.mul k s)) fun o => .ok (.val (.ptr i o)) g) (Nat.ble (Nat.add k (nat_lit 1)) m)) (fun _ => vl (indexAtA P t a b) g) k)
      (vl (indexAtA P t a b) g) (asI b)) (vl (indexAtA P t a b) g) (asP a)
theorem ixArr_eq {P : Program} {t e : TypeId} {m s : Nat} (h1 : P.underlying t = some (.array m e)) (h2 : sizeT P e = some s) (a b : AV) : ixArr P t m s a b = vl (indexAtA P t a b) := by
  funext g
  cases a <;> first | rfl | skip
  rename_i i o
  cases b <;> first | rfl | skip
  rename_i kk k
  cases k with
  | negSucc m => rfl
  | ofNat k =>
    show Bool.rec (motive := fun _ => Out OpR) (.no 30) (natK (o + k * s) fun o => .ok (.val (.ptr i o)) g) (Nat.ble (k + 1) m) = _
    simp only [vl, indexAtA, h1, h2, M.bind]
    cases Nat.ble (k + 1) m with
    | false => rfl
    | true => simp only [ptrM, natK_eq, M.pure]
abbrev Con := IntKind → IntKind → Int → Int → Option AV
def sameI (k k' : IntKind) (v : Option AV) : Option AV := Bool.rec (motive := fun _ => Option AV) none v (sameK k k')
def tb (b : Bool) : Option AV := Bool.rec (motive := fun _ => Option AV) (some (.bool false)) (some (.bool true)) b
def fb (b : Bool) : Option AV := Bool.rec (motive := fun _ => Option AV) (some (.bool true)) (some (.bool false)) b
def conS (op : BinOp) : Bx Con := match op with
  | .add => .mk fun k k' a b => sameI k k' (intV k (wrapF k (addF a b)))
  | .sub => .mk fun k k' a b => sameI k k' (intV k (wrapF k (subF a b)))
  | .mul => .mk fun k k' a b => sameI k k' (intV k (wrapF k (mulF a b)))
  | .and => .mk fun k k' a b => sameI k k' (intV k (ofU k (Nat.land (toU k a) (toU k b))))
  | .or => .mk fun k k' a b => sameI k k' (intV k (ofU k (Nat.lor (toU k a) (toU k b))))
  | .xor => .mk fun k k' a b => sameI k k' (intV k (ofU k (Nat.xor (toU k a) (toU k b))))
  | .shl => .mk fun k _ a b => shlOp k a b
  | .shr => .mk fun k _ a b => shrOp k a b
  | .eql => .mk fun k k' a b => sameI k k' (tb (eqF a b))
  | .neq => .mk fun k k' a b => sameI k k' (fb (eqF a b))
  | .lss => .mk fun k k' a b => sameI k k' (fb (leF b a))
  | .leq => .mk fun k k' a b => sameI k k' (tb (leF a b))
  | .gtr => .mk fun k k' a b => sameI k k' (fb (leF a b))
  | .geq => .mk fun k k' a b => sameI k k' (tb (leF b a))
  | op => .mk fun k k' a b => conOp op k k' a b
theorem conS_spec (op : BinOp) : ∃ f, conS op = .mk f ∧ ∀ k k' a b, f k k' a b = conOp op k k' a b := by
  have hs : ∀ k k' v, sameI k k' v = sameDo k k' v := fun k k' v => by unfold sameI sameDo; cases sameK k k' <;> rfl
  have hf : ∀ b, fb b = boolV (!b) := fun b => by cases b <;> rfl
  cases op
  case eql => exact ⟨_, rfl, fun k k' a b => (hs k k' _).trans rfl⟩
  case neq => exact ⟨_, rfl, fun k k' a b => by rw [hs, hf]; rfl⟩
  case lss => exact ⟨_, rfl, fun k k' a b => by rw [hs, hf]; rfl⟩
  case gtr => exact ⟨_, rfl, fun k k' a b => by rw [hs, hf]; rfl⟩
  case add => exact ⟨_, rfl, fun k k' a b => by rw [hs]; rfl⟩
  case sub => exact ⟨_, rfl, fun k k' a b => by rw [hs]; rfl⟩
  case mul => exact ⟨_, rfl, fun k k' a b => by rw [hs]; rfl⟩
  case and => exact ⟨_, rfl, fun k k' a b => by rw [hs]; rfl⟩
  case or => exact ⟨_, rfl, fun k k' a b => by rw [hs]; rfl⟩
  case xor => exact ⟨_, rfl, fun k k' a b => by rw [hs]; rfl⟩
  case leq => exact ⟨_, rfl, fun k k' a b => by rw [hs]; rfl⟩
  case geq => exact ⟨_, rfl, fun k k' a b => by rw [hs]; rfl⟩
  all_goals exact ⟨_, rfl, fun k k' a b => rfl⟩
def binHot (f : Con) (P : Program) (op : BinOp) (t : TypeId) (cx cy : Bool) (a b : AV) : M OpR := fun g =>
  IV.rec (motive := fun _ => Out OpR) (fun k x => IV.rec (motive := fun _ => Out OpR) (fun k' y =>
    Option.rec (motive := fun _ => Out OpR) (vl (binA P op t cx cy a b) g) (fun v => .ok (.val v) g) (f k k' x y))
    (vl (binA P op t cx cy a b) g) (asI b)) (vl (binA P op t cx cy a b) g) (asI a)
theorem binHot_eq {f : Con} {op : BinOp} (hf : ∀ k k' a b, f k k' a b = conOp op k k' a b) (P : Program) (t : TypeId) (cx cy : Bool) (a b : AV) : binHot f P op t cx cy a b = vl (binA P op t cx cy a b) := by
  funext g
  cases a <;> first | rfl | skip
  rename_i k x
  cases b <;> first | rfl | skip
  rename_i k' y
  show Option.rec (motive := fun _ => Out OpR) (vl (binA P op t cx cy (.int k x) (.int k' y)) g) (fun v => .ok (.val v) g) (f k k' x y) = _
  rw [hf]
  cases e : conOp op k k' x y with
  | none => rfl
  | some v =>
    have hc : concOf op (.int k x) (.int k' y) v = none := by cases op <;> rfl
    simp only [vl, binA, arith, e, conc, hc, M.bind, M.pure]
end
end Go.Ev
