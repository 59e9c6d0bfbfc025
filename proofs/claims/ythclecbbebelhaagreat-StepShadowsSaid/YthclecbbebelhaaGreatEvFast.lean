/-
  A part of the evaluator of the program's code, or of what it was seen to do; its statements are Lean's own. No condition.
-/
import Derived.Test.YthclecbbebelhaaGreatEvHot
namespace Go.Ev
open Go

/-! ### The same evaluator, its code made once into closed pieces that the kernel keeps -/
noncomputable section
abbrev Get := Ts AV → Option AV
abbrev Put := Ts AV → AV → (Ts AV → Res) → Res
def optB (o : Option AV) : Bx Get := Option.rec (motive := fun _ => Bx Get) (.mk fun _ => none) (fun a => .mk fun _ => some a) o
def getC (x : Operand) : Bx Get := match x with
  | .tmp t => Acc.rec (motive := fun _ => Bx Get) (fun g _ => .mk g) (acc AV t)
  | .const v => optB (ofV 6 v)
  | .func f => .mk fun _ => some (.func (.func f) [] [])
  | .global _ => .mk fun _ => none
theorem getC_spec (x : Operand) : ∃ g, getC x = .mk g ∧ ∀ tm, g tm = opnd tm x := by
  cases x with
  | tmp t =>
    show ∃ g, (Acc.rec (motive := fun _ => Bx Get) (fun g _ => .mk g) (acc AV t)) = .mk g ∧ ∀ tm, g tm = Acc.rec (motive := fun _ => Option AV) (fun g _ => g tm) (acc AV t)
    cases acc AV t with
    | mk g s => exact ⟨g, rfl, fun _ => rfl⟩
  | const v =>
    show ∃ g, optB (ofV 6 v) = .mk g ∧ ∀ tm, g tm = ofV 6 v
    cases ofV 6 v with
    | none => exact ⟨_, rfl, fun _ => rfl⟩
    | some a => exact ⟨_, rfl, fun _ => rfl⟩
  | func f => exact ⟨_, rfl, fun _ => rfl⟩
  | global n => exact ⟨_, rfl, fun _ => rfl⟩
def putC (d : Option Tmp) : Bx Put := Option.rec (motive := fun _ => Bx Put) (.mk fun tm _ k => k tm)
  (fun d => Acc.rec (motive := fun _ => Bx Put) (fun _ s => .mk fun tm v k => s Res tm v k) (acc AV d)) d
theorem putC_spec (d : Option Tmp) : ∃ p, putC d = .mk p ∧ ∀ tm v k, p tm v k = putK tm d v k := by
  cases d with
  | none => exact ⟨_, rfl, fun _ _ _ => rfl⟩
  | some d =>
    show ∃ p, (Acc.rec (motive := fun _ => Bx Put) (fun _ s => .mk fun tm v k => s Res tm v k) (acc AV d)) = .mk p ∧ ∀ tm v k, p tm v k = Acc.rec (motive := fun _ => Res) (fun _ s => s Res tm v k) (acc AV d)
    cases acc AV d with
    | mk g s => exact ⟨_, rfl, fun _ _ _ => rfl⟩

/-! operations -/
abbrev OpM := Ts AV → M OpR
def c1 (w : Nat) (x : Operand) (f : AV → M OpR) : Bx OpM :=
  Bx.rec (motive := fun _ => Bx OpM) (fun gx => .mk fun tm g => Option.rec (motive := fun _ => Out OpR) (.no w) (fun a => f a g) (gx tm)) (getC x)
def c2 (w : Nat) (x y : Operand) (f : AV → AV → M OpR) : Bx OpM :=
  Bx.rec (motive := fun _ => Bx OpM) (fun gx => Bx.rec (motive := fun _ => Bx OpM) (fun gy => .mk fun tm g =>
    Option.rec (motive := fun _ => Out OpR) (.no w) (fun a => Option.rec (motive := fun _ => Out OpR) (.no w) (fun b => f a b g) (gy tm)) (gx tm)) (getC y)) (getC x)
theorem c1_spec (w : Nat) (x : Operand) (f : AV → M OpR) : ∃ F, c1 w x f = .mk F ∧ ∀ tm g, F tm g = ev1 w tm x f g := by
  obtain ⟨gx, e, h⟩ := getC_spec x
  unfold c1; rw [e]
  refine ⟨_, rfl, fun tm g => ?_⟩
  simp only [h, ev1]
  cases opnd tm x <;> rfl
theorem c2_spec (w : Nat) (x y : Operand) (f : AV → AV → M OpR) : ∃ F, c2 w x y f = .mk F ∧ ∀ tm g, F tm g = ev2 w tm x y f g := by
  obtain ⟨gx, e, h⟩ := getC_spec x
  obtain ⟨gy, e', h'⟩ := getC_spec y
  unfold c2; rw [e, e']
  refine ⟨_, rfl, fun tm g => ?_⟩
  simp only [h, h', ev2]
  cases opnd tm x with
  | none => rfl
  | some a => cases opnd tm y <;> rfl
def ldB (k : Kd) (P : Program) (t : TypeId) (a : Operand) : Bx OpM := match k with
  | .cell => c1 107 a (loadHot P t)
  | _ => c1 107 a fun a => vl (loadA P t a)
def isOne (s : Option Nat) : Bool := match s with
  | some n => Nat.beq n 1
  | none => false
def stB (s : Option Nat) (P : Program) (t : TypeId) (a x : Operand) : Bx OpM := match isOne s with
  | true => c2 108 a x (storeHot P t)
  | false => c2 108 a x fun a v => ul (storeA P t a v)
def cvB (us ud : Option TypeDesc) (P : Program) (s d : TypeId) (x : Operand) : Bx OpM := match us, ud with
  | some (.int _), some (.int k) => c1 114 x (convHot P s d k)
  | _, _ => c1 114 x fun a => ovl 113 (convertA P s d a)
def faS (sz : Option Nat) (off : Nat) (P : Program) (s : TypeId) (x : Operand) (f : Nat) : Bx OpM := match sz with
  | some (_ + 1) => natK off fun off => c1 122 x (faHot off)
  | _ => c1 122 x fun a => ovl 121 (fieldAt P s a f)
def faB (us : Option TypeDesc) (P : Program) (s : TypeId) (x : Operand) (f : Nat) : Bx OpM := match us with
  | some (.struct fs) => match fs[f]? with
    | some fd => faS (sizeT P fd.type) fd.offset P s x f
    | none => c1 122 x fun a => ovl 121 (fieldAt P s a f)
  | _ => c1 122 x fun a => ovl 121 (fieldAt P s a f)
def ixB (us : Option TypeDesc) (P : Program) (t : TypeId) (x i : Operand) : Bx OpM := match us with
  | some (.slice e) => match sizeT P e with
    | some s => natK s fun s => c2 125 x i (ixHot P t s)
    | none => c2 125 x i fun a i => vl (indexAtA P t a i)
  | some (.array m e) => match sizeT P e with
    | some s => natK s fun s => natK m fun m => c2 125 x i (ixArr P t m s)
    | none => c2 125 x i fun a i => vl (indexAtA P t a i)
  | _ => c2 125 x i fun a i => vl (indexAtA P t a i)
def opF (P : Program) (op : Op) : Bx OpM := match op with
  | .move x => c1 100 x fun v g => .ok (.val v) g
  | .assign x => c1 100 x fun v g => .ok (.val v) g
  | .load t a => ldB (kindT P t) P t a
  | .store t a x => stB (sizeT P t) P t a x
  | .nilCheck x => c1 109 x nilHot
  | .binOp op t x y _ => Bx.rec (motive := fun _ => Bx OpM) (fun f => c2 110 x y fun a b => binHot f P op t (isConstOp x) (isConstOp y) a b) (conS op)
  | .unOp op _ x => c1 112 x fun a => ovl 111 (unA op a)
  | .convert s d x => cvB (P.underlying s) (P.underlying d) P s d x
  | .fieldAddr s x f => faB (P.underlying s) P s x f
  | .field s x f => c1 124 x fun a => ovl 123 (fieldA P s a f)
  | .indexAddr t x i => ixB (P.underlying t) P t x i
  | .index t x i => c2 127 x i fun a i => ovl 126 (indexA P t a i)
  | .extract x n => c1 133 x (extHot n)
  | op => .mk fun tm => evOp P tm op
theorem opF_spec (P : Program) (op : Op) : ∃ F, opF P op = .mk F ∧ ∀ tm g, F tm g = evOp P tm op g := by
  cases op
  case move x => exact c1_spec _ _ _
  case assign x => exact c1_spec _ _ _
  case load t a =>
    show ∃ F, ldB (kindT P t) P t a = .mk F ∧ ∀ tm g, F tm g = ev1 107 tm a (fun a => vl (loadA P t a)) g
    cases hk : kindT P t with
    | cell =>
      obtain ⟨F, e, h⟩ := c1_spec 107 a (loadHot P t)
      exact ⟨F, e, fun tm g => by rw [h, funext (loadHot_eq hk)]⟩
    | aggr => exact c1_spec _ _ _
    | none => exact c1_spec _ _ _
  case store t a x =>
    show ∃ F, stB (sizeT P t) P t a x = .mk F ∧ ∀ tm g, F tm g = ev2 108 tm a x (fun a v => ul (storeA P t a v)) g
    unfold stB
    cases hs : isOne (sizeT P t) with
    | false => exact c2_spec _ _ _ _
    | true =>
      have hs' : sizeT P t = some 1 := by
        unfold isOne at hs
        split at hs
        · rename_i n e; rw [e, of_beq hs]
        · cases hs
      obtain ⟨F, e, h⟩ := c2_spec 108 a x (storeHot P t)
      exact ⟨F, e, fun tm g => by rw [h, funext fun a => funext fun v => storeHot_eq hs' a v]⟩
  case nilCheck x =>
    obtain ⟨F, e, h⟩ := c1_spec 109 x nilHot
    exact ⟨F, e, fun tm g => by rw [h, funext nilHot_eq]; rfl⟩
  case binOp op t x y t' =>
    obtain ⟨f, e1, h1⟩ := conS_spec op
    obtain ⟨F, e, h⟩ := c2_spec 110 x y fun a b => binHot f P op t (isConstOp x) (isConstOp y) a b
    refine ⟨F, ?_, fun tm g => by rw [h, funext fun a => funext fun b => binHot_eq h1 P t _ _ a b]; rfl⟩
    show Bx.rec (motive := fun _ => Bx OpM) (fun f => c2 110 x y fun a b => binHot f P op t (isConstOp x) (isConstOp y) a b) (conS op) = _
    rw [e1]; exact e
  case unOp op t x => exact c1_spec _ _ _
  case convert s d x =>
    show ∃ F, cvB (P.underlying s) (P.underlying d) P s d x = .mk F ∧ ∀ tm g, F tm g = ev1 114 tm x (fun a => ovl 113 (convertA P s d a)) g
    unfold cvB
    split
    · rename_i k0 k h1 h2
      obtain ⟨F, e, h⟩ := c1_spec 114 x (convHot P s d k)
      exact ⟨F, e, fun tm g => by rw [h, funext (convHot_eq h1 h2)]⟩
    · exact c1_spec _ _ _
  case fieldAddr s x f =>
    show ∃ F, faB (P.underlying s) P s x f = .mk F ∧ ∀ tm g, F tm g = ev1 122 tm x (fun a => ovl 121 (fieldAt P s a f)) g
    unfold faB
    split
    · rename_i fs h1
      split
      · rename_i fd h2
        unfold faS
        split
        · rename_i n h3
          rw [natK_eq]
          obtain ⟨F, e, h⟩ := c1_spec 122 x (faHot fd.offset)
          exact ⟨F, e, fun tm g => by rw [h, funext (faHot_eq h1 h2 h3)]⟩
        · exact c1_spec _ _ _
      · exact c1_spec _ _ _
    · exact c1_spec _ _ _
  case field s x f => exact c1_spec _ _ _
  case indexAddr t x i =>
    show ∃ F, ixB (P.underlying t) P t x i = .mk F ∧ ∀ tm g, F tm g = ev2 125 tm x i (fun a i => vl (indexAtA P t a i)) g
    unfold ixB
    split
    · rename_i e' h1
      split
      · rename_i s h2
        rw [natK_eq]
        obtain ⟨F, e, h⟩ := c2_spec 125 x i (ixHot P t s)
        exact ⟨F, e, fun tm g => by rw [h, funext fun a => funext fun b => ixHot_eq h1 h2 a b]⟩
      · exact c2_spec _ _ _ _
    · rename_i m e' h1
      split
      · rename_i s h2
        rw [natK_eq, natK_eq]
        obtain ⟨F, e, h⟩ := c2_spec 125 x i (ixArr P t m s)
        exact ⟨F, e, fun tm g => by rw [h, funext fun a => funext fun b => ixArr_eq h1 h2 a b]⟩
      · exact c2_spec _ _ _ _
    · exact c2_spec _ _ _ _
  case index t x i => exact c2_spec _ _ _ _
  case extract x n =>
    obtain ⟨F, e, h⟩ := c1_spec 133 x (extHot n)
    exact ⟨F, e, fun tm g => by rw [h, funext (extHot_eq n)]; rfl⟩
  all_goals exact ⟨_, rfl, fun _ _ => rfl⟩

/-! guards -/
inductive Gd where
  | always
  | never
  | on (get : Get) (want : Bool)
def wantV (want : Bool) (v : AV) : M Bool := match v with
  | .bool b => M.pure (b == want)
  | .sbool b => M.bind (ask b) fun r => M.pure (r == want)
  | .tup [] => M.pure false
  | _ => no 150
def gdC (ops : List Oper) (o : Oper) : Gd := match o.guard with
  | none => .always
  | some (j, want) => match ops[j]? with
    | some oj => match oj.dst with
      | some d => Acc.rec (motive := fun _ => Gd) (fun g _ => .on g want) (acc AV d)
      | none => .never
    | none => .never
/-- what a guard says -/
def gdR (gd : Gd) (tm : Ts AV) : M Bool := match gd with
  | .always => M.pure true
  | .never => M.pure false
  | .on get want => match get tm with
    | some v => wantV want v
    | none => no 150
theorem gdC_spec (ops : List Oper) (o : Oper) (tm : Ts AV) (g : G) : gdR (gdC ops o) tm g = wantedA ops o tm g := by
  unfold gdC wantedA
  cases o.guard with
  | none => rfl
  | some jw =>
    obtain ⟨j, want⟩ := jw
    simp only
    cases ops[j]? with
    | none => rfl
    | some oj =>
      simp only
      cases oj.dst with
      | none => rfl
      | some d =>
        simp only
        have : Ts.get tm d = Acc.rec (motive := fun _ => Option AV) (fun g _ => g tm) (acc AV d) := rfl
        rw [this]
        cases acc AV d with
        | mk get s =>
          simp only [gdR]
          cases get tm with
          | none => rfl
          | some v =>
            cases v <;> first | rfl | skip
            rename_i vs; cases vs <;> rfl

/-! sequences -/
abbrev Sc := Rec → Next
def runSc (b : Bx Sc) (rec : Rec) : Next := fun tm ds g => Bx.rec (motive := fun _ => Res) (fun f => f rec tm ds g) b
def finC (rec : Rec) (put : Put) (next : Next) (tm : Ts AV) (ds : List (FuncId × List AV)) (r : Out OpR) : Res :=
  Out.rec (motive := fun _ => Res) (fun q g => OpR.rec (motive := fun _ => Res)
      (fun v => put tm v fun tm => next tm ds g)
      (fun v => .fin (.pan v) tm ds g)
      (fun f args => Res.rec (motive := fun _ => Res) (fun w => .no w) (fun _ _ _ _ => .no 151) (fun v g => put tm v fun tm => next tm ds g) (fun v g => .fin (.pan v) tm ds g) (rec (.call f args) g))
      (fun f args => put tm (.tup []) fun tm => next tm ((f, args) :: ds) g) q)
    (fun w => .no w) r
theorem finC_spec {rec : Rec} {P : Program} {o : Oper} {p : Put} (hp : ∀ tm v k, p tm v k = putK tm o.dst v k) (next : Next) (tm : Ts AV) (ds : List (FuncId × List AV)) (g : G) :
    finC rec p next tm ds (evOp P tm o.op g) = evSeqR o next tm ds (runOp rec P o tm g) := by
  unfold runOp
  cases evOp P tm o.op g with
  | no w => rfl
  | ok q g =>
    cases q with
    | val v => exact hp _ _ _
    | pan v => rfl
    | dfr f args => exact hp _ _ _
    | call f args =>
      simp only [finC]
      cases rec (.call f args) g with
      | no w => rfl
      | fin => rfl
      | val v g => exact hp _ _ _
      | pan v g => rfl
abbrev Stp := Rec → Next → Next
def stG (F : OpM) (p : Put) (gd : Gd) : Bx Stp := Gd.rec (motive := fun _ => Bx Stp)
  (.mk fun rec next tm ds g => finC rec p next tm ds (F tm g))
  (.mk fun _ next tm ds g => p tm (.tup []) fun tm => next tm ds g)
  (fun get want => .mk fun rec next tm ds g => Option.rec (motive := fun _ => Res) (.no 150) (fun v =>
    Out.rec (motive := fun _ => Res) (fun b g => Bool.rec (motive := fun _ => Res) (p tm (.tup []) fun tm => next tm ds g) (finC rec p next tm ds (F tm g)) b) (fun w => .no w) (wantV want v g)) (get tm)) gd
def stC (P : Program) (ops : List Oper) (o : Oper) : Bx Stp :=
  Bx.rec (motive := fun _ => Bx Stp) (fun F => Bx.rec (motive := fun _ => Bx Stp) (fun p => stG F p (gdC ops o)) (putC o.dst)) (opF P o.op)
theorem stC_spec (P : Program) (ops : List Oper) (o : Oper) : ∃ f, stC P ops o = .mk f ∧ ∀ rec next tm ds g, f rec next tm ds g = evSeqW rec P o next tm ds (wantedA ops o tm g) := by
  obtain ⟨F, e1, h1⟩ := opF_spec P o.op
  obtain ⟨p, e2, h2⟩ := putC_spec o.dst
  have hg := gdC_spec ops o
  unfold stC; rw [e1, e2]
  simp only
  cases hgd : gdC ops o with
  | always =>
    refine ⟨_, rfl, fun rec next tm ds g => ?_⟩
    rw [← hg, hgd]
    simp only [h1]
    exact finC_spec h2 next tm ds g
  | never =>
    refine ⟨_, rfl, fun rec next tm ds g => ?_⟩
    rw [← hg, hgd]
    exact h2 _ _ _
  | on get want =>
    refine ⟨_, rfl, fun rec next tm ds g => ?_⟩
    rw [← hg, hgd]
    simp only [gdR]
    cases get tm with
    | none => rfl
    | some v =>
      simp only
      cases wantV want v g with
      | no w => rfl
      | ok b g =>
        cases b with
        | false => exact h2 _ _ _
        | true => simp only [h1]; exact finC_spec h2 next tm ds g
def seqC (P : Program) (ops : List Oper) (l : List Oper) : Bx Sc :=
  List.rec (motive := fun _ => Bx Sc) (.mk fun _ tm ds g => .fin .norm tm ds g)
    (fun o _ ih => Bx.rec (motive := fun _ => Bx Sc) (fun f => .mk fun rec => f rec fun tm ds g => Bx.rec (motive := fun _ => Res) (fun h => h rec tm ds g) ih) (stC P ops o)) l
theorem seqC_spec (P : Program) (ops : List Oper) (rec : Rec) : ∀ l, runSc (seqC P ops l) rec = evSeq rec P ops l
  | [] => rfl
  | o :: os => by
    obtain ⟨f, e, h⟩ := stC_spec P ops o
    funext tm ds g
    rw [evSeq_cons, ← h, ← seqC_spec P ops rec os]
    show runSc (Bx.rec (motive := fun _ => Bx Sc) (fun f => .mk fun rec => f rec fun tm ds g => Bx.rec (motive := fun _ => Res) (fun h => h rec tm ds g) (seqC P ops os)) (stC P ops o)) rec tm ds g = _
    rw [e]; rfl

/-! in any order -/
abbrev Pc := Rec → List Foot → Ts AV → G → Out (Ts AV × List Foot)
abbrev PutP := Ts AV → AV → (Ts AV → Out (Ts AV × List Foot)) → Out (Ts AV × List Foot)
def putPC (d : Option Tmp) : Bx PutP := Option.rec (motive := fun _ => Bx PutP) (.mk fun tm _ k => k tm)
  (fun d => Acc.rec (motive := fun _ => Bx PutP) (fun _ s => .mk fun tm v k => s (Out (Ts AV × List Foot)) tm v k) (acc AV d)) d
theorem putPC_spec (d : Option Tmp) : ∃ p, putPC d = .mk p ∧ ∀ tm v k, p tm v k = putK tm d v k := by
  cases d with
  | none => exact ⟨_, rfl, fun _ _ _ => rfl⟩
  | some d =>
    show ∃ p, (Acc.rec (motive := fun _ => Bx PutP) (fun _ s => .mk fun tm v k => s (Out (Ts AV × List Foot)) tm v k) (acc AV d)) = .mk p ∧ ∀ tm v k, p tm v k = Acc.rec (motive := fun _ => (Out (Ts AV × List Foot))) (fun _ s => s (Out (Ts AV × List Foot)) tm v k) (acc AV d)
    cases acc AV d with
    | mk g s => exact ⟨_, rfl, fun _ _ _ => rfl⟩
def bitsOf (m : Nat) : Nat → List Bool
  | 0 => []
  | i + 1 => m.testBit i :: bitsOf m i
def bitHd (m : Nat) (bs : List Bool) : Bool := List.rec (motive := fun _ => Bool) (m.testBit 0) (fun b _ _ => b) bs
def bitTl (bs : List Bool) : List Bool := List.rec (motive := fun _ => List Bool) [] (fun _ r _ => r) bs
def loopF (m : Nat) (log : List Tch) (fs : List Foot) : List Bool → Bool :=
  List.rec (motive := fun _ => List Bool → Bool) (fun _ => true)
    (fun f _ ih bs => Foot.rec (motive := fun _ => Bool) (fun _ _ lg => List.rec (motive := fun _ => Bool) (ih (bitTl bs))
      (fun _ _ _ => Bool.rec (motive := fun _ => Bool) (Bool.rec (motive := fun _ => Bool) false (ih (bitTl bs)) (logsApart lg log)) (ih (bitTl bs)) (bitHd m bs)) lg) f) fs
def footsF (m : Nat) (bs : List Bool) (log : List Tch) (fs : List Foot) : Bool :=
  List.rec (motive := fun _ => Bool) true (fun _ _ _ => loopF m log fs bs) log
theorem logsApart_nil' (a : List Tch) : logsApart a [] = true := by simp [logsApart]
theorem footsApart_nil (m : Nat) : ∀ (fs : List Foot) (i : Nat), footsApart m [] fs i = true
  | [], _ => rfl
  | f :: fs, i => by simp [footsApart, logsApart_nil', footsApart_nil m fs]
theorem loopF_spec (m : Nat) (log : List Tch) : ∀ (fs : List Foot) (i : Nat), loopF m log fs (bitsOf m i) = footsApart m log fs i
  | [], _ => rfl
  | f :: fs, i => by
    obtain ⟨lo, hi, lg⟩ := f
    have htl : bitTl (bitsOf m i) = bitsOf m (i - 1) := by cases i <;> rfl
    have hhd : bitHd m (bitsOf m i) = m.testBit (i - 1) := by cases i <;> rfl
    have ih := loopF_spec m log fs (i - 1)
    cases lg with
    | nil =>
      show loopF m log fs (bitTl (bitsOf m i)) = _
      rw [htl, ih]; simp [footsApart, logsApart]
    | cons t ts =>
      show Bool.rec (motive := fun _ => Bool) (Bool.rec (motive := fun _ => Bool) false (loopF m log fs (bitTl (bitsOf m i))) (logsApart (t :: ts) log)) (loopF m log fs (bitTl (bitsOf m i))) (bitHd m (bitsOf m i)) = _
      rw [htl, hhd, ih, footsApart]
      cases m.testBit (i - 1) <;> cases logsApart (t :: ts) log <;> simp
theorem footsF_spec (m : Nat) (i : Nat) (log : List Tch) (fs : List Foot) : footsF m (bitsOf m i) log fs = footsApart m log fs i := by
  cases log with
  | nil => exact (footsApart_nil m fs i).symm
  | cons t ts => exact loopF_spec m (t :: ts) fs i
abbrev NxP := List Foot → Ts AV → G → Out (Ts AV × List Foot)
def parV (m : Nat) (bs : List Bool) (put : PutP) (lo : Nat) (next : NxP) (fs : List Foot) (tm : Ts AV) (v : AV) (g : G) : Out (Ts AV × List Foot) :=
  G.rec (motive := fun _ => Out (Ts AV × List Foot)) (fun h nx l oc ob => Bool.rec (motive := fun _ => Out (Ts AV × List Foot)) (.no 152)
    (put tm v fun tm => next (⟨lo, nx, l⟩ :: fs) tm ⟨h, nx, l, oc, ob⟩) (footsF m bs l fs)) g
def parQ (rec : Rec) (m : Nat) (bs : List Bool) (put : PutP) (lo : Nat) (next : NxP) (fs : List Foot) (tm : Ts AV) (r : Out OpR) : Out (Ts AV × List Foot) :=
  Out.rec (motive := fun _ => Out (Ts AV × List Foot)) (fun q g => OpR.rec (motive := fun _ => Out (Ts AV × List Foot))
      (fun v => parV m bs put lo next fs tm v g)
      (fun _ => .no 154)
      (fun f args => Res.rec (motive := fun _ => Out (Ts AV × List Foot)) (fun w => .no w) (fun _ _ _ _ => .no 151) (fun v g => parV m bs put lo next fs tm v g) (fun _ _ => .no 154) (rec (.call f args) g))
      (fun _ _ => .no 155) q)
    (fun w => .no w) r
abbrev StpP := Rec → NxP → NxP
def parG (F : OpM) (p : PutP) (m : Nat) (bs : List Bool) (gd : Gd) : Bx StpP := Gd.rec (motive := fun _ => Bx StpP)
  (.mk fun rec next fs tm g => G.rec (motive := fun _ => Out (Ts AV × List Foot)) (fun h nx _ oc ob => parQ rec m bs p nx next fs tm (F tm ⟨h, nx, [], oc, ob⟩)) g)
  (.mk fun _ next fs tm g => G.rec (motive := fun _ => Out (Ts AV × List Foot)) (fun h nx _ oc ob => p tm (.tup []) fun tm => next (⟨nx, nx, []⟩ :: fs) tm ⟨h, nx, [], oc, ob⟩) g)
  (fun get want => .mk fun rec next fs tm g => G.rec (motive := fun _ => Out (Ts AV × List Foot)) (fun h nx _ oc ob => Option.rec (motive := fun _ => Out (Ts AV × List Foot)) (.no 150) (fun v =>
    Out.rec (motive := fun _ => Out (Ts AV × List Foot)) (fun b g => G.rec (motive := fun _ => Out (Ts AV × List Foot)) (fun h nx l oc ob =>
      Bool.rec (motive := fun _ => Out (Ts AV × List Foot)) (p tm (.tup []) fun tm => next (⟨nx, nx, l⟩ :: fs) tm ⟨h, nx, l, oc, ob⟩) (parQ rec m bs p nx next fs tm (F tm ⟨h, nx, l, oc, ob⟩)) b) g)
      (fun w => .no w) (wantV want v ⟨h, nx, [], oc, ob⟩)) (get tm)) g) gd
def parStC (P : Program) (ops : List Oper) (o : Oper) (m : Nat) (bs : List Bool) : Bx StpP :=
  Bx.rec (motive := fun _ => Bx StpP) (fun F => Bx.rec (motive := fun _ => Bx StpP) (fun p => parG F p m bs (gdC ops o)) (putPC o.dst)) (opF P o.op)
theorem parQ_spec {rec : Rec} {P : Program} {o : Oper} {p : PutP} {ms : List Nat} {i m : Nat} (hm : ms[i]? = some m) (hp : ∀ tm v k, p tm v k = putK tm o.dst v k) (next : NextP) (lo : Nat) (fs : List Foot) (tm : Ts AV) (g : G) :
    parQ rec m (bitsOf m i) p lo (next (i + 1)) fs tm (evOp P tm o.op g) = evParR ms o next i lo fs tm (runOp rec P o tm g) := by
  have hV : ∀ v g, parV m (bitsOf m i) p lo (next (i + 1)) fs tm v g = evParV ms o next i lo fs tm g (.val v) := by
    intro v g
    obtain ⟨h, nx, l, oc, ob⟩ := g
    simp only [evParV, hm, parV, footsF_spec]
    cases footsApart m l fs i with
    | false => rfl
    | true =>
      simp only [setFoot, hp, natK_eq]
  unfold runOp
  cases evOp P tm o.op g with
  | no w => rfl
  | ok q g =>
    cases q with
    | val v => exact hV v g
    | pan v => rfl
    | dfr f args => rfl
    | call f args =>
      simp only [parQ]
      cases rec (.call f args) g with
      | no w => rfl
      | fin => rfl
      | val v g => exact hV v g
      | pan v g => rfl
theorem parStC_spec (P : Program) (ops : List Oper) (o : Oper) {ms : List Nat} {i m : Nat} (hm : ms[i]? = some m) : ∃ f, parStC P ops o m (bitsOf m i) = .mk f ∧
    ∀ rec (next : NextP) fs tm g, f rec (next (i + 1)) fs tm g = evParW rec P ms o next i fs tm (wantedA ops o tm (noLog g)) := by
  obtain ⟨F, e1, h1⟩ := opF_spec P o.op
  obtain ⟨p, e2, h2⟩ := putPC_spec o.dst
  have hg := gdC_spec ops o
  unfold parStC; rw [e1, e2]
  simp only
  cases hgd : gdC ops o with
  | always =>
    refine ⟨_, rfl, fun rec next fs tm g => ?_⟩
    obtain ⟨h, nx, l, oc, ob⟩ := g
    rw [← hg, hgd]
    simp only [noLog, gdR, h1, M.pure, evParW]
    exact parQ_spec hm h2 next nx fs tm _
  | never =>
    refine ⟨_, rfl, fun rec next fs tm g => ?_⟩
    obtain ⟨h, nx, l, oc, ob⟩ := g
    rw [← hg, hgd]
    simp only [noLog, gdR, M.pure, evParW, setFoot, natK_eq]
    exact h2 _ _ _
  | on get want =>
    refine ⟨_, rfl, fun rec next fs tm g => ?_⟩
    obtain ⟨h, nx, l, oc, ob⟩ := g
    rw [← hg, hgd]
    simp only [noLog, gdR]
    cases get tm with
    | none => rfl
    | some v =>
      simp only
      cases wantV want v ⟨h, nx, [], oc, ob⟩ with
      | no w => rfl
      | ok b g1 =>
        obtain ⟨h, nx, l, oc, ob⟩ := g1
        cases b with
        | false => simp only [evParW, setFoot, natK_eq]; exact h2 _ _ _
        | true => simp only [evParW, h1]; exact parQ_spec hm h2 next nx fs tm _
def runPc (b : Bx Pc) (rec : Rec) : NxP := fun fs tm g => Bx.rec (motive := fun _ => Out (Ts AV × List Foot)) (fun f => f rec fs tm g) b
def parC (P : Program) (ops : List Oper) (ms : List Nat) (l : List Oper) : Nat → Bx Pc :=
  List.rec (motive := fun _ => Nat → Bx Pc) (fun _ => .mk fun _ fs tm g => .ok (tm, fs) g)
    (fun o _ ih i => Option.rec (motive := fun _ => Bx Pc) (.mk fun _ _ _ _ => .no 153)
      (fun m => Bx.rec (motive := fun _ => Bx Pc) (fun f => .mk fun rec => f rec fun fs tm g => Bx.rec (motive := fun _ => Out (Ts AV × List Foot)) (fun h => h rec fs tm g) (ih (Nat.add i (nat_lit 1)))) (parStC P ops o m (bitsOf m i))) ms[i]?) l
theorem parC_spec (P : Program) (ops : List Oper) (ms : List Nat) (rec : Rec) : ∀ (l : List Oper) (i : Nat), (∀ j, i ≤ j → j < i + l.length → ∃ m, ms[j]? = some m) → runPc (parC P ops ms l i) rec = fun fs tm g => evPar rec P ops ms l i fs tm g
  | [], _, _ => rfl
  | o :: os, i, hl => by
    obtain ⟨m, hm⟩ := hl i (Nat.le_refl _) (by simp)
    obtain ⟨f, e, h⟩ := parStC_spec P ops o hm
    have ih := parC_spec P ops ms rec os (i + 1) fun j h1 h2 => hl j (by omega) (by simp only [List.length_cons]; omega)
    funext fs tm g
    show runPc (Option.rec (motive := fun _ => Bx Pc) (.mk fun _ _ _ _ => .no 153)
      (fun m => Bx.rec (motive := fun _ => Bx Pc) (fun f => .mk fun rec => f rec fun fs tm g => Bx.rec (motive := fun _ => Out (Ts AV × List Foot)) (fun h => h rec fs tm g) (parC P ops ms os (i + 1))) (parStC P ops o m (bitsOf m i))) ms[i]?) rec fs tm g = evParW rec P ms o (evPar rec P ops ms os) i fs tm (wantedA ops o tm (noLog g))
    rw [hm]
    simp only
    rw [e, ← h]
    show f rec (runPc (parC P ops ms os (i + 1)) rec) fs tm g = _
    rw [ih]
end
end Go.Ev
