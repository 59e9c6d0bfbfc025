/-
  A part of the evaluator of the program's code, or of what it was seen to do; its statements are Lean's own. No condition.
-/
import Derived.Test.YteeakllokpdjgaaGreatEvI5
namespace Go.Ev
open Go

/-! ### The same evaluator, its code made once into closed pieces that the kernel keeps -/
noncomputable section
abbrev Get := Ts AV → Option AV
abbrev Put := Ts AV → AV → (Ts AV → Res) → Res
def optB (o : Option AV) : Bx Get := Option.rec (motive := fun _ => Bx Get) (.mk fun _ => none) (fun a => .mk fun _ => some a) o
def getC (x : Operand) : Bx Get := match x with
  | .tmp t => Acc.rec (motive := fun _ => Bx Get) (fun g _ => .mk g) (acc AV t)
  | .const v => optB (ofV 6 v)
  | .func f => .mk fun _ => some (.func (.func f) [] [])
  | .global _ => .mk fun _ => none
theorem getC_spec (x : Operand) : ∃ g, getC x = .mk g ∧ ∀ tm, g tm = opnd tm x := by
  cases x with
  | tmp t =>
    show ∃ g, (Acc.rec (motive := fun _ => Bx Get) (fun g _ => .mk g) (acc AV t)) = .mk g ∧ ∀ tm, g tm = Acc.rec (motive := fun _ => Option AV) (fun g _ => g tm) (acc AV t)
    cases acc AV t with
    | mk g s => exact ⟨g, rfl, fun _ => rfl⟩
  | const v =>
    show ∃ g, optB (ofV 6 v) = .mk g ∧ ∀ tm, g tm = ofV 6 v
    cases ofV 6 v with
    | none => exact ⟨_, rfl, fun _ => rfl⟩
    | some a => exact ⟨_, rfl, fun _ => rfl⟩
  | func f => exact ⟨_, rfl, fun _ => rfl⟩
  | global n => exact ⟨_, rfl, fun _ => rfl⟩
def putC (d : Option Tmp) : Bx Put := Option.rec (motive := fun _ => Bx Put) (.mk fun tm _ k => k tm)
  (fun d => Acc.rec (motive := fun _ => Bx Put) (fun _ s => .mk fun tm v k => s Res tm v k) (acc AV d)) d
theorem putC_spec (d : Option Tmp) : ∃ p, putC d = .mk p ∧ ∀ tm v k, p tm v k = putK tm d v k := by
  cases d with
  | none => exact ⟨_, rfl, fun _ _ _ => rfl⟩
  | some d =>
    show ∃ p, (Acc.rec (motive := fun _ => Bx Put) (fun _ s => .mk fun tm v k => s Res tm v k) (acc AV d)) = .mk p ∧ ∀ tm v k, p tm v k = Acc.rec (motive := fun _ => Res) (fun _ s => s Res tm v k) (acc AV d)
    cases acc AV d with
    | mk g s => exact ⟨_, rfl, fun _ _ _ => rfl⟩

/-! operations -/
abbrev OpM := Ts AV → M OpR
def c1 (w : Nat) (x : Operand) (f : AV → M OpR) : Bx OpM :=
  Bx.rec (motive := fun _ => Bx OpM) (fun gx => .mk fun tm g => Option.rec (motive := fun _ => Out OpR) (.no w) (fun a => f a g) (gx tm)) (getC x)
def c2 (w : Nat) (x y : Operand) (f : AV → AV → M OpR) : Bx OpM :=
  Bx.rec (motive := fun _ => Bx OpM) (fun gx => Bx.rec (motive := fun _ => Bx OpM) (fun gy => .mk fun tm g =>
    Option.rec (motive := fun _ => Out OpR) (.no w) (fun a => Option.rec (motive := fun _ => Out OpR) (.no w) (fun b => f a b g) (gy tm)) (gx tm)) (getC y)) (getC x)
theorem c1_spec (w : Nat) (x : Operand) (f : AV → M OpR) : ∃ F, c1 w x f = .mk F ∧ ∀ tm g, F tm g = ev1 w tm x f g := by
  obtain ⟨gx, e, h⟩ := getC_spec x
  unfold c1; rw [e]
  refine ⟨_, rfl, fun tm g => ?_⟩
  simp only [h, ev1]
  cases opnd tm x <;> rfl
theorem c2_spec (w : Nat) (x y : Operand) (f : AV → AV → M OpR) : ∃ F, c2 w x y f = .mk F ∧ ∀ tm g, F tm g = ev2 w tm x y f g := by
  obtain ⟨gx, e, h⟩ := getC_spec x
  obtain ⟨gy, e', h'⟩ := getC_spec y
  unfold c2; rw [e, e']
  refine ⟨_, rfl, fun tm g => ?_⟩
  simp only [h, h', ev2]
  cases opnd tm x with
  | none => rfl
  | some a => cases opnd tm y <;> rfl
def ldB (k : Kd) (P : Program) (t : TypeId) (a : Operand) : Bx OpM := match k with
  | .cell => c1 107 a (loadHot P t)
  | _ => c1 107 a fun a => vl (loadA P t a)
def isOne (s : Option Nat) : Bool := match s with
  | some n => Nat.beq n 1
  | none => false
def stB (s : Option Nat) (P : Program) (t : TypeId) (a x : Operand) : Bx OpM := match isOne s with
  | true => c2 108 a x (storeHot P t)
  | false => c2 108 a x fun a v => ul (storeA P t a v)
def cvB (us ud : Option TypeDesc) (P : Program) (s d : TypeId) (x : Operand) : Bx OpM := match us, ud with
  | some (.int _), some (.int k) => c1 114 x (convHot P s d k)
  | _, _ => c1 114 x fun a => ovl 113 (convertA P s d a)
def faS (sz : Option Nat) (off : Nat) (P : Program) (s : TypeId) (x : Operand) (f : Nat) : Bx OpM := match sz with
  | some (_ + 1) => natK off fun off => c1 122 x (faHot off)
  | _ => c1 122 x fun a => ovl 121 (fieldAt P s a f)
def faB (us : Option TypeDesc) (P : Program) (s : TypeId) (x : Operand) (f : Nat) : Bx OpM := match us with
  | some (.struct fs) => match fs[f]? with
    | some fd => faS (sizeT P fd.type) fd.offset P s x f
    | none => c1 122 x fun a => ovl 121 (fieldAt P s a f)
  | _ => c1 122 x fun a => ovl 121 (fieldAt P s a f)
def ixB (us : Option TypeDesc) (P : Program) (t : TypeId) (x i : Operand) : Bx OpM := match us with
  | some (.slice e) => match sizeT P e with
    | some s => natK s fun s => c2 125 x i (ixHot P t s)
    | none => c2 125 x i fun a i => vl (indexAtA P t a i)
  | some (.array m e) => match sizeT P e with
    | some s => natK s fun s => natK m fun m => c2 125 x i (ixArr P t m s)
    | none => c2 125 x i fun a i => vl (indexAtA P t a i)
  | _ => c2 125 x i fun a i => vl (indexAtA P t a i)
def opF (P : Program) (op : Op) : Bx OpM := match op with
  | .move x => c1 100 x fun v g => .ok (.val v) g
  | .assign x => c1 100 x fun v g => .ok (.val v) g
  | .load t a => ldB (kindT P t) P t a
  | .store t a x => stB (sizeT P t) P t a x
  | .nilCheck x => c1 109 x nilHot
  | .binOp op t x y _ => Bx.rec (motive := fun _ => Bx OpM) (fun f => c2 110 x y fun a b => binHot f P op t (isConstOp x) (isConstOp y) a b) (conS op)
  | .unOp op _ x => c1 112 x fun a => ovl 111 (unA op a)
  | .convert s d x => cvB (P.underlying s) (P.underlying d) P s d x
  | .fieldAddr s x f => faB (P.underlying s) P s x f
  | .field s x f => c1 124 x fun a => ovl 123 (fieldA P s a f)
  | .indexAddr t x i => ixB (P.underlying t) P t x i
  | .index t x i => c2 127 x i fun a i => ovl 126 (indexA P t a i)
  | .extract x n => c1 133 x (extHot n)
  | op => .mk fun tm => evOp P tm op
theorem opF_spec (P : Program) (op : Op) : ∃ F, opF P op = .mk F ∧ ∀ tm g, F tm g = evOp P tm op g := by
  cases op
  case move x => exact c1_spec _ _ _
  case assign x => exact c1_spec _ _ _
  case load t a =>
    show ∃ F, ldB (kindT P t) P t a = .mk F ∧ ∀ tm g, F tm g = ev1 107 tm a (fun a => vl (loadA P t a)) g
    cases hk : kindT P t with
    | cell =>
      obtain ⟨F, e, h⟩ := c1_spec 107 a (loadHot P t)
      exact ⟨F, e, fun tm g => by rw [h, funext (loadHot_eq hk)]⟩
    | aggr => exact c1_spec _ _ _
    | none => exact c1_spec _ _ _
  case store t a x =>
    show ∃ F, stB (sizeT P t) P t a x = .mk F ∧ ∀ tm g, F tm g = ev2 108 tm a x (fun a v => ul (storeA P t a v)) g
    unfold stB
    cases hs : isOne (sizeT P t) with
    | false => exact c2_spec _ _ _ _
    | true =>
      have hs' : sizeT P t = some 1 := by
        unfold isOne at hs
        split at hs
        · rename_i n e; rw [e, of_beq hs]
        · cases hs
      obtain ⟨F, e, h⟩ := c2_spec 108 a x (storeHot P t)
      exact ⟨F, e, fun tm g => by rw [h, funext fun a => funext fun v => storeHot_eq hs' a v]⟩
  case nilCheck x =>
    obtain ⟨F, e, h⟩ := c1_spec 109 x nilHot
    exact ⟨F, e, fun tm g => by rw [h, funext nilHot_eq]; rfl⟩
  case binOp op t x y t' =>
    obtain ⟨f, e1, h1⟩ := conS_spec op
    obtain ⟨F, e, h⟩ := c2_spec 110 x y fun a b => binHot f P op t (isConstOp x) (isConstOp y) a b
    refine ⟨F, ?_, fun tm g => by rw [h, funext fun a => funext fun b => binHot_eq h1 P t _ _ a b]; rfl⟩
    show Bx.rec (motive := fun _ => Bx OpM) (fun f => c2 110 x y fun a b => binHot f P op t (isConstOp x) (isConstOp y) a b) (conS op) = _
    rw [e1]; exact e
  case unOp op t x => exact c1_spec _ _ _
  case convert s d x =>
    show ∃ F, cvB (P.underlying s) (P.underlying d) P s d x = .mk F ∧ ∀ tm g, F tm g = ev1 114 tm x (fun a => ovl 113 (convertA P s d a)) g
    unfold cvB
    split
    · rename_i k0 k h1 h2
      obtain ⟨F, e, h⟩ := c1_spec 114 x (convHot P s d k)
      exact ⟨F, e, fun tm g => by rw [h, funext (convHot_eq h1 h2)]⟩
    · exact c1_spec _ _ _
  case fieldAddr s x f =>
    show ∃ F, faB (P.underlying s) P s x f = .mk F ∧ ∀ tm g, F tm g = ev1 122 tm x (fun a => ovl 121 (fieldAt P s a f)) g
    unfold faB
    split
    · rename_i fs h1
      split
      · rename_i fd h2
        unfold faS
        split
        · rename_i n h3
          rw [natK_eq]
          obtain ⟨F, e, h⟩ := c1_spec 122 x (faHot fd.offset)
          exact ⟨F, e, fun tm g => by rw [h, funext (faHot_eq h1 h2 h3)]⟩
        · exact c1_spec _ _ _
      · exact c1_spec _ _ _
    · exact c1_spec _ _ _
  case field s x f => exact c1_spec _ _ _
  case indexAddr t x i =>
    show ∃ F, ixB (P.underlying t) P t x i = .mk F ∧ ∀ tm g, F tm g = ev2 125 tm x i (fun a i => vl (indexAtA P t a i)) g
    unfold ixB
    split
    · rename_i e' h1
      split
      · rename_i s h2
        rw [natK_eq]
        obtain ⟨F, e, h⟩ := c2_spec 125 x i (ixHot P t s)
        exact ⟨F, e, fun tm g => by rw [h, funext fun a => funext fun b => ixHot_eq h1 h2 a b]⟩
      · exact c2_spec _ _ _ _
    · rename_i m e' h1
      split
      · rename_i s h2
        rw [natK_eq, natK_eq]
        obtain ⟨F, e, h⟩ := c2_spec 125 x i (ixArr P t m s)
        exact ⟨F, e, fun tm g => by rw [h, funext fun a => funext fun b => ixArr_eq h1 h2 a b]⟩
      · exact c2_spec _ _ _ _
    · exact c2_spec _ _ _ _
  case index t x i => exact c2_spec _ _ _ _
  case extract x n =>
    obtain ⟨F, e, h⟩ := c1_spec 133 x (extHot n)
    exact ⟨F, e, fun tm g => by rw [h, funext (extHot_eq n)]; rfl⟩
  all_goals exact ⟨_, rfl, fun _ _ => rfl⟩

/-! guards -/
inductive Gd where
  | always
  | never
  | on (get : Get) (want : Bool)
def wantV (want : Bool) (v : AV) : M Bool := match v with
  | .bool b => M.pure (b == want)
  | .sbool b => M.bind (ask b) fun r => M.pure (r == want)
  | .tup [] => M.pure false
  | _ => no 150
def gdC (ops : List Oper) (o : Oper) : Gd := match o.guard with
  | none => .always
  | some (j, want) => match ops[j]? with
    | some oj => match oj.dst with
      | some d => Acc.rec (motive := fun _ => Gd) (fun g _ => .on g want) (acc AV d)
      | none => .never
    | none => .never
/-- what a guard says -/
def gdR (gd : Gd) (tm : Ts AV) : M Bool := match gd with
  | .always => M.pure true
  | .never => M.pure false
  | .on get want => match get tm with
    | some v => wantV want v
    | none => no 150
theorem gdC_spec (ops : List Oper) (o : Oper) (tm : Ts AV) (g : G) : gdR (gdC ops o) tm g = wantedA ops o tm g := by
  unfold gdC wantedA
  cases o.guard with
  | none => rfl
  | some jw =>
    obtain ⟨j, want⟩ := jw
    simp only
    cases ops[j]? with
    | none => rfl
    | some oj =>
      simp only
      cases oj.dst with
      | none => rfl
      | some d =>
        simp only
        have : Ts.get tm d = Acc.rec (motive := fun _ => Option AV) (fun g _ => g tm) (acc AV d) := rfl
        rw [this]
        cases acc AV d with
        | mk get s =>
          simp only [gdR]
          cases get tm with
          | none => rfl
          | some v =>
            cases v <;> first | rfl | skip
            rename_i vs; cases vs <;> rfl

/-! sequences -/
abbrev Sc := Rec → Next
def runSc (b : Bx Sc) (rec : Rec) : Next := fun tm ds g => Bx.rec (motive := fun _ => Res) (fun f => f rec tm ds g) b
def finC (rec : Rec) (put : Put) (next : Next) (tm : Ts AV) (ds : List (FuncId × List AV)) (r : Out OpR) : Res :=
  Out.rec (motive := fun _ => Res) (fun q g => OpR.rec (motive := fun _ => Res)
      (fun v => put tm v fun tm => next tm ds g)
      (fun v => .fin (.pan v) tm ds g)
      (fun f args => Res.rec (motive := fun _ => Res) (fun w => .no w) (fun _ _ _ _ => .no 151) (fun v g => put tm v fun tm => next tm ds g) (fun v g => .fin (.pan v) tm ds g) (rec (.call f args) g))
      (fun f args => put tm (.tup []) fun tm => next tm ((f, args) :: ds) g) q)
    (fun w => .no w) r
theorem finC_spec {rec : Rec} {P : Program} {o : Oper} {p : Put} (hp : ∀ tm v k, p tm v k = putK tm o.dst v k) (next : Next) (tm : Ts AV) (ds : List (FuncId × List AV)) (g : G) :
    finC rec p next tm ds (evOp P tm o.op g) = evSeqR o next tm ds (runOp rec P o tm g) := by
  unfold runOp
  cases evOp P tm o.op g with
  | no w => rfl
  | ok q g =>
    cases q with
    | val v => exact hp _ _ _
    | pan v => rfl
    | dfr f args => exact hp _ _ _
    | call f args =>
      simp only [finC]
      cases rec (.call f args) g with
      | no w => rfl
      | fin => rfl
      | val v g => exact hp _ _ _
      | pan v g => rfl
abbrev Stp := Rec → Next → Next
def stG (F : OpM) (p : Put) (gd : Gd) : Bx Stp := Gd.rec (motive := fun _ => Bx Stp)
  (.mk fun rec next tm ds g => finC rec p next tm ds (F tm g))
  (.mk fun _ next tm ds g => p tm (.tup []) fun tm => next tm ds g)
  (fun get want => .mk fun rec next tm ds g => Option.rec (motive := fun _ => Res) (.no 150) (fun v =>
    Out.rec (motive := fun _ => Res) (fun b g => Bool.rec (motive := fun _ => Res) (p tm (.tup []) fun tm => next tm ds g) (finC rec p next tm ds (F tm g)) b) (fun w => .no w) (wantV want v g)) (get tm)) gd
def stC (P : Program) (ops : List Oper) (o : Oper) : Bx Stp :=
  Bx.rec (motive := fun _ => Bx Stp) (fun F => Bx.rec (motive := fun _ => Bx Stp) (fun p => stG F p (gdC ops o)) (putC o.dst)) (opF P o.op)
theorem stC_spec (P : Program) (ops : List Oper) (o : Oper) : ∃ f, stC P ops o = .mk f ∧ ∀ rec next tm ds g, f rec next tm ds g = evSeqW rec P o next tm ds (wantedA ops o tm g) := by
  obtain ⟨F, e1, h1⟩ := opF_spec P o.op
  obtain ⟨p, e2, h2⟩ := putC_spec o.dst
  have hg := gdC_spec ops o
  unfold stC; rw [e1, e2]
  simp only
  cases hgd : gdC ops o with
  | always =>
    refine ⟨_, rfl, fun rec next tm ds g => ?_⟩
    rw [← hg, hgd]
    simp only [h1]
    exact finC_spec h2 next tm ds g
  | never =>
    refine ⟨_, rfl, fun rec next tm ds g => ?_⟩
    rw [← hg, hgd]
    exact h2 _ _ _
  | on get want =>
    refine ⟨_, rfl, fun rec next tm ds g => ?_⟩
    rw [← hg, hgd]
    simp only [gdR]
    cases get tm with
    | none => rfl
    | some v =>
      simp only
      cases wantV want v g with
      | no w => rfl
      | ok b g =>
        cases b with
        | false => exact h2 _ _ _
        | true => simp only [h1]; exact finC_spec h2 next tm ds g
def seqC (P : Program) (ops : List Oper) (l : List Oper) : Bx Sc :=
  List.rec (motive := fun _ => Bx Sc) (.mk fun _ tm ds g => .fin .norm tm ds g)
    (fun o _ ih => Bx.rec (motive := fun _ => Bx Sc) (fun f => .mk fun rec => f rec fun tm ds g => Bx.rec (motive := fun _ => Res) (fun h => h rec tm ds g) ih) (stC P ops o)) l
theorem seqC_spec (P : Program) (ops : List Oper) (rec : Rec) : ∀ l, runSc (seqC P ops l) rec = evSeq rec P ops l
  | [] => rfl
  | o :: os => by
    obtain ⟨f, e, h⟩ := stC_spec P ops o
    funext tm ds g
    rw [evSeq_cons, ← h, ← seqC_spec P ops rec os]
    show runSc (Bx.rec (motive := fun _ => Bx Sc) (fun f => .mk fun rec => f rec fun tm ds g => Bx.rec (motive := fun _ => Res) (fun h => h rec tm ds g) (seqC P ops os)) (stC P ops o)) rec tm ds g = _
    rw [e]; rfl

/-! in any order -/
abbrev Pc := Rec → List Foot → Ts AV → G → Out (Ts AV × List Foot)
abbrev PutP := Ts AV → AV → (Ts AV → Out (Ts AV × List Foot)) → Out (Ts AV × List Foot)
def putPC (d : Option Tmp) : Bx PutP := Option.rec (motive := fun _ => Bx PutP) (.mk fun tm _ k => k tm)
  (fun d => Acc.rec (motive := fun _ => Bx PutP) (fun _ s => .mk fun tm v k => s (Out (Ts AV × List Foot)) tm v k) (acc AV d)) d
theorem putPC_spec (d : Option Tmp) : ∃ p, putPC d = .mk p ∧ ∀ tm v k, p tm v k = putK tm d v k := by
  cases d with
  | none => exact ⟨_, rfl, fun _ _ _ => rfl⟩
  | some d =>
    show ∃ p, (Acc.rec (motive := fun _ => Bx PutP) (fun _ s => .mk fun tm v k => s (Out (Ts AV × List Foot)) tm v k) (acc AV d)) = .mk p ∧ ∀ tm v k, p tm v k = Acc.rec (motive := fun _ => (Out (Ts AV × List Foot))) (fun _ s => s (Out (Ts AV × List Foot)) tm v k) (acc AV d)
    cases acc AV d with
    | mk g s => exact ⟨_, rfl, fun _ _ _ => rfl⟩
def bitsOf (m : Nat) : Nat → List Bool
  | 0 => []
  | i + 1 => m.testBit i :: bitsOf m i
def bitHd (m : Nat) (bs : List Bool) : Bool := List.rec (motive := fun _ => Bool) (m.testBit 0) (fun b _ _ => b) bs
def bitTl (bs : List Bool) : List Bool := List.rec (motive := fun _ => List Bool) [] (fun _ r _ => r) bs
def loopF (m : Nat) (log : List Tch) (fs : List Foot) : List Bool → Bool :=
  List.rec (motive := fun _ => List Bool → Bool) (fun _ => true)
    (fun f _ ih bs => Foot.rec (motive := fun _ => Bool) (fun _ _ lg => List.rec (motive := fun _ => Bool) (ih (bitTl bs))
      (fun _ _ _ => Bool.rec (motive := fun _ => Bool) (Bool.rec (motive := fun _ => Bool) false (ih (bitTl bs)) (logsApart lg log)) (ih (bitTl bs)) (bitHd m bs)) lg) f) fs
def footsF (m : Nat) (bs : List Bool) (log : List Tch) (fs : List Foot) : Bool :=
  List.rec (motive := fun _ => Bool) true (fun _ _ _ => loopF m log fs bs) log
theorem logsApart_nil' (a : List Tch) : logsApart a [] = true := by simp [logsApart]
theorem footsApart_nil (m : Nat) : ∀ (fs : List Foot) (i : Nat), footsApart m [] fs i = true
  | [], _ => rfl
  | f :: fs, i => by simp [footsApart, logsApart_nil', footsApart_nil m fs]
theorem loopF_spec (m : Nat) (log : List Tch) : ∀ (fs : List Foot) (i : Nat), loopF m log fs (bitsOf m i) = footsApart m log fs i
  | [], _ => rfl
  | f :: fs, i => by
    obtain ⟨lo, hi, lg⟩ := f
    have htl : bitTl (bitsOf m i) = bitsOf m (i - 1) := by cases i <;> rfl
    have hhd : bitHd m (bitsOf m i) = m.testBit (i - 1) := by cases i <;> rfl
    have ih := loopF_spec m log fs (i - 1)
    cases lg with
    | nil =>
      show loopF m log fs (bitTl (bitsOf m i)) = _
      rw [htl, ih]; simp [footsApart, logsApart]
    | cons t ts =>
      show Bool.rec (motive := fun _ => Bool) (Bool.rec (motive := fun _ => Bool) false (loopF m log fs (bitTl (bitsOf m i))) (logsApart (t :: ts) log)) (loopF m log fs (bitTl (bitsOf m i))) (bitHd m (bitsOf m i)) = _
      rw [htl, hhd, ih, footsApart]
      cases m.testBit (i - 1) <;> cases logsApart (t :: ts) log <;> simp
theorem footsF_spec (m : Nat) (i : Nat) (log : List Tch) (fs : List Foot) : footsF m (bitsOf m i) log fs = footsApart m log fs i := by
  cases log with
  | nil => exact (footsApart_nil m fs i).symm
  | cons t ts => exact loopF_spec m (t :: ts) fs i
abbrev NxP := List Foot → Ts AV → G → Out (Ts AV × List Foot)
def parV (m : Nat) (bs : List Bool) (put : PutP) (lo : Nat) (next : NxP) (fs : List Foot) (tm : Ts AV) (v : AV) (g : G) : Out (Ts AV × List Foot) :=
  G.rec (motive := fun _ => Out (Ts AV × List Foot)) (fun h nx l oc ob => Bool.rec (motive := fun _ => Out (Ts AV × List Foot)) (.no 152)
    (put tm v fun tm => next (⟨lo, nx, l⟩ :: fs) tm ⟨h, nx, l, oc, ob⟩) (footsF m bs l fs)) g
def parQ (rec : Rec) (m : Nat) (bs : List Bool) (put : PutP) (lo : Nat) (next : NxP) (fs : List Foot) (tm : Ts AV) (r : Out OpR) : Out (Ts AV × List Foot) :=
  Out.rec (motive := fun _ => Out (Ts AV × List Foot)) (fun q g => OpR.rec (motive := fun _ => Out (Ts AV × List Foot))
      (fun v => parV m bs put lo next fs tm v g)
      (fun _ => .no 154)
      (fun f args => Res.rec (motive := fun _ => Out (Ts AV × List Foot)) (fun w => .no w) (fun _ _ _ _ => .no 151) (fun v g => parV m bs put lo next fs tm v g) (fun _ _ => .no 154) (rec (.call f args) g))
      (fun _ _ => .no 155) q)
    (fun w => .no w) r
abbrev StpP := Rec → NxP → NxP
def parG (F : OpM) (p : PutP) (m : Nat) (bs : List Bool) (gd : Gd) : Bx StpP := Gd.rec (motive := fun _ => Bx StpP)
  (.mk fun rec next fs tm g => G.rec (motive := fun _ => Out (Ts AV × List Foot)) (fun h nx _ oc ob => parQ rec m bs p nx next fs tm (F tm ⟨h, nx, [], oc, ob⟩)) g)
  (.mk fun _ next fs tm g => G.rec (motive := fun _ => Out (Ts AV × List Foot)) (fun h nx _ oc ob => p tm (.tup []) fun tm => next (⟨nx, nx, []⟩ :: fs) tm ⟨h, nx, [], oc, ob⟩) g)
  (fun get want => .mk fun rec next fs tm g => G.rec (motive := fun _ => Out (Ts AV × List Foot)) (fun h nx _ oc ob => Option.rec (motive := fun _ => Out (Ts AV × List Foot)) (.no 150) (fun v =>
    Out.rec (motive := fun _ => Out (Ts AV × List Foot)) (fun b g => G.rec (motive := fun _ => Out (Ts AV × List Foot)) (fun h nx l oc ob =>
      Bool.rec (motive := fun _ => Out (Ts AV × List Foot)) (p tm (.tup []) fun tm => next (⟨nx, nx, l⟩ :: fs) tm ⟨h, nx, l, oc, ob⟩) (parQ rec m bs p nx next fs tm (F tm ⟨h, nx, l, oc, ob⟩)) b) g)
      (fun w => .no w) (wantV want v ⟨h, nx, [], oc, ob⟩)) (get tm)) g) gd
def parStC (P : Program) (ops : List Oper) (o : Oper) (m : Nat) (bs : List Bool) : Bx StpP :=
  Bx.rec (motive := fun _ => Bx StpP) (fun F => Bx.rec (motive := fun _ => Bx StpP) (fun p => parG F p m bs (gdC ops o)) (putPC o.dst)) (opF P o.op)
theorem parQ_spec {rec : Rec} {P : Program} {o : Oper} {p : PutP} {ms : List Nat} {i m : Nat} (hm : ms[i]? = some m) (hp : ∀ tm v k, p tm v k = putK tm o.dst v k) (next : NextP) (lo : Nat) (fs : List Foot) (tm : Ts AV) (g : G) :
    parQ rec m (bitsOf m i) p lo (next (i + 1)) fs tm (evOp P tm o.op g) = evParR ms o next i lo fs tm (runOp rec P o tm g) := by
  have hV : ∀ v g, parV m (bitsOf m i) p lo (next (i + 1)) fs tm v g = evParV ms o next i lo fs tm g (.val v) := by
    intro v g
    obtain ⟨h, nx, l, oc, ob⟩ := g
    simp only [evParV, hm, parV, footsF_spec]
    cases footsApart m l fs i with
    | false => rfl
    | true =>
      simp only [setFoot, hp, natK_eq]
  unfold runOp
  cases evOp P tm o.op g with
  | no w => rfl
  | ok q g =>
    cases q with
    | val v => exact hV v g
    | pan v => rfl
    | dfr f args => rfl
    | call f args =>
      simp only [parQ]
      cases rec (.call f args) g with
      | no w => rfl
      | fin => rfl
      | val v g => exact hV v g
      | pan v g => rfl
theorem parStC_spec (P : Program) (ops : List Oper) (o : Oper) {ms : List Nat} {i m : Nat} (hm : ms[i]? = some m) : ∃ f, parStC P ops o m (bitsOf m i) = .mk f ∧
    ∀ rec (next : NextP) fs tm g, f rec (next (i + 1)) fs tm g = evParW rec P ms o next i fs tm (wantedA ops o tm (noLog g)) := by
  obtain ⟨F, e1, h1⟩ := opF_spec P o.op
  obtain ⟨p, e2, h2⟩ := putPC_spec o.dst
  have hg := gdC_spec ops o
  unfold parStC; rw [e1, e2]
  simp only
  cases hgd : gdC ops o with
  | always =>
    refine ⟨_, rfl, fun rec next fs tm g => ?_⟩
    obtain ⟨h, nx, l, oc, ob⟩ := g
    rw [← hg, hgd]
    simp only [noLog, gdR, h1, M.pure, evParW]
    exact parQ_spec hm h2 next nx fs tm _
  | never =>
    refine ⟨_, rfl, fun rec next fs tm g => ?_⟩
    obtain ⟨h, nx, l, oc, ob⟩ := g
    rw [← hg, hgd]
    simp only [noLog, gdR, M.pure, evParW, setFoot, natK_eq]
    exact h2 _ _ _
  | on get want =>
    refine ⟨_, rfl, fun rec next fs tm g => ?_⟩
    obtain ⟨h, nx, l, oc, ob⟩ := g
    rw [← hg, hgd]
    simp only [noLog, gdR]
    cases get tm with
    | none => rfl
    | some v =>
      simp only
      cases wantV want v ⟨h, nx, [], oc, ob⟩ with
      | no w => rfl
      | ok b g1 =>
        obtain ⟨h, nx, l, oc, ob⟩ := g1
        cases b with
        | false => simp only [evParW, setFoot, natK_eq]; exact h2 _ _ _
        | true => simp only [evParW, h1]; exact parQ_spec hm h2 next nx fs tm _
def runPc (b : Bx Pc) (rec : Rec) : NxP := fun fs tm g => Bx.rec (motive := fun _ => Out (Ts AV × List Foot)) (fun f => f rec fs tm g) b
def parC (P : Program) (ops : List Oper) (ms : List Nat) (l : List Oper) : Nat → Bx Pc :=
  List.rec (motive := fun _ => Nat → Bx Pc) (fun _ => .mk fun _ fs tm g => .ok (tm, fs) g)
    (fun o _ ih i => Option.rec (motive := fun _ => Bx Pc) (.mk fun _ _ _ _ => .no 153)
      (fun m => Bx.rec (motive := fun _ => Bx Pc) (fun f => .mk fun rec => f rec fun fs tm g => Bx.rec (motive := fun _ => Out (Ts AV × List Foot)) (fun h => h rec fs tm g) (ih (Nat.add i (nat_lit 1)))) (parStC P ops o m (bitsOf m i))) ms[i]?) l
theorem parC_spec (P : Program) (ops : List Oper) (ms : List Nat) (rec : Rec) : ∀ (l : List Oper) (i : Nat), (∀ j, i ≤ j → j < i + l.length → ∃ m, ms[j]? = some m) → runPc (parC P ops ms l i) rec = fun fs tm g => evPar rec P ops ms l i fs tm g
  | [], _, _ => rfl
  | o :: os, i, hl => by
    obtain ⟨m, hm⟩ := hl i (Nat.le_refl _) (by simp)
    obtain ⟨f, e, h⟩ := parStC_spec P ops o hm
    have ih := parC_spec P ops ms rec os (i + 1) fun j h1 h2 => hl j (by omega) (by simp only [List.length_cons]; omega)
    funext fs tm g
    show runPc (Option.rec (motive := fun _ => Bx Pc) (.mk fun _ _ _ _ => .no 153)
      (fun m => Bx.rec (motive := fun _ => Bx Pc) (fun f => .mk fun rec => f rec fun fs tm g => Bx.rec (motive := fun _ => Out (Ts AV × List Foot)) (fun h => h rec fs tm g) (parC P ops ms os (i + 1))) (parStC P ops o m (bitsOf m i))) ms[i]?) rec fs tm g = evParW rec P ms o (evPar rec P ops ms os) i fs tm (wantedA ops o tm (noLog g))
    rw [hm]
    simp only
    rw [e, ← h]
    show f rec (runPc (parC P ops ms os (i + 1)) rec) fs tm g = _
    rw [ih]
end
end Go.Ev

namespace Go.Ev
open Go

/-! ### Branches that only reckon: both are reckoned, and joined -/
noncomputable section
/-- an operation that only reckons with whole numbers -/
def pureOp (tm : Ts AV) (op : Op) : Option AV := match op with
  | .move x => opnd tm x
  | .assign x => opnd tm x
  | .binOp op _ x y _ => match opnd tm x with
    | some a => match opnd tm y with
      | some b => match arith op a b with
        | some v => match concOf op a b v with
          | some _ => none
          | none => some v
        | none => none
      | none => none
    | none => none
  | .unOp op _ x => match opnd tm x with
    | some a => unA op a
    | none => none
  | _ => none
def pureOps : List Oper → Ts AV → Option (Ts AV)
  | [], tm => some tm
  | o :: os, tm => match o.guard with
    | none => match pureOp tm o.op with
      | some v => putK tm o.dst v fun tm => pureOps os tm
      | none => none
    | some _ => none
def pureC : Code → Ts AV → Option (Ts AV)
  | .skip, tm => some tm
  | .region _ ops draw, tm => match draw with
    | false => pureOps ops.toList tm
    | true => none
  | .seq a b, tm => match pureC a tm with
    | some tm => pureC b tm
    | none => none
  | _, _ => none
def dstsL : List Oper → List Tmp
  | [] => []
  | o :: os => match o.dst with
    | some d => d :: dstsL os
    | none => dstsL os
def dstsC : Code → List Tmp
  | .region _ ops _ => dstsL ops.toList
  | .seq a b => dstsC a ++ dstsC b
  | _ => []
/-- is the code of this kind? -/
def flatOp (o : Oper) : Bool := match o.guard with
  | none => match o.op with
    | .move _ => true
    | .assign _ => true
    | .binOp _ _ _ _ _ => true
    | .unOp _ _ _ => true
    | _ => false
  | some _ => false
def flatL : List Oper → Bool
  | [] => true
  | o :: os => flatOp o && flatL os
def flatC : Code → Bool
  | .skip => true
  | .region _ ops draw => match draw with
    | false => flatL ops.toList
    | true => false
  | .seq a b => flatC a && flatC b
  | _ => false
/-- what is read behind was there before, or was laid -/
theorem putK_get {tm : Ts AV} {d : Option Tmp} {v x : AV} {t : Nat} (h : (putK tm d v id).get t = some x) (hd : ∀ k, d = some k → t ≠ k) : tm.get t = some x := by
  cases d with
  | none => exact h
  | some k =>
    have h : (Ts.setK tm k v id).get t = some x := h
    rw [Ts.setK_eq] at h
    rcases Ts.get_set h with ⟨rfl, _⟩ | ⟨_, h⟩
    · exact absurd rfl (hd _ rfl)
    · exact h
theorem look_lay_keep {α : Type} (t : Ts α) (a b c a' b' c' : D8) (v x : α) (h : ¬ (a' = a ∧ b' = b ∧ c' = c)) (hx : look t a' b' c' = some x) : look (lay3 t a b c v) a' b' c' = some x := by
  unfold look at hx
  cases ht : t.at a' with
  | none => rw [ht] at hx; cases hx
  | some u =>
    rw [ht] at hx
    simp only at hx
    cases hu : u.at b' with
    | none => rw [hu] at hx; cases hx
    | some w =>
      rw [hu] at hx
      simp only at hx
      cases hw : w.at c' with
      | none => rw [hw] at hx; cases hx
      | some y =>
        rw [hw] at hx
        simp only at hx
        subst hx
        have n1 : t ≠ .e := fun e => by rw [e, at_e] at ht; cases ht
        have n2 : u ≠ .e := fun e => by rw [e, at_e] at hu; cases hu
        have n3 : w ≠ .e := fun e => by rw [e, at_e] at hw; cases hw
        unfold look lay3
        by_cases ha : a' = a
        · subst ha
          simp only [at_lay_same, ht, Option.getD_some]
          by_cases hb : b' = b
          · subst hb
            simp only [at_lay_same, hu, Option.getD_some]
            have hc : c' ≠ c := fun e => h ⟨rfl, rfl, e⟩
            rw [at_lay_ne _ _ _ _ _ hc]
            cases w with
            | e => exact absurd rfl n3
            | n => simp only [hw]
          · rw [at_lay_ne _ _ _ _ _ hb]
            cases u with
            | e => exact absurd rfl n2
            | n => simp only [hu, hw]
        · rw [at_lay_ne _ _ _ _ _ ha]
          cases t with
          | e => exact absurd rfl n1
          | n => simp only [ht, hu, hw]
theorem get_set_keep {α : Type} {t : Ts α} {n m : Nat} {v x : α} (hne : m ≠ n) (h : Ts.get t m = some x) : Ts.get (Ts.set t n v) m = some x := by
  unfold Ts.set Ts.setK acc
  unfold Ts.get acc at h ⊢
  cases hm : Nat.ble m 511 with
  | false => rw [hm] at h; cases h
  | true =>
    rw [hm] at h
    obtain ⟨gm, sm, em, hgm, _⟩ := accAt_spec (α := α) (dig (Nat.div m 64)) (dig (Nat.mod (Nat.div m 8) 8)) (dig (Nat.mod m 8))
    simp only [em, hgm] at h ⊢
    have hm' : m ≤ 511 := Nat.le_of_ble_eq_true hm
    cases hn : Nat.ble n 511 with
    | false => exact h
    | true =>
      obtain ⟨gn, sn, en, _, hsn⟩ := accAt_spec (α := α) (dig (Nat.div n 64)) (dig (Nat.mod (Nat.div n 8) 8)) (dig (Nat.mod n 8))
      simp only [en, hsn, id]
      have hn' : n ≤ 511 := Nat.le_of_ble_eq_true hn
      refine look_lay_keep _ _ _ _ _ _ _ _ _ ?_ h
      rintro ⟨h1, h2, h3⟩
      have q1 : m / 64 = n / 64 := dig_inj (by omega) (by omega) h1
      have q2 : m / 8 % 8 = n / 8 % 8 := dig_inj (by omega) (by omega) h2
      have q3 : m % 8 = n % 8 := dig_inj (by omega) (by omega) h3
      exact hne (by omega)
theorem putK_keep {tm : Ts AV} {d : Option Tmp} {v x : AV} {t : Nat} (h : tm.get t = some x) (hd : ∀ k, d = some k → t ≠ k) : (putK tm d v id).get t = some x := by
  cases d with
  | none => exact h
  | some k =>
    show (Ts.setK tm k v id).get t = some x
    rw [Ts.setK_eq]
    exact get_set_keep (hd _ rfl) h
theorem pureOps_keep : ∀ (l : List Oper) (tm tm' : Ts AV), pureOps l tm = some tm' → ∀ t x, t ∉ dstsL l → tm.get t = some x → tm'.get t = some x
  | [], tm, tm', h, t, x, _, hx => by simp only [pureOps] at h; injection h with h; subst h; exact hx
  | o :: os, tm, tm', h, t, x, hn, hx => by
    unfold pureOps at h
    split at h
    · split at h
      · rename_i v hv
        rw [putK_eq] at h
        have hn' : t ∉ dstsL os ∧ ∀ k, o.dst = some k → t ≠ k := by
          unfold dstsL at hn
          cases hd : o.dst with
          | none => rw [hd] at hn; exact ⟨hn, fun k hk => by cases hk⟩
          | some d =>
            rw [hd] at hn
            simp only [List.mem_cons, not_or] at hn
            exact ⟨hn.2, fun k hk => by injection hk with hk; subst hk; exact hn.1⟩
        exact pureOps_keep os _ tm' h t x hn'.1 (putK_keep hx hn'.2)
      · cases h
    · cases h
theorem pureC_keep : ∀ (c : Code) (tm tm' : Ts AV), pureC c tm = some tm' → ∀ t x, t ∉ dstsC c → tm.get t = some x → tm'.get t = some x
  | .skip, tm, tm', h, t, x, _, hx => by simp only [pureC] at h; injection h with h; subst h; exact hx
  | .region id ops draw, tm, tm', h, t, x, hn, hx => by
    simp only [pureC] at h
    cases draw with
    | true => cases h
    | false => exact pureOps_keep _ _ _ h t x hn hx
  | .seq a b, tm, tm', h, t, x, hn, hx => by
    simp only [pureC] at h
    cases ha : pureC a tm with
    | none => rw [ha] at h; cases h
    | some tm1 =>
      rw [ha] at h
      simp only [dstsC, List.mem_append, not_or] at hn
      exact pureC_keep b tm1 tm' h t x hn.2 (pureC_keep a tm tm1 ha t x hn.1 hx)
  | .cond .., _, _, h, _, _, _, _ => by simp [pureC] at h
  | .block .., _, _, h, _, _, _, _ => by simp [pureC] at h
  | .loop .., _, _, h, _, _, _, _ => by simp [pureC] at h
  | .rangeFunc .., _, _, h, _, _, _, _ => by simp [pureC] at h
  | .exit .., _, _, h, _, _, _, _ => by simp [pureC] at h
  | .scope .., _, _, h, _, _, _, _ => by simp [pureC] at h
  | .label .., _, _, h, _, _, _, _ => by simp [pureC] at h
  | .goto .., _, _, h, _, _, _, _ => by simp [pureC] at h
  | .ret, _, _, h, _, _, _, _ => by simp [pureC] at h
  | .refuse .., _, _, h, _, _, _, _ => by simp [pureC] at h
/-- two values, one of which it is -/
def joinV (s : Bool) (a b : AV) : Option AV := match a with
  | .int k n => match b with
    | .int k' m => match sameK k k' with
      | true => some (.sint k (Bool.rec (motive := fun _ => Int) m n s))
      | false => none
    | .sint k' m => match sameK k k' with
      | true => some (.sint k (Bool.rec (motive := fun _ => Int) m n s))
      | false => none
    | _ => none
  | .sint k n => match b with
    | .int k' m => match sameK k k' with
      | true => some (.sint k (Bool.rec (motive := fun _ => Int) m n s))
      | false => none
    | .sint k' m => match sameK k k' with
      | true => some (.sint k (Bool.rec (motive := fun _ => Int) m n s))
      | false => none
    | _ => none
  | _ => none
theorem joinV_true {σ : Sg} {a b v : AV} {V : Value} (h : joinV true a b = some v) (hv : VR σ a V) : VR σ v V := by
  unfold joinV at h
  cases a <;> simp only at h <;> first | (cases h; done) | skip
  all_goals
    cases b <;> simp only at h <;> first | (cases h; done) | skip
    all_goals
      split at h
      · injection h with h; subst h; cases hv; exact .sint _ _
      · cases h
theorem joinV_false {σ : Sg} {a b v : AV} {V : Value} (h : joinV false a b = some v) (hv : VR σ b V) : VR σ v V := by
  unfold joinV at h
  cases a <;> simp only at h <;> first | (cases h; done) | skip
  all_goals
    cases b <;> simp only at h <;> first | (cases h; done) | skip
    all_goals
      split at h
      · rename_i e
        have := sameK_eq e
        subst this
        injection h with h; subst h; cases hv; exact .sint _ _
      · cases h
/-- the slots that either branch laid: joined; a slot that one branch alone has, and that was empty before, is forgotten -/
def joinT (s : Bool) (tm tm1 tm2 : Ts AV) : List Tmp → Ts AV → Option (Ts AV)
  | [], acc => some acc
  | d :: ds, acc => match tm1.get d, tm2.get d with
    | some a, some b => match joinV s a b with
      | some v => Ts.setK acc d v fun acc => joinT s tm tm1 tm2 ds acc
      | none => none
    | _, _ => match tm.get d with
      | none => joinT s tm tm1 tm2 ds acc
      | some _ => none
theorem joinT_get {s : Bool} {tm tm1 tm2 : Ts AV} : ∀ (ds : List Tmp) (acc r : Ts AV), joinT s tm tm1 tm2 ds acc = some r → ∀ t x, r.get t = some x →
    (t ∈ ds ∧ ∃ a b, tm1.get t = some a ∧ tm2.get t = some b ∧ joinV s a b = some x) ∨ (acc.get t = some x ∧ (t ∈ ds → tm.get t = none))
  | [], acc, r, h, t, x, hx => by
    simp only [joinT] at h; injection h with h; subst h
    exact .inr ⟨hx, fun h => by cases h⟩
  | d :: ds, acc, r, h, t, x, hx => by
    unfold joinT at h
    split at h
    · rename_i a b ha hb
      split at h
      · rename_i v hv
        rw [Ts.setK_eq] at h
        rcases joinT_get ds _ r h t x hx with ⟨h1, h2⟩ | ⟨h1, h2⟩
        · exact .inl ⟨List.mem_cons_of_mem _ h1, h2⟩
        · rcases Ts.get_set h1 with ⟨rfl, rfl⟩ | ⟨hne, h3⟩
          · exact .inl ⟨List.mem_cons_self, a, b, ha, hb, hv⟩
          · refine .inr ⟨h3, fun hm => ?_⟩
            rcases List.mem_cons.1 hm with rfl | hm
            · exact absurd rfl hne
            · exact h2 hm
      · cases h
    · split at h
      · rename_i hn
        rcases joinT_get ds _ r h t x hx with ⟨h1, h2⟩ | ⟨h1, h2⟩
        · exact .inl ⟨List.mem_cons_of_mem _ h1, h2⟩
        · refine .inr ⟨h1, fun hm => ?_⟩
          rcases List.mem_cons.1 hm with rfl | hm
          · exact hn
          · exact h2 hm
      · cases h
def joinC (s : Bool) (a b : Code) (tm : Ts AV) : Option (Ts AV) := match pureC a tm with
  | some tm1 => match pureC b tm with
    | some tm2 => joinT s tm tm1 tm2 (dstsC a ++ dstsC b) tm
    | none => none
  | none => none
theorem joinC_spec {s : Bool} {a b : Code} {tm tm3 : Ts AV} (h : joinC s a b tm = some tm3) : ∃ tm1 tm2, pureC a tm = some tm1 ∧ pureC b tm = some tm2 ∧
    (s = true → ∀ σ tmps, TR σ tm1 tmps → TR σ tm3 tmps) ∧ (s = false → ∀ σ tmps, TR σ tm2 tmps → TR σ tm3 tmps) := by
  unfold joinC at h
  cases ha : pureC a tm with
  | none => rw [ha] at h; cases h
  | some tm1 =>
    rw [ha] at h
    cases hb : pureC b tm with
    | none => rw [hb] at h; cases h
    | some tm2 =>
      rw [hb] at h
      simp only at h
      refine ⟨tm1, tm2, rfl, rfl, fun hs σ tmps ht t x hx => ?_, fun hs σ tmps ht t x hx => ?_⟩
      · rcases joinT_get _ _ _ h t x hx with ⟨_, u, v, h1, h2, h3⟩ | ⟨h1, h2⟩
        · subst hs
          obtain ⟨V, e1, e2⟩ := ht t u h1
          exact ⟨V, e1, joinV_true h3 e2⟩
        · by_cases hm : t ∈ dstsC a ++ dstsC b
          · rw [h2 hm] at h1; cases h1
          · exact ht t x (pureC_keep a tm tm1 ha t x (fun h => hm (List.mem_append_left _ h)) h1)
      · rcases joinT_get _ _ _ h t x hx with ⟨_, u, v, h1, h2, h3⟩ | ⟨h1, h2⟩
        · subst hs
          obtain ⟨V, e1, e2⟩ := ht t v h2
          exact ⟨V, e1, joinV_false h3 e2⟩
        · by_cases hm : t ∈ dstsC a ++ dstsC b
          · rw [h2 hm] at h1; cases h1
          · exact ht t x (pureC_keep b tm tm2 hb t x (fun h => hm (List.mem_append_right _ h)) h1)
end
end Go.Ev

namespace Go.Ev
open Go

/-! ### A map's literal, laid in any order -/
structure Known where
  i : Nat
  d : Tmp
  v : AV
structure LitD where
  m : Tmp
  x : Tmp
  y : Tmp
  T : TypeId
  iM : Nat
  kn : List Known
  ins : List (Nat × AV × AV)
noncomputable section
def edgeTo (o : Oper) (j : Nat) : Bool := o.after.toList.any fun e => Nat.beq e.on j && Region.binds .any e
def knownT (o : Oper) (t : Tmp) : List Known → Option AV
  | [] => none
  | r :: rs => match Nat.beq r.d t with
    | true => match edgeTo o r.i with
      | true => some r.v
      | false => none
    | false => knownT o t rs
def knownV (o : Oper) (kn : List Known) (x : Operand) : Option AV := match x with
  | .const V => ofV 6 V
  | .tmp t => knownT o t kn
  | _ => none
def bldOf (P : Program) (o : Oper) : Option (Tmp × AV) := match o.guard with
  | some _ => none
  | none => match o.op with
    | .build t ps => match o.dst with
      | some d => match partsA .e ps.toList with
        | some qs => match buildA P t qs with
          | some v => some (d, v)
          | none => none
        | none => none
      | none => none
    | _ => none
def insOf (m : Tmp) (T : TypeId) (kn : List Known) (o : Oper) : Option (AV × AV) := match o.guard with
  | some _ => none
  | none => match o.dst with
    | some _ => none
    | none => match o.op with
      | .insert T' (.tmp m') k v => match Nat.beq m' m && (Nat.beq T' T && edgeTo o 0) with
        | true => match knownV o kn k with
          | some a => match knownV o kn v with
            | some b => some (a, b)
            | none => none
          | none => none
        | false => none
      | _ => none
def lastOf (m : Tmp) (T : TypeId) (oM oA : Oper) (i : Nat) (kn : List Known) (ins : List (Nat × AV × AV)) : Option LitD := match oM.guard with
  | some _ => none
  | none => match oA.guard with
    | some _ => none
    | none => match oM.op with
      | .move (.tmp m') => match oA.op with
        | .assign (.tmp x') => match oM.dst with
          | some x => match oA.dst with
            | some y => match (Nat.beq m' m && Nat.beq x' x) && ((edgeTo oM 0 && edgeTo oA i) && ins.all fun q => edgeTo oM q.1) with
              | true => some ⟨m, x, y, T, i, kn, ins⟩
              | false => none
            | none => none
          | none => none
        | _ => none
      | _ => none
def scan (P : Program) (m : Tmp) (T : TypeId) : List Oper → Nat → List Known → List (Nat × AV × AV) → Option LitD
  | [], _, _, _ => none
  | [_], _, _, _ => none
  | o :: o' :: os, i, kn, ins => match bldOf P o with
    | some dv => scan P m T (o' :: os) (i + 1) (⟨i, dv.1, dv.2⟩ :: kn) ins
    | none => match insOf m T kn o with
      | some kv => scan P m T (o' :: os) (i + 1) kn ((i, kv.1, kv.2) :: ins)
      | none => match os with
        | [] => lastOf m T o o' i kn ins
        | _ => none

/-! what the look tells -/
def KV (o : Oper) (kn : List Known) (x : Operand) (a : AV) : Prop := (∃ V, x = .const V ∧ ofV 6 V = some a) ∨ ∃ r ∈ kn, x = .tmp r.d ∧ r.v = a ∧ edgeTo o r.i = true
theorem knownT_spec {o : Oper} {t : Tmp} {a : AV} : ∀ {kn : List Known}, knownT o t kn = some a → ∃ r ∈ kn, t = r.d ∧ r.v = a ∧ edgeTo o r.i = true
  | r :: rs, h => by
    unfold knownT at h
    split at h
    · rename_i hb
      split at h
      · rename_i he
        injection h with h
        exact ⟨r, List.mem_cons_self, (of_beq hb).symm, h, he⟩
      · cases h
    · obtain ⟨r', h1, h2⟩ := knownT_spec h
      exact ⟨r', List.mem_cons_of_mem _ h1, h2⟩
theorem knownV_spec {o : Oper} {kn : List Known} {x : Operand} {a : AV} (h : knownV o kn x = some a) : KV o kn x a := by
  cases x <;> simp only [knownV] at h <;> first | (cases h; done) | skip
  · obtain ⟨r, h1, h2, h3, h4⟩ := knownT_spec h
    exact .inr ⟨r, h1, by rw [h2], h3, h4⟩
  · exact .inl ⟨_, rfl, h⟩
theorem KV.mono {o : Oper} {kn kn' : List Known} {x : Operand} {a : AV} (hs : ∀ r ∈ kn, r ∈ kn') (h : KV o kn x a) : KV o kn' x a := by
  rcases h with h | ⟨r, h1, h2⟩
  · exact .inl h
  · exact .inr ⟨r, hs r h1, h2⟩
structure IsBld (P : Program) (o : Oper) (d : Tmp) (v : AV) : Prop where
  guard : o.guard = none
  dst : o.dst = some d
  op : ∃ t ps qs, o.op = .build t ps ∧ partsA .e ps.toList = some qs ∧ buildA P t qs = some v
structure IsIns (D : LitD) (o : Oper) (k v : AV) : Prop where
  guard : o.guard = none
  dst : o.dst = none
  e0 : edgeTo o 0 = true
  op : ∃ ko vo, o.op = .insert D.T (.tmp D.m) ko vo ∧ KV o D.kn ko k ∧ KV o D.kn vo v
structure IsMov (D : LitD) (o : Oper) : Prop where
  guard : o.guard = none
  dst : o.dst = some D.x
  op : o.op = .move (.tmp D.m)
  e0 : edgeTo o 0 = true
  es : ∀ q ∈ D.ins, edgeTo o q.1 = true
structure IsAsg (D : LitD) (o : Oper) : Prop where
  guard : o.guard = none
  dst : o.dst = some D.y
  op : o.op = .assign (.tmp D.x)
  eM : edgeTo o D.iM = true
theorem bldOf_spec {P : Program} {o : Oper} {dv : Tmp × AV} (h : bldOf P o = some dv) : IsBld P o dv.1 dv.2 := by
  unfold bldOf at h
  split at h
  · cases h
  · rename_i hg
    split at h
    · rename_i t ps ho
      split at h
      · rename_i d hd
        split at h
        · rename_i qs hq
          split at h
          · rename_i v hv
            injection h with h; subst h
            exact ⟨hg, hd, t, ps, qs, ho, hq, hv⟩
          · cases h
        · cases h
      · cases h
    · cases h
theorem insOf_spec {D : LitD} {kn : List Known} {o : Oper} {kv : AV × AV} (h : insOf D.m D.T kn o = some kv) (hs : ∀ r ∈ kn, r ∈ D.kn) : IsIns D o kv.1 kv.2 := by
  unfold insOf at h
  split at h
  · cases h
  · rename_i hg
    split at h
    · cases h
    · rename_i hd
      split at h
      · rename_i T' m' k v ho
        split at h
        · rename_i hb
          simp only [Bool.and_eq_true] at hb
          obtain ⟨h1, h2, h3⟩ := hb
          have h1 := of_beq h1; have h2 := of_beq h2
          subst h1; subst h2
          split at h
          · rename_i a ha
            split at h
            · rename_i b hb
              injection h with h; subst h
              exact ⟨hg, hd, h3, k, v, ho, (knownV_spec ha).mono hs, (knownV_spec hb).mono hs⟩
            · cases h
          · cases h
        · cases h
      · cases h
/-- what every row of the rest is; what was known stays known -/
def RowOk (P : Program) (D : LitD) (k : Nat) (o : Oper) : Prop :=
  (∃ d v, (⟨k, d, v⟩ : Known) ∈ D.kn ∧ IsBld P o d v) ∨ (∃ a b, (k, a, b) ∈ D.ins ∧ IsIns D o a b) ∨ (k = D.iM ∧ IsMov D o) ∨ (k = D.iM + 1 ∧ IsAsg D o)
theorem lastOf_spec {m : Tmp} {T : TypeId} {oM oA : Oper} {i : Nat} {kn : List Known} {ins : List (Nat × AV × AV)} {D : LitD} (h : lastOf m T oM oA i kn ins = some D) :
    D.m = m ∧ D.T = T ∧ D.kn = kn ∧ D.ins = ins ∧ D.iM = i ∧ IsMov D oM ∧ IsAsg D oA := by
  unfold lastOf at h
  split at h
  · cases h
  · rename_i g1
    split at h
    · cases h
    · rename_i g2
      split at h
      · rename_i m' o1
        split at h
        · rename_i x' o2
          split at h
          · rename_i x d1
            split at h
            · rename_i y d2
              split at h
              · rename_i hb
                injection h with h; subst h
                simp only [Bool.and_eq_true, List.all_eq_true] at hb
                obtain ⟨⟨b1, b2⟩, ⟨b3, b4⟩, b5⟩ := hb
                have b1 := of_beq b1; have b2 := of_beq b2
                subst b1; subst b2
                exact ⟨rfl, rfl, rfl, rfl, rfl, ⟨g1, d1, o1, b3, fun q hq => b5 q hq⟩, ⟨g2, d2, o2, b4⟩⟩
              · cases h
            · cases h
          · cases h
        · cases h
      · cases h
theorem scan_spec {P : Program} {m : Tmp} {T : TypeId} {D : LitD} : ∀ (l : List Oper) (i : Nat) (kn : List Known) (ins : List (Nat × AV × AV)), scan P m T l i kn ins = some D →
    D.m = m ∧ D.T = T ∧ (∀ r ∈ kn, r ∈ D.kn) ∧ (∀ q ∈ ins, q ∈ D.ins) ∧ (∀ j o, l[j]? = some o → RowOk P D (i + j) o) ∧
    (∀ r ∈ D.kn, r ∈ kn ∨ ∃ j o, l[j]? = some o ∧ r.i = i + j ∧ IsBld P o r.d r.v) ∧ (∀ q ∈ D.ins, q ∈ ins ∨ ∃ j o, l[j]? = some o ∧ q.1 = i + j ∧ IsIns D o q.2.1 q.2.2) ∧ i ≤ D.iM ∧ D.iM + 2 = i + l.length ∧
    (∃ o j, l[j]? = some o ∧ D.iM = i + j ∧ IsMov D o) ∧ (∃ o j, l[j]? = some o ∧ D.iM + 1 = i + j ∧ IsAsg D o)
  | [], _, _, _, h => by simp [scan] at h
  | [_], _, _, _, h => by simp [scan] at h
  | o :: o' :: os, i, kn, ins, h => by
    unfold scan at h
    cases hb : bldOf P o with
    | some dv =>
      rw [hb] at h
      obtain ⟨a1, a2, a3, a4, a5, a6, a7, a8, a9, ⟨pM, jM, b1, b2, b3⟩, ⟨pA, jA, c1, c2, c3⟩⟩ := scan_spec (o' :: os) (i + 1) _ ins h
      refine ⟨a1, a2, fun r hr => a3 r (List.mem_cons_of_mem _ hr), a4, fun j p hp => ?_, fun r hr => ?_, fun q hq => ?_, by omega, by simp only [List.length_cons] at a9 ⊢; omega, ⟨pM, jM + 1, by simpa using b1, by omega, b3⟩, ⟨pA, jA + 1, by simpa using c1, by omega, c3⟩⟩
      · cases j with
        | zero => simp at hp; subst hp; exact .inl ⟨dv.1, dv.2, a3 _ List.mem_cons_self, bldOf_spec hb⟩
        | succ j => have := a5 j p (by simpa using hp); rw [show i + 1 + j = i + (j + 1) from by omega] at this; exact this
      · rcases a6 r hr with h1 | ⟨j, p, h1, h2, h3⟩
        · rcases List.mem_cons.1 h1 with rfl | h1
          · exact .inr ⟨0, o, rfl, rfl, bldOf_spec hb⟩
          · exact .inl h1
        · exact .inr ⟨j + 1, p, by simpa using h1, by omega, h3⟩
      · rcases a7 q hq with h1 | ⟨j, p, h1, h2, h3⟩
        · exact .inl h1
        · exact .inr ⟨j + 1, p, by simpa using h1, by omega, h3⟩
    | none =>
      rw [hb] at h
      cases hi : insOf m T kn o with
      | some kv =>
        rw [hi] at h
        obtain ⟨a1, a2, a3, a4, a5, a6, a7, a8, a9, ⟨pM, jM, b1, b2, b3⟩, ⟨pA, jA, c1, c2, c3⟩⟩ := scan_spec (o' :: os) (i + 1) kn _ h
        have hio : IsIns D o kv.1 kv.2 := insOf_spec (D := D) (by rw [a1, a2]; exact hi) a3
        refine ⟨a1, a2, a3, fun q hq => a4 q (List.mem_cons_of_mem _ hq), fun j p hp => ?_, fun r hr => ?_, fun q hq => ?_, by omega, by simp only [List.length_cons] at a9 ⊢; omega, ⟨pM, jM + 1, by simpa using b1, by omega, b3⟩, ⟨pA, jA + 1, by simpa using c1, by omega, c3⟩⟩
        · cases j with
          | zero => simp at hp; subst hp; exact .inr (.inl ⟨kv.1, kv.2, a4 _ List.mem_cons_self, hio⟩)
          | succ j => have := a5 j p (by simpa using hp); rw [show i + 1 + j = i + (j + 1) from by omega] at this; exact this
        · rcases a6 r hr with h1 | ⟨j, p, h1, h2, h3⟩
          · exact .inl h1
          · exact .inr ⟨j + 1, p, by simpa using h1, by omega, h3⟩
        · rcases a7 q hq with h1 | ⟨j, p, h1, h2, h3⟩
          · rcases List.mem_cons.1 h1 with rfl | h1
            · exact .inr ⟨0, o, rfl, rfl, hio⟩
            · exact .inl h1
          · exact .inr ⟨j + 1, p, by simpa using h1, by omega, h3⟩
      | none =>
        rw [hi] at h
        cases os with
        | cons p ps => cases h
        | nil =>
          obtain ⟨a1, a2, a3, a4, a5, a6, a7⟩ := lastOf_spec h
          refine ⟨a1, a2, fun r hr => by rw [a3]; exact hr, fun q hq => by rw [a4]; exact hq, fun j p hp => ?_, fun r hr => .inl (by rw [a3] at hr; exact hr), fun q hq => .inl (by rw [a4] at hq; exact hq), by omega, by simp; omega, ⟨o, 0, rfl, by omega, a6⟩, ⟨o', 1, rfl, by omega, a7⟩⟩
          match j, hp with
          | 0, hp => simp at hp; subst hp; exact .inr (.inr (.inl ⟨by omega, a6⟩))
          | 1, hp => simp at hp; subst hp; exact .inr (.inr (.inr ⟨by omega, a7⟩))
          | j + 2, hp => simp at hp

/-! the whole look -/
def neK (P : Program) (kt : TypeId) (a b : AV) : Bool := match aeq P .lf 12 kt a b with
  | some r => !r.sym && !r.b
  | none => false
def pairOk (P : Program) (kt : TypeId) : List (Nat × AV × AV) → Bool
  | [] => true
  | q :: qs => (qs.all fun q' => neK P kt q.2.1 q'.2.1 && neK P kt q'.2.1 q.2.1) && pairOk P kt qs
def keyOk (fs : List Field) (q : Nat × AV × AV) : Bool := match q.2.1 with
  | .agg cs => partsOk cs fs
  | _ => false
def noTmp (t : Nat) : List Nat → Bool
  | [] => true
  | u :: us => !(Nat.beq t u) && noTmp t us
def tmpsApart : List Nat → Bool
  | [] => true
  | t :: ts => noTmp t ts && tmpsApart ts
def litG (P : Program) (D : LitD) : Bool := match mapAgg P D.T with
  | some (kt, _, fs) => (tmpsApart (D.m :: D.x :: D.y :: D.kn.map (·.d)) && tmpsApart (D.ins.map (·.1))) && (pairOk P kt D.ins && D.ins.all (keyOk fs))
  | none => false
def litOf (P : Program) (ops : List Oper) : Option LitD := match ops with
  | [] => none
  | o :: os => match o.guard with
    | some _ => none
    | none => match o.dst with
      | none => none
      | some m => match o.op with
        | .makeMap T none => match scan P m T os 1 [] [] with
          | some D => match litG P D with
            | true => some D
            | false => none
          | none => none
        | _ => none
structure LitH (P : Program) (ops : Array Oper) (D : LitD) (kt e : TypeId) (fa : Array Field) : Prop where
  o0 : ∃ o, ops[0]? = some o ∧ o.guard = none ∧ o.op = .makeMap D.T none ∧ o.dst = some D.m
  row : ∀ k o, 1 ≤ k → ops[k]? = some o → RowOk P D k o
  kn : ∀ r ∈ D.kn, 1 ≤ r.i ∧ ∃ o, ops[r.i]? = some o ∧ IsBld P o r.d r.v
  ins : ∀ q ∈ D.ins, 1 ≤ q.1 ∧ ∃ o, ops[q.1]? = some o ∧ IsIns D o q.2.1 q.2.2
  iM : 1 ≤ D.iM ∧ D.iM + 2 = ops.size
  mov : ∃ o, ops[D.iM]? = some o ∧ IsMov D o
  asg : ∃ o, ops[D.iM + 1]? = some o ∧ IsAsg D o
  mapT : P.underlying D.T = some (.map kt e)
  keyT : P.underlying kt = some (.struct fa)
  plain : allPlain P fa.toList = true
  tmps : tmpsApart (D.m :: D.x :: D.y :: D.kn.map (·.d)) = true
  idx : tmpsApart (D.ins.map (·.1)) = true
  ne : pairOk P kt D.ins = true
  keys : ∀ q ∈ D.ins, ∃ cs, q.2.1 = .agg cs ∧ partsOk cs fa.toList = true
theorem litOf_spec {P : Program} {ops : Array Oper} {D : LitD} (h : litOf P ops.toList = some D) : ∃ kt e fa, LitH P ops D kt e fa := by
  unfold litOf at h
  split at h
  · cases h
  · rename_i o os hl
    split at h
    · cases h
    · rename_i hg
      split at h
      · cases h
      · rename_i m hd
        split at h
        · rename_i T ho
          split at h
          · rename_i D' hs
            split at h
            · rename_i hG
              injection h with h; subst h
              obtain ⟨a1, a2, a3, a4, a5, a6, a7, a8, a9, ⟨pM, jM, b1, b2, b3⟩, ⟨pA, jA, c1, c2, c3⟩⟩ := scan_spec os 1 [] [] hs
              unfold litG at hG
              split at hG
              · rename_i kt e fs hm
                obtain ⟨hu, fa, hk, rfl, hall⟩ := mapAgg_some hm
                simp only [Bool.and_eq_true, List.all_eq_true] at hG
                obtain ⟨⟨g1, g2⟩, g3, g4⟩ := hG
                have hat : ∀ j, ops[j + 1]? = os[j]? := fun j => by rw [← Array.getElem?_toList, hl]; simp
                have hsz : ops.size = os.length + 1 := by rw [← Array.length_toList, hl]; rfl
                refine ⟨kt, e, fa, ⟨o, by rw [← Array.getElem?_toList, hl]; rfl, hg, by rw [ho, a2], by rw [hd, a1]⟩, fun k p hk1 hp => ?_, fun r hr => ?_, fun q hq => ?_, ⟨a8, by omega⟩, ⟨pM, by rw [b2, Nat.add_comm, hat]; exact b1, b3⟩, ⟨pA, by rw [c2, Nat.add_comm, hat]; exact c1, c3⟩, hu, hk, hall, g1, g2, g3, fun q hq => ?_⟩
                · obtain ⟨j, rfl⟩ : ∃ j, k = 1 + j := ⟨k - 1, by omega⟩
                  exact a5 j p (by rw [← hat, Nat.add_comm]; exact hp)
                · rcases a6 r hr with h1 | ⟨j, p, h1, h2, h3⟩
                  · cases h1
                  · exact ⟨by omega, p, by rw [h2, Nat.add_comm, hat]; exact h1, h3⟩
                · rcases a7 q hq with h1 | ⟨j, p, h1, h2, h3⟩
                  · cases h1
                  · exact ⟨by omega, p, by rw [h2, Nat.add_comm, hat]; exact h1, h3⟩
                · have := g4 q hq
                  unfold keyOk at this
                  split at this
                  · rename_i cs e; exact ⟨cs, e, this⟩
                  · cases this
              · cases hG
            · cases h
          · cases h
        · cases h
theorem noTmp_spec {t : Nat} : ∀ {l : List Nat}, noTmp t l = true → ∀ u ∈ l, t ≠ u
  | v :: us, h, u, hu => by
    simp only [noTmp, Bool.and_eq_true, Bool.not_eq_true'] at h
    rcases List.mem_cons.1 hu with rfl | hu
    · exact of_beqf h.1
    · exact noTmp_spec h.2 u hu
theorem tmpsApart_map {α : Type} {f : α → Nat} : ∀ {l : List α}, tmpsApart (l.map f) = true → ∀ x ∈ l, ∀ y ∈ l, f x = f y → x = y
  | a :: l, h, x, hx, y, hy, e => by
    simp only [List.map_cons, tmpsApart, Bool.and_eq_true] at h
    rcases List.mem_cons.1 hx with rfl | hx' <;> rcases List.mem_cons.1 hy with rfl | hy'
    · rfl
    · exact absurd e (noTmp_spec h.1 _ (List.mem_map_of_mem hy'))
    · exact absurd e.symm (noTmp_spec h.1 _ (List.mem_map_of_mem hx'))
    · exact tmpsApart_map h.2 x hx' y hy' e
theorem tmpsApart_nodup {α : Type} {f : α → Nat} : ∀ {l : List α}, tmpsApart (l.map f) = true → l.Nodup
  | [], _ => List.nodup_nil
  | a :: l, h => by
    simp only [List.map_cons, tmpsApart, Bool.and_eq_true] at h
    exact List.nodup_cons.2 ⟨fun hm => noTmp_spec h.1 _ (List.mem_map_of_mem hm) rfl, tmpsApart_nodup h.2⟩
theorem pairOk_spec {P : Program} {kt : TypeId} : ∀ {l : List (Nat × AV × AV)}, pairOk P kt l = true → ∀ q ∈ l, ∀ q' ∈ l, q.1 ≠ q'.1 → neK P kt q.2.1 q'.2.1 = true
  | a :: l, h, q, hq, q', hq', hne => by
    simp only [pairOk, Bool.and_eq_true, List.all_eq_true] at h
    rcases List.mem_cons.1 hq with rfl | hq2 <;> rcases List.mem_cons.1 hq' with rfl | hq3
    · exact absurd rfl hne
    · exact (h.1 q' hq3).1
    · exact (h.1 q hq2).2
    · exact pairOk_spec h.2 q hq2 q' hq3 hne
theorem neK_sound {P : Program} {σ : Sg} {w : World} {kt : TypeId} {a b : AV} {A B : Value} (h : neK P kt a b = true) (ha : VR σ a A) (hb : VR σ b B) : (Op.equal kt A B).run P w = .ok false w := by
  unfold neK at h
  split at h
  · rename_i r hr
    simp only [Bool.and_eq_true, Bool.not_eq_true'] at h
    have := aeq_sound (relEmpty P σ w) 12 10000 kt a b r A B (by omega) hr ha hb fun _ _ => ⟨0, trivial⟩
    rw [h.2] at this; exact this
  · cases h
/-- the entries of a map, in another order of the list -/
theorem MRs.perm {σ : Sg} {es es' : List (AV × AV)} (h : List.Perm es es') : ∀ {Es : List MapEntry}, MRs σ es Es → ∃ Es', List.Perm Es' Es ∧ MRs σ es' Es' := by
  induction h with
  | nil => intro Es hm; exact ⟨Es, .refl _, hm⟩
  | cons x _ ih =>
    intro Es hm
    cases Es with
    | nil => cases hm
    | cons E Es =>
      obtain ⟨k, v⟩ := x
      obtain ⟨Es', h1, h2⟩ := ih hm.2.2
      exact ⟨E :: Es', h1.cons E, hm.1, hm.2.1, h2⟩
  | swap x y l =>
    intro Es hm
    obtain ⟨k, v⟩ := x
    obtain ⟨k', v'⟩ := y
    match Es, hm with
    | E :: F :: Es, ⟨a, b, c, d, e⟩ => exact ⟨F :: E :: Es, .swap E F Es, c, d, a, b, e⟩
  | trans _ _ ih1 ih2 =>
    intro Es hm
    obtain ⟨E1, p1, m1⟩ := ih1 hm
    obtain ⟨E2, p2, m2⟩ := ih2 m1
    exact ⟨E2, p2.trans p1, m2⟩
end
end Go.Ev

namespace Go.Ev
open Go

/-! ### The walk through a map's literal: what holds behind any of its rows -/
section
variable {P : Program} {ops : Array Oper} {D : LitD} {kt e : TypeId} {fa : Array Field}
theorem put_at {a : Act} {d : Tmp} {V : Value} (h : d < a.tmps.size) : (a.put (some d) V).tmps[d]? = some V := by simp [Act.put, h]
theorem put_ne {a : Act} {d t : Tmp} {V : Value} (h : t ≠ d) : (a.put (some d) V).tmps[t]? = a.tmps[t]? := by
  simp only [Act.put]; rw [Array.getElem?_setIfInBounds_ne (fun e => h e.symm)]
theorem eval_tmp {a : Act} {t : Tmp} {V : Value} (h : a.tmps[t]? = some V) : a.eval (.tmp t) = V := by simp [Act.eval, h]
theorem replaced_pushed (w : World) (o o' : Obj) : replaced (pushed w o) w.heap.size o' = pushed w o' := by
  unfold replaced pushed
  congr 1
  apply Array.ext_getElem?
  intro i
  rw [Array.getElem?_setIfInBounds]
  by_cases h : w.heap.size = i
  · subst h; simp
  · rw [if_neg h]
    simp only [Array.getElem?_push]
    rw [if_neg (fun e => h e.symm), if_neg (fun e => h e.symm)]
theorem MRs_mem {σ : Sg} : ∀ {es : List (AV × AV)} {Es : List MapEntry}, MRs σ es Es → ∀ E ∈ Es, ∃ p ∈ es, VR σ p.1 E.key
  | [], [], _, E, h => by cases h
  | (k, v) :: es, F :: Es, ⟨a, _, c⟩, E, h => by
    rcases List.mem_cons.1 h with rfl | h
    · exact ⟨(k, v), List.mem_cons_self, a⟩
    · obtain ⟨p, h1, h2⟩ := MRs_mem c E h
      exact ⟨p, List.mem_cons_of_mem _ h1, h2⟩
  | [], _ :: _, h, _, _ => by cases h
  | _ :: _, [], h, _, _ => by cases h
def σN : Sg := fun _ => none
structure LInv (D : LitD) (w0 : World) (a0 : Act) (listed : Array Bool) (a : Act) (w : World) : Prop where
  sz : a.tmps.size = a0.tmps.size
  df : a.defers = a0.defers
  kp : ∀ t, t ≠ D.m → t ≠ D.x → t ≠ D.y → (∀ r ∈ D.kn, t ≠ r.d) → a.tmps[t]? = a0.tmps[t]?
  bl : ∀ r ∈ D.kn, listed.getD r.i false = true → ∃ V, a.tmps[r.d]? = some V ∧ VR σN r.v V
  h0 : listed.getD 0 false = false → w = w0 ∧ ∀ q ∈ D.ins, listed.getD q.1 false = false
  h1 : listed.getD 0 false = true → a.tmps[D.m]? = some (.map (some w0.heap.size)) ∧ ∃ (Es : Array MapEntry) (cl : Nat) (sel : List (Nat × AV × AV)), w = pushed w0 (.map Es cl) ∧ sel.Nodup ∧ (∀ q, q ∈ sel ↔ q ∈ D.ins ∧ listed.getD q.1 false = true) ∧ MRs σN (sel.map (·.2)) Es.toList
  mv : listed.getD D.iM false = true → a.tmps[D.x]? = some (.map (some w0.heap.size))
  as : listed.getD (D.iM + 1) false = true → a.tmps[D.y]? = some (.map (some w0.heap.size))
theorem LitH.slots (H : LitH P ops D kt e fa) : D.m ≠ D.x ∧ D.m ≠ D.y ∧ D.x ≠ D.y ∧ (∀ r ∈ D.kn, D.m ≠ r.d ∧ D.x ≠ r.d ∧ D.y ≠ r.d) ∧ ∀ r ∈ D.kn, ∀ r' ∈ D.kn, r.d = r'.d → r = r' := by
  have h := H.tmps
  simp only [tmpsApart, Bool.and_eq_true] at h
  obtain ⟨h1, h2, h3, h4⟩ := h
  have k1 := noTmp_spec h1; have k2 := noTmp_spec h2; have k3 := noTmp_spec h3
  refine ⟨k1 _ (by simp), k1 _ (by simp), k2 _ (by simp), fun r hr => ?_, tmpsApart_map h4⟩
  have hm : r.d ∈ D.kn.map (·.d) := List.mem_map_of_mem hr
  exact ⟨k1 _ (by simp [hm]), k2 _ (by simp [hm]), k3 _ hm⟩
theorem edgeTo_listed {o : Oper} {j : Nat} {listed : Array Bool} (h : edgeTo o j = true) (hes : ∀ e ∈ o.after, Region.binds .any e = true → listed.getD e.on false = true) : listed.getD j false = true := by
  unfold edgeTo at h
  rw [List.any_eq_true] at h
  obtain ⟨e, he, hb⟩ := h
  simp only [Bool.and_eq_true] at hb
  have := hes e (by simpa using he) hb.2
  rw [← of_beq hb.1]; exact this
theorem KV.sound {w0 : World} {a0 : Act} {listed : Array Bool} {a : Act} {w : World} {o : Oper} {x : Operand} {v : AV} (h : KV o D.kn x v) (I : LInv D w0 a0 listed a w) (hes : ∀ e ∈ o.after, Region.binds .any e = true → listed.getD e.on false = true) :
    VR σN v (a.eval x) := by
  rcases h with ⟨V, rfl, hv⟩ | ⟨r, hr, rfl, rfl, he⟩
  · exact ofV_sound σN 6 V v hv
  · obtain ⟨V, h1, h2⟩ := I.bl r hr (edgeTo_listed he hes)
    rw [eval_tmp h1]; exact h2
theorem lit_step {Q : Exit → Act → World → Prop} (H : LitH P ops D kt e fa) {w0 : World} {a0 : Act} {listed : Array Bool} {a : Act} {w : World} {i N : Nat} (hs : listed.size = ops.size) (I : LInv D w0 a0 listed a w) (hi : i ∈ Region.ready .any ops listed)
    (hin : opsIn N ops.toList = true) (hN : N ≤ a0.tmps.size) : wpOp P ops Q i (LInv D w0 a0 (listed.setIfInBounds i true)) a w := by
  obtain ⟨hl0, o, ho, hes⟩ := mem_ready.1 hi
  have hlt := (Array.getElem?_eq_some_iff.1 ho).1
  have hlt' : i < listed.size := by omega
  have hno : listed.getD i false = false := by simp [hlt'] at hl0 ⊢; exact hl0
  have hset : ∀ j, (listed.setIfInBounds i true).getD j false = if j = i then true else listed.getD j false := fun j => getD_set listed i j false hlt'
  have hsne : ∀ j, j ≠ i → (listed.setIfInBounds i true).getD j false = listed.getD j false := fun j hj => by rw [hset, if_neg hj]
  have hsi : (listed.setIfInBounds i true).getD i false = true := by rw [hset, if_pos rfl]
  have hdst : ∀ k, o.dst = some k → k < a.tmps.size := fun k hk => by
    have h9 : k < N := opsIn_mem hin o (by rw [Array.mem_toList_iff]; exact Array.mem_of_getElem? ho) k hk
    rw [I.sz]; exact Nat.lt_of_lt_of_le h9 hN
  obtain ⟨n1, n2, n3, n4, n5⟩ := H.slots
  unfold wpOp
  rw [ho]
  simp only
  by_cases hi0 : i = 0
  · subst hi0
    obtain ⟨o', ho', hg, hop, hd⟩ := H.o0
    rw [ho] at ho'; injection ho' with ho'; subst ho'
    have hw : Region.wanted o (yielded ops a.tmps) = true := by simp [Region.wanted, hg]
    rw [hw]
    simp only [if_true]
    refine .inl ?_
    obtain ⟨rfl, hq0⟩ := I.h0 hno
    have hx : (execOp a.eval o).run P w = .ok (.value (.map (some w.heap.size))) (pushed w (.map #[] 0)) := by simp [execOp, hop, Instr.makeMap, pushed]
    unfold Oper.wp
    rw [hx, Oper.upon_value, hd]
    show LInv D w a0 _ (a.put (some D.m) (.map (some w.heap.size))) (pushed w (.map #[] 0))
    refine ⟨by rw [put_size]; exact I.sz, by rw [put_defers]; exact I.df, fun t t1 t2 t3 t4 => by rw [put_ne t1]; exact I.kp t t1 t2 t3 t4, fun r hr hl => ?_, fun h => (by rw [hsi] at h; cases h), fun _ => ⟨put_at (hdst _ hd), #[], 0, [], rfl, List.nodup_nil, fun q => ?_, trivial⟩, fun h => ?_, fun h => ?_⟩
    · have := (H.kn r hr).1
      rw [hsne _ (by omega)] at hl
      rw [put_ne (fun e => (n4 r hr).1 e.symm)]; exact I.bl r hr hl
    · refine ⟨fun h => (by cases h), fun ⟨h1, h2⟩ => ?_⟩
      have := (H.ins q h1).1
      rw [hsne _ (by omega), hq0 q h1] at h2; cases h2
    · have := H.iM.1
      rw [hsne _ (by omega)] at h
      rw [put_ne (fun e => n1 e.symm)]; exact I.mv h
    · rw [hsne _ (by omega)] at h
      rw [put_ne (fun e => n2 e.symm)]; exact I.as h
  have hi0' : (0 : Nat) ≠ i := fun e => hi0 e.symm
  -- the roles of the rows
  have hins : ∀ q ∈ D.ins, q.1 = i → IsIns D o q.2.1 q.2.2 := fun q hq e => by
    obtain ⟨_, o', h1, h2⟩ := H.ins q hq
    rw [e, ho] at h1; injection h1 with h1; subst h1; exact h2
  have hkn : ∀ r ∈ D.kn, r.i = i → IsBld P o r.d r.v := fun r hr e => by
    obtain ⟨_, o', h1, h2⟩ := H.kn r hr
    rw [e, ho] at h1; injection h1 with h1; subst h1; exact h2
  have hmov : D.iM = i → IsMov D o := fun e => by
    obtain ⟨o', h1, h2⟩ := H.mov
    rw [e, ho] at h1; injection h1 with h1; subst h1; exact h2
  have hasg : D.iM + 1 = i → IsAsg D o := fun e => by
    obtain ⟨o', h1, h2⟩ := H.asg
    rw [e, ho] at h1; injection h1 with h1; subst h1; exact h2
  have wanted : o.guard = none → Region.wanted o (yielded ops a.tmps) = true := fun hg => by simp [Region.wanted, hg]
  rcases H.row i o (by omega) ho with ⟨d, v, hm, hb⟩ | ⟨k, v, hm, hb⟩ | ⟨_, hb⟩ | ⟨_, hb⟩
  · -- a value is built
    obtain ⟨hg, hd, t, ps, qs, hop, hq, hv⟩ := hb
    rw [wanted hg]
    simp only [if_true]
    refine .inl ?_
    have hpr := partsA_sound (σ := σN) (tm := .e) (a := a) ps.toList qs (TR.ops (show TR σN .e a.tmps from fun t v h => by rw [Ts.get_e] at h; cases h) _) hq
    obtain ⟨V, r1, r2⟩ := buildA_sound (P := P) (w := w) (Ps := ps.map fun (i, x) => (i, a.eval x)) hv (by simpa using hpr)
    have hx : (execOp a.eval o).run P w = .ok (.value V) w := by simp [execOp, hop, r1]
    unfold Oper.wp
    rw [hx, Oper.upon_value, hd]
    show LInv D w0 a0 _ (a.put (some d) V) w
    have nI : ∀ q ∈ D.ins, q.1 ≠ i := fun q hq e => by have := (hins q hq e).dst; rw [hd] at this; cases this
    have nM : D.iM ≠ i := fun e => by have := (hmov e).op; rw [hop] at this; cases this
    have nA : D.iM + 1 ≠ i := fun e => by have := (hasg e).op; rw [hop] at this; cases this
    have hdm := n4 _ hm
    refine ⟨by rw [put_size]; exact I.sz, by rw [put_defers]; exact I.df, fun t' t1 t2 t3 t4 => by rw [put_ne (t4 _ hm)]; exact I.kp t' t1 t2 t3 t4, fun r hr hl => ?_, fun h => ?_, fun h => ?_, fun h => ?_, fun h => ?_⟩
    · by_cases hri : r.i = i
      · obtain ⟨_, e1, t', ps', qs', e2, e3, e4⟩ := hkn r hr hri
        rw [hd] at e1; injection e1 with e1
        rw [hop] at e2; injection e2 with e2 e2'; subst e2; subst e2'
        rw [hq] at e3; injection e3 with e3; subst e3
        rw [hv] at e4; injection e4 with e4
        rw [← e1, ← e4]
        exact ⟨V, put_at (hdst _ hd), r2⟩
      · rw [hsne _ hri] at hl
        have hne : r.d ≠ d := fun e => hri (congrArg Known.i (n5 r hr ⟨i, d, v⟩ hm e))
        rw [put_ne hne]; exact I.bl r hr hl
    · rw [hsne _ hi0'] at h
      obtain ⟨a1, a2⟩ := I.h0 h
      exact ⟨a1, fun q hq => by rw [hsne _ (nI q hq)]; exact a2 q hq⟩
    · rw [hsne _ hi0'] at h
      obtain ⟨a1, Es, cl, sel, a2, a3, a4, a5⟩ := I.h1 h
      refine ⟨by rw [put_ne hdm.1]; exact a1, Es, cl, sel, a2, a3, fun q => ?_, a5⟩
      rw [a4 q]
      exact ⟨fun ⟨x1, x2⟩ => ⟨x1, by rw [hsne _ (nI q x1)]; exact x2⟩, fun ⟨x1, x2⟩ => ⟨x1, by rw [hsne _ (nI q x1)] at x2; exact x2⟩⟩
    · rw [hsne _ nM] at h; rw [put_ne hdm.2.1]; exact I.mv h
    · rw [hsne _ nA] at h; rw [put_ne hdm.2.2]; exact I.as h
  · -- an entry is laid
    obtain ⟨hg, hd, he0, ko, vo, hop, hk, hv⟩ := hb
    rw [wanted hg]
    simp only [if_true]
    refine .inl ?_
    obtain ⟨a1, Es, cl, sel, a2, a3, a4, a5⟩ := I.h1 (edgeTo_listed he0 hes)
    subst a2
    have hkV := hk.sound I hes
    have hvV := hv.sound I hes
    obtain ⟨cs, hcs, hpo⟩ := H.keys _ hm
    have hcs : k = .agg cs := hcs
    rw [hcs] at hkV
    obtain ⟨Cs, hKe, hC⟩ := hkV.agg_inv
    have hnon : ∀ E ∈ Es.toList, (Op.equal kt (a.eval ko) E.key).run P (pushed w0 (.map Es cl)) = .ok false (pushed w0 (.map Es cl)) := by
      intro E hE
      obtain ⟨p, hp, hpk⟩ := MRs_mem a5 E hE
      obtain ⟨q, hq, rfl⟩ := List.mem_map.1 hp
      obtain ⟨q1, q2⟩ := (a4 q).1 hq
      have hqi : i ≠ q.1 := fun e => by rw [← e, hno] at q2; cases q2
      have := pairOk_spec H.ne (i, k, v) hm q q1 hqi
      rw [← hcs] at hkV
      exact neK_sound this hkV hpk
    have hfk := run_findKeyG (P := P) (w := pushed w0 (.map Es cl)) H.keyT (asking_none Es.toList 0 hnon)
    have hob : (pushed w0 (.map Es cl)).heap[w0.heap.size]? = some (.map Es cl) := pushed_new w0 _
    have hx : (execOp a.eval o).run P (pushed w0 (.map Es cl)) = .ok .skip (pushed w0 (.map (Es.push { key := a.eval ko, val := a.eval vo, born := cl }) (cl + 1))) := by
      have hup : (Instr.mapUpdate D.T (.map (some w0.heap.size)) (a.eval ko) (a.eval vo)).run P (pushed w0 (.map Es cl)) = .ok () (pushed w0 (.map (Es.push { key := a.eval ko, val := a.eval vo, born := cl }) (cl + 1))) := by
        have hck : ∀ b, (Instr.checkKey b 10000 kt (a.eval ko)).run P (pushed w0 (.map Es cl)) = .ok () (pushed w0 (.map Es cl)) := fun b => by rw [hKe]; exact run_checkKeyG H.keyT H.plain hC hpo
        simp only [Instr.mapUpdate, Sem.run_bind, r_und H.mapT, Result.andThen_ok, run_getObj_map hob, hck, hfk]
        rw [run_setObj_map hob, replaced_pushed]
      simp [execOp, hop, eval_tmp a1, hup]
    unfold Oper.wp
    rw [hx, Oper.upon_skip, hd]
    show LInv D w0 a0 _ (a.put none undef) _
    have hpn : a.put none undef = a := rfl
    rw [hpn]
    have nB : ∀ r ∈ D.kn, r.i ≠ i := fun r hr e => by have := (hkn r hr e).dst; rw [hd] at this; cases this
    have nM : D.iM ≠ i := fun e => by have := (hmov e).dst; rw [hd] at this; cases this
    have nA : D.iM + 1 ≠ i := fun e => by have := (hasg e).dst; rw [hd] at this; cases this
    refine ⟨I.sz, I.df, I.kp, fun r hr hl => I.bl r hr (by rw [hsne _ (nB r hr)] at hl; exact hl), fun h => ?_, fun _ => ⟨a1, _, cl + 1, sel ++ [(i, k, v)], rfl, ?_, fun q => ?_, ?_⟩, fun h => I.mv (by rw [hsne _ nM] at h; exact h), fun h => I.as (by rw [hsne _ nA] at h; exact h)⟩
    · rw [hsne _ hi0', edgeTo_listed he0 hes] at h; cases h
    · refine List.nodup_append.2 ⟨a3, by simp, fun x hx y hy e => ?_⟩
      simp at hy; subst hy; subst e
      have := ((a4 _).1 hx).2
      rw [hno] at this; cases this
    · rw [List.mem_append, a4 q]
      constructor
      · rintro (⟨x1, x2⟩ | x1)
        · refine ⟨x1, ?_⟩
          rw [hset]; split
          · rfl
          · exact x2
        · simp at x1; subst x1; exact ⟨hm, hsi⟩
      · rintro ⟨x1, x2⟩
        by_cases hqi : q.1 = i
        · right
          have : q = (i, k, v) := tmpsApart_map H.idx q x1 (i, k, v) hm hqi
          simp [this]
        · rw [hsne _ hqi] at x2; exact .inl ⟨x1, x2⟩
    · rw [List.map_append, Array.toList_push]
      exact MRs.snoc (E := { key := a.eval ko, val := a.eval vo, born := cl }) (by rw [hcs]; exact hkV) hvV a5
  · -- it is moved
    obtain ⟨hg, hd, hop, he0, _⟩ := hb
    rw [wanted hg]
    simp only [if_true]
    refine .inl ?_
    obtain ⟨a1, Es, cl, sel, a2, a3, a4, a5⟩ := I.h1 (edgeTo_listed he0 hes)
    have hx : (execOp a.eval o).run P w = .ok (.value (.map (some w0.heap.size))) w := by simp [execOp, hop, eval_tmp a1]
    unfold Oper.wp
    rw [hx, Oper.upon_value, hd]
    show LInv D w0 a0 _ (a.put (some D.x) (.map (some w0.heap.size))) w
    have nB : ∀ r ∈ D.kn, r.i ≠ i := fun r hr e => by obtain ⟨_, _, t, ps, qs, h, _⟩ := hkn r hr e; rw [hop] at h; cases h
    have nI : ∀ q ∈ D.ins, q.1 ≠ i := fun q hq e => by have := (hins q hq e).dst; rw [hd] at this; cases this
    have nA : D.iM + 1 ≠ i := fun e => by have := (hasg e).op; rw [hop] at this; cases this
    refine ⟨by rw [put_size]; exact I.sz, by rw [put_defers]; exact I.df, fun t t1 t2 t3 t4 => by rw [put_ne t2]; exact I.kp t t1 t2 t3 t4, fun r hr hl => ?_, fun h => ?_, fun _ => ⟨by rw [put_ne n1]; exact a1, Es, cl, sel, a2, a3, fun q => ?_, a5⟩, fun _ => put_at (hdst _ hd), fun h => ?_⟩
    · rw [hsne _ (nB r hr)] at hl
      rw [put_ne (fun e => (n4 r hr).2.1 e.symm)]; exact I.bl r hr hl
    · rw [hsne _ hi0', edgeTo_listed he0 hes] at h; cases h
    · rw [a4 q]
      exact ⟨fun ⟨x1, x2⟩ => ⟨x1, by rw [hsne _ (nI q x1)]; exact x2⟩, fun ⟨x1, x2⟩ => ⟨x1, by rw [hsne _ (nI q x1)] at x2; exact x2⟩⟩
    · rw [hsne _ nA] at h
      rw [put_ne (fun e => n3 e.symm)]; exact I.as h
  · -- and assigned
    obtain ⟨hg, hd, hop, heM⟩ := hb
    rw [wanted hg]
    simp only [if_true]
    refine .inl ?_
    have a1 := I.mv (edgeTo_listed heM hes)
    have hx : (execOp a.eval o).run P w = .ok (.value (.map (some w0.heap.size))) w := by simp [execOp, hop, eval_tmp a1]
    unfold Oper.wp
    rw [hx, Oper.upon_value, hd]
    show LInv D w0 a0 _ (a.put (some D.y) (.map (some w0.heap.size))) w
    have nB : ∀ r ∈ D.kn, r.i ≠ i := fun r hr e => by obtain ⟨_, _, t, ps, qs, h, _⟩ := hkn r hr e; rw [hop] at h; cases h
    have nI : ∀ q ∈ D.ins, q.1 ≠ i := fun q hq e => by have := (hins q hq e).dst; rw [hd] at this; cases this
    have nM : D.iM ≠ i := fun e => by have := (hmov e).op; rw [hop] at this; cases this
    refine ⟨by rw [put_size]; exact I.sz, by rw [put_defers]; exact I.df, fun t t1 t2 t3 t4 => by rw [put_ne t3]; exact I.kp t t1 t2 t3 t4, fun r hr hl => ?_, fun h => ?_, fun h => ?_, fun h => ?_, fun _ => put_at (hdst _ hd)⟩
    · rw [hsne _ (nB r hr)] at hl
      rw [put_ne (fun e => (n4 r hr).2.2 e.symm)]; exact I.bl r hr hl
    · rw [hsne _ hi0'] at h
      obtain ⟨b1, b2⟩ := I.h0 h
      exact ⟨b1, fun q hq => by rw [hsne _ (nI q hq)]; exact b2 q hq⟩
    · rw [hsne _ hi0'] at h
      obtain ⟨b1, Es, cl, sel, b2, b3, b4, b5⟩ := I.h1 h
      refine ⟨by rw [put_ne n2]; exact b1, Es, cl, sel, b2, b3, fun q => ?_, b5⟩
      rw [b4 q]
      exact ⟨fun ⟨x1, x2⟩ => ⟨x1, by rw [hsne _ (nI q x1)]; exact x2⟩, fun ⟨x1, x2⟩ => ⟨x1, by rw [hsne _ (nI q x1)] at x2; exact x2⟩⟩
    · rw [hsne _ nM] at h
      rw [put_ne n3]; exact I.mv h
end
end Go.Ev

namespace Go.Ev
open Go

noncomputable section
def setAll {β : Type} (l : List (Tmp × AV)) : Ts AV → (Ts AV → β) → β :=
  List.rec (motive := fun _ => Ts AV → (Ts AV → β) → β) (fun t k => k t) (fun p _ ih t k => Ts.setK t p.1 p.2 fun t => ih t k) l
def setsT : List (Tmp × AV) → Ts AV → Ts AV
  | [], t => t
  | p :: r, t => setsT r (Ts.set t p.1 p.2)
theorem setAll_eq {β : Type} : ∀ (l : List (Tmp × AV)) (t : Ts AV) (k : Ts AV → β), setAll l t k = k (setsT l t)
  | [], _, _ => rfl
  | p :: r, t, k => by
    show Ts.setK t p.1 p.2 (fun t => setAll r t k) = _
    rw [Ts.setK_eq, setAll_eq r]; rfl
theorem setsT_get : ∀ (l : List (Tmp × AV)) (t : Ts AV) (n : Nat) (x : AV), (setsT l t).get n = some x → (n, x) ∈ l ∨ (t.get n = some x ∧ ∀ p ∈ l, n ≠ p.1)
  | [], t, n, x, h => .inr ⟨h, fun p hp => by cases hp⟩
  | p :: r, t, n, x, h => by
    rcases setsT_get r _ n x h with h1 | ⟨h1, h2⟩
    · exact .inl (List.mem_cons_of_mem _ h1)
    · rcases Ts.get_set h1 with ⟨rfl, rfl⟩ | ⟨hne, h3⟩
      · exact .inl List.mem_cons_self
      · refine .inr ⟨h3, fun q hq => ?_⟩
        rcases List.mem_cons.1 hq with rfl | hq
        · exact hne
        · exact h2 q hq
def litSets (D : LitD) (i : Nat) : List (Tmp × AV) := (D.m, .map i) :: (D.x, .map i) :: (D.y, .map i) :: D.kn.map fun r => (r.d, r.v)
def litRun (D : LitD) (tm : Ts AV) (ds : List (FuncId × List AV)) (g : G) : Res :=
  G.rec (motive := fun _ => Res) (fun h nx l oc ob => h.setK nx (.pmap (D.ins.map (·.2))) fun h => natK (Nat.add nx (nat_lit 1)) fun nx' => setAll (litSets D nx) tm fun tm => .fin .norm tm ds ⟨h, nx', ⟨nx, 0, 0, true⟩ :: l, oc, ob⟩) g
theorem litRun_eq (D : LitD) (tm : Ts AV) (ds : List (FuncId × List AV)) (g : G) :
    litRun D tm ds g = .fin .norm (setsT (litSets D g.next) tm) ds ⟨g.heap.set g.next (.pmap (D.ins.map (·.2))), g.next + 1, ⟨g.next, 0, 0, true⟩ :: g.log, g.orc, g.obl⟩ := by
  obtain ⟨h, nx, l, oc, ob⟩ := g
  simp only [litRun, Tr.setK_eq, natK_eq, setAll_eq]
theorem alloc_eq (blk : Blk) (g : G) : alloc blk g = .ok g.next ⟨g.heap.set g.next blk, g.next + 1, ⟨g.next, 0, 0, true⟩ :: g.log, g.orc, g.obl⟩ := by
  obtain ⟨h, nx, l, oc, ob⟩ := g
  simp only [alloc, Tr.setK_eq, natK_eq]
theorem litRun_le (D : LitD) (tm : Ts AV) (ds : List (FuncId × List AV)) (g : G) : LeRes g (litRun D tm ds g) := by
  rw [litRun_eq]
  exact ⟨_, alloc_le (alloc_eq (.pmap (D.ins.map (·.2))) g)⟩
end
section
variable {P : Program} {T : Tp} {hi : Nat} {σ : Sg} {ops : Array Oper} {D : LitD} {w : World} {a : Act}
theorem lit_sound (hm : P.follows .mixedOrders = true) {ms : List Nat} (hst : Stat ops ms) (hl : litOf P ops.toList = some D) {id N : Nat} {tm tm' : Ts AV} {g g' : G} {x : X} {ds ds' : List (FuncId × List AV)}
    (h : litRun D tm ds g = .fin x tm' ds' g') (p : Pre P T hi σ g w g') (ht : TR σ tm a.tmps) (hd : DRs σ ds a.defers) (hin : opsIn N ops.toList = true) (hN : N ≤ a.tmps.size) :
    (Code.region id ops true).wp P (CPost P T σ g w N x tm' ds' g') a w := by
  rw [litRun_eq] at h
  injection h with h1 h2 h3 h4; subst h1; subst h2; subst h3; subst h4
  obtain ⟨kt, e, fa, H⟩ := litOf_spec hl
  refine wp_region_any hm ?_
  refine wpAny_inv (LInv D (drewn w) a) (fun listed a' w' i hs I hi => lit_step H hs I hi hin hN) ?_ ops.size _ _ _ ?_ (by simp) ?_
  · -- the end
    intro listed a' w' hs I hr
    have hall : ∀ d k, k ≤ d → k < ops.size → listed.getD k false = true := by
      intro d
      induction d with
      | zero =>
        intro k hk hlt
        by_cases hc : listed.getD k false = true
        · exact hc
        · exfalso
          have hlt' : k < listed.size := by omega
          have ho : ops[k]? = some ops[k] := by simp [hlt]
          have : k ∈ Region.ready .any ops listed := mem_ready.2 ⟨by simp [hlt'] at hc ⊢; exact hc, _, ho, fun e he hb => by
            obtain ⟨b, _, h2, _⟩ := hst.bits k _ ho
            have := h2 e he hb
            omega⟩
          rw [hr] at this; cases this
      | succ d ih =>
        intro k hk hlt
        by_cases hc : listed.getD k false = true
        · exact hc
        · exfalso
          have hlt' : k < listed.size := by omega
          have ho : ops[k]? = some ops[k] := by simp [hlt]
          have : k ∈ Region.ready .any ops listed := mem_ready.2 ⟨by simp [hlt'] at hc ⊢; exact hc, _, ho, fun e he hb => by
            obtain ⟨b, _, h2, _⟩ := hst.bits k _ ho
            have := h2 e he hb
            exact ih e.on (by omega) (by omega)⟩
          rw [hr] at this; cases this
    have hsz := H.iM
    obtain ⟨a1, Es, cl, sel, a2, a3, a4, a5⟩ := I.h1 (hall 0 0 (Nat.le_refl _) (by omega))
    have hlis : ∀ k o, ops[k]? = some o → listed.getD k false = true := fun k o ho => hall k k (Nat.le_refl _) (Array.getElem?_eq_some_iff.1 ho).1
    have hperm : List.Perm sel D.ins := by
      refine (List.perm_ext_iff_of_nodup a3 (tmpsApart_nodup H.idx)).2 fun q => ?_
      rw [a4 q]
      refine ⟨fun h => h.1, fun h => ⟨h, ?_⟩⟩
      obtain ⟨_, o, ho, _⟩ := H.ins q h
      exact hlis _ _ ho
    obtain ⟨Es', hp1, hp2⟩ := MRs.perm (hperm.map (·.2)) a5
    have hsubN : ∀ σ' : Sg, Sub σN σ' := fun σ' i x hx => by cases hx
    subst a2
    have hw : (drewn w).heap.size = w.heap.size := rfl
    have q := alloc_sound (P := P) (T := T) (hi := hi) (cap := 0) (obj := .map Es cl) (alloc_eq (.pmap (D.ins.map (·.2))) g) (p.rel.drewn) p.fresh p.hi ⟨Es, cl, rfl⟩ (fun o c hc => by
      simp only [Blk.ct] at hc
      split at hc
      · injection hc with hc; subst hc
        exact ⟨Es, cl, Es', rfl, hp1, hp2.mono (hsubN _)⟩
      · cases hc)
    obtain ⟨_, hn, q⟩ := q
    have hq := (Post.drewn p.rel).trans q p.fresh p.hi
    have hsub : Sub σ (upd σ g.next ((drewn w).heap.size, 0)) := upd_sub hn
    refine ⟨_, _, hq, rfl, fun t v hv => ?_, by rw [I.df]; exact hd.mono hsub, by rw [I.sz]; exact hN⟩
    have hmap : VR (upd σ g.next ((drewn w).heap.size, 0)) (.map g.next) (.map (some (drewn w).heap.size)) := .map (upd_same _ _ _)
    obtain ⟨oM, hoM, _⟩ := H.mov
    obtain ⟨oA, hoA, _⟩ := H.asg
    rcases setsT_get _ _ t v hv with hm' | ⟨h1, h2⟩
    · unfold litSets at hm'
      rcases List.mem_cons.1 hm' with e | hm'
      · injection e with e1 e2; subst e1; subst e2; exact ⟨_, a1, hmap⟩
      · rcases List.mem_cons.1 hm' with e | hm'
        · injection e with e1 e2; subst e1; subst e2; exact ⟨_, I.mv (hlis _ _ hoM), hmap⟩
        · rcases List.mem_cons.1 hm' with e | hm'
          · injection e with e1 e2; subst e1; subst e2; exact ⟨_, I.as (hlis _ _ hoA), hmap⟩
          · obtain ⟨r, hr, e⟩ := List.mem_map.1 hm'
            injection e with e1 e2; subst e1; subst e2
            obtain ⟨_, o, ho, _⟩ := H.kn r hr
            obtain ⟨V, b1, b2⟩ := I.bl r hr (hlis _ _ ho)
            exact ⟨V, b1, b2.mono (hsubN _)⟩
    · have hk := I.kp t (h2 (D.m, .map g.next) (by simp [litSets])) (h2 (D.x, .map g.next) (by simp [litSets])) (h2 (D.y, .map g.next) (by simp [litSets])) (fun r hr => h2 (r.d, r.v) (by
        unfold litSets
        exact List.mem_cons_of_mem _ (List.mem_cons_of_mem _ (List.mem_cons_of_mem _ (List.mem_map.2 ⟨r, hr, rfl⟩)))))
      obtain ⟨V, b1, b2⟩ := ht t v h1
      exact ⟨V, by rw [hk]; exact b1, b2.mono hsub⟩
  · unfold unl
    exact Nat.le_trans (List.length_filter_le _ _) (by simp)
  · -- the beginning
    have hS0 : ∀ j, (Array.replicate ops.size false).getD j false = false := fun j => by
      by_cases hj : j < ops.size <;> simp [hj]
    refine ⟨rfl, rfl, fun _ _ _ _ _ => rfl, fun r _ h => ?_, fun _ => ⟨rfl, fun q _ => hS0 _⟩, fun h => ?_, fun h => ?_, fun h => ?_⟩
    all_goals (rw [hS0] at h; cases h)
end
end Go.Ev
