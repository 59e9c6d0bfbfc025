/-
  A part of the evaluator of the program's code, or of what it was seen to do; its statements are Lean's own. No condition.
-/
import Derived.Test.YteeakllokpdjgaaGreatEvI3
import Derived.Scope
namespace Go.Ev
open Go

/-! ### What every run keeps, whatever the world -/
def Mn {α : Type} (m : M α) : Prop := ∀ g a g', m g = .ok a g' → ∃ L, Le g g' L
section
variable {α β : Type}
theorem Mn.pure {a : α} : Mn (M.pure a) := fun g b g' h => by obtain ⟨_, rfl⟩ := pure_ok h; exact ⟨[], Le.refl _⟩
theorem Mn.no {n : Nat} : Mn (Ev.no n : M α) := fun g b g' h => by cases h
theorem Mn.bind {m : M α} {f : α → M β} (h1 : Mn m) (h2 : ∀ a, Mn (f a)) : Mn (M.bind m f) := fun g b g' h => by
  obtain ⟨a, g1, q1, q2⟩ := bind_ok h
  obtain ⟨L, l1⟩ := h1 _ _ _ q1
  obtain ⟨M, l2⟩ := h2 a _ _ _ q2
  exact ⟨_, l1.trans l2⟩
theorem Mn.ask {b : Bool} : Mn (Ev.ask b) := fun g d g' h => by obtain ⟨r, _, rfl⟩ := ask_ok h; exact ⟨[], Le.asked⟩
theorem Mn.read {i o n : Nat} : Mn (Ev.read i o n) := fun g r g' h => by obtain ⟨_, _, _, rfl⟩ := read_ok h; exact ⟨_, Le.logs⟩
theorem Mn.getMap {i : Nat} : Mn (Ev.getMap i) := fun g r g' h => by obtain ⟨_, rfl⟩ := getMap_ok h; exact ⟨_, Le.logs⟩
theorem Mn.touchR {i o n : Nat} : Mn (touch i o n false) := fun g r g' h => by rw [touch_ok h]; exact ⟨_, Le.logs⟩
theorem Mn.touchIds {ids : List Nat} : Mn (Ev.touchIds ids) := fun g r g' h => by
  obtain ⟨L, e, hw, _⟩ := touchIds_ok ids h
  rw [e]
  exact ⟨L, ⟨rfl, Nat.le_refl _, ⟨[], rfl⟩, fun _ b _ h => ⟨b, h, rfl⟩, fun _ _ b _ _ h h' => ⟨b, h, h'⟩, fun t ht h => by rw [hw t ht] at h; cases h⟩⟩
theorem Mn.write {i o : Nat} {vs : List AV} : Mn (Ev.write i o vs) := fun _ _ _ h => ⟨_, write_le h⟩
theorem Mn.alloc {blk : Blk} : Mn (Ev.alloc blk) := fun _ _ _ h => ⟨_, alloc_le h⟩
theorem Mn.setMap {i : Nat} {es : List (AV × AV)} : Mn (Ev.setMap i es) := fun _ _ _ h => ⟨_, setMap_le h⟩
theorem Mn.regrow {i e : Nat} {c : List AV} : Mn (Ev.regrow i e c) := fun _ _ _ h => ⟨_, regrow_le h⟩
theorem Mn.vl {m : M AV} (h : Mn m) : Mn (Ev.vl m) := h.bind fun _ => Mn.pure
theorem Mn.ul {m : M Unit} (h : Mn m) : Mn (Ev.ul m) := h.bind fun _ => Mn.pure
theorem Mn.ovl {n : Nat} {x : Option AV} : Mn (Ev.ovl n x) := by cases x <;> first | exact Mn.no | exact Mn.pure
theorem Mn.e1 {n : Nat} {tm : Ts AV} {x : Operand} {f : AV → M OpR} (h : ∀ v, Mn (f v)) : Mn (ev1 n tm x f) := by unfold ev1; split <;> first | exact h _ | exact Mn.no
theorem Mn.e2 {n : Nat} {tm : Ts AV} {x y : Operand} {f : AV → AV → M OpR} (h : ∀ u v, Mn (f u v)) : Mn (ev2 n tm x y f) := by
  unfold ev2; split
  · split <;> first | exact h _ _ | exact Mn.no
  · exact Mn.no
theorem Mn.e3 {n : Nat} {tm : Ts AV} {x y z : Operand} {f : AV → AV → AV → M OpR} (h : ∀ u v s, Mn (f u v s)) : Mn (ev3 n tm x y z f) := by
  unfold ev3; split
  · split
    · split <;> first | exact h _ _ _ | exact Mn.no
    · exact Mn.no
  · exact Mn.no
theorem Mn.intM {n : Nat} : Mn (Ev.intM n) := by unfold Ev.intM; rw [natK_eq]; exact Mn.pure
theorem Mn.ptrM {i o : Nat} : Mn (Ev.ptrM i o) := by unfold Ev.ptrM; rw [natK_eq]; exact Mn.pure
theorem Mn.newA {t : TypeId} {v : AV} : Mn (Ev.newA t v) := by
  unfold Ev.newA; rw [listK_eq]; split
  · exact Mn.alloc.bind fun _ => Mn.pure
  · exact Mn.no
theorem Mn.loadA {P : Program} {t : TypeId} {a : AV} : Mn (Ev.loadA P t a) := by
  unfold Ev.loadA
  split
  · split
    · split
      · exact Mn.read.bind fun _ => Mn.pure
      · exact Mn.no
    · refine Mn.read.bind fun l => ?_
      split <;> first | exact Mn.pure | exact Mn.no
    · exact Mn.no
  · split
    · intro g r g' h
      dsimp only at h
      split at h
      · refine Mn.bind (m := Ev.ask _) (f := _) Mn.ask (fun d => ?_) g r g' h
        split
        · exact Mn.touchR.bind fun _ => Mn.pure
        · exact Mn.no
      · cases h
    · exact Mn.no
  · exact Mn.no
theorem Mn.storeA {P : Program} {t : TypeId} {a v : AV} : Mn (Ev.storeA P t a v) := by
  unfold Ev.storeA
  split
  · split
    · split <;> first | exact Mn.write | exact Mn.no
    · exact Mn.no
  · exact Mn.no
theorem Mn.makeSliceA {P : Program} {t : TypeId} {l c : AV} : Mn (Ev.makeSliceA P t l c) := by
  unfold Ev.makeSliceA
  split
  · split
    · split
      · split
        · exact Mn.alloc.bind fun _ => Mn.pure
        · exact Mn.no
      · exact Mn.no
    · exact Mn.no
  · exact Mn.no
theorem Mn.buildSliceA {P : Program} {t : TypeId} {n : Nat} {ps : List (Nat × AV)} : Mn (Ev.buildSliceA P t n ps) := by
  unfold Ev.buildSliceA
  split
  · split
    · split
      · split
        · split <;> first | exact Mn.alloc.bind fun _ => Mn.pure | exact Mn.no
        · exact Mn.no
      · exact Mn.no
    · exact Mn.no
  · exact Mn.no
theorem Mn.indexAtA {P : Program} {t : TypeId} {x i : AV} : Mn (Ev.indexAtA P t x i) := by
  unfold Ev.indexAtA
  split
  · split
    · split
      · split <;> first | exact Mn.ptrM | exact Mn.no
      · exact Mn.no
    · exact Mn.no
  · split
    · split
      · split <;> first | exact Mn.ptrM | exact Mn.no
      · exact Mn.no
    · split
      · split <;> first | exact Mn.ptrM | exact Mn.no
      · exact Mn.no
    · split
      · split
        · refine Mn.ask.bind fun d => ?_
          split <;> first | exact Mn.pure | exact Mn.no
        · exact Mn.no
      · exact Mn.no
    · split
      · split
        · refine Mn.ask.bind fun d => ?_
          split <;> first | exact Mn.pure | exact Mn.no
        · exact Mn.no
      · exact Mn.no
    · exact Mn.no
  · exact Mn.no
theorem Mn.equalA {P : Program} {t : TypeId} {cx cy : Bool} {x y : AV} : Mn (Ev.equalA P t cx cy x y) := by
  intro g r g' h
  unfold Ev.equalA at h
  split at h
  · split at h
    · split at h
      · refine Mn.bind (Mn.touchIds) (fun d => ?_) g r g' h
        cases (‹Eqr› : Eqr).b <;> exact Mn.pure
      · exact Mn.bind (Mn.touchIds) (fun d => Mn.pure) g r g' h
    · cases h
  · cases h
theorem Mn.askMod {k : IntKind} {e : Int} : ∀ (n i : Nat), Mn (Ev.askMod k e n i)
  | 0, _ => Mn.no
  | n + 1, i => Mn.ask.bind fun d => by
    cases d with
    | true => simp only [natK_eq]; exact Mn.pure
    | false => exact Mn.askMod n (i + 1)
theorem Mn.conc {op : BinOp} {x y v : AV} : Mn (Ev.conc op x y v) := by
  unfold Ev.conc
  split
  · exact Mn.askMod _ _
  · exact Mn.pure
theorem Mn.binA {P : Program} {op : BinOp} {t : TypeId} {cx cy : Bool} {x y : AV} : Mn (Ev.binA P op t cx cy x y) := by
  unfold Ev.binA
  split
  · exact Mn.conc
  · split
    · exact Mn.no
    · split
      · exact Mn.equalA
      · exact Mn.equalA.bind fun _ => Mn.pure
      · exact Mn.no
theorem Mn.lookupM {P : Program} {k e : TypeId} {x : AV} {cs : List AV} {ok : Bool} : Mn (Ev.lookupM P k e x cs ok) := by
  unfold Ev.lookupM
  refine Mn.bind ?_ fun es => ?_
  · unfold entriesA; split <;> first | exact Mn.pure | exact Mn.getMap | exact Mn.no
  · split
    · exact Mn.pure
    · split <;> first | exact Mn.pure | exact Mn.no
    · exact Mn.no
theorem Mn.lookupP {P : Program} {k e : TypeId} {i : Nat} {es : List (AV × AV)} {key : AV} {ok : Bool} : Mn (Ev.lookupP P k e i es key ok) := by
  unfold Ev.lookupP
  refine Mn.touchR.bind fun _ => ?_
  split
  · exact Mn.pure
  · split <;> first | exact Mn.pure | exact Mn.no
  · exact Mn.no
theorem Mn.lookupG {P : Program} {t : TypeId} {x i : AV} {ok : Bool} : Mn (Ev.lookupG P t x i ok) := by
  unfold Ev.lookupG
  split
  · split
    · split
      · intro g a g' h
        simp only at h
        split at h
        · split at h
          · exact Mn.lookupP _ _ _ h
          · exact Mn.lookupM _ _ _ h
        · exact Mn.lookupM _ _ _ h
      · exact Mn.no
    · exact Mn.no
  · exact Mn.no
theorem Mn.mapSetG {P : Program} {t : TypeId} {m k v : AV} : Mn (Ev.mapSetG P t m k v) := by
  unfold Ev.mapSetG
  split
  · split
    · split
      · refine Mn.getMap.bind fun es => ?_
        split <;> first | exact Mn.setMap | exact Mn.no
      · exact Mn.no
    · exact Mn.no
  · exact Mn.no
theorem Mn.lookupA {P : Program} {t : TypeId} {x i : AV} {ok : Bool} : Mn (Ev.lookupA P t x i ok) := by
  unfold Ev.lookupA
  split
  · split
    · refine Mn.bind ?_ fun es => ?_
      · split <;> first | exact Mn.pure | exact Mn.getMap | exact Mn.no
      · split
        · exact Mn.pure
        · split <;> first | exact Mn.pure | exact Mn.no
        · exact Mn.no
    · exact Mn.no
  · exact Mn.lookupG
theorem Mn.mapSetA {P : Program} {t : TypeId} {m k v : AV} : Mn (Ev.mapSetA P t m k v) := by
  unfold Ev.mapSetA
  split
  · split
    · refine Mn.getMap.bind fun es => ?_
      split <;> first | exact Mn.setMap | exact Mn.no
    · exact Mn.no
  · exact Mn.mapSetG
theorem Mn.lenA {P : Program} {t : TypeId} {x : AV} : Mn (Ev.lenA P t x) := by
  unfold Ev.lenA
  split
  · unfold lenSl; split <;> first | exact Mn.intM | exact Mn.pure | exact Mn.no
  · exact Mn.intM
  · unfold lenStr; split <;> first | exact Mn.intM | exact Mn.no
  · unfold lenMap; split <;> first | exact Mn.pure | exact Mn.getMap.bind fun _ => Mn.intM | exact Mn.no
  · unfold lenChan
    split
    · exact Mn.pure
    · rename_i i
      intro g a g' h
      have h : (match chanLen (g.heap.get i) with
        | some n => M.bind (touch i 0 1 false) (fun _ => Ev.intM n) g
        | none => .no 70) = Out.ok a g' := h
      cases hc : chanLen (g.heap.get i) <;> rw [hc] at h
      · cases h
      · exact (Mn.touchR.bind fun _ => Mn.intM) _ _ _ h
    · exact Mn.no
  · exact Mn.no
theorem Mn.firstA {s n : Nat} {x : AV} : Mn (Ev.firstA s n x) := by
  unfold Ev.firstA; split <;> first | exact Mn.read | exact Mn.pure | exact Mn.no
theorem Mn.appendA {P : Program} {t xt : TypeId} {s x : AV} : Mn (Ev.appendA P t xt s x) := by
  unfold Ev.appendA
  split
  · split
    · split
      · split
        · split
          · exact Mn.pure
          · split
            · exact Mn.firstA.bind fun _ => Mn.alloc.bind fun _ => Mn.pure
            · exact Mn.no
        · split
          · exact Mn.firstA.bind fun _ => Mn.write.bind fun _ => by rw [natK_eq]; exact Mn.pure
          · split
            · exact Mn.read.bind fun _ => Mn.firstA.bind fun _ => Mn.bind (by rw [listK_eq]; exact Mn.alloc) fun _ => by rw [natK_eq]; exact Mn.pure
            · exact Mn.no
        · split
          · refine Mn.read.bind fun _ => Mn.firstA.bind fun _ => ?_
            split
            · exact Mn.bind (by rw [listK_eq]; exact Mn.regrow) fun _ => by rw [natK_eq]; exact Mn.pure
            · exact Mn.no
          · exact Mn.no
        · exact Mn.no
      · exact Mn.no
    · exact Mn.no
  · exact Mn.no
theorem Mn.copyA {P : Program} {t : TypeId} {d x : AV} : Mn (Ev.copyA P t d x) := by
  unfold Ev.copyA
  split
  · split
    · refine Mn.firstA.bind fun c => ?_
      split
      · exact Mn.write.bind fun _ => Mn.intM
      · exact Mn.write.bind fun _ => Mn.intM
      · exact Mn.pure
      · exact Mn.no
    · exact Mn.no
  · exact Mn.no
theorem Mn.clearA {P : Program} {t : TypeId} {m : AV} : Mn (Ev.clearA P t m) := by
  unfold Ev.clearA
  split
  · split <;> first | exact Mn.getMap.bind fun _ => Mn.setMap.bind fun _ => Mn.pure | exact Mn.pure | exact Mn.no
  · exact Mn.no
theorem Mn.deleteA {P : Program} {t : TypeId} {m k : AV} : Mn (Ev.deleteA P t m k) := by
  unfold Ev.deleteA
  split
  · split
    · refine Mn.getMap.bind fun es => ?_
      split <;> first | exact Mn.setMap.bind fun _ => Mn.pure | exact Mn.no
    · exact Mn.pure
    · exact Mn.no
  · exact Mn.no
theorem Mn.clearB {P : Program} {ts : List TypeId} {args : List AV} : Mn (Ev.clearB P ts args) := by
  unfold Ev.clearB
  cases ts with
  | nil => exact Mn.no
  | cons t ts =>
    cases args with
    | nil => exact Mn.no
    | cons m args => exact Mn.clearA.vl
theorem Mn.builtinA {P : Program} {b : Builtin} {ts : List TypeId} {args : List AV} : Mn (Ev.builtinA P b ts args) := by
  unfold Ev.builtinA
  split
  · split <;> first | exact Mn.lenA.vl | exact Mn.no
  · split <;> first | exact Mn.appendA.vl | exact Mn.no
  · split <;> first | exact Mn.copyA.vl | exact Mn.no
  · split <;> first | exact Mn.deleteA.vl | exact Mn.no
  · exact Mn.clearB
  · split <;> first | exact Mn.ovl | exact Mn.no
  · split <;> first | exact Mn.ovl | exact Mn.no
  · exact Mn.no
theorem Mn.pickS {s : Bool} {a b : AV} : Mn (Ev.pickS s a b) := by
  unfold Ev.pickS
  split
  · exact Mn.pure
  · exact Mn.ask.bind fun d => by cases d <;> exact Mn.pure
theorem Mn.evOp {P : Program} {tm : Ts AV} {op : Op} : Mn (Ev.evOp P tm op) := by
  cases op <;> simp only [Ev.evOp] <;> try exact Mn.no
  case move => exact Mn.e1 fun _ => Mn.pure
  case assign => exact Mn.e1 fun _ => Mn.pure
  case pick => unfold evPick; split <;> first | exact Mn.pure | exact Mn.no | exact Mn.pickS
  case alloc =>
    unfold evAlloc
    split
    · unfold newBig; exact (Mn.alloc.bind fun _ => Mn.pure).vl
    · split <;> first | exact Mn.newA.vl | exact Mn.no
  case box =>
    unfold evBox
    split
    · refine Mn.vl ?_
      unfold boxA
      split
      · exact Mn.alloc.bind fun _ => Mn.pure
      · exact Mn.newA
    · exact Mn.no
  case build =>
    unfold evBuild
    split
    · unfold buildP
      split
      · unfold repOf
        split
        · split <;> first | exact Mn.pure | exact Mn.ovl
        · exact Mn.ovl
      · exact Mn.ovl
    · exact Mn.no
  case makeChan =>
    refine Mn.e1 fun _ => Mn.vl ?_
    unfold makeChanA
    split
    · split
      · split
        · split
          · exact Mn.alloc.bind fun _ => Mn.pure
          · exact Mn.no
        · exact Mn.no
      · exact Mn.no
    · exact Mn.no
  case makeSlice => exact Mn.e2 fun _ _ => Mn.makeSliceA.vl
  case buildSlice => unfold evBuildSlice; split <;> first | exact Mn.buildSliceA.vl | exact Mn.no
  case insert => exact Mn.e3 fun _ _ _ => Mn.mapSetA.ul
  case load => exact Mn.e1 fun _ => Mn.loadA.vl
  case store => exact Mn.e2 fun _ _ => Mn.storeA.ul
  case nilCheck => exact Mn.e1 fun _ => by unfold nilCheckA; split <;> first | exact Mn.pure | exact Mn.no
  case binOp => exact Mn.e2 fun _ _ => Mn.binA.vl
  case unOp => exact Mn.e1 fun _ => Mn.ovl
  case convert => exact Mn.e1 fun _ => Mn.ovl
  case makeInterface => exact Mn.e1 fun _ => by unfold makeIfaceA; split <;> first | exact Mn.pure | exact Mn.no
  case makeFunc =>
    unfold evMakeFunc; split
    · split <;> first | exact Mn.pure | exact Mn.no
    · exact Mn.no
  case makeMap => unfold evMakeMap; split <;> first | exact Mn.alloc.bind fun _ => Mn.pure | exact Mn.no
  case slice => unfold evSlice; split <;> first | exact Mn.ovl | exact Mn.no
  case fieldAddr => exact Mn.e1 fun _ => Mn.ovl
  case field => exact Mn.e1 fun _ => Mn.ovl
  case indexAddr => exact Mn.e2 fun _ _ => Mn.indexAtA.vl
  case index => exact Mn.e2 fun _ _ => Mn.ovl
  case lookup => exact Mn.e2 fun _ _ => Mn.lookupA.vl
  case mapUpdate => exact Mn.e3 fun _ _ _ => Mn.mapSetA.ul
  case typeAssert => exact Mn.e1 fun _ => Mn.ovl
  case extract => exact Mn.e1 fun _ => by unfold extractA; split <;> first | exact Mn.ovl | exact Mn.no
  case call =>
    unfold evCall; split
    · unfold evCallee; split
      · exact Mn.e1 fun _ => by unfold callVal; split <;> first | exact Mn.pure | exact Mn.no
      · exact Mn.builtinA
      · exact Mn.no
    · exact Mn.no
  case defer =>
    unfold evDefer; split
    · split
      · exact Mn.e1 fun _ => by unfold dfrVal; split <;> first | exact Mn.pure | exact Mn.no
      · exact Mn.no
      · exact Mn.no
    · exact Mn.no
  case panic => exact Mn.e1 fun _ => by unfold panicA; split <;> first | exact Mn.pure | exact Mn.no
end
end Go.Ev

namespace Go.Ev
open Go

/-! ### Frames -/
def TR (σ : Sg) (tm : Ts AV) (tmps : Array Value) : Prop := ∀ t v, tm.get t = some v → ∃ V, tmps[t]? = some V ∧ VR σ v V
theorem TR.mono {σ σ' : Sg} (s : Sub σ σ') {tm : Ts AV} {tmps : Array Value} (h : TR σ tm tmps) : TR σ' tm tmps := fun t v e => let ⟨V, a, b⟩ := h t v e; ⟨V, a, b.mono s⟩
theorem TR.put {σ : Sg} {tm : Ts AV} {a : Act} (h : TR σ tm a.tmps) {v : AV} {V : Value} (hv : VR σ v V) {d : Option Tmp} (hd : ∀ k, d = some k → k < a.tmps.size) : putK tm d v (fun tm => TR σ tm (a.put d V).tmps) := by
  cases d with
  | none => exact h
  | some k =>
    simp only [putK, Ts.setK_eq]
    intro t u ht
    have hk := hd k rfl
    rcases Ts.get_set ht with ⟨rfl, rfl⟩ | ⟨hne, h1⟩
    · exact ⟨V, by simp [Act.put, hk], hv⟩
    · obtain ⟨U, h2, h3⟩ := h t u h1
      exact ⟨U, by simp only [Act.put]; rw [Array.getElem?_setIfInBounds_ne (fun e => hne e.symm)]; exact h2, h3⟩
noncomputable def args (l : List AV) : Nat → Ts AV → Ts AV := fun i t => argsK l i t id
theorem argsK_eq {β : Type} : ∀ (l : List AV) (i : Nat) (t : Ts AV) (k : Ts AV → β), argsK l i t k = k (args l i t)
  | [], _, _, _ => rfl
  | v :: l, i, t, k => by
    unfold args
    show Ts.setK t i v (fun t => argsK l (i + 1) t k) = k (Ts.setK t i v fun t => argsK l (i + 1) t id)
    rw [Ts.setK_eq, Ts.setK_eq, argsK_eq l, argsK_eq l]; rfl
theorem args_get : ∀ (l : List AV) (i : Nat) (t : Ts AV) (k : Nat) (x : AV), (args l i t).get k = some x → (∃ v, i ≤ k ∧ l[k - i]? = some v ∧ x = v) ∨ t.get k = some x
  | [], _, _, _, _, h => .inr h
  | v :: l, i, t, k, x, h => by
    have h' : (args l (i + 1) (t.set i v)).get k = some x := by
      unfold args at h
      have e : argsK (v :: l) i t id = Ts.setK t i v fun t => argsK l (i + 1) t id := rfl
      rw [e, Ts.setK_eq] at h; exact h
    rcases args_get l (i + 1) _ k x h' with ⟨u, h1, h2, h3⟩ | h1
    · refine .inl ⟨u, by omega, ?_, h3⟩
      obtain ⟨d, rfl⟩ : ∃ d, k = i + 1 + d := ⟨k - (i + 1), by omega⟩
      rw [show i + 1 + d - i = d + 1 from by omega]
      rw [show i + 1 + d - (i + 1) = d from by omega] at h2
      simpa using h2
    · rcases Ts.get_set h1 with ⟨rfl, rfl⟩ | ⟨_, h2⟩
      · exact .inl ⟨_, Nat.le_refl _, by simp, rfl⟩
      · exact .inr h2
theorem putK_eq {β : Type} (tm : Ts AV) (d : Option Tmp) (v : AV) (k : Ts AV → β) : putK tm d v k = k (putK tm d v id) := by
  cases d with
  | none => rfl
  | some d => simp only [putK, Ts.setK_eq]; rfl
theorem put_size (a : Act) (d : Option Tmp) (V : Value) : (a.put d V).tmps.size = a.tmps.size := by cases d <;> simp [Act.put]
theorem put_defers (a : Act) (d : Option Tmp) (V : Value) : (a.put d V).defers = a.defers := by cases d <;> rfl
theorem TR.ops {σ : Sg} {tm : Ts AV} {a : Act} (h : TR σ tm a.tmps) (xs : List Operand) : OpsRel σ tm a xs := by
  intro x _ v hv
  cases x with
  | tmp t =>
    obtain ⟨V, h1, h2⟩ := h t v hv
    have : a.eval (.tmp t) = V := by simp [Act.eval, h1]
    rw [this]; exact h2
  | const V => exact ofV_sound σ 6 V v hv
  | func f => injection hv with hv; subst hv; exact VR.func (As := []) (Cs := []) .nil .nil
  | global n => cases hv
def DRs (σ : Sg) : List (FuncId × List AV) → List Deferred → Prop
  | [], [] => True
  | d :: ds, D :: Ds => DR σ d D ∧ DRs σ ds Ds
  | _, _ => False
theorem DR.mono {σ σ' : Sg} (s : Sub σ σ') {d : FuncId × List AV} {D : Deferred} (h : DR σ d D) : DR σ' d D := let ⟨c, a, b⟩ := h; ⟨c, a, b.mono s⟩
theorem DRs.mono {σ σ' : Sg} (s : Sub σ σ') : ∀ {ds : List (FuncId × List AV)} {Ds : List Deferred}, DRs σ ds Ds → DRs σ' ds Ds
  | [], [], _ => trivial
  | _ :: _, _ :: _, ⟨a, b⟩ => ⟨a.mono s, DRs.mono s b⟩
  | [], _ :: _, h => by cases h
  | _ :: _, [], h => by cases h

def opsIn (N : Nat) : List Oper → Bool
  | [] => true
  | o :: os => (match o.dst with | some d => Nat.ble (d + 1) N | none => true) && opsIn N os
def codeIn (N : Nat) : Code → Bool
  | .region _ ops _ => opsIn N ops.toList
  | .seq a b => codeIn N a && codeIn N b
  | .cond _ a b => codeIn N a && codeIn N b
  | .block _ a => codeIn N a
  | .loop a => codeIn N a
  | .scope a => codeIn N a
  | _ => true
theorem opsIn_mem {N : Nat} {ops : List Oper} (h : opsIn N ops = true) : ∀ o ∈ ops, ∀ d, o.dst = some d → d < N := by
  induction ops with
  | nil => intro o ho; cases ho
  | cons p ps ih =>
    intro o ho d hd
    simp only [opsIn, Bool.and_eq_true] at h
    rcases List.mem_cons.1 ho with rfl | hm
    · have h1 := h.1
      rw [hd] at h1
      exact of_ble h1
    · exact ih h.2 o hm d hd
structure PF2 (P : Program) : Prop extends PF P where
  allIn : ∀ (f : Nat) fn c, P.funcs[f]? = some fn → fn.body = some c → codeIn fn.ntmps c = true

/-! ### What the runs of the parts owe -/
def LeRes (g : G) : Res → Prop
  | .no _ => True
  | .fin _ _ _ g' => ∃ L, Le g g' L
  | .val _ g' => ∃ L, Le g g' L
  | .pan _ g' => ∃ L, Le g g' L
def XR (σ : Sg) : X → Exit → Prop
  | .norm, e => e = .normal
  | .exit id, e => e = .exit id
  | .ret, e => e = .ret
  | .pan v, e => ∃ V, e = .panic [{ v := V, recovered := false }] ∧ VR σ v V
def CPost (P : Program) (T : Tp) (σ : Sg) (g : G) (w : World) (N : Nat) (x : X) (tm' : Ts AV) (ds' : List (FuncId × List AV)) (g' : G) : Exit → Act → World → Prop := fun e a' w' =>
  ∃ σ' L, Post P T σ g w σ' g' w' L ∧ XR σ' x e ∧ TR σ' tm' a'.tmps ∧ DRs σ' ds' a'.defers ∧ N ≤ a'.tmps.size
def CodeS (P : Program) (rec : Rec) : Prop := ∀ c tm ds g x tm' ds' g', rec (.code c tm ds) g = .fin x tm' ds' g' → ∀ T hi σ w a N, Pre P T hi σ g w g' → TR σ tm a.tmps → DRs σ ds a.defers → codeIn N c = true → N ≤ a.tmps.size →
  c.wp P (CPost P T σ g w N x tm' ds' g') a w
def CallR (P : Program) (T : Tp) (σ : Sg) (g : G) (w : World) (r : Res) : Ending → World → Prop := fun e w' =>
  match r with
  | .val v g' => ∃ σ' L V, Post P T σ g w σ' g' w' L ∧ e = .returned V ∧ VR σ' v V
  | .pan v g' => ∃ σ' L V, Post P T σ g w σ' g' w' L ∧ e = .panicked [{ v := V, recovered := false }] ∧ VR σ' v V
  | _ => False
def Res.g? : Res → Option G
  | .val _ g => some g
  | .pan _ g => some g
  | _ => none
def CallSf (P : Program) (f : FuncId) (s : List AV → G → Res) : Prop := ∀ args g g', (s args g).g? = some g' → ∀ T hi σ w Args, Pre P T hi σ g w g' → VRs σ args Args.toList →
  Calls P f Args w (CallR P T σ g w (s args g))
structure RecS (P : Program) (rec : Rec) : Prop where
  le : ∀ t g, LeRes g (rec t g)
  code : CodeS P rec
  call : ∀ f, hasBody P f = true → CallSf P f (fun args g => rec (.call f args) g)

/-! ### A single operation -/
theorem runOp_le {P : Program} {rec : Rec} (hr : ∀ t g, LeRes g (rec t g)) {o : Oper} {tm : Ts AV} : Mn (runOp rec P o tm) := by
  intro g r g' h
  unfold runOp at h
  cases e : evOp P tm o.op g with
  | no n => rw [e] at h; cases h
  | ok q g1 =>
    rw [e] at h
    obtain ⟨L, l1⟩ := Mn.evOp _ _ _ e
    cases q <;> simp only at h
    case val v => injection h with h1 h2; subst h2; exact ⟨L, l1⟩
    case pan v => injection h with h1 h2; subst h2; exact ⟨L, l1⟩
    case dfr f args => injection h with h1 h2; subst h2; exact ⟨L, l1⟩
    case call f args =>
      have := hr (.call f args) g1
      cases e2 : rec (.call f args) g1 with
      | no n => rw [e2] at h; cases h
      | fin x t d g2 => rw [e2] at h; cases h
      | val v g2 =>
        rw [e2] at h this
        injection h with h1 h2; subst h2
        obtain ⟨M, l2⟩ := this
        exact ⟨_, l1.trans l2⟩
      | pan v g2 =>
        rw [e2] at h this
        injection h with h1 h2; subst h2
        obtain ⟨M, l2⟩ := this
        exact ⟨_, l1.trans l2⟩
theorem wantedA_le {ops : List Oper} {o : Oper} {tm : Ts AV} : Mn (wantedA ops o tm) := by
  unfold wantedA
  split
  · exact Mn.pure
  · split
    · split
      · split
        · exact Mn.pure
        · exact Mn.ask.bind fun _ => Mn.pure
        · exact Mn.pure
        · exact Mn.no
      · exact Mn.pure
    · exact Mn.pure
/-- the first part of a run fits, if the whole does -/
theorem Pre.first {P : Program} {T : Tp} {hi : Nat} {σ : Sg} {g g1 g' : G} {w : World} {M : List Tch} (p : Pre P T hi σ g w g') (h : Le g1 g' M) : Pre P T hi σ g w g1 where
  rel := p.rel
  fresh := p.fresh
  hi := Nat.le_trans h.nx p.hi
  inT := fun L e => (p.inT (M ++ L) (by rw [h.log, e, List.append_assoc])).of_app.2
  owes := h.owes p.owes
theorem Pre.then {P : Program} {T : Tp} {hi : Nat} {σ σ1 : Sg} {g g1 g' : G} {w w1 : World} {L : List Tch} (p : Pre P T hi σ g w g') (q : Post P T σ g w σ1 g1 w1 L) : Pre P T hi σ1 g1 w1 g' where
  rel := q.rel
  fresh := q.ext.fresh p.fresh q.le.nx
  hi := p.hi
  inT := fun M e => (p.inT (M ++ L) (by rw [e, q.le.log, List.append_assoc])).of_app.1
  owes := p.owes

/-- what an operation's guard reads -/
def GRel (σ : Sg) (ops : Array Oper) (o : Oper) (tm : Ts AV) (a : Act) : Prop := ∀ j want oj d v, o.guard = some (j, want) → ops[j]? = some oj → oj.dst = some d → tm.get d = some v → ∃ V, a.tmps[d]? = some V ∧ VR σ v V
theorem wantedA_sound {P : Program} {T : Tp} {hi : Nat} {σ : Sg} {ops : Array Oper} {o : Oper} {tm : Ts AV} {g g' : G} {w : World} {a : Act} {b : Bool} (h : wantedA ops.toList o tm g = .ok b g') (p : Pre P T hi σ g w g') (hg : GRel σ ops o tm a) :
    Region.wanted o (yielded ops a.tmps) = b ∧ Post P T σ g w σ g' w [] := by
  unfold wantedA at h
  cases hgd : o.guard with
  | none => rw [hgd] at h; obtain ⟨rfl, rfl⟩ := pure_ok h; exact ⟨by simp [Region.wanted, hgd], Post.refl p.rel⟩
  | some jw =>
    obtain ⟨j, want⟩ := jw
    rw [hgd] at h
    simp only [Array.getElem?_toList] at h
    cases hj : ops[j]? with
    | none => rw [hj] at h; obtain ⟨rfl, rfl⟩ := pure_ok h; exact ⟨by simp [Region.wanted, hgd, yielded, hj], Post.refl p.rel⟩
    | some oj =>
      rw [hj] at h
      simp only at h
      cases hd : oj.dst with
      | none => rw [hd] at h; obtain ⟨rfl, rfl⟩ := pure_ok h; exact ⟨by simp [Region.wanted, hgd, yielded, hj, hd], Post.refl p.rel⟩
      | some d =>
        rw [hd] at h
        simp only at h
        cases ht : tm.get d with
        | none => rw [ht] at h; exact (no_ok h).elim
        | some v =>
        rw [ht] at h
        cases v <;> (try simp only at h) <;> first | (exact (no_ok h).elim; done) | skip
        · rename_i b'
          obtain ⟨rfl, rfl⟩ := pure_ok h
          obtain ⟨V, h1, h2⟩ := hg j want oj d _ hgd hj hd ht
          cases h2
          exact ⟨by simp [Region.wanted, hgd, yielded, hj, hd, h1], Post.refl p.rel⟩
        · rename_i b'
          obtain ⟨c, g1, q1, q2⟩ := bind_ok h
          obtain ⟨rfl, rfl⟩ := pure_ok q2
          obtain ⟨r, hr, rfl⟩ := ask_ok q1
          obtain ⟨V, h1, h2⟩ := hg j want oj d _ hgd hj hd ht
          cases h2
          have hbc : b' = c := p.owes (b', c) List.mem_cons_self
          subst hbc
          exact ⟨by simp [Region.wanted, hgd, yielded, hj, hd, h1], Post.asked p.rel⟩
        · rename_i vs
          cases vs with
          | cons x xs => exact (no_ok h).elim
          | nil =>
          obtain ⟨rfl, rfl⟩ := pure_ok h
          obtain ⟨V, h1, h2⟩ := hg j want oj d _ hgd hj hd ht
          cases h2 with | tup h3 =>
          cases h3
          exact ⟨by simp [Region.wanted, hgd, yielded, hj, hd, h1], Post.refl p.rel⟩

theorem opStep {P : Program} {rec : Rec} (hP : PF P) (hrec : RecS P rec) {T : Tp} {hi : Nat} {σ : Sg} {o : Oper} {tm : Ts AV} {g g' : G} {w : World} {a : Act} {r : OpV} {K : Act → World → Prop} {Q : Exit → Act → World → Prop}
    (h : runOp rec P o tm g = .ok r g') (p : Pre P T hi σ g w g') (hops : OpsRel σ tm a o.op.operands.toList)
    (hk : ∀ σ' w' L, Post P T σ g w σ' g' w' L → match r with
      | .val v => ∀ V, VR σ' v V → K (a.put o.dst V) w'
      | .pan v => ∀ V, VR σ' v V → Q (.panic [{ v := V, recovered := false }]) a w'
      | .dfr f args => ∀ D, DR σ' (f, args) D → hasBody P f = true → K ({ a with defers := D :: a.defers }.put o.dst undef) w') :
    o.wp P a w K Q := by
  unfold runOp at h
  cases e : evOp P tm o.op g with
  | no n => rw [e] at h; cases h
  | ok q g1 =>
    rw [e] at h
    have hle : ∃ M, Le g1 g' M := by
      cases q <;> simp only at h
      case val v => injection h with h1 h2; subst h2; exact ⟨_, Le.refl _⟩
      case pan v => injection h with h1 h2; subst h2; exact ⟨_, Le.refl _⟩
      case dfr f args => injection h with h1 h2; subst h2; exact ⟨_, Le.refl _⟩
      case call f args =>
        have := hrec.le (.call f args) g1
        cases e2 : rec (.call f args) g1 with
        | no n => rw [e2] at h; cases h
        | fin x t d g2 => rw [e2] at h; cases h
        | val v g2 => rw [e2] at h this; injection h with h1 h2; subst h2; exact this
        | pan v g2 => rw [e2] at h this; injection h with h1 h2; subst h2; exact this
    obtain ⟨M, hM⟩ := hle
    obtain ⟨σ1, w1, L1, p1, hres⟩ := evOp_sound hP hops q g1 e (p.first hM)
    cases q <;> simp only at h
    case val v =>
      injection h with h1 h2; subst h1; subst h2
      obtain ⟨V, v1, v2⟩ := hres
      rcases v2 with v2 | ⟨v2, rfl⟩
      · unfold Oper.wp; rw [v2]; exact hk σ1 w1 L1 p1 V v1
      · unfold Oper.wp; rw [v2]; exact hk σ1 w1 L1 p1 undef v1
    case pan v =>
      injection h with h1 h2; subst h1; subst h2
      obtain ⟨V, v1, v2⟩ := hres
      unfold Oper.wp; rw [v2]; exact hk σ1 w1 L1 p1 V v1
    case dfr f args =>
      injection h with h1 h2; subst h1; subst h2
      obtain ⟨D, v1, v2, v3⟩ := hres
      unfold Oper.wp; rw [v2]; exact hk σ1 w1 L1 p1 D v1 v3
    case call f args =>
      obtain ⟨As, v1, v2, hb⟩ := hres
      unfold Oper.wp; rw [v2]
      simp only [Oper.upon]
      cases e2 : rec (.call f args) g1 with
      | no n => rw [e2] at h; cases h
      | fin x t d g2 => rw [e2] at h; cases h
      | val v g2 =>
        rw [e2] at h
        injection h with h1 h2; subst h1; subst h2
        have := hrec.call f hb args g1 g2 (by show (rec (.call f args) g1).g? = _; rw [e2]; rfl) T hi σ1 w1 As (p.then p1) v1
        refine this.mono fun en w2 hw => ?_
        simp only [CallR, e2] at hw
        obtain ⟨σ2, L2, V, p2, rfl, hv⟩ := hw
        exact hk σ2 w2 _ (p1.trans p2 p.fresh p.hi) V hv
      | pan v g2 =>
        rw [e2] at h
        injection h with h1 h2; subst h1; subst h2
        have := hrec.call f hb args g1 g2 (by show (rec (.call f args) g1).g? = _; rw [e2]; rfl) T hi σ1 w1 As (p.then p1) v1
        refine this.mono fun en w2 hw => ?_
        simp only [CallR, e2] at hw
        obtain ⟨σ2, L2, V, p2, rfl, hv⟩ := hw
        exact hk σ2 w2 _ (p1.trans p2 p.fresh p.hi) V hv
end Go.Ev

namespace Go.Ev
open Go

section
variable {P : Program} {rec : Rec}
theorem evSeq_nil {ops : List Oper} {tm : Ts AV} {ds : List (FuncId × List AV)} {g : G} : evSeq rec P ops [] tm ds g = .fin .norm tm ds g := rfl
theorem evSeq_cons {ops : List Oper} {o : Oper} {os : List Oper} {tm : Ts AV} {ds : List (FuncId × List AV)} {g : G} : evSeq rec P ops (o :: os) tm ds g = evSeqW rec P o (evSeq rec P ops os) tm ds (wantedA ops o tm g) := rfl
/-- one step in the order of the text, taken apart -/
theorem evSeq_step {ops : List Oper} {o : Oper} {os : List Oper} {tm : Ts AV} {ds : List (FuncId × List AV)} {g : G} {r : Res} (h : evSeq rec P ops (o :: os) tm ds g = r) (hn : ∀ n, r ≠ .no n) :
    ∃ b g1, wantedA ops o tm g = .ok b g1 ∧
      ((b = false ∧ evSeq rec P ops os (putK tm o.dst (.tup []) id) ds g1 = r) ∨
       (b = true ∧ ∃ q g2, runOp rec P o tm g1 = .ok q g2 ∧
        match q with
        | .val v => evSeq rec P ops os (putK tm o.dst v id) ds g2 = r
        | .pan v => r = .fin (.pan v) tm ds g2
        | .dfr f args => evSeq rec P ops os (putK tm o.dst (.tup []) id) ((f, args) :: ds) g2 = r)) := by
  rw [evSeq_cons] at h
  cases e : wantedA ops o tm g with
  | no n => rw [e] at h; exact absurd h.symm (hn n)
  | ok b g1 =>
    rw [e] at h
    refine ⟨b, g1, rfl, ?_⟩
    cases b with
    | false => left; refine ⟨rfl, ?_⟩; simp only [evSeqW] at h; rw [putK_eq] at h; exact h
    | true =>
      right
      refine ⟨rfl, ?_⟩
      simp only [evSeqW] at h
      cases e2 : runOp rec P o tm g1 with
      | no n => rw [e2] at h; exact absurd h.symm (hn n)
      | ok q g2 =>
        rw [e2] at h
        refine ⟨q, g2, rfl, ?_⟩
        cases q with
        | val v => simp only [evSeqR, evSeqV] at h; rw [putK_eq] at h; exact h
        | pan v => exact h.symm
        | dfr f args => simp only [evSeqR, evSeqV] at h; rw [putK_eq] at h; exact h
theorem LeRes.trans {g g1 : G} {L : List Tch} {r : Res} (h : Le g g1 L) (h2 : LeRes g1 r) : LeRes g r := by
  cases r with
  | no n => trivial
  | fin x t d g2 => obtain ⟨M, l⟩ := h2; exact ⟨_, h.trans l⟩
  | val v g2 => obtain ⟨M, l⟩ := h2; exact ⟨_, h.trans l⟩
  | pan v g2 => obtain ⟨M, l⟩ := h2; exact ⟨_, h.trans l⟩
theorem evSeq_le (hr : ∀ t g, LeRes g (rec t g)) {ops : List Oper} : ∀ (l : List Oper) (tm : Ts AV) (ds : List (FuncId × List AV)) (g : G), LeRes g (evSeq rec P ops l tm ds g)
  | [], tm, ds, g => ⟨[], Le.refl g⟩
  | o :: os, tm, ds, g => by
    by_cases hn : ∀ n, evSeq rec P ops (o :: os) tm ds g ≠ .no n
    · obtain ⟨b, g1, h1, h2⟩ := evSeq_step rfl hn
      obtain ⟨L1, l1⟩ := wantedA_le _ _ _ h1
      rcases h2 with ⟨rfl, h2⟩ | ⟨rfl, q, g2, h3, h4⟩
      · rw [← h2]; exact LeRes.trans l1 (evSeq_le hr os _ _ _)
      · obtain ⟨L2, l2⟩ := runOp_le hr _ _ _ h3
        cases q with
        | val v => rw [← h4]; exact LeRes.trans (l1.trans l2) (evSeq_le hr os _ _ _)
        | pan v => rw [h4]; exact ⟨_, l1.trans l2⟩
        | dfr f args => rw [← h4]; exact LeRes.trans (l1.trans l2) (evSeq_le hr os _ _ _)
    · have : ∃ n, evSeq rec P ops (o :: os) tm ds g = .no n := by
        cases e : evSeq rec P ops (o :: os) tm ds g with
        | no n => exact ⟨n, rfl⟩
        | _ => exact absurd (fun n h => by rw [e] at h; cases h) hn
      obtain ⟨n, e⟩ := this
      rw [e]; trivial

theorem guard_rel {σ : Sg} {ops : Array Oper} {o : Oper} {tm : Ts AV} {a : Act} (h : TR σ tm a.tmps) : GRel σ ops o tm a := fun _ _ _ d v _ _ _ ht => h d v ht

theorem evSeq_sound (hP : PF P) (hrec : RecS P rec) {ops : Array Oper} {T : Tp} {hi N : Nat} {σ0 : Sg} {g0 : G} {w0 : World} (f0 : Fresh σ0 g0 hi) :
    ∀ (l : List Oper) (i : Nat), (∀ j : Nat, l[j]? = ops[i + j]?) → ∀ (tm : Ts AV) (ds : List (FuncId × List AV)) (g : G) (x : X) (tm' : Ts AV) (ds' : List (FuncId × List AV)) (g' : G), evSeq rec P ops.toList l tm ds g = .fin x tm' ds' g' →
      ∀ (σ : Sg) (w : World) (a : Act) (L : List Tch), Post P T σ0 g0 w0 σ g w L → Pre P T hi σ g w g' → TR σ tm a.tmps → DRs σ ds a.defers → opsIn N l = true → N ≤ a.tmps.size →
        wpOps P ops (CPost P T σ0 g0 w0 N x tm' ds' g') (List.range' i l.length) a w
  | [], i, _, tm, ds, g, x, tm', ds', g', h, σ, w, a, L, p0, p, ht, hd, _, hN => by
    rw [evSeq_nil] at h
    injection h with h1 h2 h3 h4
    subst h1; subst h2; subst h3; subst h4
    exact ⟨σ, L, p0, rfl, ht, hd, hN⟩
  | o :: os, i, hal, tm, ds, g, x, tm', ds', g', h, σ, w, a, L, p0, p, ht, hd, hin, hN => by
    have ho : ops[i]? = some o := by have := hal 0; simpa using this.symm
    have hal' : ∀ j : Nat, os[j]? = ops[i + 1 + j]? := fun j => by have := hal (j + 1); rw [show i + 1 + j = i + (j + 1) from by omega]; simpa using this
    simp only [opsIn, Bool.and_eq_true] at hin
    have hdst : ∀ k, o.dst = some k → k < a.tmps.size := fun k hk => by
      have h1 := hin.1
      rw [hk] at h1
      exact Nat.lt_of_lt_of_le (of_ble h1) hN
    obtain ⟨b, g1, h1, h2⟩ := evSeq_step h (fun n e => by cases e)
    rw [List.length_cons, List.range'_succ, wpOps_cons]
    unfold wpOp
    rw [ho]
    simp only
    rcases h2 with ⟨rfl, h2⟩ | ⟨rfl, q, g2, h3, h4⟩
    · have hle := evSeq_le (P := P) hrec.le (ops := ops.toList) os (putK tm o.dst (.tup []) id) ds g1
      rw [h2] at hle
      obtain ⟨M, hM⟩ := hle
      obtain ⟨hw, pw⟩ := wantedA_sound h1 (p.first hM) (guard_rel ht)
      rw [hw]
      simp only [Bool.false_eq_true, if_false]
      have htp : TR σ (putK tm o.dst (.tup []) id) (a.put o.dst undef).tmps := by
        have := ht.put (v := .tup []) (V := undef) (.tup (Cs := []) .nil) hdst
        rw [putK_eq] at this; exact this
      exact evSeq_sound hP hrec f0 os (i + 1) hal' _ _ _ _ _ _ _ h2 σ w _ _ (p0.trans pw f0 (Nat.le_trans hM.nx p.hi)) (p.then pw) htp (by rw [put_defers]; exact hd) hin.2 (by rw [put_size]; exact hN)
    · obtain ⟨L2, l2⟩ := runOp_le hrec.le _ _ _ h3
      have hle2 : ∃ M, Le g2 g' M := by
        cases q with
        | val v => have hle := evSeq_le (P := P) hrec.le (ops := ops.toList) os (putK tm o.dst v id) ds g2; rw [h4] at hle; exact hle
        | pan v => injection h4 with _ _ _ h4; subst h4; exact ⟨_, Le.refl _⟩
        | dfr f args => have hle := evSeq_le (P := P) hrec.le (ops := ops.toList) os (putK tm o.dst (.tup []) id) ((f, args) :: ds) g2; rw [h4] at hle; exact hle
      obtain ⟨M, hM⟩ := hle2
      obtain ⟨hw, pw⟩ := wantedA_sound h1 (p.first (l2.trans hM)) (guard_rel ht)
      rw [hw]
      simp only [if_true]
      refine .inl (opStep hP hrec h3 ((p.then pw).first hM) (ht.ops _) fun σ' w' L' pp => ?_)
      have hsub : Sub σ σ' := pp.ext.sub ((p.then pw).fresh) (Nat.le_trans hM.nx p.hi)
      have p1 := p0.trans (pw.trans pp p.fresh (Nat.le_trans hM.nx p.hi)) f0 (Nat.le_trans hM.nx p.hi)
      have p2 := (p.then pw).then pp
      cases q with
      | val v =>
        intro V hV
        have htp : TR σ' (putK tm o.dst v id) (a.put o.dst V).tmps := by
          have := (ht.mono hsub).put hV hdst
          rw [putK_eq] at this; exact this
        exact evSeq_sound hP hrec f0 os (i + 1) hal' _ _ _ _ _ _ _ h4 σ' w' _ _ p1 p2 htp (by rw [put_defers]; exact hd.mono hsub) hin.2 (by rw [put_size]; exact hN)
      | pan v =>
        intro V hV
        injection h4 with h5 h6 h7 h8
        subst h5; subst h6; subst h7; subst h8
        exact ⟨σ', _, p1, ⟨V, rfl, hV⟩, ht.mono hsub, hd.mono hsub, hN⟩
      | dfr f args =>
        intro D hD _
        have htp : TR σ' (putK tm o.dst (.tup []) id) (({ a with defers := D :: a.defers } : Act).put o.dst undef).tmps := by
          have := TR.put (a := { a with defers := D :: a.defers }) (ht.mono hsub) (v := .tup []) (V := undef) (.tup (Cs := []) .nil) hdst
          rw [putK_eq] at this; exact this
        exact evSeq_sound hP hrec f0 os (i + 1) hal' _ _ _ _ _ _ _ h4 σ' w' _ _ p1 p2 htp (by rw [put_defers]; exact ⟨hD, hd.mono hsub⟩) hin.2 (by rw [put_size]; exact hN)
end
end Go.Ev

namespace Go.Ev
open Go

/-! ### Regions in any order: the generic walk -/
def unl (n : Nat) (listed : Array Bool) : Nat := ((List.range n).filter fun i => !listed.getD i true).length
theorem unl_zero {n : Nat} {listed : Array Bool} (h : unl n listed = 0) : ∀ i, i < n → listed.getD i true = true := by
  intro i hi
  unfold unl at h
  have h := List.eq_nil_of_length_eq_zero h
  rw [List.filter_eq_nil_iff] at h
  have := h i (List.mem_range.2 hi)
  simpa using this
theorem getD_set (listed : Array Bool) (i j : Nat) (d : Bool) (hi : i < listed.size) : (listed.setIfInBounds i true).getD j d = if j = i then true else listed.getD j d := by
  by_cases h : j = i
  · subst h; simp [hi]
  · rw [if_neg h]; simp [Array.getElem?_setIfInBounds_ne (fun e => h e.symm)]
theorem unl_set {n : Nat} {listed : Array Bool} {i : Nat} (hs : listed.size = n) (hi : i < n) (hf : listed.getD i true = false) : unl n (listed.setIfInBounds i true) < unl n listed := by
  unfold unl
  have e : ((List.range n).filter fun j => !(listed.setIfInBounds i true).getD j true) = ((List.range n).filter fun j => !listed.getD j true).filter fun j => j != i := by
    rw [List.filter_filter]
    apply List.filter_congr
    intro j _
    rw [getD_set listed i j true (by omega)]
    by_cases h : j = i
    · subst h; simp
    · simp [h]
  rw [e]
  rw [List.length_filter_lt_length_iff_exists]
  refine ⟨i, ?_, by simp⟩
  rw [List.mem_filter]; exact ⟨List.mem_range.2 hi, by rw [hf]; rfl⟩
theorem wpAny_inv {P : Program} {ops : Array Oper} {Q : Exit → Act → World → Prop} (Inv : Array Bool → Act → World → Prop)
    (hstep : ∀ listed a w i, listed.size = ops.size → Inv listed a w → i ∈ Region.ready .any ops listed → wpOp P ops Q i (Inv (listed.setIfInBounds i true)) a w)
    (hend : ∀ listed a w, listed.size = ops.size → Inv listed a w → Region.ready .any ops listed = [] → Q .normal a w) :
    ∀ (fuel : Nat) (listed : Array Bool) (a : Act) (w : World), unl ops.size listed ≤ fuel → listed.size = ops.size → Inv listed a w → wpAny P .any ops Q fuel listed a w := by
  intro fuel
  induction fuel with
  | zero =>
    intro listed a w hu hs hI
    have hnil : Region.ready .any ops listed = [] := by
      have := unl_zero (Nat.le_zero.1 hu)
      cases hr : Region.ready .any ops listed with
      | nil => rfl
      | cons i r =>
        have hm : i ∈ Region.ready .any ops listed := by rw [hr]; exact List.mem_cons_self
        obtain ⟨h0, o, ho, _⟩ := mem_ready.1 hm
        have hlt := (Array.getElem?_eq_some_iff.1 ho).1
        rw [this i hlt] at h0; cases h0
    exact ⟨hnil, hend listed a w hs hI hnil⟩
  | succ fuel ih =>
    intro listed a w hu hs hI
    refine ⟨fun h => hend listed a w hs hI h, fun i hi => ?_⟩
    obtain ⟨h0, o, ho, _⟩ := mem_ready.1 hi
    have hlt := (Array.getElem?_eq_some_iff.1 ho).1
    refine wpOp_mono (fun a' w' h => ih _ a' w' ?_ (by simpa using hs) h) (hstep listed a w i hs hI hi)
    have := unl_set (n := ops.size) hs hlt h0
    omega

/-! ### What the static question tells -/
theorem edgeBits_spec {ms : List Nat} {i : Nat} : ∀ {es : List Edge} {b : Nat}, edgeBits ms i es = some b →
    (∀ e ∈ es, Region.binds .any e = true → e.on < i) ∧ (∀ j, b.testBit j = true → ∃ e ∈ es, Region.binds .any e = true ∧ (j = e.on ∨ ∃ m, ms[e.on]? = some m ∧ m.testBit j = true))
  | [], b, h => by
    simp only [edgeBits] at h; injection h with h; subst h
    refine ⟨?_, ?_⟩
    · intro e he; cases he
    · intro j hj; rw [Nat.zero_testBit] at hj; cases hj
  | e :: es, b, h => by
    unfold edgeBits at h
    split at h
    · rename_i hb
      obtain ⟨h1, h2⟩ := edgeBits_spec h
      refine ⟨fun e' he' hb' => ?_, fun j hj => ?_⟩
      · rcases List.mem_cons.1 he' with rfl | hm
        · rw [hb] at hb'; cases hb'
        · exact h1 e' hm hb'
      · obtain ⟨e', a, c⟩ := h2 j hj
        exact ⟨e', List.mem_cons_of_mem _ a, c⟩
    · rename_i hb
      split at h
      · rename_i m r hlt hm hr
        injection h with h; subst h
        obtain ⟨h1, h2⟩ := edgeBits_spec hr
        refine ⟨fun e' he' hb' => ?_, fun j hj => ?_⟩
        · rcases List.mem_cons.1 he' with rfl | hm'
          · exact of_ble hlt
          · exact h1 e' hm' hb'
        · have hj' : ((2 ^ e.on ||| m) ||| r).testBit j = true := hj
          rw [Nat.testBit_or, Nat.testBit_or, Bool.or_eq_true, Bool.or_eq_true] at hj'
          rcases hj' with (h3 | h3) | h3
          · rw [Nat.testBit_two_pow] at h3
            exact ⟨e, List.mem_cons_self, hb, .inl (by have := of_decide_eq_true h3; exact this.symm)⟩
          · exact ⟨e, List.mem_cons_self, hb, .inr ⟨m, hm, h3⟩⟩
          · obtain ⟨e', a, c⟩ := h2 j h3
            exact ⟨e', List.mem_cons_of_mem _ a, c⟩
      · cases h
theorem bitsFrom_spec : ∀ (l : List Oper) (i : Nat) (ms ms' : List Nat), ms.length = i → bitsFrom ms i l = some ms' →
    ms'.length = i + l.length ∧ (∀ j, j < i → ms'[j]? = ms[j]?) ∧
    ∀ k o, l[k]? = some o → ∃ b, ms'[i + k]? = some b ∧ (∀ e ∈ o.after, Region.binds .any e = true → e.on < i + k) ∧
      (∀ j, b.testBit j = true → ∃ e ∈ o.after, Region.binds .any e = true ∧ (j = e.on ∨ ∃ m, ms'[e.on]? = some m ∧ m.testBit j = true))
  | [], i, ms, ms', hl, h => by
    simp only [bitsFrom] at h; injection h with h; subst h
    exact ⟨by simpa using hl, fun _ _ => rfl, fun k o hk => by simp at hk⟩
  | o :: os, i, ms, ms', hl, h => by
    unfold bitsFrom at h
    split at h
    · rename_i b hb
      obtain ⟨h1, h2, h3⟩ := bitsFrom_spec os (i + 1) (ms ++ [b]) ms' (by simp [hl]) h
      obtain ⟨e1, e2⟩ := edgeBits_spec hb
      refine ⟨by rw [h1, List.length_cons]; omega, fun j hj => ?_, fun k o' hk => ?_⟩
      · rw [h2 j (by omega), List.getElem?_append_left (by omega)]
      · cases k with
        | zero =>
          simp at hk; subst hk
          refine ⟨b, ?_, fun e he hb => e1 e (by simpa using he) hb, fun j hj => ?_⟩
          · rw [h2 (i + 0) (by omega), List.getElem?_append_right (by omega)]; simp [hl]
          · obtain ⟨e, a, c, d⟩ := e2 j hj
            refine ⟨e, by simpa using a, c, ?_⟩
            rcases d with d | ⟨m, d1, d2⟩
            · exact .inl d
            · refine .inr ⟨m, ?_, d2⟩
              have := e1 e a c
              rw [h2 e.on (by omega), List.getElem?_append_left (by omega)]; exact d1
        | succ k =>
          obtain ⟨b', a, c, d⟩ := h3 k o' (by simpa using hk)
          rw [show i + 1 + k = i + (k + 1) from by omega] at a c
          exact ⟨b', a, c, d⟩
    · cases h
theorem apartFrom_spec {ops : Array Oper} {ms : List Nat} {i : Nat} {oi : Oper} : ∀ (l : List Oper) (j : Nat), apartFrom ops ms i oi l j = true → ∀ k o, l[k]? = some o → ∃ m, ms[j + k]? = some m ∧ (m.testBit i = true ∨ oi.apart ops o = true)
  | [], _, _, k, o, hk => by simp at hk
  | p :: ps, j, h, k, o, hk => by
    simp only [apartFrom, Bool.and_eq_true] at h
    cases k with
    | zero =>
      simp at hk; subst hk
      have h1 := h.1
      split at h1
      · rename_i m hm
        exact ⟨m, hm, by simpa using h1⟩
      · cases h1
    | succ k =>
      obtain ⟨m, a, b⟩ := apartFrom_spec ps (j + 1) h.2 k o (by simpa using hk)
      rw [show j + 1 + k = j + (k + 1) from by omega] at a
      exact ⟨m, a, b⟩
theorem allApart_spec {ops : Array Oper} {ms : List Nat} : ∀ (l : List Oper) (i : Nat), allApart ops ms l i = true → ∀ j k oj ok, j < k → l[j]? = some oj → l[k]? = some ok → ∃ m, ms[i + k]? = some m ∧ (m.testBit (i + j) = true ∨ oj.apart ops ok = true)
  | [], _, _, j, k, oj, ok, _, hj, _ => by simp at hj
  | p :: ps, i, h, j, k, oj, ok, hjk, hj, hk => by
    simp only [allApart, Bool.and_eq_true] at h
    obtain ⟨k, rfl⟩ : ∃ k', k = k' + 1 := ⟨k - 1, by omega⟩
    have hk' : ps[k]? = some ok := by simpa using hk
    cases j with
    | zero =>
      simp at hj; subst hj
      obtain ⟨m, a, b⟩ := apartFrom_spec ps (i + 1) h.1 k ok hk'
      rw [show i + 1 + k = i + (k + 1) from by omega] at a
      exact ⟨m, a, b⟩
    | succ j =>
      obtain ⟨m, a, b⟩ := allApart_spec ps (i + 1) h.2 j k oj ok (by omega) (by simpa using hj) hk'
      rw [show i + 1 + k = i + (k + 1) from by omega] at a
      rw [show i + 1 + j = i + (j + 1) from by omega] at b
      exact ⟨m, a, b⟩
/-- all that is needed of the static question -/
structure Stat (ops : Array Oper) (ms : List Nat) : Prop where
  bits : ∀ (k : Nat) o, ops[k]? = some o → ∃ b, ms[k]? = some b ∧ (∀ e ∈ o.after, Region.binds .any e = true → e.on < k) ∧
    (∀ j, b.testBit j = true → ∃ e ∈ o.after, Region.binds .any e = true ∧ (j = e.on ∨ ∃ m, ms[e.on]? = some m ∧ m.testBit j = true))
  apart : ∀ (j k : Nat) oj ok m, j < k → ops[j]? = some oj → ops[k]? = some ok → ms[k]? = some m → m.testBit j = true ∨ oj.apart ops ok = true
theorem static_spec {ops : Array Oper} {ms : List Nat} (h : static ops = some ms) : Stat ops ms := by
  unfold static at h
  split at h
  · rename_i ms' hb
    split at h
    · rename_i hc
      injection h with h; subst h
      simp only [Bool.and_eq_true] at hc
      obtain ⟨_, _, h3⟩ := bitsFrom_spec ops.toList 0 [] ms' rfl hb
      refine ⟨fun k o ho => ?_, fun j k oj ok m hjk hj hk hm => ?_⟩
      · have := h3 k o (by simpa using ho)
        simpa using this
      · obtain ⟨m', a, b⟩ := allApart_spec ops.toList 0 hc.2 j k oj ok hjk (by simpa using hj) (by simpa using hk)
        rw [Nat.zero_add] at a b
        rw [hm] at a; injection a with a; subst a
        exact b
    · cases h
  · cases h
end Go.Ev

namespace Go.Ev
open Go

theorem noLog_eq (g : G) : noLog g = ⟨g.heap, g.next, [], g.orc, g.obl⟩ := by cases g; rfl
def logsOf (gs : Nat → G) : Nat → List (List Tch)
  | 0 => []
  | k + 1 => (gs (k + 1)).log :: logsOf gs k
def Lsum (gs : Nat → G) : Nat → List Tch
  | 0 => []
  | k + 1 => (gs (k + 1)).log ++ Lsum gs k
theorem logsOf_congr {gs gs' : Nat → G} : ∀ {i : Nat}, (∀ k, k ≤ i → gs' k = gs k) → logsOf gs' i = logsOf gs i
  | 0, _ => rfl
  | i + 1, h => by
    show (gs' (i + 1)).log :: logsOf gs' i = (gs (i + 1)).log :: logsOf gs i
    rw [h (i + 1) (Nat.le_refl _), logsOf_congr fun k hk => h k (by omega)]
theorem joinLogs_eq {gs : Nat → G} (base : List Tch) : ∀ {n : Nat} {fs : List Foot}, fs.map Foot.log = logsOf gs n → joinLogs fs base = Lsum gs n ++ base
  | 0, [], _ => rfl
  | 0, _ :: _, h => by cases h
  | _ + 1, [], h => by cases h
  | n + 1, f :: fs, h => by
    simp only [List.map_cons, logsOf, List.cons.injEq] at h
    show f.log ++ joinLogs fs base = ((gs (n + 1)).log ++ Lsum gs n) ++ base
    rw [joinLogs_eq base h.2, h.1, List.append_assoc]
theorem footsApart_spec {gs : Nat → G} {m : Nat} {log : List Tch} : ∀ {i : Nat} {fs : List Foot}, fs.map Foot.log = logsOf gs i → footsApart m log fs i = true → ∀ j, j < i → m.testBit j = true ∨ logsApart (gs (j + 1)).log log = true
  | 0, _, _, _, j, hj => by omega
  | _ + 1, [], h, _, _, _ => by cases h
  | i + 1, f :: fs, h, h2, j, hj => by
    simp only [List.map_cons, logsOf, List.cons.injEq] at h
    simp only [footsApart, Nat.add_sub_cancel, Bool.and_eq_true, Bool.or_eq_true] at h2
    rcases Nat.lt_or_ge j i with h3 | h3
    · exact footsApart_spec h.2 h2.2 j h3
    · have : j = i := by omega
      subst this
      rw [h.1] at h2; exact h2.1

structure Step (rec : Rec) (P : Program) (ops : Array Oper) (ms : List Nat) (tms : Nat → Ts AV) (gs : Nat → G) (vs : Nat → AV) (k : Nat) (o : Oper) : Prop where
  run : ∃ b g1, wantedA ops.toList o (tms k) (noLog (gs k)) = .ok b g1 ∧ (b = false → gs (k + 1) = g1 ∧ vs k = .tup []) ∧ (b = true → runOp rec P o (tms k) g1 = .ok (.val (vs k)) (gs (k + 1)))
  put : tms (k + 1) = putK (tms k) o.dst (vs k) id
  apart : ∀ m, ms[k]? = some m → ∀ j, j < k → m.testBit j = true ∨ logsApart (gs (j + 1)).log (gs (k + 1)).log = true
theorem Step.congr {rec : Rec} {P : Program} {ops : Array Oper} {ms : List Nat} {tms tms' : Nat → Ts AV} {gs gs' : Nat → G} {vs vs' : Nat → AV} {k i : Nat} {o : Oper} (h : Step rec P ops ms tms gs vs k o) (hk : k < i)
    (ht : ∀ j, j ≤ i → tms' j = tms j) (hg : ∀ j, j ≤ i → gs' j = gs j) (hv : ∀ j, j < i → vs' j = vs j) : Step rec P ops ms tms' gs' vs' k o where
  run := by rw [ht k (by omega), hg k (by omega), hg (k + 1) (by omega), hv k hk]; exact h.run
  put := by rw [ht k (by omega), ht (k + 1) (by omega), hv k hk]; exact h.put
  apart := fun m hm j hj => by rw [hg (j + 1) (by omega), hg (k + 1) (by omega)]; exact h.apart m hm j hj
theorem wantedA_log {ops : List Oper} {o : Oper} {tm : Ts AV} {g g' : G} {b : Bool} (h : wantedA ops o tm g = .ok b g') : g'.log = g.log := by
  unfold wantedA at h
  cases hgd : o.guard with
  | none => rw [hgd] at h; obtain ⟨_, rfl⟩ := pure_ok h; rfl
  | some jw =>
    obtain ⟨j, want⟩ := jw
    rw [hgd] at h
    simp only at h
    cases hj : ops[j]? with
    | none => rw [hj] at h; obtain ⟨_, rfl⟩ := pure_ok h; rfl
    | some oj =>
      rw [hj] at h
      simp only at h
      cases hd : oj.dst with
      | none => rw [hd] at h; obtain ⟨_, rfl⟩ := pure_ok h; rfl
      | some d =>
        rw [hd] at h
        simp only at h
        cases ht : tm.get d with
        | none => rw [ht] at h; exact (no_ok h).elim
        | some v =>
        rw [ht] at h
        cases v <;> (try simp only at h) <;> first | (exact (no_ok h).elim; done) | skip
        · obtain ⟨_, rfl⟩ := pure_ok h; rfl
        · obtain ⟨c, g1, q1, q2⟩ := bind_ok h
          obtain ⟨_, rfl⟩ := pure_ok q2
          obtain ⟨r, _, rfl⟩ := ask_ok q1
          rfl
        · rename_i vs
          cases vs with
          | cons x xs => exact (no_ok h).elim
          | nil => obtain ⟨_, rfl⟩ := pure_ok h; rfl
theorem later {α : Type} (f : Nat → α) (i : Nat) (x : α) : ∃ f' : Nat → α, (∀ j, j < i → f' j = f j) ∧ f' i = x :=
  ⟨fun k => if k = i then x else f k, fun j hj => by show (if j = i then _ else _) = _; rw [if_neg (by omega)], if_pos rfl⟩
theorem evPar_cons {rec : Rec} {P : Program} {ops : List Oper} {ms : List Nat} {o : Oper} {l : List Oper} {i : Nat} {fs : List Foot} {tm : Ts AV} {g : G} :
    evPar rec P ops ms (o :: l) i fs tm g = evParW rec P ms o (evPar rec P ops ms l) i fs tm (wantedA ops o tm (noLog g)) := rfl
theorem setFoot_eq (lo : Nat) (fs : List Foot) (g : G) (k : List Foot → G → Out (Ts AV × List Foot)) : setFoot lo fs g k = k (⟨lo, g.next, g.log⟩ :: fs) g := by cases g; rfl
theorem logsApart_nil (a : List Tch) : logsApart a [] = true := by simp [logsApart]
/-- one step taken apart -/
theorem evPar_step {rec : Rec} {P : Program} {ops : List Oper} {ms : List Nat} {o : Oper} {l : List Oper} {i : Nat} {fs : List Foot} {tm : Ts AV} {g : G} {q : Ts AV × List Foot} {g' : G}
    (h : evPar rec P ops ms (o :: l) i fs tm g = .ok q g') : ∃ b g1 v g2 f, wantedA ops o tm (noLog g) = .ok b g1 ∧ (b = false → g2 = g1 ∧ v = .tup []) ∧ (b = true → runOp rec P o tm g1 = .ok (.val v) g2) ∧
      f.log = g2.log ∧ (b = false ∨ ∃ m, ms[i]? = some m ∧ footsApart m g2.log fs i = true) ∧ evPar rec P ops ms l (i + 1) (f :: fs) (putK tm o.dst v id) g2 = .ok q g' := by
  rw [evPar_cons] at h
  cases e : wantedA ops o tm (noLog g) with
  | no n => rw [e] at h; cases h
  | ok b g1 =>
    rw [e] at h
    cases b with
    | false =>
      simp only [evParW] at h
      rw [setFoot_eq, putK_eq, natK_eq] at h
      exact ⟨false, g1, .tup [], g1, ⟨g1.next, g1.next, g1.log⟩, rfl, fun _ => ⟨rfl, rfl⟩, fun h => (by cases h), rfl, .inl rfl, h⟩
    | true =>
      simp only [evParW] at h
      cases e2 : runOp rec P o tm g1 with
      | no n => rw [e2] at h; cases h
      | ok r g2 =>
        rw [e2] at h
        cases r with
        | pan v => cases h
        | dfr f as => cases h
        | val v =>
          simp only [evParR, evParV] at h
          cases e3 : ms[i]? with
          | none => rw [e3] at h; cases h
          | some m =>
            rw [e3] at h
            simp only at h
            cases e4 : footsApart m g2.log fs i with
            | false => rw [e4] at h; cases h
            | true =>
              rw [e4] at h
              simp only at h
              rw [setFoot_eq, putK_eq, natK_eq] at h
              exact ⟨true, g1, v, g2, ⟨g1.next, g2.next, g2.log⟩, rfl, fun h => (by cases h), fun _ => e2, rfl, .inr ⟨m, rfl, e4⟩, h⟩
theorem evPar_trace {rec : Rec} {P : Program} {ops : Array Oper} {ms : List Nat} : ∀ (l : List Oper) (i : Nat) (fs : List Foot) (tm : Ts AV) (g : G) (tm' : Ts AV) (fs' : List Foot) (g' : G), evPar rec P ops.toList ms l i fs tm g = .ok (tm', fs') g' →
    (∀ j : Nat, l[j]? = ops[i + j]?) → ∀ (tms : Nat → Ts AV) (gs : Nat → G) (vs : Nat → AV), tms i = tm → gs i = g → fs.map Foot.log = logsOf gs i → (∀ k, k < i → ∀ o, ops[k]? = some o → Step rec P ops ms tms gs vs k o) →
    ∃ (tms' : Nat → Ts AV) (gs' : Nat → G) (vs' : Nat → AV), tms' 0 = tms 0 ∧ gs' 0 = gs 0 ∧ tms' (i + l.length) = tm' ∧ gs' (i + l.length) = g' ∧ fs'.map Foot.log = logsOf gs' (i + l.length) ∧
      ∀ k, k < i + l.length → ∀ o, ops[k]? = some o → Step rec P ops ms tms' gs' vs' k o
  | [], i, fs, tm, g, tm', fs', g', h, _, tms, gs, vs, h1, h2, h3, h4 => by
    have h' : (Out.ok (tm, fs) g : Out (Ts AV × List Foot)) = .ok (tm', fs') g' := h
    injection h' with h5 h6
    injection h5 with h5 h7
    subst h5; subst h6; subst h7
    exact ⟨tms, gs, vs, rfl, rfl, h1, h2, h3, h4⟩
  | o :: l, i, fs, tm, g, tm', fs', g', h, hal, tms, gs, vs, h1, h2, h3, h4 => by
    obtain ⟨b, g1, v, g2, f, e1, e2, e3, e4, e5, e6⟩ := evPar_step h
    have ho : ops[i]? = some o := by have := hal 0; simpa using this.symm
    obtain ⟨tms1, ht0, ht'⟩ := later tms (i + 1) (putK tm o.dst v id)
    obtain ⟨gs1, hg0, hg'⟩ := later gs (i + 1) g2
    obtain ⟨vs1, hv, hv'⟩ := later vs i v
    have ht : ∀ j, j ≤ i → tms1 j = tms j := fun j hj => ht0 j (by omega)
    have hg : ∀ j, j ≤ i → gs1 j = gs j := fun j hj => hg0 j (by omega)
    obtain ⟨tms', gs', vs', q1, q2, q3, q4, q5, q6⟩ := evPar_trace l (i + 1) (f :: fs) (putK tm o.dst v id) g2 tm' fs' g' e6
      (fun j => by have := hal (j + 1); rw [show i + 1 + j = i + (j + 1) from by omega]; simpa using this)
      tms1 gs1 vs1
      ht' hg' (by
        show f.log :: fs.map Foot.log = (gs1 (i + 1)).log :: logsOf gs1 i
        rw [logsOf_congr hg, hg', e4, h3])
      (fun k hk o' ho' => by
        rcases Nat.lt_or_ge k i with h5 | h5
        · exact (h4 k h5 o' ho').congr h5 ht hg hv
        · have : k = i := by omega
          subst this
          rw [ho] at ho'; injection ho' with ho'; subst ho'
          refine ⟨⟨b, g1, ?_, ?_, ?_⟩, ?_, ?_⟩
          · rw [ht k (Nat.le_refl _), hg k (Nat.le_refl _), h1, h2]; exact e1
          · intro hb; rw [hg', hv']; exact e2 hb
          · intro hb; rw [hg', hv', ht k (Nat.le_refl _), h1]; exact e3 hb
          · rw [ht', ht k (Nat.le_refl _), h1, hv']
          · intro m hm j hj
            rw [hg', hg (j + 1) (by omega)]
            rcases e5 with e5 | ⟨m', e5, e7⟩
            · have := (e2 e5).1
              subst this
              rw [wantedA_log e1, noLog_eq]
              exact .inr (logsApart_nil _)
            · rw [hm] at e5; injection e5 with e5; subst e5
              exact footsApart_spec h3 e7 j hj)
    refine ⟨tms', gs', vs', q1.trans (ht 0 (by omega)), q2.trans (hg 0 (by omega)), ?_, ?_, ?_, ?_⟩
    · rw [← q3, List.length_cons]; congr 1; omega
    · rw [← q4, List.length_cons]; congr 1; omega
    · rw [q5, List.length_cons]; congr 1; omega
    · intro k hk; exact q6 k (by rw [List.length_cons] at hk; omega)
end Go.Ev

namespace Go.Ev
open Go

def Bit (ms : List Nat) (j k : Nat) : Prop := ∃ m, ms[k]? = some m ∧ m.testBit j = true
/-- all that is known of the run in the order of the text -/
structure PT (P : Program) (ops : Array Oper) (ms : List Nat) (tms : Nat → Ts AV) (gs : Nat → G) (vs : Nat → AV) (T : Tp) (hi : Nat) (σ0 : Sg) (w0 : World) : Prop where
  st : Stat ops ms
  apL : ∀ j k, j < k → k < ops.size → Bit ms j k ∨ logsApart (gs (j + 1)).log (gs (k + 1)).log = true
  le : ∀ k, k < ops.size → Le (noLog (gs k)) (gs (k + 1)) (gs (k + 1)).log
  put : ∀ k o, ops[k]? = some o → tms (k + 1) = putK (tms k) o.dst (vs k) id
  rel0 : Rel P σ0 T (gs 0) w0
  fresh0 : Fresh σ0 (gs 0) hi
  hiN : (gs ops.size).next ≤ hi
  inT : ∀ k, k < ops.size → inT T (gs (k + 1)).log
  owes : Owes (gs ops.size)

section
variable {P : Program} {ops : Array Oper} {ms : List Nat} {tms : Nat → Ts AV} {gs : Nat → G} {vs : Nat → AV} {T : Tp} {hi : Nat} {σ0 : Sg} {w0 : World}

theorem PT.nx (h : PT P ops ms tms gs vs T hi σ0 w0) {j k : Nat} (hjk : j ≤ k) (hk : k ≤ ops.size) : (gs j).next ≤ (gs k).next := by
  induction k with
  | zero => have : j = 0 := by omega
            subst this; exact Nat.le_refl _
  | succ k ih =>
    rcases Nat.lt_or_ge k j with h1 | h1
    · have : j = k + 1 := by omega
      subst this; exact Nat.le_refl _
    · have := (h.le k (by omega)).nx
      rw [noLog_eq] at this
      exact Nat.le_trans (ih h1 (by omega)) this
theorem PT.owesAt (h : PT P ops ms tms gs vs T hi σ0 w0) : ∀ {d k : Nat}, k + d = ops.size → Owes (gs k)
  | 0, k, e => by have := h.owes; rw [← e] at this; exact this
  | d + 1, k, e => by
    have h1 := h.owesAt (d := d) (k := k + 1) (by omega)
    have := (h.le k (by omega)).owes h1
    rw [noLog_eq] at this
    exact this

/-- who writes a temporary -/
def Wr (ops : Array Oper) (j : Nat) (t : Tmp) : Prop := ∃ o, ops[j]? = some o ∧ o.dst = some t
/-- the listed ones are closed under waiting -/
def Closed (ops : Array Oper) (ms : List Nat) (S : Nat → Prop) : Prop := ∀ k, S k → k < ops.size ∧ ∀ j, Bit ms j k → S j
/-- the version k of a thing is the one that lies there now, if the writers are these -/
def Valid (n : Nat) (S : Nat → Prop) (W : Nat → Prop) (k : Nat) : Prop := (∀ j, j < k → W j → S j) ∧ (∀ j, k ≤ j → j < n → W j → ¬ S j)

structure Inv (P : Program) (ops : Array Oper) (ms : List Nat) (tms : Nat → Ts AV) (gs : Nat → G) (T : Tp) (σ0 : Sg) (w0 : World) (a0 : Act) (S : Nat → Prop) (σ : Sg) (a : Act) (w : World) : Prop where
  cl : Closed ops ms S
  tmp : ∀ k t v, k ≤ ops.size → Valid ops.size S (fun j => Wr ops j t) k → (tms k).get t = some v → ∃ V, a.tmps[t]? = some V ∧ VR σ v V
  sh : ∀ k i blk, k ≤ ops.size → Valid ops.size S (fun j => covA (gs (j + 1)).log i) k → (gs k).heap.get i = some blk → (∃ o, T i o) → ∃ b cap, σ i = some (b, cap) ∧ ShR P cap blk.sh w.heap[b]?
  ct : ∀ k i blk o c b cap, k ≤ ops.size → Valid ops.size S (fun j => covW (gs (j + 1)).log i o) k → (gs k).heap.get i = some blk → blk.ct o = some c → T i o → σ i = some (b, cap) → CtR σ c w.heap[b]? o
  inj : ∀ k k' i j bi bj b c c', k ≤ ops.size → k' ≤ ops.size → Valid ops.size S (fun m => covA (gs (m + 1)).log i) k → Valid ops.size S (fun m => covA (gs (m + 1)).log j) k' →
    (gs k).heap.get i = some bi → (gs k').heap.get j = some bj → (∃ o, T i o) → (∃ o, T j o) → σ i = some (b, c) → σ j = some (b, c') → i = j
  out : ∀ i, (i < (gs 0).next ∨ (gs ops.size).next ≤ i) → σ i = σ0 i
  no : ∀ k i, k < ops.size → ¬ S k → (gs k).next ≤ i → i < (gs (k + 1)).next → σ i = none
  fr : Fr σ (Lsum gs ops.size) w0 w
  nw : ∀ j b c, (gs 0).next ≤ j → j < (gs ops.size).next → σ j = some (b, c) → w0.heap.size ≤ b ∨ ∃ i c', covA (Lsum gs ops.size) i ∧ σ0 i = some (b, c')
  df : a.defers = a0.defers
  sz : a.tmps.size = a0.tmps.size

theorem Fr.weaken {σ : Sg} {L L' : List Tch} {w w' : World} (h : Fr σ L w w') (hs : ∀ t ∈ L, t ∈ L') : Fr σ L' w w' := by
  have hc : ∀ b o, Chg σ L b o → Chg σ L' b o := fun b o ⟨i, c, e, t, m, r⟩ => ⟨i, c, e, t, hs t m, r⟩
  refine ⟨h.size, h.tape, h.os, h.output, fun b hb hn => h.same b hb fun o c => hn o (hc b o c), fun b c e fz hb => ?_, fun b es cl hb => ?_, fun b n q s r hb => ?_⟩
  · obtain ⟨c', h1, h2, h3⟩ := h.cells b c e fz hb
    exact ⟨c', h1, h2, fun o ho => h3 o fun c => ho (hc b o c)⟩
  · obtain ⟨es', cl', h1, h2⟩ := h.maps b es cl hb
    exact ⟨es', cl', h1, fun ho => h2 fun c => ho (hc b 0 c)⟩
  · obtain ⟨q', s', r', h1, h2⟩ := h.oth b n q s r hb
    exact ⟨q', s', r', h1, fun ho => h2 fun c => ho (hc b 0 c)⟩
theorem Fr.join {σ σ' : Sg} {L M : List Tch} {w w1 w2 : World} (s : Sub σ σ') (a : Fr σ L w w1) (b : Fr σ' M w1 w2) (hs : ∀ t ∈ M, t ∈ L) : Fr σ' L w w2 := by
  refine (Fr.trans s a b).weaken fun t ht => ?_
  rcases List.mem_append.1 ht with h | h
  · exact hs t h
  · exact h
theorem ShR.keep {σ : Sg} {L : List Tch} {w w' : World} (f : Fr σ L w w') {cap b : Nat} {s : Sh} (h : ShR P cap s w.heap[b]?) : ShR P cap s w'.heap[b]? := by
  cases s with
  | cells e n => obtain ⟨c, fz, h1, h2, h3⟩ := h; obtain ⟨c', q1, q2, _⟩ := f.cells b c e fz h1; exact ⟨c', fz, q1, h2, q2.trans h3⟩
  | grown e n => obtain ⟨c, fz, h1, h2, h3, h4⟩ := h; obtain ⟨c', q1, q2, _⟩ := f.cells b c e fz h1; exact ⟨c', fz, q1, h2, by omega, fun s hs => q2.trans (h4 s hs)⟩
  | seq e n => obtain ⟨c, fz, h1, h2⟩ := h; obtain ⟨c', q1, q2, _⟩ := f.cells b c e fz h1; exact ⟨c', fz, q1, by omega⟩
  | big e n => obtain ⟨c, fz, h1, h2, h3⟩ := h; obtain ⟨c', q1, q2, _⟩ := f.cells b c e fz h1; exact ⟨c', fz, q1, h2, q2.trans h3⟩
  | map => obtain ⟨es, cl, h1⟩ := h; obtain ⟨es', cl', q1, _⟩ := f.maps b es cl h1; exact ⟨es', cl', q1⟩
  | chan => obtain ⟨n, q, s, r, h1⟩ := h; obtain ⟨q', s', r', h2, _⟩ := f.oth b n q s r h1; exact ⟨n, q', s', r', h2⟩
theorem mem_Lsum {gs : Nat → G} {t : Tch} : ∀ {n k : Nat}, k < n → t ∈ (gs (k + 1)).log → t ∈ Lsum gs n
  | 0, _, h, _ => by omega
  | n + 1, k, h, ht => by
    rcases Nat.lt_or_ge k n with h1 | h1
    · exact List.mem_append_right _ (mem_Lsum h1 ht)
    · have : k = n := by omega
      subst this; exact List.mem_append_left _ ht

/-! ### Logs that are apart -/
theorem logsApart_spec {a b : List Tch} (h : logsApart a b = true) {x y : Tch} (hx : x ∈ a) (hy : y ∈ b) (hw : x.w = true ∨ y.w = true) : x.meets y = false := by
  unfold logsApart at h
  rw [List.all_eq_true] at h
  have h1 := h x hx
  rw [List.all_eq_true] at h1
  have h2 := h1 y hy
  have : (x.w || y.w) = true := by rcases hw with h | h <;> simp [h]
  rw [this] at h2
  simpa using h2
theorem meets_all {x y : Tch} (hi : x.i = y.i) (h : x.n = 0 ∨ y.n = 0) : x.meets y = true := by
  unfold Tch.meets
  rw [beq_t hi]
  rcases h with h | h <;> simp [h]
theorem ble_t {a b : Nat} (h : a ≤ b) : Nat.ble a b = true := Nat.ble_eq_true_of_le h
theorem meets_at {x y : Tch} {o : Nat} (hi : x.i = y.i) (hx : x.at o) (hy : y.at o) : x.meets y = true := by
  rcases hx with hx | ⟨h1, h2⟩
  · exact meets_all hi (.inl hx)
  · rcases hy with hy | ⟨h3, h4⟩
    · exact meets_all hi (.inr hy)
    · unfold Tch.meets
      rw [beq_t hi, ble_t (show x.o + 1 ≤ y.o + y.n by omega), ble_t (show y.o + 1 ≤ x.o + x.n by omega)]
      simp
/-- who writes what the other touches, waits -/
theorem PT.orderA (h : PT P ops ms tms gs vs T hi σ0 w0) {j k : Nat} {i : Nat} {t : Tch} (hk : k < ops.size) (hj : j < ops.size) (hne : j ≠ k) (hc : covA (gs (j + 1)).log i) (ht : t ∈ (gs (k + 1)).log) (hi' : t.i = i) : (j < k ∧ Bit ms j k) ∨ (k < j ∧ Bit ms k j) := by
  obtain ⟨u, hu, hw, hui, hu0⟩ := hc
  rcases Nat.lt_or_ge j k with h1 | h1
  · rcases h.apL j k h1 hk with h2 | h2
    · exact .inl ⟨h1, h2⟩
    · have := logsApart_spec h2 hu ht (.inl hw)
      rw [meets_all (hui.trans hi'.symm) (.inl hu0)] at this; cases this
  · rcases h.apL k j (by omega) hj with h2 | h2
    · exact .inr ⟨by omega, h2⟩
    · have := logsApart_spec h2 ht hu (.inr hw)
      rw [meets_all (hi'.trans hui.symm) (.inr hu0)] at this; cases this
theorem PT.orderC (h : PT P ops ms tms gs vs T hi σ0 w0) {j k : Nat} {i o : Nat} {t : Tch} (hk : k < ops.size) (hj : j < ops.size) (hne : j ≠ k) (hc : covW (gs (j + 1)).log i o) (ht : t ∈ (gs (k + 1)).log) (hi' : t.i = i) (hat : t.at o) : (j < k ∧ Bit ms j k) ∨ (k < j ∧ Bit ms k j) := by
  obtain ⟨u, hu, hw, hui, hu0⟩ := hc
  rcases Nat.lt_or_ge j k with h1 | h1
  · rcases h.apL j k h1 hk with h2 | h2
    · exact .inl ⟨h1, h2⟩
    · have := logsApart_spec h2 hu ht (.inl hw)
      rw [meets_at (hui.trans hi'.symm) hu0 hat] at this; cases this
  · rcases h.apL k j (by omega) hj with h2 | h2
    · exact .inr ⟨by omega, h2⟩
    · have := logsApart_spec h2 ht hu (.inr hw)
      rw [meets_at (hi'.trans hui.symm) hat hu0] at this; cases this
theorem PT.orderT (h : PT P ops ms tms gs vs T hi σ0 w0) {j k : Nat} {t : Tmp} {ok : Oper} (hk : ops[k]? = some ok) (_ : j < ops.size) (hne : j ≠ k) (hc : Wr ops j t) (ht : t ∈ ok.looksAt ops ∨ ok.dst = some t) : (j < k ∧ Bit ms j k) ∨ (k < j ∧ Bit ms k j) := by
  obtain ⟨oj, hoj, hd⟩ := hc
  rcases Nat.lt_or_ge j k with h1 | h1
  · obtain ⟨m, hm, _⟩ := h.st.bits k ok hk
    rcases h.st.apart j k oj ok m h1 hoj hk hm with h2 | h2
    · exact .inl ⟨h1, m, hm, h2⟩
    · obtain ⟨q1, q2, q3⟩ := Oper.apart_spec h2
      rcases ht with ht | ht
      · exact absurd ht (q1 t hd)
      · exact absurd ht (q2 t hd)
  · obtain ⟨m, hm, _⟩ := h.st.bits j oj hoj
    rcases h.st.apart k j ok oj m (by omega) hk hoj hm with h2 | h2
    · exact .inr ⟨by omega, m, hm, h2⟩
    · obtain ⟨q1, q2, q3⟩ := Oper.apart_spec h2
      rcases ht with ht | ht
      · exact absurd ht (q3 t hd)
      · exact absurd hd (q2 t ht)
/-- what m touches is valid for m when m is ready -/
theorem valid_of {n : Nat} {S W : Nat → Prop} {m : Nat} (hcl : ∀ k, S k → ∀ j, Bit ms j k → S j) (hm : ¬ S m) (hb : ∀ j, Bit ms j m → S j) (h : ∀ j, j < n → j ≠ m → W j → (j < m ∧ Bit ms j m) ∨ (m < j ∧ Bit ms m j)) (hmn : m < n) : Valid n S W m := by
  refine ⟨fun j hj hw => ?_, fun j hj hn hw hs => ?_⟩
  · rcases h j (by omega) (by omega) hw with ⟨_, h1⟩ | ⟨h1, _⟩
    · exact hb j h1
    · omega
  · by_cases e : j = m
    · subst e; exact hm hs
    · rcases h j hn e hw with ⟨h1, _⟩ | ⟨_, h1⟩
      · omega
      · exact hm (hcl j hs m h1)
/-- the versions behind a step that writes -/
theorem valid_after {n : Nat} {S W : Nat → Prop} {m k : Nat} (hcl : ∀ k, S k → ∀ j, Bit ms j k → S j) (hm : ¬ S m) (hw : W m) (hmn : m < n) (h : ∀ j, j < n → j ≠ m → W j → (j < m ∧ Bit ms j m) ∨ (m < j ∧ Bit ms m j))
    (v : Valid n (fun j => S j ∨ j = m) W k) (hkn : k ≤ n) : m < k ∧ ∀ j, m < j → j < k → ¬ W j := by
  have hmk : m < k := by
    rcases Nat.lt_or_ge m k with h1 | h1
    · exact h1
    · exact absurd (.inr rfl) (v.2 m h1 hmn hw)
  refine ⟨hmk, fun j h1 h2 h3 => ?_⟩
  have hs : S j := (v.1 j h2 h3).resolve_right (by omega)
  rcases h j (by omega) (by omega) h3 with ⟨h4, _⟩ | ⟨_, h4⟩
  · omega
  · exact hm (hcl j hs m h4)
theorem valid_before {n : Nat} {S W : Nat → Prop} {m k : Nat} (hw : ¬ W m) (v : Valid n (fun j => S j ∨ j = m) W k) : Valid n S W k :=
  ⟨fun j h1 h2 => (v.1 j h1 h2).resolve_right fun e => hw (e ▸ h2), fun j h1 h2 h3 hs => v.2 j h1 h2 h3 (.inl hs)⟩
/-- a thing that is not written in between reads the same -/
theorem PT.shBack (h : PT P ops ms tms gs vs T hi σ0 w0) {i : Nat} {k0 : Nat} : ∀ {k : Nat} {blk : Blk}, k0 ≤ k → k ≤ ops.size → (∀ j, k0 ≤ j → j < k → ¬ covA (gs (j + 1)).log i) → (gs k).heap.get i = some blk → ∃ b, (gs k0).heap.get i = some b ∧ b.sh = blk.sh
  | 0, blk, h1, h2, h3, h4 => by
    have : k0 = 0 := by omega
    subst this; exact ⟨blk, h4, rfl⟩
  | k + 1, blk, h1, h2, h3, h4 => by
    rcases Nat.lt_or_ge k k0 with h5 | h5
    · have : k0 = k + 1 := by omega
      subst this; exact ⟨blk, h4, rfl⟩
    · obtain ⟨b, q1, q2⟩ := (h.le k (by omega)).sh i blk (h3 k h5 (by omega)) h4
      rw [noLog_eq] at q1
      obtain ⟨b', q3, q4⟩ := h.shBack h5 (by omega) (fun j hj hk => h3 j hj (by omega)) q1
      exact ⟨b', q3, q4.trans q2⟩
theorem PT.ctBack (h : PT P ops ms tms gs vs T hi σ0 w0) {i o : Nat} {c : Ct} {k0 : Nat} : ∀ {k : Nat} {blk : Blk}, k0 ≤ k → k ≤ ops.size → (∀ j, k0 ≤ j → j < k → ¬ covW (gs (j + 1)).log i o) → (gs k).heap.get i = some blk → blk.ct o = some c → ∃ b, (gs k0).heap.get i = some b ∧ b.ct o = some c
  | 0, blk, h1, h2, h3, h4, h6 => by
    have : k0 = 0 := by omega
    subst this; exact ⟨blk, h4, h6⟩
  | k + 1, blk, h1, h2, h3, h4, h6 => by
    rcases Nat.lt_or_ge k k0 with h5 | h5
    · have : k0 = k + 1 := by omega
      subst this; exact ⟨blk, h4, h6⟩
    · obtain ⟨b, q1, q2⟩ := (h.le k (by omega)).ct i o blk c (h3 k h5 (by omega)) h4 h6
      rw [noLog_eq] at q1
      exact h.ctBack h5 (by omega) (fun j hj hk => h3 j hj (by omega)) q1 q2
theorem PT.tmBack (h : PT P ops ms tms gs vs T hi σ0 w0) {t : Tmp} {v : AV} {k0 : Nat} : ∀ {k : Nat}, k0 ≤ k → k ≤ ops.size → (∀ j, k0 ≤ j → j < k → ¬ Wr ops j t) → (tms k).get t = some v → (tms k0).get t = some v
  | 0, h1, h2, h3, h4 => by
    have : k0 = 0 := by omega
    subst this; exact h4
  | k + 1, h1, h2, h3, h4 => by
    rcases Nat.lt_or_ge k k0 with h5 | h5
    · have : k0 = k + 1 := by omega
      subst this; exact h4
    · refine h.tmBack h5 (by omega) (fun j hj hk => h3 j hj (by omega)) ?_
      obtain ⟨o, ho⟩ : ∃ o, ops[k]? = some o := ⟨ops[k], Array.getElem?_eq_some_iff.2 ⟨by omega, rfl⟩⟩
      rw [h.put k o ho] at h4
      cases hd : o.dst with
      | none => rw [hd] at h4; exact h4
      | some d =>
        rw [hd] at h4
        simp only [putK, Ts.setK_eq] at h4
        rcases Ts.get_set h4 with ⟨rfl, _⟩ | ⟨_, h6⟩
        · exact absurd ⟨o, ho, hd⟩ (h3 k h5 (by omega))
        · exact h6
/-- where a block that lies there comes from -/
theorem PT.born (h : PT P ops ms tms gs vs T hi σ0 w0) {i : Nat} : ∀ {k : Nat} {blk : Blk}, k ≤ ops.size → (gs k).heap.get i = some blk → (∃ b, (gs 0).heap.get i = some b) ∨ ∃ j, j < k ∧ (gs j).next ≤ i ∧ i < (gs (j + 1)).next ∧ covA (gs (j + 1)).log i
  | 0, blk, _, hb => .inl ⟨blk, hb⟩
  | k + 1, blk, hk, hb => by
    by_cases hc : covA (gs (k + 1)).log i
    · obtain ⟨t, ht, hw, hti, h0⟩ := hc
      rcases (h.le k (by omega)).ex t ht hw with ⟨b, h1⟩ | ⟨h1, h2⟩
      · rw [noLog_eq, hti] at h1
        rcases h.born (by omega) h1 with h3 | ⟨j, h3, h4⟩
        · exact .inl h3
        · exact .inr ⟨j, by omega, h4⟩
      · rw [noLog_eq, hti] at h1; rw [hti] at h2
        exact .inr ⟨k, by omega, h1, h2, t, ht, hw, hti, h0⟩
    · obtain ⟨b, h1, _⟩ := (h.le k (by omega)).sh i blk hc hb
      rw [noLog_eq] at h1
      rcases h.born (by omega) h1 with h3 | ⟨j, h3, h4⟩
      · exact .inl h3
      · exact .inr ⟨j, by omega, h4⟩
/-- a block of the range of m that lies there was made by m -/
theorem PT.made (h : PT P ops ms tms gs vs T hi σ0 w0) {i m k : Nat} {blk : Blk} (hm : m < ops.size) (hk : k ≤ ops.size) (hb : (gs k).heap.get i = some blk) (ht : ∃ o, T i o) (h1 : (gs m).next ≤ i) (h2 : i < (gs (m + 1)).next) : covA (gs (m + 1)).log i := by
  rcases h.born hk hb with ⟨b, h3⟩ | ⟨j, h3, h4, h5, h6⟩
  · obtain ⟨b', cap, h4, _⟩ := h.rel0.sh i b h3 ht
    have a1 := h.nx (Nat.zero_le m) (Nat.le_of_lt hm)
    have a2 := h.nx (show m + 1 ≤ ops.size by omega) (Nat.le_refl _)
    have a3 := h.hiN
    rw [h.fresh0 i (by omega) (by omega)] at h4; cases h4
  · have : j = m := by
      rcases Nat.lt_trichotomy j m with h7 | h7 | h7
      · have := h.nx (show j + 1 ≤ m by omega) (by omega); omega
      · exact h7
      · have := h.nx (show m + 1 ≤ j by omega) (by omega); omega
    subst this; exact h6
end
end Go.Ev

namespace Go.Ev
open Go

section
variable {P : Program} {ops : Array Oper} {ms : List Nat} {tms : Nat → Ts AV} {gs : Nat → G} {vs : Nat → AV} {T : Tp} {hi : Nat} {σ0 : Sg} {w0 : World} {a0 : Act} {S : Nat → Prop} {σ : Sg} {a : Act} {w : World}

/-- the cells that step m touches -/
def Tm (gs : Nat → G) (m : Nat) : Tp := fun i o => ∃ t ∈ (gs (m + 1)).log, t.i = i ∧ t.at o
theorem Tm.of_covA {m i : Nat} (h : covA (gs (m + 1)).log i) (o : Nat) : Tm gs m i o := let ⟨t, a, _, c, d⟩ := h; ⟨t, a, c, .inl d⟩
theorem Tm.of_covW {m i o : Nat} (h : covW (gs (m + 1)).log i o) : Tm gs m i o := let ⟨t, a, _, c, d⟩ := h; ⟨t, a, c, d⟩
theorem PT.tmT (H : PT P ops ms tms gs vs T hi σ0 w0) {m i o : Nat} (hm : m < ops.size) (h : Tm gs m i o) : T i o := by
  obtain ⟨t, ht, rfl, hat⟩ := h; exact H.inT m hm t ht o hat
theorem Inv.bits (I : Inv P ops ms tms gs T σ0 w0 a0 S σ a w) : ∀ k, S k → ∀ j, Bit ms j k → S j := fun k hk => (I.cl k hk).2
theorem Inv.validA (H : PT P ops ms tms gs vs T hi σ0 w0) (I : Inv P ops ms tms gs T σ0 w0 a0 S σ a w) {m : Nat} (hm : m < ops.size) (hS : ¬ S m) (hb : ∀ j, Bit ms j m → S j) {i : Nat} {t : Tch} (ht : t ∈ (gs (m + 1)).log) (hi : t.i = i) :
    Valid ops.size S (fun j => covA (gs (j + 1)).log i) m :=
  valid_of I.bits hS hb (fun _ hj hne hc => H.orderA hm hj hne hc ht hi) hm
theorem Inv.validC (H : PT P ops ms tms gs vs T hi σ0 w0) (I : Inv P ops ms tms gs T σ0 w0 a0 S σ a w) {m : Nat} (hm : m < ops.size) (hS : ¬ S m) (hb : ∀ j, Bit ms j m → S j) {i o : Nat} (h : Tm gs m i o) :
    Valid ops.size S (fun j => covW (gs (j + 1)).log i o) m := by
  obtain ⟨t, ht, hi, hat⟩ := h
  exact valid_of I.bits hS hb (fun _ hj hne hc => H.orderC hm hj hne hc ht hi hat) hm
/-- step m may run -/
theorem Inv.pre (H : PT P ops ms tms gs vs T hi σ0 w0) (I : Inv P ops ms tms gs T σ0 w0 a0 S σ a w) {m : Nat} (hm : m < ops.size) (hS : ¬ S m) (hb : ∀ j, Bit ms j m → S j) :
    Pre P (Tm gs m) (gs (m + 1)).next σ (noLog (gs m)) w (gs (m + 1)) where
  rel := by
    rw [noLog_eq]
    refine ⟨fun i blk hg ht => ?_, fun i blk o c b cap hg hc ht hs => ?_, fun i j bi bj b c c' h1 h2 h3 h4 h5 h6 => ?_⟩
    · obtain ⟨o, t, ht, hti, hat⟩ := ht
      exact I.sh m i blk (Nat.le_of_lt hm) (I.validA H hm hS hb ht hti) hg ⟨o, H.tmT hm ⟨t, ht, hti, hat⟩⟩
    · exact I.ct m i blk o c b cap (Nat.le_of_lt hm) (I.validC H hm hS hb ht) hg hc (H.tmT hm ht) hs
    · obtain ⟨o, t, ht, hti, hat⟩ := h3
      obtain ⟨o', t', ht', hti', hat'⟩ := h4
      exact I.inj m m i j bi bj b c c' (Nat.le_of_lt hm) (Nat.le_of_lt hm) (I.validA H hm hS hb ht hti) (I.validA H hm hS hb ht' hti') h1 h2
        ⟨o, H.tmT hm ⟨t, ht, hti, hat⟩⟩ ⟨o', H.tmT hm ⟨t', ht', hti', hat'⟩⟩ h5 h6
  fresh := fun j h1 h2 => I.no m j hm hS (by rw [noLog_eq] at h1; exact h1) h2
  hi := Nat.le_refl _
  inT := fun L e t ht o hat => by
    rw [noLog_eq, List.append_nil] at e
    exact ⟨t, by rw [e]; exact ht, rfl, hat⟩
  owes := H.owesAt (d := ops.size - (m + 1)) (by omega)
theorem Inv.opsRel (H : PT P ops ms tms gs vs T hi σ0 w0) (I : Inv P ops ms tms gs T σ0 w0 a0 S σ a w) {m : Nat} {o : Oper} (ho : ops[m]? = some o) (hS : ¬ S m) (hb : ∀ j, Bit ms j m → S j) :
    OpsRel σ (tms m) a o.op.operands.toList ∧ GRel σ ops o (tms m) a := by
  have hm : m < ops.size := (Array.getElem?_eq_some_iff.1 ho).1
  have key : ∀ t v, t ∈ o.looksAt ops → (tms m).get t = some v → ∃ V, a.tmps[t]? = some V ∧ VR σ v V := fun t v ht hv =>
    I.tmp m t v (Nat.le_of_lt hm) (valid_of I.bits hS hb (fun _ hj hne hc => H.orderT ho hj hne hc (.inl ht)) hm) hv
  refine ⟨fun x hx v hv => ?_, fun j want oj d v hg hj hd hv => ?_⟩
  · cases x with
    | tmp t =>
      obtain ⟨V, h1, h2⟩ := key t v (by
        unfold Oper.looksAt
        exact List.mem_append_left _ (List.mem_filterMap.2 ⟨.tmp t, hx, rfl⟩)) hv
      have : a.eval (.tmp t) = V := by simp [Act.eval, h1]
      rw [this]; exact h2
    | const V => exact ofV_sound σ 6 V v hv
    | func f => injection hv with hv; subst hv; exact VR.func (As := []) (Cs := []) .nil .nil
    | global n => cases hv
  · refine key d v ?_ hv
    unfold Oper.looksAt
    refine List.mem_append_right _ ?_
    simp [hg, hj, hd]
theorem Valid.A_of_C {n k i o : Nat} {S : Nat → Prop} (v : Valid n S (fun j => covW (gs (j + 1)).log i o) k) : Valid n S (fun j => covA (gs (j + 1)).log i) k :=
  ⟨fun j h1 h2 => v.1 j h1 (h2.covW o), fun j h1 h2 h3 => v.2 j h1 h2 (h3.covW o)⟩
/-- a place that step m brings about lies there or is new -/
theorem PT.exAt (H : PT P ops ms tms gs vs T hi σ0 w0) {m i : Nat} (hm : m < ops.size) {t : Tch} (ht : t ∈ (gs (m + 1)).log) (hw : t.w = true) (hti : t.i = i) (hr : ¬ ((gs m).next ≤ i ∧ i < (gs (m + 1)).next)) : ∃ b, (gs m).heap.get i = some b := by
  subst hti
  rcases (H.le m hm).ex t ht hw with ⟨b, h1⟩ | h1
  · rw [noLog_eq] at h1; exact ⟨b, h1⟩
  · rw [noLog_eq] at h1; exact absurd h1 hr

theorem Inv.next (H : PT P ops ms tms gs vs T hi σ0 w0) (I : Inv P ops ms tms gs T σ0 w0 a0 S σ a w) {m : Nat} {o : Oper} (ho : ops[m]? = some o) (hS : ¬ S m) (hb : ∀ j, Bit ms j m → S j)
    {σ' : Sg} {w' : World} {V : Value} (hp : Post P (Tm gs m) σ (noLog (gs m)) w σ' (gs (m + 1)) w' (gs (m + 1)).log) (hV : VR σ' (vs m) V) (hd : ∀ k, o.dst = some k → k < a.tmps.size) :
    Inv P ops ms tms gs T σ0 w0 a0 (fun j => S j ∨ j = m) σ' (a.put o.dst V) w' := by
  have hm : m < ops.size := (Array.getElem?_eq_some_iff.1 ho).1
  have hpre := I.pre H hm hS hb
  have hsub : Sub σ σ' := hp.ext.sub hpre.fresh hpre.hi
  have hext : ∀ j, ¬ ((gs m).next ≤ j ∧ j < (gs (m + 1)).next) → σ' j = σ j := fun j hj => hp.ext j (by rw [noLog_eq]; show j < (gs m).next ∨ _; omega)
  have hno : ∀ j, (gs m).next ≤ j → j < (gs (m + 1)).next → σ j = none := fun j => I.no m j hm hS
  -- what is known of a block that step m writes whole or in part, if it is not its own
  have hwr : ∀ i t b c, t ∈ (gs (m + 1)).log → t.w = true → t.i = i → σ i = some (b, c) → ∃ blk, (gs m).heap.get i = some blk ∧ Valid ops.size S (fun j => covA (gs (j + 1)).log i) m ∧ ∃ o, T i o := by
    intro i t b c ht hw hti hs
    have hr : ¬ ((gs m).next ≤ i ∧ i < (gs (m + 1)).next) := fun hr => by rw [hno i hr.1 hr.2] at hs; cases hs
    obtain ⟨blk, h1⟩ := H.exAt hm ht hw hti hr
    refine ⟨blk, h1, I.validA H hm hS hb ht hti, ?_⟩
    obtain ⟨o', hat⟩ : ∃ o', t.at o' := by
      by_cases h0 : t.n = 0
      · exact ⟨0, .inl h0⟩
      · exact ⟨t.o, .inr ⟨Nat.le_refl _, by omega⟩⟩
    exact ⟨o', H.tmT hm ⟨t, ht, hti, hat⟩⟩
  -- the new version of a block
  have hnewSh : ∀ k i blk, k ≤ ops.size → covA (gs (m + 1)).log i → Valid ops.size (fun j => S j ∨ j = m) (fun j => covA (gs (j + 1)).log i) k → (gs k).heap.get i = some blk → ∃ b1, (gs (m + 1)).heap.get i = some b1 ∧ b1.sh = blk.sh := by
    intro k i blk hk hc hv hg
    obtain ⟨t, ht, hw, hti, h0⟩ := hc
    obtain ⟨hmk, hbt⟩ := valid_after (ms := ms) I.bits hS (W := fun j => covA (gs (j + 1)).log i) ⟨t, ht, hw, hti, h0⟩ hm (fun _ hj hne hc => H.orderA hm hj hne hc ht hti) hv hk
    exact H.shBack hmk hk (fun j h1 h2 => hbt j (by omega) h2) hg
  -- an old block is not one of the range of m
  have hrange : ∀ k i blk, k ≤ ops.size → ¬ covA (gs (m + 1)).log i → (gs k).heap.get i = some blk → (∃ o, T i o) → ¬ ((gs m).next ≤ i ∧ i < (gs (m + 1)).next) :=
    fun k i blk hk hc hg ht hr => hc (H.made hm hk hg ht hr.1 hr.2)
  -- a block of step m's σ' over an old block
  have hshare : ∀ k i j blk b c c', k ≤ ops.size → ¬ covA (gs (m + 1)).log j → Valid ops.size S (fun m => covA (gs (m + 1)).log j) k → (gs k).heap.get j = some blk → (∃ o, T j o) → σ j = some (b, c') → σ' i = some (b, c) →
      (∃ t ∈ (gs (m + 1)).log, t.w = true ∧ t.i = i) → i = j := by
    intro k i j blk b c c' hk hc hv hg ht hs hs' ⟨t, htm, hw, hti⟩
    by_cases hr : (gs m).next ≤ i ∧ i < (gs (m + 1)).next
    · obtain ⟨b2, cap2, h1, h2⟩ := I.sh k j blk hk hv hg ht
      rw [hs] at h1; injection h1 with h1; injection h1 with h1 h3; subst h1; subst h3
      rcases hp.nw i b c (by rw [noLog_eq]; exact hr.1) hr.2 hs' with h4 | ⟨i2, c2, h4, h5⟩
      · have := h2.lt; omega
      · obtain ⟨t2, q1, q2, q3, q4⟩ := h4
        obtain ⟨blk2, h6, h7, h8⟩ := hwr i2 t2 b c2 q1 q2 q3 h5
        have := I.inj m k i2 j blk2 blk b c2 c' (Nat.le_of_lt hm) hk h7 hv h6 hg h8 ht h5 hs
        subst this
        exact absurd ⟨t2, q1, q2, q3, q4⟩ hc
    · rw [hext i hr] at hs'
      obtain ⟨blk2, h6, h7, h8⟩ := hwr i t b c htm hw hti hs'
      exact I.inj m k i j blk2 blk b c c' (Nat.le_of_lt hm) hk h7 hv h6 hg h8 ht hs' hs
  refine ⟨?_, ?_, ?_, ?_, ?_, ?_, ?_, ?_, ?_, ?_, ?_⟩
  · -- closed
    rintro k (hk | rfl)
    · exact ⟨(I.cl k hk).1, fun j hj => .inl ((I.cl k hk).2 j hj)⟩
    · exact ⟨hm, fun j hj => .inl (hb j hj)⟩
  · -- temporaries
    intro k t v hk hv hg
    by_cases hw : Wr ops m t
    · obtain ⟨hmk, hbt⟩ := valid_after (ms := ms) I.bits hS (W := fun j => Wr ops j t) hw hm (fun j hj hne hc => H.orderT ho hj hne hc (.inr (by obtain ⟨o', h1, h2⟩ := hw; rw [ho] at h1; injection h1 with h1; subst h1; exact h2))) hv hk
      have h1 := H.tmBack hmk hk (fun j h1 h2 => hbt j (by omega) h2) hg
      obtain ⟨o', h2, h3⟩ := hw
      rw [ho] at h2; injection h2 with h2; subst h2
      rw [H.put m o ho, h3] at h1
      simp only [putK, Ts.setK_eq] at h1
      rcases Ts.get_set h1 with ⟨_, rfl⟩ | ⟨h4, _⟩
      · exact ⟨V, by rw [h3]; simp [Act.put, hd t h3], hV⟩
      · exact absurd rfl h4
    · obtain ⟨U, h1, h2⟩ := I.tmp k t v hk (valid_before hw hv) hg
      refine ⟨U, ?_, h2.mono hsub⟩
      cases h3 : o.dst with
      | none => exact h1
      | some d =>
        have : d ≠ t := fun e => hw ⟨o, ho, by rw [h3, e]⟩
        simp only [Act.put]
        rw [Array.getElem?_setIfInBounds_ne this]; exact h1
  · -- shapes
    intro k i blk hk hv hg ht
    by_cases hc : covA (gs (m + 1)).log i
    · obtain ⟨b1, h1, h2⟩ := hnewSh k i blk hk hc hv hg
      obtain ⟨b, cap, h3, h4⟩ := hp.rel.sh i b1 h1 ⟨0, Tm.of_covA hc 0⟩
      rw [h2] at h4
      exact ⟨b, cap, h3, h4⟩
    · obtain ⟨b, cap, h1, h2⟩ := I.sh k i blk hk (valid_before hc hv) hg ht
      exact ⟨b, cap, hsub _ _ h1, h2.keep hp.fr⟩
  · -- contents
    intro k i blk o' c b cap hk hv hg hct ht hs
    by_cases hc : covW (gs (m + 1)).log i o'
    · obtain ⟨t, htm, hw, hti, hat⟩ := hc
      obtain ⟨hmk, hbt⟩ := valid_after (ms := ms) I.bits hS (W := fun j => covW (gs (j + 1)).log i o') ⟨t, htm, hw, hti, hat⟩ hm (fun _ hj hne hc => H.orderC hm hj hne hc htm hti hat) hv hk
      obtain ⟨b1, h1, h2⟩ := H.ctBack hmk hk (fun j h1 h2 => hbt j (by omega) h2) hg hct
      exact hp.rel.ct i b1 o' c b cap h1 h2 ⟨t, htm, hti, hat⟩ hs
    · have hv' := valid_before (W := fun j => covW (gs (j + 1)).log i o') hc hv
      have hcA : ¬ covA (gs (m + 1)).log i := fun h => hc (h.covW o')
      obtain ⟨b2, cap2, h1, h2⟩ := I.sh k i blk hk hv'.A_of_C hg ⟨o', ht⟩
      have h3 := hsub _ _ h1
      rw [hs] at h3; injection h3 with h3; injection h3 with h3 h4; subst h3; subst h4
      have h5 := I.ct k i blk o' c b cap hk hv' hg hct ht h1
      have hnc : ¬ Chg σ' (gs (m + 1)).log b o' := by
        rintro ⟨i2, c2, h6, t, q1, q2, q3, q4⟩
        have := hshare k i2 i blk b c2 cap hk hcA hv'.A_of_C hg ⟨o', ht⟩ h1 h6 ⟨t, q1, q2, q3⟩
        subst this
        exact hc ⟨t, q1, q2, q3, q4⟩
      cases c with
      | cell v =>
        obtain ⟨cs, e, fz, U, q1, q2, q3⟩ := h5
        obtain ⟨cs', r1, r2, r3⟩ := hp.fr.cells b cs e fz q1
        exact ⟨cs', e, fz, U, r1, by rw [r3 o' hnc]; exact q2, q3.mono hsub⟩
      | map es =>
        obtain ⟨Es, cl, q1, q2⟩ := h5
        have h0 : o' = 0 := by
          cases blk with
          | map x => by_cases hne : o' = 0
                     · exact hne
                     · simp [Blk.ct, hne] at hct
          | cells e l => simp only [Blk.ct] at hct; cases h : l[o']? <;> rw [h] at hct <;> cases hct
          | grown e l => simp only [Blk.ct] at hct; cases h : l[o']? <;> rw [h] at hct <;> cases hct
          | seq e k f n => simp only [Blk.ct] at hct; split at hct <;> cases hct
          | big e t d n => simp only [Blk.ct] at hct; split at hct <;> cases hct
          | chan n k => simp only [Blk.ct] at hct; split at hct <;> cases hct
          | pmap x => simp only [Blk.ct] at hct; split at hct <;> cases hct
        subst h0
        obtain ⟨Es', cl', r1, r2⟩ := hp.fr.maps b Es cl q1
        obtain ⟨r3, r4⟩ := r2 hnc
        subst r3
        exact ⟨Es', cl', r1, q2.mono hsub⟩
      | pmap es =>
        obtain ⟨Es, cl, Fs, q1, q2, q3⟩ := h5
        have h0 : o' = 0 := by
          cases blk with
          | pmap x => by_cases hne : o' = 0
                      · exact hne
                      · simp [Blk.ct, hne] at hct
          | map x => simp only [Blk.ct] at hct; split at hct <;> cases hct
          | cells e l => simp only [Blk.ct] at hct; cases h : l[o']? <;> rw [h] at hct <;> cases hct
          | grown e l => simp only [Blk.ct] at hct; cases h : l[o']? <;> rw [h] at hct <;> cases hct
          | seq e k f n => simp only [Blk.ct] at hct; split at hct <;> cases hct
          | big e t d n => simp only [Blk.ct] at hct; split at hct <;> cases hct
          | chan n k => simp only [Blk.ct] at hct; split at hct <;> cases hct
        subst h0
        obtain ⟨Es', cl', r1, r2⟩ := hp.fr.maps b Es cl q1
        obtain ⟨r3, r4⟩ := r2 hnc
        subst r3
        exact ⟨Es', cl', Fs, r1, q2, q3.mono hsub⟩
      | chan n k =>
        obtain ⟨Q, s, r, q1, q2⟩ := h5
        have h0 : o' = 0 := by
          cases blk with
          | chan a d => by_cases hne : o' = 0
                        · exact hne
                        · simp [Blk.ct, hne] at hct
          | pmap x => simp only [Blk.ct] at hct; split at hct <;> cases hct
          | map x => simp only [Blk.ct] at hct; split at hct <;> cases hct
          | cells e l => simp only [Blk.ct] at hct; cases h : l[o']? <;> rw [h] at hct <;> cases hct
          | grown e l => simp only [Blk.ct] at hct; cases h : l[o']? <;> rw [h] at hct <;> cases hct
          | seq e k f n => simp only [Blk.ct] at hct; split at hct <;> cases hct
          | big e t d n => simp only [Blk.ct] at hct; split at hct <;> cases hct
        subst h0
        obtain ⟨Q', s', r', u1, u2⟩ := hp.fr.oth b n Q s r q1
        obtain ⟨u3, u4, u5⟩ := u2 hnc
        subst u3
        exact ⟨Q', s', r', u1, q2⟩
  · -- no two over one
    intro k k' i j bi bj b c c' hk hk' hv hv' hg hg' ht ht' hs hs'
    by_cases hc : covA (gs (m + 1)).log i
    · by_cases hc' : covA (gs (m + 1)).log j
      · obtain ⟨b1, h1, _⟩ := hnewSh k i bi hk hc hv hg
        obtain ⟨b2, h2, _⟩ := hnewSh k' j bj hk' hc' hv' hg'
        exact hp.rel.inj i j b1 b2 b c c' h1 h2 ⟨0, Tm.of_covA hc 0⟩ ⟨0, Tm.of_covA hc' 0⟩ hs hs'
      · rw [hext j (hrange k' j bj hk' hc' hg' ht')] at hs'
        obtain ⟨t, q1, q2, q3, _⟩ := hc
        exact hshare k' i j bj b c c' hk' hc' (valid_before hc' hv') hg' ht' hs' hs ⟨t, q1, q2, q3⟩
    · by_cases hc' : covA (gs (m + 1)).log j
      · rw [hext i (hrange k i bi hk hc hg ht)] at hs
        obtain ⟨t, q1, q2, q3, _⟩ := hc'
        exact (hshare k j i bi b c' c hk hc (valid_before hc hv) hg ht hs hs' ⟨t, q1, q2, q3⟩).symm
      · rw [hext i (hrange k i bi hk hc hg ht)] at hs
        rw [hext j (hrange k' j bj hk' hc' hg' ht')] at hs'
        exact I.inj k k' i j bi bj b c c' hk hk' (valid_before hc hv) (valid_before hc' hv') hg hg' ht ht' hs hs'
  · -- outside
    intro i hi'
    have h1 := H.nx (Nat.zero_le m) (Nat.le_of_lt hm)
    have h2 := H.nx (show m + 1 ≤ ops.size by omega) (Nat.le_refl _)
    rw [hext i (by omega)]; exact I.out i hi'
  · -- not yet made
    intro k i hk hn h1 h2
    have hne : k ≠ m := fun e => hn (.inr e)
    rw [hext i (fun hr => by
      rcases Nat.lt_or_ge k m with h3 | h3
      · have := H.nx (show k + 1 ≤ m by omega) (by omega); omega
      · have := H.nx (show m + 1 ≤ k by omega) (by omega); omega)]
    exact I.no k i hk (fun h => hn (.inl h)) h1 h2
  · exact Fr.join hsub I.fr hp.fr fun t ht => mem_Lsum hm ht
  · -- new blocks
    intro j b c h1 h2 hs
    by_cases hr : (gs m).next ≤ j ∧ j < (gs (m + 1)).next
    · rcases hp.nw j b c (by rw [noLog_eq]; exact hr.1) hr.2 hs with h4 | ⟨i2, c2, h4, h5⟩
      · exact .inl (Nat.le_trans I.fr.size h4)
      · by_cases hr2 : i2 < (gs 0).next ∨ (gs ops.size).next ≤ i2
        · rw [I.out i2 hr2] at h5
          obtain ⟨t2, q1, q2, q3, q4⟩ := h4
          exact .inr ⟨i2, c2, ⟨t2, mem_Lsum hm q1, q2, q3, q4⟩, h5⟩
        · exact I.nw i2 b c2 (by omega) (by omega) h5
    · rw [hext j hr] at hs; exact I.nw j b c h1 h2 hs
  · rw [put_defers]; exact I.df
  · rw [put_size]; exact I.sz
end
end Go.Ev

namespace Go.Ev
open Go

theorem Le.relog {g g' : G} {L : List Tch} (h : Le g g' L) (l : List Tch) : Le ⟨g.heap, g.next, l, g.orc, g.obl⟩ ⟨g'.heap, g'.next, L ++ l, g'.orc, g'.obl⟩ L :=
  ⟨rfl, h.nx, h.ob, h.sh, h.ct, h.ex⟩
section
variable {P : Program} {rec : Rec} {ops : Array Oper} {ms : List Nat} {tms : Nat → Ts AV} {gs : Nat → G} {vs : Nat → AV} {T : Tp} {hi : Nat} {σ0 : Sg} {w0 : World} {a0 : Act} {S : Nat → Prop} {σ : Sg} {a : Act} {w : World}

theorem Step.le (hr : ∀ t g, LeRes g (rec t g)) {k : Nat} {o : Oper} (h : Step rec P ops ms tms gs vs k o) : Le (noLog (gs k)) (gs (k + 1)) (gs (k + 1)).log := by
  obtain ⟨b, g1, h1, h2, h3⟩ := h.run
  obtain ⟨L1, l1⟩ := wantedA_le _ _ _ h1
  have key : ∃ L, Le (noLog (gs k)) (gs (k + 1)) L := by
    cases b with
    | false => rw [(h2 rfl).1]; exact ⟨L1, l1⟩
    | true => obtain ⟨L2, l2⟩ := runOp_le hr _ _ _ (h3 rfl); exact ⟨_, l1.trans l2⟩
  obtain ⟨L, l⟩ := key
  have := l.log
  rw [noLog_eq, List.append_nil] at this
  rw [this]; exact l
theorem PT.leAll (H : PT P ops ms tms gs vs T hi σ0 w0) : ∀ k, k ≤ ops.size → Le (gs 0) ⟨(gs k).heap, (gs k).next, Lsum gs k ++ (gs 0).log, (gs k).orc, (gs k).obl⟩ (Lsum gs k)
  | 0, _ => Le.refl _
  | k + 1, hk => by
    have h1 := H.leAll k (by omega)
    have h2 := (H.le k (by omega)).relog (Lsum gs k ++ (gs 0).log)
    rw [noLog_eq] at h2
    have := h1.trans h2
    rw [← List.append_assoc] at this
    exact this

theorem par_le (hr : ∀ t g, LeRes g (rec t g)) {tm tm' : Ts AV} {g g' : G} {fs : List Foot} (h : evPar rec P ops.toList ms ops.toList 0 [] tm g = .ok (tm', fs) g') : ∃ L, Le g (joinG g fs g') L := by
  obtain ⟨tms, gs, vs, q1, q2, q3, q4, q5, q6⟩ := evPar_trace ops.toList 0 [] tm g tm' fs g' h (fun j => by simp) (fun _ => tm) (fun _ => g) (fun _ => .nilPtr) rfl rfl rfl (fun k hk => by omega)
  simp only [Nat.zero_add, Array.length_toList] at q3 q4 q5 q6
  have key : ∀ k, k ≤ ops.size → Le (gs 0) ⟨(gs k).heap, (gs k).next, Lsum gs k ++ (gs 0).log, (gs k).orc, (gs k).obl⟩ (Lsum gs k) := by
    intro k
    induction k with
    | zero => intro _; exact Le.refl _
    | succ k ih =>
      intro hk
      have hlt : k < ops.size := by omega
      have h2 := ((q6 k hlt ops[k] (by simp [hlt])).le hr).relog (Lsum gs k ++ (gs 0).log)
      rw [noLog_eq] at h2
      have := (ih (by omega)).trans h2
      rw [← List.append_assoc] at this
      exact this
  have h1 := key ops.size (Nat.le_refl _)
  have h2 := joinLogs_eq (gs 0).log q5
  have h3 : joinG g fs g' = ⟨(gs ops.size).heap, (gs ops.size).next, Lsum gs ops.size ++ (gs 0).log, (gs ops.size).orc, (gs ops.size).obl⟩ := by
    rw [← h2, q2, q4]; cases g'; rfl
  rw [h3, ← show gs 0 = g from q2]
  exact ⟨_, h1⟩

theorem par_any (hP : PF P) (hrec : RecS P rec) {N : Nat} {tm tm' : Ts AV} {g g' : G} {fs : List Foot} {ds : List (FuncId × List AV)}
    (hst : Stat ops ms) (h : evPar rec P ops.toList ms ops.toList 0 [] tm g = .ok (tm', fs) g') (p : Pre P T hi σ g w (joinG g fs g')) (ht : TR σ tm a.tmps) (hd : DRs σ ds a.defers) (hin : opsIn N ops.toList = true) (hN : N ≤ a.tmps.size) :
    wpAny P .any ops (CPost P T σ g w N .norm tm' ds (joinG g fs g')) ops.size (Array.replicate ops.size false) a (drewn w) := by
  obtain ⟨tms, gs, vs, q1, q2, q3, q4, q5, q6⟩ := evPar_trace ops.toList 0 [] tm g tm' fs g' h (fun j => by simp) (fun _ => tm) (fun _ => g) (fun _ => .nilPtr) rfl rfl rfl (fun k hk => by omega)
  simp only [Nat.zero_add, Array.length_toList] at q3 q4 q5 q6
  have hj : joinG g fs g' = ⟨(gs ops.size).heap, (gs ops.size).next, Lsum gs ops.size ++ (gs 0).log, (gs ops.size).orc, (gs ops.size).obl⟩ := by
    rw [← joinLogs_eq (gs 0).log q5, q2, q4]; cases g'; rfl
  have hg0 : gs 0 = g := q2
  subst hg0
  rw [hj] at p ⊢
  have hop : ∀ k, k < ops.size → ∃ o, ops[k]? = some o := fun k hk => ⟨ops[k], by simp [hk]⟩
  have H : PT P ops ms tms gs vs T hi σ (drewn w) := {
    st := hst
    apL := fun j k hjk hk => by
      obtain ⟨o, ho⟩ := hop k hk
      obtain ⟨m, hm, _⟩ := hst.bits k o ho
      rcases (q6 k hk o ho).apart m hm j hjk with h1 | h1
      · exact .inl ⟨m, hm, h1⟩
      · exact .inr h1
    le := fun k hk => by obtain ⟨o, ho⟩ := hop k hk; exact (q6 k hk o ho).le hrec.le
    put := fun k o ho => (q6 k (Array.getElem?_eq_some_iff.1 ho).1 o ho).put
    rel0 := p.rel.drewn
    fresh0 := p.fresh
    hiN := p.hi
    inT := fun k hk t ht => p.inT (Lsum gs ops.size) rfl t (mem_Lsum hk ht)
    owes := p.owes }
  have hS0 : ∀ j, ¬ (Array.replicate ops.size false).getD j false = true := fun j => by
    intro hc
    by_cases hj : j < ops.size <;> simp [hj] at hc
  refine wpAny_inv (fun listed a' w' => ∃ σ', Inv P ops ms tms gs T σ (drewn w) a (fun j => listed.getD j false = true) σ' a' w') ?_ ?_ ops.size _ _ _ ?_ (by simp) ?_
  · -- a step
    rintro listed a' w' i hs ⟨σ', I⟩ hi'
    obtain ⟨h0, o, ho, hes⟩ := mem_ready.1 hi'
    have hlt := (Array.getElem?_eq_some_iff.1 ho).1
    have hlt' : i < listed.size := by omega
    have hS : ¬ listed.getD i false = true := by simp [hlt'] at h0 ⊢; exact h0
    have hb : ∀ j, Bit ms j i → listed.getD j false = true := by
      rintro j ⟨m, hm, hj⟩
      obtain ⟨b, h1, h2, h3⟩ := hst.bits i o ho
      rw [hm] at h1; injection h1 with h1; subst h1
      obtain ⟨e, he, hbd, h4⟩ := h3 j hj
      have h5 := hes e he hbd
      rcases h4 with rfl | ⟨m', h6, h7⟩
      · exact h5
      · exact I.bits e.on h5 j ⟨m', h6, h7⟩
    have hset : (fun j => (listed.setIfInBounds i true).getD j false = true) = (fun j => listed.getD j false = true ∨ j = i) := by
      funext j
      rw [getD_set listed i j false hlt']
      by_cases hji : j = i <;> simp [hji]
    have hpre := I.pre H hlt hS hb
    obtain ⟨r1, r2⟩ := I.opsRel H ho hS hb
    obtain ⟨b, g1, s1, s2, s3⟩ := (q6 i hlt o ho).run
    have hdst : ∀ k, o.dst = some k → k < a'.tmps.size := fun k hk => by
      have h9 : k < N := opsIn_mem hin o (by rw [Array.mem_toList_iff]; exact Array.mem_of_getElem? ho) k hk
      rw [I.sz]; exact Nat.lt_of_lt_of_le h9 hN
    unfold wpOp
    rw [ho]
    simp only
    cases b with
    | false =>
      obtain ⟨s4, s5⟩ := s2 rfl
      obtain ⟨hw, pw⟩ := wantedA_sound s1 (by rw [← s4]; exact hpre) r2
      rw [hw]
      simp only [Bool.false_eq_true, if_false]
      refine ⟨σ', ?_⟩
      rw [hset]
      have hlog : (gs (i + 1)).log = [] := by rw [s4, wantedA_log s1, noLog_eq]
      refine I.next H ho hS hb (V := undef) ?_ (by rw [s5]; exact .tup (Cs := []) .nil) hdst
      rw [hlog, s4]; exact pw
    | true =>
      have s4 := s3 rfl
      obtain ⟨M, hM⟩ := runOp_le hrec.le _ _ _ s4
      obtain ⟨hw, pw⟩ := wantedA_sound s1 (hpre.first hM) r2
      rw [hw]
      simp only [if_true]
      refine .inl (opStep hP hrec s4 (hpre.then pw) r1 fun σ1 w1 L pp => ?_)
      intro V hV
      refine ⟨σ1, ?_⟩
      rw [hset]
      have ptot := pw.trans pp hpre.fresh hpre.hi
      have hlog : L ++ [] = (gs (i + 1)).log := by
        have := ptot.le.log
        rw [noLog_eq] at this
        rw [this]; simp
      rw [hlog] at ptot
      exact I.next H ho hS hb ptot hV hdst
  · -- the end
    rintro listed a' w' hs ⟨σ', I⟩ hr
    have hall : ∀ d k, k ≤ d → k < ops.size → listed.getD k false = true := by
      intro d
      induction d with
      | zero =>
        intro k hk hlt
        by_cases hc : listed.getD k false = true
        · exact hc
        · exfalso
          obtain ⟨o, ho⟩ := hop k hlt
          have hlt' : k < listed.size := by omega
          have : k ∈ Region.ready .any ops listed := mem_ready.2 ⟨by simp [hlt'] at hc ⊢; exact hc, o, ho, fun e he hb => by
            obtain ⟨b, _, h2, _⟩ := hst.bits k o ho
            have := h2 e he hb
            omega⟩
          rw [hr] at this; cases this
      | succ d ih =>
        intro k hk hlt
        by_cases hc : listed.getD k false = true
        · exact hc
        · exfalso
          obtain ⟨o, ho⟩ := hop k hlt
          have hlt' : k < listed.size := by omega
          have : k ∈ Region.ready .any ops listed := mem_ready.2 ⟨by simp [hlt'] at hc ⊢; exact hc, o, ho, fun e he hb => by
            obtain ⟨b, _, h2, _⟩ := hst.bits k o ho
            have := h2 e he hb
            exact ih e.on (by omega) (by omega)⟩
          rw [hr] at this; cases this
    have hvalid : ∀ W, Valid ops.size (fun j => listed.getD j false = true) W ops.size := fun W => ⟨fun j hj _ => hall j j (Nat.le_refl _) hj, fun j h1 h2 => by omega⟩
    refine ⟨σ', Lsum gs ops.size, ?_, rfl, fun t v hv => I.tmp ops.size t v (Nat.le_refl _) (hvalid _) (by rw [q3]; exact hv), ?_, by rw [I.sz]; exact hN⟩
    · have hle := H.leAll ops.size (Nat.le_refl _)
      have hfr := (Fr.drewn σ w)
      refine ⟨hle, fun j hj => I.out j hj, ⟨fun i blk hg ht => I.sh ops.size i blk (Nat.le_refl _) (hvalid _) hg ht, fun i blk o c b cap hg hc ht hs => I.ct ops.size i blk o c b cap (Nat.le_refl _) (hvalid _) hg hc ht hs,
        fun i j bi bj b c c' h1 h2 h3 h4 h5 h6 => I.inj ops.size ops.size i j bi bj b c c' (Nat.le_refl _) (Nat.le_refl _) (hvalid _) (hvalid _) h1 h2 h3 h4 h5 h6⟩, ?_, I.nw⟩
      exact ⟨I.fr.size, I.fr.tape, I.fr.os, I.fr.output, I.fr.same, I.fr.cells, I.fr.maps, I.fr.oth⟩
    · rw [I.df]
      refine hd.mono fun i x hx => ?_
      by_cases hc : i < (gs 0).next ∨ (gs ops.size).next ≤ i
      · rw [I.out i hc]; exact hx
      · have h3 := p.hi
        have h4 := p.fresh i (by omega) (Nat.lt_of_lt_of_le (by show i < (gs ops.size).next; omega) h3)
        rw [h4] at hx; cases hx
  · unfold unl
    exact Nat.le_trans (List.length_filter_le _ _) (by simp)
  · -- the beginning
    refine ⟨σ, ?_⟩
    have h00 : ∀ {W : Nat → Prop} {k : Nat}, Valid ops.size (fun j => (Array.replicate ops.size false).getD j false = true) W k → ∀ j, 0 ≤ j → j < k → ¬ W j := fun v j _ hj hw => hS0 j (v.1 j hj hw)
    refine ⟨fun k hk => absurd hk (hS0 k), ?_, ?_, ?_, ?_, fun _ _ => rfl, ?_, ?_, ?_, rfl, rfl⟩
    · intro k t v hk hv hg
      have := H.tmBack (Nat.zero_le k) hk (h00 hv) hg
      rw [q1] at this
      exact ht t v this
    · intro k i blk hk hv hg hT
      obtain ⟨b, h1, h2⟩ := H.shBack (Nat.zero_le k) hk (h00 hv) hg
      rw [← h2]
      exact p.rel.sh i b h1 hT
    · intro k i blk o c b cap hk hv hg hc hT hs
      obtain ⟨b', h1, h2⟩ := H.ctBack (Nat.zero_le k) hk (h00 hv) hg hc
      exact p.rel.ct i b' o c b cap h1 h2 hT hs
    · intro k k' i j bi bj b c c' hk hk' hv hv' hg hg' hT hT' hs hs'
      obtain ⟨b1, h1, _⟩ := H.shBack (Nat.zero_le k) hk (h00 hv) hg
      obtain ⟨b2, h2, _⟩ := H.shBack (Nat.zero_le k') hk' (h00 hv') hg'
      exact p.rel.inj i j b1 b2 b c c' h1 h2 hT hT' hs hs'
    · intro k i hk _ h1 h2
      have h3 := H.nx (Nat.zero_le k) (Nat.le_of_lt hk)
      have h4 := H.nx (show k + 1 ≤ ops.size by omega) (Nat.le_refl _)
      have h5 := H.hiN
      exact p.fresh i (by omega) (by omega)
    · exact ⟨Nat.le_refl _, rfl, rfl, rfl, fun _ _ _ => rfl, fun _ c _ _ h => ⟨c, h, rfl, fun _ _ => rfl⟩, fun _ es cl h => ⟨es, cl, h, fun _ => ⟨rfl, rfl⟩⟩, fun _ _ q s r h => ⟨q, s, r, h, fun _ => ⟨rfl, rfl, rfl⟩⟩⟩
    · intro j b c h1 h2 hs
      have h5 := H.hiN
      rw [p.fresh j h1 (by omega)] at hs; cases hs
theorem par_sound (hP : PF P) (hrec : RecS P rec) (hm : P.follows .mixedOrders = true) {id N : Nat} {tm tm' : Ts AV} {g g' : G} {fs : List Foot} {ds : List (FuncId × List AV)}
    (hst : Stat ops ms) (h : evPar rec P ops.toList ms ops.toList 0 [] tm g = .ok (tm', fs) g') (p : Pre P T hi σ g w (joinG g fs g')) (ht : TR σ tm a.tmps) (hd : DRs σ ds a.defers) (hin : opsIn N ops.toList = true) (hN : N ≤ a.tmps.size) :
    (Code.region id ops true).wp P (CPost P T σ g w N .norm tm' ds (joinG g fs g')) a w := wp_region_any hm (par_any hP hrec hst h p ht hd hin hN)
end
end Go.Ev
