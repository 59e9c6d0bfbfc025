/-
  A part of the evaluator of the program's code, or of what it was seen to do; its statements are Lean's own. No condition.
-/
import Derived.Test.YthclecbbebelhaaGreatEvOp10
namespace Go.Ev
open Go

/-! ### What every run keeps, whatever the world -/
def Mn {α : Type} (m : M α) : Prop := ∀ g a g', m g = .ok a g' → ∃ L, Le g g' L
section
variable {α β : Type}
theorem Mn.pure {a : α} : Mn (M.pure a) := fun g b g' h => by obtain ⟨_, rfl⟩ := pure_ok h; exact ⟨[], Le.refl _⟩
theorem Mn.no {n : Nat} : Mn (Ev.no n : M α) := fun g b g' h => by cases h
theorem Mn.bind {m : M α} {f : α → M β} (h1 : Mn m) (h2 : ∀ a, Mn (f a)) : Mn (M.bind m f) := fun g b g' h => by
  obtain ⟨a, g1, q1, q2⟩ := bind_ok h
  obtain ⟨L, l1⟩ := h1 _ _ _ q1
  obtain ⟨M, l2⟩ := h2 a _ _ _ q2
  exact ⟨_, l1.trans l2⟩
theorem Mn.ask {b : Bool} : Mn (Ev.ask b) := fun g d g' h => by obtain ⟨r, _, rfl⟩ := ask_ok h; exact ⟨[], Le.asked⟩
theorem Mn.read {i o n : Nat} : Mn (Ev.read i o n) := fun g r g' h => by obtain ⟨_, _, _, rfl⟩ := read_ok h; exact ⟨_, Le.logs⟩
theorem Mn.getMap {i : Nat} : Mn (Ev.getMap i) := fun g r g' h => by obtain ⟨_, rfl⟩ := getMap_ok h; exact ⟨_, Le.logs⟩
theorem Mn.touchR {i o n : Nat} : Mn (touch i o n false) := fun g r g' h => by rw [touch_ok h]; exact ⟨_, Le.logs⟩
theorem Mn.touchIds {ids : List Nat} : Mn (Ev.touchIds ids) := fun g r g' h => by
  obtain ⟨L, e, hw, _⟩ := touchIds_ok ids h
  rw [e]
  exact ⟨L, ⟨rfl, Nat.le_refl _, ⟨[], rfl⟩, fun _ b _ h => ⟨b, h, rfl⟩, fun _ _ b _ _ h h' => ⟨b, h, h'⟩, fun t ht h => by rw [hw t ht] at h; cases h⟩⟩
theorem Mn.write {i o : Nat} {vs : List AV} : Mn (Ev.write i o vs) := fun _ _ _ h => ⟨_, write_le h⟩
theorem Mn.alloc {blk : Blk} : Mn (Ev.alloc blk) := fun _ _ _ h => ⟨_, alloc_le h⟩
theorem Mn.setMap {i : Nat} {es : List (AV × AV)} : Mn (Ev.setMap i es) := fun _ _ _ h => ⟨_, setMap_le h⟩
theorem Mn.regrow {i e : Nat} {c : List AV} : Mn (Ev.regrow i e c) := fun _ _ _ h => ⟨_, regrow_le h⟩
theorem Mn.vl {m : M AV} (h : Mn m) : Mn (Ev.vl m) := h.bind fun _ => Mn.pure
theorem Mn.ul {m : M Unit} (h : Mn m) : Mn (Ev.ul m) := h.bind fun _ => Mn.pure
theorem Mn.ovl {n : Nat} {x : Option AV} : Mn (Ev.ovl n x) := by cases x <;> first | exact Mn.no | exact Mn.pure
theorem Mn.e1 {n : Nat} {tm : Ts AV} {x : Operand} {f : AV → M OpR} (h : ∀ v, Mn (f v)) : Mn (ev1 n tm x f) := by unfold ev1; split <;> first | exact h _ | exact Mn.no
theorem Mn.e2 {n : Nat} {tm : Ts AV} {x y : Operand} {f : AV → AV → M OpR} (h : ∀ u v, Mn (f u v)) : Mn (ev2 n tm x y f) := by
  unfold ev2; split
  · split <;> first | exact h _ _ | exact Mn.no
  · exact Mn.no
theorem Mn.e3 {n : Nat} {tm : Ts AV} {x y z : Operand} {f : AV → AV → AV → M OpR} (h : ∀ u v s, Mn (f u v s)) : Mn (ev3 n tm x y z f) := by
  unfold ev3; split
  · split
    · split <;> first | exact h _ _ _ | exact Mn.no
    · exact Mn.no
  · exact Mn.no
theorem Mn.intM {n : Nat} : Mn (Ev.intM n) := by unfold Ev.intM; rw [natK_eq]; exact Mn.pure
theorem Mn.ptrM {i o : Nat} : Mn (Ev.ptrM i o) := by unfold Ev.ptrM; rw [natK_eq]; exact Mn.pure
theorem Mn.newA {t : TypeId} {v : AV} : Mn (Ev.newA t v) := by
  unfold Ev.newA; rw [listK_eq]; split
  · exact Mn.alloc.bind fun _ => Mn.pure
  · exact Mn.no
theorem Mn.loadA {P : Program} {t : TypeId} {a : AV} : Mn (Ev.loadA P t a) := by
  unfold Ev.loadA
  split
  · split
    · split
      · exact Mn.read.bind fun _ => Mn.pure
      · exact Mn.no
    · refine Mn.read.bind fun l => ?_
      split <;> first | exact Mn.pure | exact Mn.no
    · exact Mn.no
  · split
    · intro g r g' h
      dsimp only at h
      split at h
      · refine Mn.bind (m := Ev.ask _) (f := _) Mn.ask (fun d => ?_) g r g' h
        split
        · exact Mn.touchR.bind fun _ => Mn.pure
        · exact Mn.no
      · cases h
    · exact Mn.no
  · exact Mn.no
theorem Mn.storeA {P : Program} {t : TypeId} {a v : AV} : Mn (Ev.storeA P t a v) := by
  unfold Ev.storeA
  split
  · split
    · split <;> first | exact Mn.write | exact Mn.no
    · exact Mn.no
  · exact Mn.no
theorem Mn.makeSliceA {P : Program} {t : TypeId} {l c : AV} : Mn (Ev.makeSliceA P t l c) := by
  unfold Ev.makeSliceA
  split
  · split
    · split
      · split
        · exact Mn.alloc.bind fun _ => Mn.pure
        · exact Mn.no
      · exact Mn.no
    · exact Mn.no
  · exact Mn.no
theorem Mn.buildSliceA {P : Program} {t : TypeId} {n : Nat} {ps : List (Nat × AV)} : Mn (Ev.buildSliceA P t n ps) := by
  unfold Ev.buildSliceA
  split
  · split
    · split
      · split
        · split <;> first | exact Mn.alloc.bind fun _ => Mn.pure | exact Mn.no
        · exact Mn.no
      · exact Mn.no
    · exact Mn.no
  · exact Mn.no
theorem Mn.indexAtA {P : Program} {t : TypeId} {x i : AV} : Mn (Ev.indexAtA P t x i) := by
  unfold Ev.indexAtA
  split
  · split
    · split
      · split <;> first | exact Mn.ptrM | exact Mn.no
      · exact Mn.no
    · exact Mn.no
  · split
    · split
      · split <;> first | exact Mn.ptrM | exact Mn.no
      · exact Mn.no
    · split
      · split <;> first | exact Mn.ptrM | exact Mn.no
      · exact Mn.no
    · split
      · split
        · refine Mn.ask.bind fun d => ?_
          split <;> first | exact Mn.pure | exact Mn.no
        · exact Mn.no
      · exact Mn.no
    · split
      · split
        · refine Mn.ask.bind fun d => ?_
          split <;> first | exact Mn.pure | exact Mn.no
        · exact Mn.no
      · exact Mn.no
    · exact Mn.no
  · exact Mn.no
theorem Mn.equalA {P : Program} {t : TypeId} {cx cy : Bool} {x y : AV} : Mn (Ev.equalA P t cx cy x y) := by
  intro g r g' h
  unfold Ev.equalA at h
  split at h
  · split at h
    · split at h
      · refine Mn.bind (Mn.touchIds) (fun d => ?_) g r g' h
        cases (‹Eqr› : Eqr).b <;> exact Mn.pure
      · exact Mn.bind (Mn.touchIds) (fun d => Mn.pure) g r g' h
    · cases h
  · cases h
theorem Mn.askMod {k : IntKind} {e : Int} : ∀ (n i : Nat), Mn (Ev.askMod k e n i)
  | 0, _ => Mn.no
  | n + 1, i => Mn.ask.bind fun d => by
    cases d with
    | true => simp only [natK_eq]; exact Mn.pure
    | false => exact Mn.askMod n (i + 1)
theorem Mn.conc {op : BinOp} {x y v : AV} : Mn (Ev.conc op x y v) := by
  unfold Ev.conc
  split
  · exact Mn.askMod _ _
  · exact Mn.pure
theorem Mn.binA {P : Program} {op : BinOp} {t : TypeId} {cx cy : Bool} {x y : AV} : Mn (Ev.binA P op t cx cy x y) := by
  unfold Ev.binA
  split
  · exact Mn.conc
  · split
    · exact Mn.no
    · split
      · exact Mn.equalA
      · exact Mn.equalA.bind fun _ => Mn.pure
      · exact Mn.no
theorem Mn.lookupM {P : Program} {k e : TypeId} {x : AV} {cs : List AV} {ok : Bool} : Mn (Ev.lookupM P k e x cs ok) := by
  unfold Ev.lookupM
  refine Mn.bind ?_ fun es => ?_
  · unfold entriesA; split <;> first | exact Mn.pure | exact Mn.getMap | exact Mn.no
  · split
    · exact Mn.pure
    · split <;> first | exact Mn.pure | exact Mn.no
    · exact Mn.no
theorem Mn.lookupP {P : Program} {k e : TypeId} {i : Nat} {es : List (AV × AV)} {key : AV} {ok : Bool} : Mn (Ev.lookupP P k e i es key ok) := by
  unfold Ev.lookupP
  refine Mn.touchR.bind fun _ => ?_
  split
  · exact Mn.pure
  · split <;> first | exact Mn.pure | exact Mn.no
  · exact Mn.no
theorem Mn.lookupG {P : Program} {t : TypeId} {x i : AV} {ok : Bool} : Mn (Ev.lookupG P t x i ok) := by
  unfold Ev.lookupG
  split
  · split
    · split
      · intro g a g' h
        simp only at h
        split at h
        · split at h
          · exact Mn.lookupP _ _ _ h
          · exact Mn.lookupM _ _ _ h
        · exact Mn.lookupM _ _ _ h
      · exact Mn.no
    · exact Mn.no
  · exact Mn.no
theorem Mn.mapSetG {P : Program} {t : TypeId} {m k v : AV} : Mn (Ev.mapSetG P t m k v) := by
  unfold Ev.mapSetG
  split
  · split
    · split
      · refine Mn.getMap.bind fun es => ?_
        split <;> first | exact Mn.setMap | exact Mn.no
      · exact Mn.no
    · exact Mn.no
  · exact Mn.no
theorem Mn.lookupA {P : Program} {t : TypeId} {x i : AV} {ok : Bool} : Mn (Ev.lookupA P t x i ok) := by
  unfold Ev.lookupA
  split
  · split
    · refine Mn.bind ?_ fun es => ?_
      · split <;> first | exact Mn.pure | exact Mn.getMap | exact Mn.no
      · split
        · exact Mn.pure
        · split <;> first | exact Mn.pure | exact Mn.no
        · exact Mn.no
    · exact Mn.no
  · exact Mn.lookupG
theorem Mn.mapSetA {P : Program} {t : TypeId} {m k v : AV} : Mn (Ev.mapSetA P t m k v) := by
  unfold Ev.mapSetA
  split
  · split
    · refine Mn.getMap.bind fun es => ?_
      split <;> first | exact Mn.setMap | exact Mn.no
    · exact Mn.no
  · exact Mn.mapSetG
theorem Mn.lenA {P : Program} {t : TypeId} {x : AV} : Mn (Ev.lenA P t x) := by
  unfold Ev.lenA
  split
  · unfold lenSl; split <;> first | exact Mn.intM | exact Mn.pure | exact Mn.no
  · exact Mn.intM
  · unfold lenStr; split <;> first | exact Mn.intM | exact Mn.no
  · unfold lenMap; split <;> first | exact Mn.pure | exact Mn.getMap.bind fun _ => Mn.intM | exact Mn.no
  · unfold lenChan
    split
    · exact Mn.pure
    · rename_i i
      intro g a g' h
      have h : (match chanLen (g.heap.get i) with
        | some n => M.bind (touch i 0 1 false) (fun _ => Ev.intM n) g
        | none => .no 70) = Out.ok a g' := h
      cases hc : chanLen (g.heap.get i) <;> rw [hc] at h
      · cases h
      · exact (Mn.touchR.bind fun _ => Mn.intM) _ _ _ h
    · exact Mn.no
  · exact Mn.no
theorem Mn.firstA {s n : Nat} {x : AV} : Mn (Ev.firstA s n x) := by
  unfold Ev.firstA; split <;> first | exact Mn.read | exact Mn.pure | exact Mn.no
theorem Mn.appendA {P : Program} {t xt : TypeId} {s x : AV} : Mn (Ev.appendA P t xt s x) := by
  unfold Ev.appendA
  split
  · split
    · split
      · split
        · split
          · exact Mn.pure
          · split
            · exact Mn.firstA.bind fun _ => Mn.alloc.bind fun _ => Mn.pure
            · exact Mn.no
        · split
          · exact Mn.firstA.bind fun _ => Mn.write.bind fun _ => by rw [natK_eq]; exact Mn.pure
          · split
            · exact Mn.read.bind fun _ => Mn.firstA.bind fun _ => Mn.bind (by rw [listK_eq]; exact Mn.alloc) fun _ => by rw [natK_eq]; exact Mn.pure
            · exact Mn.no
        · split
          · refine Mn.read.bind fun _ => Mn.firstA.bind fun _ => ?_
            split
            · exact Mn.bind (by rw [listK_eq]; exact Mn.regrow) fun _ => by rw [natK_eq]; exact Mn.pure
            · exact Mn.no
          · exact Mn.no
        · exact Mn.no
      · exact Mn.no
    · exact Mn.no
  · exact Mn.no
theorem Mn.copyA {P : Program} {t : TypeId} {d x : AV} : Mn (Ev.copyA P t d x) := by
  unfold Ev.copyA
  split
  · split
    · refine Mn.firstA.bind fun c => ?_
      split
      · exact Mn.write.bind fun _ => Mn.intM
      · exact Mn.write.bind fun _ => Mn.intM
      · exact Mn.pure
      · exact Mn.no
    · exact Mn.no
  · exact Mn.no
theorem Mn.deleteA {P : Program} {t : TypeId} {m k : AV} : Mn (Ev.deleteA P t m k) := by
  unfold Ev.deleteA
  split
  · split
    · refine Mn.getMap.bind fun es => ?_
      split <;> first | exact Mn.setMap.bind fun _ => Mn.pure | exact Mn.no
    · exact Mn.pure
    · exact Mn.no
  · exact Mn.no
theorem Mn.builtinA {P : Program} {b : Builtin} {ts : List TypeId} {args : List AV} : Mn (Ev.builtinA P b ts args) := by
  unfold Ev.builtinA
  split
  · split <;> first | exact Mn.lenA.vl | exact Mn.no
  · split <;> first | exact Mn.appendA.vl | exact Mn.no
  · split <;> first | exact Mn.copyA.vl | exact Mn.no
  · split <;> first | exact Mn.deleteA.vl | exact Mn.no
  · split <;> first | exact Mn.ovl | exact Mn.no
  · split <;> first | exact Mn.ovl | exact Mn.no
  · exact Mn.no
theorem Mn.evOp {P : Program} {tm : Ts AV} {op : Op} : Mn (Ev.evOp P tm op) := by
  cases op <;> simp only [Ev.evOp] <;> try exact Mn.no
  case move => exact Mn.e1 fun _ => Mn.pure
  case assign => exact Mn.e1 fun _ => Mn.pure
  case pick => unfold evPick; split <;> first | exact Mn.pure | exact Mn.no
  case alloc =>
    unfold evAlloc
    split
    · unfold newBig; exact (Mn.alloc.bind fun _ => Mn.pure).vl
    · split <;> first | exact Mn.newA.vl | exact Mn.no
  case box =>
    unfold evBox
    split
    · refine Mn.vl ?_
      unfold boxA
      split
      · exact Mn.alloc.bind fun _ => Mn.pure
      · exact Mn.newA
    · exact Mn.no
  case build =>
    unfold evBuild
    split
    · unfold buildP
      split
      · unfold repOf
        split
        · split <;> first | exact Mn.pure | exact Mn.ovl
        · exact Mn.ovl
      · exact Mn.ovl
    · exact Mn.no
  case makeChan =>
    refine Mn.e1 fun _ => Mn.vl ?_
    unfold makeChanA
    split
    · split
      · split
        · split
          · exact Mn.alloc.bind fun _ => Mn.pure
          · exact Mn.no
        · exact Mn.no
      · exact Mn.no
    · exact Mn.no
  case makeSlice => exact Mn.e2 fun _ _ => Mn.makeSliceA.vl
  case buildSlice => unfold evBuildSlice; split <;> first | exact Mn.buildSliceA.vl | exact Mn.no
  case insert => exact Mn.e3 fun _ _ _ => Mn.mapSetA.ul
  case load => exact Mn.e1 fun _ => Mn.loadA.vl
  case store => exact Mn.e2 fun _ _ => Mn.storeA.ul
  case nilCheck => exact Mn.e1 fun _ => by unfold nilCheckA; split <;> first | exact Mn.pure | exact Mn.no
  case binOp => exact Mn.e2 fun _ _ => Mn.binA.vl
  case unOp => exact Mn.e1 fun _ => Mn.ovl
  case convert => exact Mn.e1 fun _ => Mn.ovl
  case makeInterface => exact Mn.e1 fun _ => by unfold makeIfaceA; split <;> first | exact Mn.pure | exact Mn.no
  case makeFunc =>
    unfold evMakeFunc; split
    · split <;> first | exact Mn.pure | exact Mn.no
    · exact Mn.no
  case makeMap => unfold evMakeMap; split <;> first | exact Mn.alloc.bind fun _ => Mn.pure | exact Mn.no
  case slice => unfold evSlice; split <;> first | exact Mn.ovl | exact Mn.no
  case fieldAddr => exact Mn.e1 fun _ => Mn.ovl
  case field => exact Mn.e1 fun _ => Mn.ovl
  case indexAddr => exact Mn.e2 fun _ _ => Mn.indexAtA.vl
  case index => exact Mn.e2 fun _ _ => Mn.ovl
  case lookup => exact Mn.e2 fun _ _ => Mn.lookupA.vl
  case mapUpdate => exact Mn.e3 fun _ _ _ => Mn.mapSetA.ul
  case typeAssert => exact Mn.e1 fun _ => Mn.ovl
  case extract => exact Mn.e1 fun _ => by unfold extractA; split <;> first | exact Mn.ovl | exact Mn.no
  case call =>
    unfold evCall; split
    · unfold evCallee; split
      · exact Mn.e1 fun _ => by unfold callVal; split <;> first | exact Mn.pure | exact Mn.no
      · exact Mn.builtinA
      · exact Mn.no
    · exact Mn.no
  case defer =>
    unfold evDefer; split
    · split
      · exact Mn.e1 fun _ => by unfold dfrVal; split <;> first | exact Mn.pure | exact Mn.no
      · exact Mn.no
      · exact Mn.no
    · exact Mn.no
  case panic => exact Mn.e1 fun _ => by unfold panicA; split <;> first | exact Mn.pure | exact Mn.no
end
end Go.Ev
