/-
  No cell of these rows narrows 'for every input' (looked for: loops, veiled, ifaces, maps, wideKeys, modest, calm, conditions, laid).
  DERIVED. THE GIVEN ROWS OF THIS SEAT. 6 by the template 'for every input the law returns true; each argument reads behind the call as it read before'; 0 by the template 'total and deterministic' (their statements: YteeakllokpdjgaaGreatTotals.lean).
  GIVEN WITH THE SEED: the statements are not yours to turn. If you find one false, say at which input.
  Laid BY PROGRAM, IN A SANDBOX (cutbox-rows.mjs): the forced cells as the released guide's own fill.sh prints them over the translation 754d4924b74d286d… (all of the seat's roots in one cut). By AI agents, Wed Nov 11 2026. No macro, syntax, notation, axiom, sorry.
-/
import Derived.Test.YteeakllokpdjgaaGreatChecked
import GoSem.Claim
import GoSem.ClaimJoined
import GoSem.ClaimMapViews
import Derived.JoinedTies
import Derived.KernelRfl
namespace Go.Proofs.YteeakllokpdjgaaGreat
/- THE CELL 'sum', in the pinned program and in every row, IS THE sha256 OF THE DUMP (.gsa) THAT YteeakllokpdjgaaGreatProg.lean LOADS. Nothing in Lean hashes anything: it is a label: what it is worth is what the hold of that sum in a sandbox is worth. -/
noncomputable def Tryz.pinned : Pinned := { name := "yteeakllokpdjgaagreat", sum := "754d4924b74d286d31e168363208e0a166194a5504334c66c79b1a521d824dfd", checked := Tryz.checked }
namespace Rows
def none {H : Type} : Left H := { results := [], args := [] }

/-- 'drawloomlaw17.ExecMoves': WHATEVER THE INPUT: true; the input reads as it did. -/
def execMovesSpec : ChangeSpec := { name := "execMoves", fn := fun _ => fun
  | [d1, d2, d3, d4] => { results := [.lit (.bool true)], args := [d1, d2, d3, d4] }
  | _ => none }
def execMovesRow : OpenClaim := { program := "yteeakllokpdjgaagreat", sum := "754d4924b74d286d31e168363208e0a166194a5504334c66c79b1a521d824dfd", func := "drawloom/drawloomlaw17.ExecMoves", spec := "execMoves", unfollowed := true, recurses := true, plainKeys := false, apart := false }
def ExecMovesSaid : Prop := execMovesRow.holds Tryz.pinned (OpenSpec.ofChange execMovesSpec)

/-- ITS FALSE NEIGHBOUR: 'it returns false'. Refute it at one input. -/
def execMovesWrong : ChangeSpec := { name := "execMoves", fn := fun _ => fun
  | [d1, d2, d3, d4] => { results := [.lit (.bool false)], args := [d1, d2, d3, d4] }
  | _ => none }
def ExecMovesWrongFalsely : Prop := execMovesRow.holds Tryz.pinned (OpenSpec.ofChange execMovesWrong)

/-- 'drawloomlaw17.ExecJumps': WHATEVER THE INPUT: true; the input reads as it did. -/
def execJumpsSpec : ChangeSpec := { name := "execJumps", fn := fun _ => fun
  | [d1, d2, d3] => { results := [.lit (.bool true)], args := [d1, d2, d3] }
  | _ => none }
def execJumpsRow : OpenClaim := { program := "yteeakllokpdjgaagreat", sum := "754d4924b74d286d31e168363208e0a166194a5504334c66c79b1a521d824dfd", func := "drawloom/drawloomlaw17.ExecJumps", spec := "execJumps", unfollowed := true, recurses := true, plainKeys := false, apart := false }
def ExecJumpsSaid : Prop := execJumpsRow.holds Tryz.pinned (OpenSpec.ofChange execJumpsSpec)

/-- ITS FALSE NEIGHBOUR: 'it returns false'. Refute it at one input. -/
def execJumpsWrong : ChangeSpec := { name := "execJumps", fn := fun _ => fun
  | [d1, d2, d3] => { results := [.lit (.bool false)], args := [d1, d2, d3] }
  | _ => none }
def ExecJumpsWrongFalsely : Prop := execJumpsRow.holds Tryz.pinned (OpenSpec.ofChange execJumpsWrong)

/-- 'drawloomlaw17.ExecRings': WHATEVER THE INPUT: true; the input reads as it did. -/
def execRingsSpec : ChangeSpec := { name := "execRings", fn := fun _ => fun
  | [d1, d2, d3] => { results := [.lit (.bool true)], args := [d1, d2, d3] }
  | _ => none }
def execRingsRow : OpenClaim := { program := "yteeakllokpdjgaagreat", sum := "754d4924b74d286d31e168363208e0a166194a5504334c66c79b1a521d824dfd", func := "drawloom/drawloomlaw17.ExecRings", spec := "execRings", unfollowed := true, recurses := true, plainKeys := false, apart := false }
def ExecRingsSaid : Prop := execRingsRow.holds Tryz.pinned (OpenSpec.ofChange execRingsSpec)

/-- ITS FALSE NEIGHBOUR: 'it returns false'. Refute it at one input. -/
def execRingsWrong : ChangeSpec := { name := "execRings", fn := fun _ => fun
  | [d1, d2, d3] => { results := [.lit (.bool false)], args := [d1, d2, d3] }
  | _ => none }
def ExecRingsWrongFalsely : Prop := execRingsRow.holds Tryz.pinned (OpenSpec.ofChange execRingsWrong)

/-- 'drawloomlaw17.ExecRepeats': WHATEVER THE INPUT: true; the input reads as it did. -/
def execRepeatsSpec : ChangeSpec := { name := "execRepeats", fn := fun _ => fun
  | [d1, d2, d3, d4] => { results := [.lit (.bool true)], args := [d1, d2, d3, d4] }
  | _ => none }
def execRepeatsRow : OpenClaim := { program := "yteeakllokpdjgaagreat", sum := "754d4924b74d286d31e168363208e0a166194a5504334c66c79b1a521d824dfd", func := "drawloom/drawloomlaw17.ExecRepeats", spec := "execRepeats", unfollowed := true, recurses := true, plainKeys := false, apart := false }
def ExecRepeatsSaid : Prop := execRepeatsRow.holds Tryz.pinned (OpenSpec.ofChange execRepeatsSpec)

/-- ITS FALSE NEIGHBOUR: 'it returns false'. Refute it at one input. -/
def execRepeatsWrong : ChangeSpec := { name := "execRepeats", fn := fun _ => fun
  | [d1, d2, d3, d4] => { results := [.lit (.bool false)], args := [d1, d2, d3, d4] }
  | _ => none }
def ExecRepeatsWrongFalsely : Prop := execRepeatsRow.holds Tryz.pinned (OpenSpec.ofChange execRepeatsWrong)

/-- 'drawloomlaw19.StepSofts': WHATEVER THE INPUT: true; the input reads as it did. -/
def stepSoftsSpec : ChangeSpec := { name := "stepSofts", fn := fun _ => fun
  | [d1, d2] => { results := [.lit (.bool true)], args := [d1, d2] }
  | _ => none }
def stepSoftsRow : OpenClaim := { program := "yteeakllokpdjgaagreat", sum := "754d4924b74d286d31e168363208e0a166194a5504334c66c79b1a521d824dfd", func := "drawloom/drawloomlaw19.StepSofts", spec := "stepSofts", unfollowed := true, recurses := true, plainKeys := false, apart := false }
def StepSoftsSaid : Prop := stepSoftsRow.holds Tryz.pinned (OpenSpec.ofChange stepSoftsSpec)

/-- ITS FALSE NEIGHBOUR: 'it returns false'. Refute it at one input. -/
def stepSoftsWrong : ChangeSpec := { name := "stepSofts", fn := fun _ => fun
  | [d1, d2] => { results := [.lit (.bool false)], args := [d1, d2] }
  | _ => none }
def StepSoftsWrongFalsely : Prop := stepSoftsRow.holds Tryz.pinned (OpenSpec.ofChange stepSoftsWrong)

/-- 'drawloomlaw19.StepWaits': WHATEVER THE INPUT: true; the input reads as it did. -/
def stepWaitsSpec : ChangeSpec := { name := "stepWaits", fn := fun _ => fun
  | [d1, d2] => { results := [.lit (.bool true)], args := [d1, d2] }
  | _ => none }
def stepWaitsRow : OpenClaim := { program := "yteeakllokpdjgaagreat", sum := "754d4924b74d286d31e168363208e0a166194a5504334c66c79b1a521d824dfd", func := "drawloom/drawloomlaw19.StepWaits", spec := "stepWaits", unfollowed := true, recurses := true, plainKeys := false, apart := false }
def StepWaitsSaid : Prop := stepWaitsRow.holds Tryz.pinned (OpenSpec.ofChange stepWaitsSpec)

/-- ITS FALSE NEIGHBOUR: 'it returns false'. Refute it at one input. -/
def stepWaitsWrong : ChangeSpec := { name := "stepWaits", fn := fun _ => fun
  | [d1, d2] => { results := [.lit (.bool false)], args := [d1, d2] }
  | _ => none }
def StepWaitsWrongFalsely : Prop := stepWaitsRow.holds Tryz.pinned (OpenSpec.ofChange stepWaitsWrong)

/- THE SECOND FORM. 'bulk': how many values and letters a reading holds, each counted each time it is reached (what is shared counts as often as it is met; a slice's spare places count too). A statement '..UptoSaid' is the law's where the arguments, and the package variables that the reading takes, are together of bulk at most 1048576: NARROWER than '..Said'. Prove '..Said' where nothing that the law and all that it calls make is longer than what came in: it says more and counts as full. Else prove '..UptoSaid'. A law counts once. -/
mutual
def uptoBulk {H : Type} : DataW H → Nat
  | .lit (.string bytes) => bytes.length + 1
  | .lit _ => 1
  | .nil => 1
  | .ptr d => uptoBulk d + 1
  | .slice elems spare => uptoBulkAll elems + uptoBulkAll spare + 1
  | .agg parts => uptoBulkAll parts + 1
  | .iface _ d => uptoBulk d + 1
  | .map entries => uptoBulkEntries entries + 1
  | .held _ => 1
def uptoBulkAll {H : Type} : List (DataW H) → Nat
  | [] => 0
  | d :: r => uptoBulk d + uptoBulkAll r
def uptoBulkEntries {H : Type} : List (Lit × DataW H) → Nat
  | [] => 0
  | x :: r => uptoBulkEntry x + uptoBulkEntries r
def uptoBulkEntry {H : Type} : Lit × DataW H → Nat
  | (.string bytes, d) => bytes.length + uptoBulk d + 1
  | (_, d) => uptoBulk d + 1
 end
def uptoSmall : (H : Type) → List (DataW H) → Bool := fun _ ds => decide (uptoBulkAll ds ≤ 1048576)
def OpenSpec.upto (s : _root_.Go.ChangeSpec) : _root_.Go.OpenSpec := { _root_.Go.OpenSpec.ofChange s with cond := some uptoSmall }

/-- 'drawloomlaw17.ExecMoves', WHERE WHAT IT READS IS OF BULK AT MOST 1048576: true; the input reads as it did. -/
def execMovesUptoRow : OpenClaim := { program := "yteeakllokpdjgaagreat", sum := "754d4924b74d286d31e168363208e0a166194a5504334c66c79b1a521d824dfd", func := "drawloom/drawloomlaw17.ExecMoves", spec := "execMoves", unfollowed := true, recurses := true, plainKeys := false, apart := false, narrowed := true }
def ExecMovesUptoSaid : Prop := execMovesUptoRow.holds Tryz.pinned (OpenSpec.upto execMovesSpec)

/-- 'drawloomlaw17.ExecJumps', WHERE WHAT IT READS IS OF BULK AT MOST 1048576: true; the input reads as it did. -/
def execJumpsUptoRow : OpenClaim := { program := "yteeakllokpdjgaagreat", sum := "754d4924b74d286d31e168363208e0a166194a5504334c66c79b1a521d824dfd", func := "drawloom/drawloomlaw17.ExecJumps", spec := "execJumps", unfollowed := true, recurses := true, plainKeys := false, apart := false, narrowed := true }
def ExecJumpsUptoSaid : Prop := execJumpsUptoRow.holds Tryz.pinned (OpenSpec.upto execJumpsSpec)

/-- 'drawloomlaw17.ExecRings', WHERE WHAT IT READS IS OF BULK AT MOST 1048576: true; the input reads as it did. -/
def execRingsUptoRow : OpenClaim := { program := "yteeakllokpdjgaagreat", sum := "754d4924b74d286d31e168363208e0a166194a5504334c66c79b1a521d824dfd", func := "drawloom/drawloomlaw17.ExecRings", spec := "execRings", unfollowed := true, recurses := true, plainKeys := false, apart := false, narrowed := true }
def ExecRingsUptoSaid : Prop := execRingsUptoRow.holds Tryz.pinned (OpenSpec.upto execRingsSpec)

/-- 'drawloomlaw17.ExecRepeats', WHERE WHAT IT READS IS OF BULK AT MOST 1048576: true; the input reads as it did. -/
def execRepeatsUptoRow : OpenClaim := { program := "yteeakllokpdjgaagreat", sum := "754d4924b74d286d31e168363208e0a166194a5504334c66c79b1a521d824dfd", func := "drawloom/drawloomlaw17.ExecRepeats", spec := "execRepeats", unfollowed := true, recurses := true, plainKeys := false, apart := false, narrowed := true }
def ExecRepeatsUptoSaid : Prop := execRepeatsUptoRow.holds Tryz.pinned (OpenSpec.upto execRepeatsSpec)

/-- 'drawloomlaw19.StepSofts', WHERE WHAT IT READS IS OF BULK AT MOST 1048576: true; the input reads as it did. -/
def stepSoftsUptoRow : OpenClaim := { program := "yteeakllokpdjgaagreat", sum := "754d4924b74d286d31e168363208e0a166194a5504334c66c79b1a521d824dfd", func := "drawloom/drawloomlaw19.StepSofts", spec := "stepSofts", unfollowed := true, recurses := true, plainKeys := false, apart := false, narrowed := true }
def StepSoftsUptoSaid : Prop := stepSoftsUptoRow.holds Tryz.pinned (OpenSpec.upto stepSoftsSpec)

/-- 'drawloomlaw19.StepWaits', WHERE WHAT IT READS IS OF BULK AT MOST 1048576: true; the input reads as it did. -/
def stepWaitsUptoRow : OpenClaim := { program := "yteeakllokpdjgaagreat", sum := "754d4924b74d286d31e168363208e0a166194a5504334c66c79b1a521d824dfd", func := "drawloom/drawloomlaw19.StepWaits", spec := "stepWaits", unfollowed := true, recurses := true, plainKeys := false, apart := false, narrowed := true }
def StepWaitsUptoSaid : Prop := stepWaitsUptoRow.holds Tryz.pinned (OpenSpec.upto stepWaitsSpec)

end Rows
end Go.Proofs.YteeakllokpdjgaaGreat
