/-
  No cell of these rows narrows 'for every input' (looked for: loops, veiled, ifaces, maps, wideKeys, modest, calm, conditions, laid).
  DERIVED. THE GIVEN ROWS OF THIS SEAT. 5 by the template 'for every input the law returns true; each argument reads behind the call as it read before'; 0 by the template 'total and deterministic' (their statements: YthclecbbebelhaaGreatTotals.lean).
  GIVEN WITH THE SEED: the statements are not yours to turn. If you find one false, say at which input.
  Laid BY PROGRAM, IN A SANDBOX (cutbox-rows.mjs): the forced cells as the released guide's own fill.sh prints them over the translation 129c02be1f7d5a84… (all of the seat's roots in one cut). By AI agents, Wed Nov 11 2026. No macro, syntax, notation, axiom, sorry.
-/
import Derived.Test.YthclecbbebelhaaGreatChecked
import GoSem.Claim
import GoSem.ClaimJoined
import GoSem.ClaimMapViews
import Derived.JoinedTies
import Derived.KernelRfl
namespace Go.Proofs.YthclecbbebelhaaGreat
/- THE CELL 'sum', in the pinned program and in every row, IS THE sha256 OF THE DUMP (.gsa) THAT YthclecbbebelhaaGreatProg.lean LOADS. Nothing in Lean hashes anything: it is a label: what it is worth is what the hold of that sum in a sandbox is worth. -/
noncomputable def Tryz.pinned : Pinned := { name := "ythclecbbebelhaagreat", sum := "129c02be1f7d5a84a5cec26286e20b43adb8e196265e5d072df771cb08a8ad0c", checked := Tryz.checked }
namespace Rows
def none {H : Type} : Left H := { results := [], args := [] }

/-- 'drawloomlaw17.ExecNames': WHATEVER THE INPUT: true; the input reads as it did. -/
def execNamesSpec : ChangeSpec := { name := "execNames", fn := fun _ => fun
  | [] => { results := [.lit (.bool true)], args := [] }
  | _ => none }
def execNamesRow : OpenClaim := { program := "ythclecbbebelhaagreat", sum := "129c02be1f7d5a84a5cec26286e20b43adb8e196265e5d072df771cb08a8ad0c", func := "drawloom/drawloomlaw17.ExecNames", spec := "execNames", unfollowed := true, recurses := true, plainKeys := false, apart := false }
def ExecNamesSaid : Prop := execNamesRow.holds Tryz.pinned (OpenSpec.ofChange execNamesSpec)

/-- ITS FALSE NEIGHBOUR: 'it returns false'. Refute it at one input. -/
def execNamesWrong : ChangeSpec := { name := "execNames", fn := fun _ => fun
  | [] => { results := [.lit (.bool false)], args := [] }
  | _ => none }
def ExecNamesWrongFalsely : Prop := execNamesRow.holds Tryz.pinned (OpenSpec.ofChange execNamesWrong)

/-- 'drawloomlaw17.ExecNil': WHATEVER THE INPUT: true; the input reads as it did. -/
def execNilSpec : ChangeSpec := { name := "execNil", fn := fun _ => fun
  | [d1, d2] => { results := [.lit (.bool true)], args := [d1, d2] }
  | _ => none }
def execNilRow : OpenClaim := { program := "ythclecbbebelhaagreat", sum := "129c02be1f7d5a84a5cec26286e20b43adb8e196265e5d072df771cb08a8ad0c", func := "drawloom/drawloomlaw17.ExecNil", spec := "execNil", unfollowed := true, recurses := true, plainKeys := false, apart := false }
def ExecNilSaid : Prop := execNilRow.holds Tryz.pinned (OpenSpec.ofChange execNilSpec)

/-- ITS FALSE NEIGHBOUR: 'it returns false'. Refute it at one input. -/
def execNilWrong : ChangeSpec := { name := "execNil", fn := fun _ => fun
  | [d1, d2] => { results := [.lit (.bool false)], args := [d1, d2] }
  | _ => none }
def ExecNilWrongFalsely : Prop := execNilRow.holds Tryz.pinned (OpenSpec.ofChange execNilWrong)

/-- 'drawloomlaw19.StepNames': WHATEVER THE INPUT: true; the input reads as it did. -/
def stepNamesSpec : ChangeSpec := { name := "stepNames", fn := fun _ => fun
  | [] => { results := [.lit (.bool true)], args := [] }
  | _ => none }
def stepNamesRow : OpenClaim := { program := "ythclecbbebelhaagreat", sum := "129c02be1f7d5a84a5cec26286e20b43adb8e196265e5d072df771cb08a8ad0c", func := "drawloom/drawloomlaw19.StepNames", spec := "stepNames", unfollowed := true, recurses := true, plainKeys := false, apart := false }
def StepNamesSaid : Prop := stepNamesRow.holds Tryz.pinned (OpenSpec.ofChange stepNamesSpec)

/-- ITS FALSE NEIGHBOUR: 'it returns false'. Refute it at one input. -/
def stepNamesWrong : ChangeSpec := { name := "stepNames", fn := fun _ => fun
  | [] => { results := [.lit (.bool false)], args := [] }
  | _ => none }
def StepNamesWrongFalsely : Prop := stepNamesRow.holds Tryz.pinned (OpenSpec.ofChange stepNamesWrong)

/-- 'drawloomlaw19.StepNil': WHATEVER THE INPUT: true; the input reads as it did. -/
def stepNilSpec : ChangeSpec := { name := "stepNil", fn := fun _ => fun
  | [d] => { results := [.lit (.bool true)], args := [d] }
  | _ => none }
def stepNilRow : OpenClaim := { program := "ythclecbbebelhaagreat", sum := "129c02be1f7d5a84a5cec26286e20b43adb8e196265e5d072df771cb08a8ad0c", func := "drawloom/drawloomlaw19.StepNil", spec := "stepNil", unfollowed := true, recurses := true, plainKeys := false, apart := false }
def StepNilSaid : Prop := stepNilRow.holds Tryz.pinned (OpenSpec.ofChange stepNilSpec)

/-- ITS FALSE NEIGHBOUR: 'it returns false'. Refute it at one input. -/
def stepNilWrong : ChangeSpec := { name := "stepNil", fn := fun _ => fun
  | [d] => { results := [.lit (.bool false)], args := [d] }
  | _ => none }
def StepNilWrongFalsely : Prop := stepNilRow.holds Tryz.pinned (OpenSpec.ofChange stepNilWrong)

/-- 'drawloomlaw19.StepShadows': WHATEVER THE INPUT: true; the input reads as it did. -/
def stepShadowsSpec : ChangeSpec := { name := "stepShadows", fn := fun _ => fun
  | [d] => { results := [.lit (.bool true)], args := [d] }
  | _ => none }
def stepShadowsRow : OpenClaim := { program := "ythclecbbebelhaagreat", sum := "129c02be1f7d5a84a5cec26286e20b43adb8e196265e5d072df771cb08a8ad0c", func := "drawloom/drawloomlaw19.StepShadows", spec := "stepShadows", unfollowed := true, recurses := true, plainKeys := false, apart := false }
def StepShadowsSaid : Prop := stepShadowsRow.holds Tryz.pinned (OpenSpec.ofChange stepShadowsSpec)

/-- ITS FALSE NEIGHBOUR: 'it returns false'. Refute it at one input. -/
def stepShadowsWrong : ChangeSpec := { name := "stepShadows", fn := fun _ => fun
  | [d] => { results := [.lit (.bool false)], args := [d] }
  | _ => none }
def StepShadowsWrongFalsely : Prop := stepShadowsRow.holds Tryz.pinned (OpenSpec.ofChange stepShadowsWrong)

/- THE SECOND FORM. 'bulk': how many values and letters a reading holds, each counted each time it is reached (what is shared counts as often as it is met; a slice's spare places count too). A statement '..UptoSaid' is the law's where the arguments, and the package variables that the reading takes, are together of bulk at most 1048576: NARROWER than '..Said'. Prove '..Said' where nothing that the law and all that it calls make is longer than what came in: it says more and counts as full. Else prove '..UptoSaid'. A law counts once. -/
mutual
def uptoBulk {H : Type} : DataW H → Nat
  | .lit (.string bytes) => bytes.length + 1
  | .lit _ => 1
  | .nil => 1
  | .ptr d => uptoBulk d + 1
  | .slice elems spare => uptoBulkAll elems + uptoBulkAll spare + 1
  | .agg parts => uptoBulkAll parts + 1
  | .iface _ d => uptoBulk d + 1
  | .map entries => uptoBulkEntries entries + 1
  | .held _ => 1
def uptoBulkAll {H : Type} : List (DataW H) → Nat
  | [] => 0
  | d :: r => uptoBulk d + uptoBulkAll r
def uptoBulkEntries {H : Type} : List (Lit × DataW H) → Nat
  | [] => 0
  | x :: r => uptoBulkEntry x + uptoBulkEntries r
def uptoBulkEntry {H : Type} : Lit × DataW H → Nat
  | (.string bytes, d) => bytes.length + uptoBulk d + 1
  | (_, d) => uptoBulk d + 1
 end
def uptoSmall : (H : Type) → List (DataW H) → Bool := fun _ ds => decide (uptoBulkAll ds ≤ 1048576)
def OpenSpec.upto (s : _root_.Go.ChangeSpec) : _root_.Go.OpenSpec := { _root_.Go.OpenSpec.ofChange s with cond := some uptoSmall }

/-- 'drawloomlaw17.ExecNames', WHERE WHAT IT READS IS OF BULK AT MOST 1048576: true; the input reads as it did. -/
def execNamesUptoRow : OpenClaim := { program := "ythclecbbebelhaagreat", sum := "129c02be1f7d5a84a5cec26286e20b43adb8e196265e5d072df771cb08a8ad0c", func := "drawloom/drawloomlaw17.ExecNames", spec := "execNames", unfollowed := true, recurses := true, plainKeys := false, apart := false, narrowed := true }
def ExecNamesUptoSaid : Prop := execNamesUptoRow.holds Tryz.pinned (OpenSpec.upto execNamesSpec)

/-- 'drawloomlaw17.ExecNil', WHERE WHAT IT READS IS OF BULK AT MOST 1048576: true; the input reads as it did. -/
def execNilUptoRow : OpenClaim := { program := "ythclecbbebelhaagreat", sum := "129c02be1f7d5a84a5cec26286e20b43adb8e196265e5d072df771cb08a8ad0c", func := "drawloom/drawloomlaw17.ExecNil", spec := "execNil", unfollowed := true, recurses := true, plainKeys := false, apart := false, narrowed := true }
def ExecNilUptoSaid : Prop := execNilUptoRow.holds Tryz.pinned (OpenSpec.upto execNilSpec)

/-- 'drawloomlaw19.StepNames', WHERE WHAT IT READS IS OF BULK AT MOST 1048576: true; the input reads as it did. -/
def stepNamesUptoRow : OpenClaim := { program := "ythclecbbebelhaagreat", sum := "129c02be1f7d5a84a5cec26286e20b43adb8e196265e5d072df771cb08a8ad0c", func := "drawloom/drawloomlaw19.StepNames", spec := "stepNames", unfollowed := true, recurses := true, plainKeys := false, apart := false, narrowed := true }
def StepNamesUptoSaid : Prop := stepNamesUptoRow.holds Tryz.pinned (OpenSpec.upto stepNamesSpec)

/-- 'drawloomlaw19.StepNil', WHERE WHAT IT READS IS OF BULK AT MOST 1048576: true; the input reads as it did. -/
def stepNilUptoRow : OpenClaim := { program := "ythclecbbebelhaagreat", sum := "129c02be1f7d5a84a5cec26286e20b43adb8e196265e5d072df771cb08a8ad0c", func := "drawloom/drawloomlaw19.StepNil", spec := "stepNil", unfollowed := true, recurses := true, plainKeys := false, apart := false, narrowed := true }
def StepNilUptoSaid : Prop := stepNilUptoRow.holds Tryz.pinned (OpenSpec.upto stepNilSpec)

/-- 'drawloomlaw19.StepShadows', WHERE WHAT IT READS IS OF BULK AT MOST 1048576: true; the input reads as it did. -/
def stepShadowsUptoRow : OpenClaim := { program := "ythclecbbebelhaagreat", sum := "129c02be1f7d5a84a5cec26286e20b43adb8e196265e5d072df771cb08a8ad0c", func := "drawloom/drawloomlaw19.StepShadows", spec := "stepShadows", unfollowed := true, recurses := true, plainKeys := false, apart := false, narrowed := true }
def StepShadowsUptoSaid : Prop := stepShadowsUptoRow.holds Tryz.pinned (OpenSpec.upto stepShadowsSpec)

end Rows
end Go.Proofs.YthclecbbebelhaaGreat
