/-
  No cell of these rows narrows 'for every input' (looked for: loops, veiled, ifaces, maps, wideKeys, modest, calm, conditions, laid).
  DERIVED. THE GIVEN ROWS OF THIS SEAT. 7 by the template 'for every input the law returns true; each argument reads behind the call as it read before'; 0 by the template 'total and deterministic' (their statements: YtgmkonggcplofaaTotals.lean).
  GIVEN WITH THE SEED: the statements are not yours to turn. If you find one false, say at which input.
  Laid BY PROGRAM, IN A SANDBOX (cutbox-rows.mjs): the forced cells as the released guide's own fill.sh prints them over the translation b53a1c572101b92b… (all of the seat's roots in one cut). By AI agents, Wed Nov 11 2026. No macro, syntax, notation, axiom, sorry.
-/
import Derived.Test.YtgmkonggcplofaaChecked
import GoSem.Claim
import GoSem.ClaimJoined
import GoSem.ClaimMapViews
import Derived.JoinedTies
import Derived.KernelRfl
namespace Go.Proofs.Ytgmkonggcplofaa
/- THE CELL 'sum', in the pinned program and in every row, IS THE sha256 OF THE DUMP (.gsa) THAT YtgmkonggcplofaaProg.lean LOADS. Nothing in Lean hashes anything: it is a label: what it is worth is what the hold of that sum in a sandbox is worth. -/
noncomputable def Try.pinned : Pinned := { name := "ytgmkonggcplofaa", sum := "b53a1c572101b92b69b2a7028cfa73efd449a61e4c759d7bc4095f616f42cc06", checked := Try.checked }
namespace Rows
def none {H : Type} : Left H := { results := [], args := [] }

/-- 'drawloomlaw06.DecodeNames': WHATEVER THE INPUT: true; the input reads as it did. -/
def decodeNamesSpec : ChangeSpec := { name := "decodeNames", fn := fun _ => fun
  | [] => { results := [.lit (.bool true)], args := [] }
  | _ => none }
def decodeNamesRow : OpenClaim := { program := "ytgmkonggcplofaa", sum := "b53a1c572101b92b69b2a7028cfa73efd449a61e4c759d7bc4095f616f42cc06", func := "drawloom/drawloomlaw06.DecodeNames", spec := "decodeNames", unfollowed := true, recurses := true, apart := false }
def DecodeNamesSaid : Prop := decodeNamesRow.holds Try.pinned (OpenSpec.ofChange decodeNamesSpec)

/-- ITS FALSE NEIGHBOUR: 'it returns false'. Refute it at one input. -/
def decodeNamesWrong : ChangeSpec := { name := "decodeNames", fn := fun _ => fun
  | [] => { results := [.lit (.bool false)], args := [] }
  | _ => none }
def DecodeNamesWrongFalsely : Prop := decodeNamesRow.holds Try.pinned (OpenSpec.ofChange decodeNamesWrong)

/-- 'drawloomlaw06.DecodeEnds': WHATEVER THE INPUT: true; the input reads as it did. -/
def decodeEndsSpec : ChangeSpec := { name := "decodeEnds", fn := fun _ => fun
  | [d1, d2] => { results := [.lit (.bool true)], args := [d1, d2] }
  | _ => none }
def decodeEndsRow : OpenClaim := { program := "ytgmkonggcplofaa", sum := "b53a1c572101b92b69b2a7028cfa73efd449a61e4c759d7bc4095f616f42cc06", func := "drawloom/drawloomlaw06.DecodeEnds", spec := "decodeEnds", unfollowed := true, recurses := true, apart := false }
def DecodeEndsSaid : Prop := decodeEndsRow.holds Try.pinned (OpenSpec.ofChange decodeEndsSpec)

/-- ITS FALSE NEIGHBOUR: 'it returns false'. Refute it at one input. -/
def decodeEndsWrong : ChangeSpec := { name := "decodeEnds", fn := fun _ => fun
  | [d1, d2] => { results := [.lit (.bool false)], args := [d1, d2] }
  | _ => none }
def DecodeEndsWrongFalsely : Prop := decodeEndsRow.holds Try.pinned (OpenSpec.ofChange decodeEndsWrong)

/-- 'drawloomlaw06.DecodePrefixes': WHATEVER THE INPUT: true; the input reads as it did. -/
def decodePrefixesSpec : ChangeSpec := { name := "decodePrefixes", fn := fun _ => fun
  | [d1, d2, d3] => { results := [.lit (.bool true)], args := [d1, d2, d3] }
  | _ => none }
def decodePrefixesRow : OpenClaim := { program := "ytgmkonggcplofaa", sum := "b53a1c572101b92b69b2a7028cfa73efd449a61e4c759d7bc4095f616f42cc06", func := "drawloom/drawloomlaw06.DecodePrefixes", spec := "decodePrefixes", unfollowed := true, recurses := true, apart := false }
def DecodePrefixesSaid : Prop := decodePrefixesRow.holds Try.pinned (OpenSpec.ofChange decodePrefixesSpec)

/-- ITS FALSE NEIGHBOUR: 'it returns false'. Refute it at one input. -/
def decodePrefixesWrong : ChangeSpec := { name := "decodePrefixes", fn := fun _ => fun
  | [d1, d2, d3] => { results := [.lit (.bool false)], args := [d1, d2, d3] }
  | _ => none }
def DecodePrefixesWrongFalsely : Prop := decodePrefixesRow.holds Try.pinned (OpenSpec.ofChange decodePrefixesWrong)

/-- 'drawloomlaw06.DecodeFits': WHATEVER THE INPUT: true; the input reads as it did. -/
def decodeFitsSpec : ChangeSpec := { name := "decodeFits", fn := fun _ => fun
  | [d] => { results := [.lit (.bool true)], args := [d] }
  | _ => none }
def decodeFitsRow : OpenClaim := { program := "ytgmkonggcplofaa", sum := "b53a1c572101b92b69b2a7028cfa73efd449a61e4c759d7bc4095f616f42cc06", func := "drawloom/drawloomlaw06.DecodeFits", spec := "decodeFits", unfollowed := true, recurses := true, apart := false }
def DecodeFitsSaid : Prop := decodeFitsRow.holds Try.pinned (OpenSpec.ofChange decodeFitsSpec)

/-- ITS FALSE NEIGHBOUR: 'it returns false'. Refute it at one input. -/
def decodeFitsWrong : ChangeSpec := { name := "decodeFits", fn := fun _ => fun
  | [d] => { results := [.lit (.bool false)], args := [d] }
  | _ => none }
def DecodeFitsWrongFalsely : Prop := decodeFitsRow.holds Try.pinned (OpenSpec.ofChange decodeFitsWrong)

/-- 'drawloomlaw06.DecodeWidths': WHATEVER THE INPUT: true; the input reads as it did. -/
def decodeWidthsSpec : ChangeSpec := { name := "decodeWidths", fn := fun _ => fun
  | [d] => { results := [.lit (.bool true)], args := [d] }
  | _ => none }
def decodeWidthsRow : OpenClaim := { program := "ytgmkonggcplofaa", sum := "b53a1c572101b92b69b2a7028cfa73efd449a61e4c759d7bc4095f616f42cc06", func := "drawloom/drawloomlaw06.DecodeWidths", spec := "decodeWidths", unfollowed := true, recurses := true, apart := false }
def DecodeWidthsSaid : Prop := decodeWidthsRow.holds Try.pinned (OpenSpec.ofChange decodeWidthsSpec)

/-- ITS FALSE NEIGHBOUR: 'it returns false'. Refute it at one input. -/
def decodeWidthsWrong : ChangeSpec := { name := "decodeWidths", fn := fun _ => fun
  | [d] => { results := [.lit (.bool false)], args := [d] }
  | _ => none }
def DecodeWidthsWrongFalsely : Prop := decodeWidthsRow.holds Try.pinned (OpenSpec.ofChange decodeWidthsWrong)

/-- 'drawloomlaw07.EncodeNames': WHATEVER THE INPUT: true; the input reads as it did. -/
def encodeNamesSpec : ChangeSpec := { name := "encodeNames", fn := fun _ => fun
  | [] => { results := [.lit (.bool true)], args := [] }
  | _ => none }
def encodeNamesRow : OpenClaim := { program := "ytgmkonggcplofaa", sum := "b53a1c572101b92b69b2a7028cfa73efd449a61e4c759d7bc4095f616f42cc06", func := "drawloom/drawloomlaw07.EncodeNames", spec := "encodeNames", unfollowed := true, recurses := true, apart := false }
def EncodeNamesSaid : Prop := encodeNamesRow.holds Try.pinned (OpenSpec.ofChange encodeNamesSpec)

/-- ITS FALSE NEIGHBOUR: 'it returns false'. Refute it at one input. -/
def encodeNamesWrong : ChangeSpec := { name := "encodeNames", fn := fun _ => fun
  | [] => { results := [.lit (.bool false)], args := [] }
  | _ => none }
def EncodeNamesWrongFalsely : Prop := encodeNamesRow.holds Try.pinned (OpenSpec.ofChange encodeNamesWrong)

/-- 'drawloomlaw07.EncodeSums': WHATEVER THE INPUT: true; the input reads as it did. -/
def encodeSumsSpec : ChangeSpec := { name := "encodeSums", fn := fun _ => fun
  | [d1, d2, d3, d4] => { results := [.lit (.bool true)], args := [d1, d2, d3, d4] }
  | _ => none }
def encodeSumsRow : OpenClaim := { program := "ytgmkonggcplofaa", sum := "b53a1c572101b92b69b2a7028cfa73efd449a61e4c759d7bc4095f616f42cc06", func := "drawloom/drawloomlaw07.EncodeSums", spec := "encodeSums", unfollowed := true, recurses := true, apart := false }
def EncodeSumsSaid : Prop := encodeSumsRow.holds Try.pinned (OpenSpec.ofChange encodeSumsSpec)

/-- ITS FALSE NEIGHBOUR: 'it returns false'. Refute it at one input. -/
def encodeSumsWrong : ChangeSpec := { name := "encodeSums", fn := fun _ => fun
  | [d1, d2, d3, d4] => { results := [.lit (.bool false)], args := [d1, d2, d3, d4] }
  | _ => none }
def EncodeSumsWrongFalsely : Prop := encodeSumsRow.holds Try.pinned (OpenSpec.ofChange encodeSumsWrong)

/- THE SECOND FORM. 'bulk': how many values and letters a reading holds, each counted each time it is reached (what is shared counts as often as it is met; a slice's spare places count too). A statement '..UptoSaid' is the law's where the arguments, and the package variables that the reading takes, are together of bulk at most 1048576: NARROWER than '..Said'. Prove '..Said' where nothing that the law and all that it calls make is longer than what came in: it says more and counts as full. Else prove '..UptoSaid'. A law counts once. -/
mutual
def uptoBulk {H : Type} : DataW H → Nat
  | .lit (.string bytes) => bytes.length + 1
  | .lit _ => 1
  | .nil => 1
  | .ptr d => uptoBulk d + 1
  | .slice elems spare => uptoBulkAll elems + uptoBulkAll spare + 1
  | .agg parts => uptoBulkAll parts + 1
  | .iface _ d => uptoBulk d + 1
  | .map entries => uptoBulkEntries entries + 1
  | .held _ => 1
def uptoBulkAll {H : Type} : List (DataW H) → Nat
  | [] => 0
  | d :: r => uptoBulk d + uptoBulkAll r
def uptoBulkEntries {H : Type} : List (Lit × DataW H) → Nat
  | [] => 0
  | x :: r => uptoBulkEntry x + uptoBulkEntries r
def uptoBulkEntry {H : Type} : Lit × DataW H → Nat
  | (.string bytes, d) => bytes.length + uptoBulk d + 1
  | (_, d) => uptoBulk d + 1
 end
def uptoSmall : (H : Type) → List (DataW H) → Bool := fun _ ds => decide (uptoBulkAll ds ≤ 1048576)
def OpenSpec.upto (s : _root_.Go.ChangeSpec) : _root_.Go.OpenSpec := { _root_.Go.OpenSpec.ofChange s with cond := some uptoSmall }

/-- 'drawloomlaw06.DecodeNames', WHERE WHAT IT READS IS OF BULK AT MOST 1048576: true; the input reads as it did. -/
def decodeNamesUptoRow : OpenClaim := { program := "ytgmkonggcplofaa", sum := "b53a1c572101b92b69b2a7028cfa73efd449a61e4c759d7bc4095f616f42cc06", func := "drawloom/drawloomlaw06.DecodeNames", spec := "decodeNames", unfollowed := true, recurses := true, apart := false, narrowed := true }
def DecodeNamesUptoSaid : Prop := decodeNamesUptoRow.holds Try.pinned (OpenSpec.upto decodeNamesSpec)

/-- 'drawloomlaw06.DecodeEnds', WHERE WHAT IT READS IS OF BULK AT MOST 1048576: true; the input reads as it did. -/
def decodeEndsUptoRow : OpenClaim := { program := "ytgmkonggcplofaa", sum := "b53a1c572101b92b69b2a7028cfa73efd449a61e4c759d7bc4095f616f42cc06", func := "drawloom/drawloomlaw06.DecodeEnds", spec := "decodeEnds", unfollowed := true, recurses := true, apart := false, narrowed := true }
def DecodeEndsUptoSaid : Prop := decodeEndsUptoRow.holds Try.pinned (OpenSpec.upto decodeEndsSpec)

/-- 'drawloomlaw06.DecodePrefixes', WHERE WHAT IT READS IS OF BULK AT MOST 1048576: true; the input reads as it did. -/
def decodePrefixesUptoRow : OpenClaim := { program := "ytgmkonggcplofaa", sum := "b53a1c572101b92b69b2a7028cfa73efd449a61e4c759d7bc4095f616f42cc06", func := "drawloom/drawloomlaw06.DecodePrefixes", spec := "decodePrefixes", unfollowed := true, recurses := true, apart := false, narrowed := true }
def DecodePrefixesUptoSaid : Prop := decodePrefixesUptoRow.holds Try.pinned (OpenSpec.upto decodePrefixesSpec)

/-- 'drawloomlaw06.DecodeFits', WHERE WHAT IT READS IS OF BULK AT MOST 1048576: true; the input reads as it did. -/
def decodeFitsUptoRow : OpenClaim := { program := "ytgmkonggcplofaa", sum := "b53a1c572101b92b69b2a7028cfa73efd449a61e4c759d7bc4095f616f42cc06", func := "drawloom/drawloomlaw06.DecodeFits", spec := "decodeFits", unfollowed := true, recurses := true, apart := false, narrowed := true }
def DecodeFitsUptoSaid : Prop := decodeFitsUptoRow.holds Try.pinned (OpenSpec.upto decodeFitsSpec)

/-- 'drawloomlaw06.DecodeWidths', WHERE WHAT IT READS IS OF BULK AT MOST 1048576: true; the input reads as it did. -/
def decodeWidthsUptoRow : OpenClaim := { program := "ytgmkonggcplofaa", sum := "b53a1c572101b92b69b2a7028cfa73efd449a61e4c759d7bc4095f616f42cc06", func := "drawloom/drawloomlaw06.DecodeWidths", spec := "decodeWidths", unfollowed := true, recurses := true, apart := false, narrowed := true }
def DecodeWidthsUptoSaid : Prop := decodeWidthsUptoRow.holds Try.pinned (OpenSpec.upto decodeWidthsSpec)

/-- 'drawloomlaw07.EncodeNames', WHERE WHAT IT READS IS OF BULK AT MOST 1048576: true; the input reads as it did. -/
def encodeNamesUptoRow : OpenClaim := { program := "ytgmkonggcplofaa", sum := "b53a1c572101b92b69b2a7028cfa73efd449a61e4c759d7bc4095f616f42cc06", func := "drawloom/drawloomlaw07.EncodeNames", spec := "encodeNames", unfollowed := true, recurses := true, apart := false, narrowed := true }
def EncodeNamesUptoSaid : Prop := encodeNamesUptoRow.holds Try.pinned (OpenSpec.upto encodeNamesSpec)

/-- 'drawloomlaw07.EncodeSums', WHERE WHAT IT READS IS OF BULK AT MOST 1048576: true; the input reads as it did. -/
def encodeSumsUptoRow : OpenClaim := { program := "ytgmkonggcplofaa", sum := "b53a1c572101b92b69b2a7028cfa73efd449a61e4c759d7bc4095f616f42cc06", func := "drawloom/drawloomlaw07.EncodeSums", spec := "encodeSums", unfollowed := true, recurses := true, apart := false, narrowed := true }
def EncodeSumsUptoSaid : Prop := encodeSumsUptoRow.holds Try.pinned (OpenSpec.upto encodeSumsSpec)

end Rows
end Go.Proofs.Ytgmkonggcplofaa
