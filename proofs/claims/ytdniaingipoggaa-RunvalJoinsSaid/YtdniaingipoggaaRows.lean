/-
  No cell of these rows narrows 'for every input' (looked for: loops, veiled, ifaces, maps, wideKeys, modest, calm, conditions, laid).
  DERIVED. THE GIVEN ROWS OF THIS SEAT. 18 by the template 'for every input the law returns true; each argument reads behind the call as it read before'; 0 by the template 'total and deterministic' (their statements: YtdniaingipoggaaTotals.lean).
  GIVEN WITH THE SEED: the statements are not yours to turn. If you find one false, say at which input.
  Laid BY PROGRAM, IN A SANDBOX (cutbox-rows.mjs): the forced cells as the released guide's own fill.sh prints them over the translation 55b08c29c4c65e1b… (all of the seat's roots in one cut). By AI agents, Wed Nov 11 2026. No macro, syntax, notation, axiom, sorry.
-/
import Derived.Test.YtdniaingipoggaaChecked
import GoSem.Claim
import GoSem.ClaimJoined
import GoSem.ClaimMapViews
import Derived.JoinedTies
import Derived.KernelRfl
namespace Go.Proofs.Ytdniaingipoggaa
/- THE CELL 'sum', in the pinned program and in every row, IS THE sha256 OF THE DUMP (.gsa) THAT YtdniaingipoggaaProg.lean LOADS. Nothing in Lean hashes anything: it is a label: what it is worth is what the hold of that sum in a sandbox is worth. -/
noncomputable def Try.pinned : Pinned := { name := "ytdniaingipoggaa", sum := "55b08c29c4c65e1bd8d0520d6817460d0d90809207510a9e750df9f12524b974", checked := Try.checked }
namespace Rows
def none {H : Type} : Left H := { results := [], args := [] }

/-- 'tsblocklaw01.BitioWrites': WHATEVER THE INPUT: true; the input reads as it did. -/
def bitioWritesSpec : ChangeSpec := { name := "bitioWrites", fn := fun _ => fun
  | [d] => { results := [.lit (.bool true)], args := [d] }
  | _ => none }
def bitioWritesRow : OpenClaim := { program := "ytdniaingipoggaa", sum := "55b08c29c4c65e1bd8d0520d6817460d0d90809207510a9e750df9f12524b974", func := "tsblock/tsblocklaw01.BitioWrites", spec := "bitioWrites", apart := false }
def BitioWritesSaid : Prop := bitioWritesRow.holds Try.pinned (OpenSpec.ofChange bitioWritesSpec)

/-- ITS FALSE NEIGHBOUR: 'it returns false'. Refute it at one input. -/
def bitioWritesWrong : ChangeSpec := { name := "bitioWrites", fn := fun _ => fun
  | [d] => { results := [.lit (.bool false)], args := [d] }
  | _ => none }
def BitioWritesWrongFalsely : Prop := bitioWritesRow.holds Try.pinned (OpenSpec.ofChange bitioWritesWrong)

/-- 'tsblocklaw01.BitioSplits': WHATEVER THE INPUT: true; the input reads as it did. -/
def bitioSplitsSpec : ChangeSpec := { name := "bitioSplits", fn := fun _ => fun
  | [d1, d2, d3] => { results := [.lit (.bool true)], args := [d1, d2, d3] }
  | _ => none }
def bitioSplitsRow : OpenClaim := { program := "ytdniaingipoggaa", sum := "55b08c29c4c65e1bd8d0520d6817460d0d90809207510a9e750df9f12524b974", func := "tsblock/tsblocklaw01.BitioSplits", spec := "bitioSplits", apart := false }
def BitioSplitsSaid : Prop := bitioSplitsRow.holds Try.pinned (OpenSpec.ofChange bitioSplitsSpec)

/-- ITS FALSE NEIGHBOUR: 'it returns false'. Refute it at one input. -/
def bitioSplitsWrong : ChangeSpec := { name := "bitioSplits", fn := fun _ => fun
  | [d1, d2, d3] => { results := [.lit (.bool false)], args := [d1, d2, d3] }
  | _ => none }
def BitioSplitsWrongFalsely : Prop := bitioSplitsRow.holds Try.pinned (OpenSpec.ofChange bitioSplitsWrong)

/-- 'tsblocklaw01.BitioIsolated': WHATEVER THE INPUT: true; the input reads as it did. -/
def bitioIsolatedSpec : ChangeSpec := { name := "bitioIsolated", fn := fun _ => fun
  | [d1, d2] => { results := [.lit (.bool true)], args := [d1, d2] }
  | _ => none }
def bitioIsolatedRow : OpenClaim := { program := "ytdniaingipoggaa", sum := "55b08c29c4c65e1bd8d0520d6817460d0d90809207510a9e750df9f12524b974", func := "tsblock/tsblocklaw01.BitioIsolated", spec := "bitioIsolated", apart := false }
def BitioIsolatedSaid : Prop := bitioIsolatedRow.holds Try.pinned (OpenSpec.ofChange bitioIsolatedSpec)

/-- ITS FALSE NEIGHBOUR: 'it returns false'. Refute it at one input. -/
def bitioIsolatedWrong : ChangeSpec := { name := "bitioIsolated", fn := fun _ => fun
  | [d1, d2] => { results := [.lit (.bool false)], args := [d1, d2] }
  | _ => none }
def BitioIsolatedWrongFalsely : Prop := bitioIsolatedRow.holds Try.pinned (OpenSpec.ofChange bitioIsolatedWrong)

/-- 'tsblocklaw01.BitioReads': WHATEVER THE INPUT: true; the input reads as it did. -/
def bitioReadsSpec : ChangeSpec := { name := "bitioReads", fn := fun _ => fun
  | [d1, d2] => { results := [.lit (.bool true)], args := [d1, d2] }
  | _ => none }
def bitioReadsRow : OpenClaim := { program := "ytdniaingipoggaa", sum := "55b08c29c4c65e1bd8d0520d6817460d0d90809207510a9e750df9f12524b974", func := "tsblock/tsblocklaw01.BitioReads", spec := "bitioReads", apart := false }
def BitioReadsSaid : Prop := bitioReadsRow.holds Try.pinned (OpenSpec.ofChange bitioReadsSpec)

/-- ITS FALSE NEIGHBOUR: 'it returns false'. Refute it at one input. -/
def bitioReadsWrong : ChangeSpec := { name := "bitioReads", fn := fun _ => fun
  | [d1, d2] => { results := [.lit (.bool false)], args := [d1, d2] }
  | _ => none }
def BitioReadsWrongFalsely : Prop := bitioReadsRow.holds Try.pinned (OpenSpec.ofChange bitioReadsWrong)

/-- 'tsblocklaw01.BitioRoundTrip': WHATEVER THE INPUT: true; the input reads as it did. -/
def bitioRoundTripSpec : ChangeSpec := { name := "bitioRoundTrip", fn := fun _ => fun
  | [d] => { results := [.lit (.bool true)], args := [d] }
  | _ => none }
def bitioRoundTripRow : OpenClaim := { program := "ytdniaingipoggaa", sum := "55b08c29c4c65e1bd8d0520d6817460d0d90809207510a9e750df9f12524b974", func := "tsblock/tsblocklaw01.BitioRoundTrip", spec := "bitioRoundTrip", apart := false }
def BitioRoundTripSaid : Prop := bitioRoundTripRow.holds Try.pinned (OpenSpec.ofChange bitioRoundTripSpec)

/-- ITS FALSE NEIGHBOUR: 'it returns false'. Refute it at one input. -/
def bitioRoundTripWrong : ChangeSpec := { name := "bitioRoundTrip", fn := fun _ => fun
  | [d] => { results := [.lit (.bool false)], args := [d] }
  | _ => none }
def BitioRoundTripWrongFalsely : Prop := bitioRoundTripRow.holds Try.pinned (OpenSpec.ofChange bitioRoundTripWrong)

/-- 'tsblocklaw01.BitioNil': WHATEVER THE INPUT: true; the input reads as it did. -/
def bitioNilSpec : ChangeSpec := { name := "bitioNil", fn := fun _ => fun
  | [d1, d2] => { results := [.lit (.bool true)], args := [d1, d2] }
  | _ => none }
def bitioNilRow : OpenClaim := { program := "ytdniaingipoggaa", sum := "55b08c29c4c65e1bd8d0520d6817460d0d90809207510a9e750df9f12524b974", func := "tsblock/tsblocklaw01.BitioNil", spec := "bitioNil", apart := false }
def BitioNilSaid : Prop := bitioNilRow.holds Try.pinned (OpenSpec.ofChange bitioNilSpec)

/-- ITS FALSE NEIGHBOUR: 'it returns false'. Refute it at one input. -/
def bitioNilWrong : ChangeSpec := { name := "bitioNil", fn := fun _ => fun
  | [d1, d2] => { results := [.lit (.bool false)], args := [d1, d2] }
  | _ => none }
def BitioNilWrongFalsely : Prop := bitioNilRow.holds Try.pinned (OpenSpec.ofChange bitioNilWrong)

/-- 'tsblocklaw02.VarintIsCanonical': WHATEVER THE INPUT: true; the input reads as it did. -/
def varintIsCanonicalSpec : ChangeSpec := { name := "varintIsCanonical", fn := fun _ => fun
  | [d1, d2] => { results := [.lit (.bool true)], args := [d1, d2] }
  | _ => none }
def varintIsCanonicalRow : OpenClaim := { program := "ytdniaingipoggaa", sum := "55b08c29c4c65e1bd8d0520d6817460d0d90809207510a9e750df9f12524b974", func := "tsblock/tsblocklaw02.VarintIsCanonical", spec := "varintIsCanonical", unfollowed := true, recurses := true, apart := false }
def VarintIsCanonicalSaid : Prop := varintIsCanonicalRow.holds Try.pinned (OpenSpec.ofChange varintIsCanonicalSpec)

/-- ITS FALSE NEIGHBOUR: 'it returns false'. Refute it at one input. -/
def varintIsCanonicalWrong : ChangeSpec := { name := "varintIsCanonical", fn := fun _ => fun
  | [d1, d2] => { results := [.lit (.bool false)], args := [d1, d2] }
  | _ => none }
def VarintIsCanonicalWrongFalsely : Prop := varintIsCanonicalRow.holds Try.pinned (OpenSpec.ofChange varintIsCanonicalWrong)

/-- 'tsblocklaw02.VarintPrefixes': WHATEVER THE INPUT: true; the input reads as it did. -/
def varintPrefixesSpec : ChangeSpec := { name := "varintPrefixes", fn := fun _ => fun
  | [d] => { results := [.lit (.bool true)], args := [d] }
  | _ => none }
def varintPrefixesRow : OpenClaim := { program := "ytdniaingipoggaa", sum := "55b08c29c4c65e1bd8d0520d6817460d0d90809207510a9e750df9f12524b974", func := "tsblock/tsblocklaw02.VarintPrefixes", spec := "varintPrefixes", unfollowed := true, recurses := true, apart := false }
def VarintPrefixesSaid : Prop := varintPrefixesRow.holds Try.pinned (OpenSpec.ofChange varintPrefixesSpec)

/-- ITS FALSE NEIGHBOUR: 'it returns false'. Refute it at one input. -/
def varintPrefixesWrong : ChangeSpec := { name := "varintPrefixes", fn := fun _ => fun
  | [d] => { results := [.lit (.bool false)], args := [d] }
  | _ => none }
def VarintPrefixesWrongFalsely : Prop := varintPrefixesRow.holds Try.pinned (OpenSpec.ofChange varintPrefixesWrong)

/-- 'tsblocklaw02.VarintDecodes': WHATEVER THE INPUT: true; the input reads as it did. -/
def varintDecodesSpec : ChangeSpec := { name := "varintDecodes", fn := fun _ => fun
  | [d1, d2] => { results := [.lit (.bool true)], args := [d1, d2] }
  | _ => none }
def varintDecodesRow : OpenClaim := { program := "ytdniaingipoggaa", sum := "55b08c29c4c65e1bd8d0520d6817460d0d90809207510a9e750df9f12524b974", func := "tsblock/tsblocklaw02.VarintDecodes", spec := "varintDecodes", unfollowed := true, recurses := true, apart := false }
def VarintDecodesSaid : Prop := varintDecodesRow.holds Try.pinned (OpenSpec.ofChange varintDecodesSpec)

/-- ITS FALSE NEIGHBOUR: 'it returns false'. Refute it at one input. -/
def varintDecodesWrong : ChangeSpec := { name := "varintDecodes", fn := fun _ => fun
  | [d1, d2] => { results := [.lit (.bool false)], args := [d1, d2] }
  | _ => none }
def VarintDecodesWrongFalsely : Prop := varintDecodesRow.holds Try.pinned (OpenSpec.ofChange varintDecodesWrong)

/-- 'tsblocklaw02.VarintEncodes': WHATEVER THE INPUT: true; the input reads as it did. -/
def varintEncodesSpec : ChangeSpec := { name := "varintEncodes", fn := fun _ => fun
  | [d1, d2] => { results := [.lit (.bool true)], args := [d1, d2] }
  | _ => none }
def varintEncodesRow : OpenClaim := { program := "ytdniaingipoggaa", sum := "55b08c29c4c65e1bd8d0520d6817460d0d90809207510a9e750df9f12524b974", func := "tsblock/tsblocklaw02.VarintEncodes", spec := "varintEncodes", unfollowed := true, recurses := true, apart := false }
def VarintEncodesSaid : Prop := varintEncodesRow.holds Try.pinned (OpenSpec.ofChange varintEncodesSpec)

/-- ITS FALSE NEIGHBOUR: 'it returns false'. Refute it at one input. -/
def varintEncodesWrong : ChangeSpec := { name := "varintEncodes", fn := fun _ => fun
  | [d1, d2] => { results := [.lit (.bool false)], args := [d1, d2] }
  | _ => none }
def VarintEncodesWrongFalsely : Prop := varintEncodesRow.holds Try.pinned (OpenSpec.ofChange varintEncodesWrong)

/-- 'tsblocklaw02.VarintRoundTrip': WHATEVER THE INPUT: true; the input reads as it did. -/
def varintRoundTripSpec : ChangeSpec := { name := "varintRoundTrip", fn := fun _ => fun
  | [d1, d2, d3] => { results := [.lit (.bool true)], args := [d1, d2, d3] }
  | _ => none }
def varintRoundTripRow : OpenClaim := { program := "ytdniaingipoggaa", sum := "55b08c29c4c65e1bd8d0520d6817460d0d90809207510a9e750df9f12524b974", func := "tsblock/tsblocklaw02.VarintRoundTrip", spec := "varintRoundTrip", unfollowed := true, recurses := true, apart := false }
def VarintRoundTripSaid : Prop := varintRoundTripRow.holds Try.pinned (OpenSpec.ofChange varintRoundTripSpec)

/-- ITS FALSE NEIGHBOUR: 'it returns false'. Refute it at one input. -/
def varintRoundTripWrong : ChangeSpec := { name := "varintRoundTrip", fn := fun _ => fun
  | [d1, d2, d3] => { results := [.lit (.bool false)], args := [d1, d2, d3] }
  | _ => none }
def VarintRoundTripWrongFalsely : Prop := varintRoundTripRow.holds Try.pinned (OpenSpec.ofChange varintRoundTripWrong)

/-- 'tsblocklaw02.VarintEncodesSigned': WHATEVER THE INPUT: true; the input reads as it did. -/
def varintEncodesSignedSpec : ChangeSpec := { name := "varintEncodesSigned", fn := fun _ => fun
  | [d1, d2] => { results := [.lit (.bool true)], args := [d1, d2] }
  | _ => none }
def varintEncodesSignedRow : OpenClaim := { program := "ytdniaingipoggaa", sum := "55b08c29c4c65e1bd8d0520d6817460d0d90809207510a9e750df9f12524b974", func := "tsblock/tsblocklaw02.VarintEncodesSigned", spec := "varintEncodesSigned", unfollowed := true, recurses := true, apart := false }
def VarintEncodesSignedSaid : Prop := varintEncodesSignedRow.holds Try.pinned (OpenSpec.ofChange varintEncodesSignedSpec)

/-- ITS FALSE NEIGHBOUR: 'it returns false'. Refute it at one input. -/
def varintEncodesSignedWrong : ChangeSpec := { name := "varintEncodesSigned", fn := fun _ => fun
  | [d1, d2] => { results := [.lit (.bool false)], args := [d1, d2] }
  | _ => none }
def VarintEncodesSignedWrongFalsely : Prop := varintEncodesSignedRow.holds Try.pinned (OpenSpec.ofChange varintEncodesSignedWrong)

/-- 'tsblocklaw07.RunvalSplits': WHATEVER THE INPUT: true; the input reads as it did. -/
def runvalSplitsSpec : ChangeSpec := { name := "runvalSplits", fn := fun _ => fun
  | [d] => { results := [.lit (.bool true)], args := [d] }
  | _ => none }
def runvalSplitsRow : OpenClaim := { program := "ytdniaingipoggaa", sum := "55b08c29c4c65e1bd8d0520d6817460d0d90809207510a9e750df9f12524b974", func := "tsblock/tsblocklaw07.RunvalSplits", spec := "runvalSplits", unfollowed := true, recurses := true, apart := false }
def RunvalSplitsSaid : Prop := runvalSplitsRow.holds Try.pinned (OpenSpec.ofChange runvalSplitsSpec)

/-- ITS FALSE NEIGHBOUR: 'it returns false'. Refute it at one input. -/
def runvalSplitsWrong : ChangeSpec := { name := "runvalSplits", fn := fun _ => fun
  | [d] => { results := [.lit (.bool false)], args := [d] }
  | _ => none }
def RunvalSplitsWrongFalsely : Prop := runvalSplitsRow.holds Try.pinned (OpenSpec.ofChange runvalSplitsWrong)

/-- 'tsblocklaw07.RunvalReads': WHATEVER THE INPUT: true; the input reads as it did. -/
def runvalReadsSpec : ChangeSpec := { name := "runvalReads", fn := fun _ => fun
  | [d1, d2] => { results := [.lit (.bool true)], args := [d1, d2] }
  | _ => none }
def runvalReadsRow : OpenClaim := { program := "ytdniaingipoggaa", sum := "55b08c29c4c65e1bd8d0520d6817460d0d90809207510a9e750df9f12524b974", func := "tsblock/tsblocklaw07.RunvalReads", spec := "runvalReads", unfollowed := true, recurses := true, apart := false }
def RunvalReadsSaid : Prop := runvalReadsRow.holds Try.pinned (OpenSpec.ofChange runvalReadsSpec)

/-- ITS FALSE NEIGHBOUR: 'it returns false'. Refute it at one input. -/
def runvalReadsWrong : ChangeSpec := { name := "runvalReads", fn := fun _ => fun
  | [d1, d2] => { results := [.lit (.bool false)], args := [d1, d2] }
  | _ => none }
def RunvalReadsWrongFalsely : Prop := runvalReadsRow.holds Try.pinned (OpenSpec.ofChange runvalReadsWrong)

/-- 'tsblocklaw07.RunvalIsCanonical': WHATEVER THE INPUT: true; the input reads as it did. -/
def runvalIsCanonicalSpec : ChangeSpec := { name := "runvalIsCanonical", fn := fun _ => fun
  | [d1, d2] => { results := [.lit (.bool true)], args := [d1, d2] }
  | _ => none }
def runvalIsCanonicalRow : OpenClaim := { program := "ytdniaingipoggaa", sum := "55b08c29c4c65e1bd8d0520d6817460d0d90809207510a9e750df9f12524b974", func := "tsblock/tsblocklaw07.RunvalIsCanonical", spec := "runvalIsCanonical", unfollowed := true, recurses := true, apart := false }
def RunvalIsCanonicalSaid : Prop := runvalIsCanonicalRow.holds Try.pinned (OpenSpec.ofChange runvalIsCanonicalSpec)

/-- ITS FALSE NEIGHBOUR: 'it returns false'. Refute it at one input. -/
def runvalIsCanonicalWrong : ChangeSpec := { name := "runvalIsCanonical", fn := fun _ => fun
  | [d1, d2] => { results := [.lit (.bool false)], args := [d1, d2] }
  | _ => none }
def RunvalIsCanonicalWrongFalsely : Prop := runvalIsCanonicalRow.holds Try.pinned (OpenSpec.ofChange runvalIsCanonicalWrong)

/-- 'tsblocklaw07.RunvalWrites': WHATEVER THE INPUT: true; the input reads as it did. -/
def runvalWritesSpec : ChangeSpec := { name := "runvalWrites", fn := fun _ => fun
  | [d1, d2] => { results := [.lit (.bool true)], args := [d1, d2] }
  | _ => none }
def runvalWritesRow : OpenClaim := { program := "ytdniaingipoggaa", sum := "55b08c29c4c65e1bd8d0520d6817460d0d90809207510a9e750df9f12524b974", func := "tsblock/tsblocklaw07.RunvalWrites", spec := "runvalWrites", unfollowed := true, recurses := true, apart := false }
def RunvalWritesSaid : Prop := runvalWritesRow.holds Try.pinned (OpenSpec.ofChange runvalWritesSpec)

/-- ITS FALSE NEIGHBOUR: 'it returns false'. Refute it at one input. -/
def runvalWritesWrong : ChangeSpec := { name := "runvalWrites", fn := fun _ => fun
  | [d1, d2] => { results := [.lit (.bool false)], args := [d1, d2] }
  | _ => none }
def RunvalWritesWrongFalsely : Prop := runvalWritesRow.holds Try.pinned (OpenSpec.ofChange runvalWritesWrong)

/-- 'tsblocklaw07.RunvalRoundTrip': WHATEVER THE INPUT: true; the input reads as it did. -/
def runvalRoundTripSpec : ChangeSpec := { name := "runvalRoundTrip", fn := fun _ => fun
  | [d] => { results := [.lit (.bool true)], args := [d] }
  | _ => none }
def runvalRoundTripRow : OpenClaim := { program := "ytdniaingipoggaa", sum := "55b08c29c4c65e1bd8d0520d6817460d0d90809207510a9e750df9f12524b974", func := "tsblock/tsblocklaw07.RunvalRoundTrip", spec := "runvalRoundTrip", unfollowed := true, recurses := true, apart := false }
def RunvalRoundTripSaid : Prop := runvalRoundTripRow.holds Try.pinned (OpenSpec.ofChange runvalRoundTripSpec)

/-- ITS FALSE NEIGHBOUR: 'it returns false'. Refute it at one input. -/
def runvalRoundTripWrong : ChangeSpec := { name := "runvalRoundTrip", fn := fun _ => fun
  | [d] => { results := [.lit (.bool false)], args := [d] }
  | _ => none }
def RunvalRoundTripWrongFalsely : Prop := runvalRoundTripRow.holds Try.pinned (OpenSpec.ofChange runvalRoundTripWrong)

/-- 'tsblocklaw07.RunvalJoins': WHATEVER THE INPUT: true; the input reads as it did. -/
def runvalJoinsSpec : ChangeSpec := { name := "runvalJoins", fn := fun _ => fun
  | [d] => { results := [.lit (.bool true)], args := [d] }
  | _ => none }
def runvalJoinsRow : OpenClaim := { program := "ytdniaingipoggaa", sum := "55b08c29c4c65e1bd8d0520d6817460d0d90809207510a9e750df9f12524b974", func := "tsblock/tsblocklaw07.RunvalJoins", spec := "runvalJoins", unfollowed := true, recurses := true, apart := false }
def RunvalJoinsSaid : Prop := runvalJoinsRow.holds Try.pinned (OpenSpec.ofChange runvalJoinsSpec)

/-- ITS FALSE NEIGHBOUR: 'it returns false'. Refute it at one input. -/
def runvalJoinsWrong : ChangeSpec := { name := "runvalJoins", fn := fun _ => fun
  | [d] => { results := [.lit (.bool false)], args := [d] }
  | _ => none }
def RunvalJoinsWrongFalsely : Prop := runvalJoinsRow.holds Try.pinned (OpenSpec.ofChange runvalJoinsWrong)

/- THE SECOND FORM. 'bulk': how many values and letters a reading holds, each counted each time it is reached (what is shared counts as often as it is met; a slice's spare places count too). A statement '..UptoSaid' is the law's where the arguments, and the package variables that the reading takes, are together of bulk at most 1048576: NARROWER than '..Said'. Prove '..Said' where nothing that the law and all that it calls make is longer than what came in: it says more and counts as full. Else prove '..UptoSaid'. A law counts once. -/
mutual
def uptoBulk {H : Type} : DataW H → Nat
  | .lit (.string bytes) => bytes.length + 1
  | .lit _ => 1
  | .nil => 1
  | .ptr d => uptoBulk d + 1
  | .slice elems spare => uptoBulkAll elems + uptoBulkAll spare + 1
  | .agg parts => uptoBulkAll parts + 1
  | .iface _ d => uptoBulk d + 1
  | .map entries => uptoBulkEntries entries + 1
  | .held _ => 1
def uptoBulkAll {H : Type} : List (DataW H) → Nat
  | [] => 0
  | d :: r => uptoBulk d + uptoBulkAll r
def uptoBulkEntries {H : Type} : List (Lit × DataW H) → Nat
  | [] => 0
  | x :: r => uptoBulkEntry x + uptoBulkEntries r
def uptoBulkEntry {H : Type} : Lit × DataW H → Nat
  | (.string bytes, d) => bytes.length + uptoBulk d + 1
  | (_, d) => uptoBulk d + 1
 end
def uptoSmall : (H : Type) → List (DataW H) → Bool := fun _ ds => decide (uptoBulkAll ds ≤ 1048576)
def OpenSpec.upto (s : _root_.Go.ChangeSpec) : _root_.Go.OpenSpec := { _root_.Go.OpenSpec.ofChange s with cond := some uptoSmall }

/-- 'tsblocklaw01.BitioWrites', WHERE WHAT IT READS IS OF BULK AT MOST 1048576: true; the input reads as it did. -/
def bitioWritesUptoRow : OpenClaim := { program := "ytdniaingipoggaa", sum := "55b08c29c4c65e1bd8d0520d6817460d0d90809207510a9e750df9f12524b974", func := "tsblock/tsblocklaw01.BitioWrites", spec := "bitioWrites", apart := false, narrowed := true }
def BitioWritesUptoSaid : Prop := bitioWritesUptoRow.holds Try.pinned (OpenSpec.upto bitioWritesSpec)

/-- 'tsblocklaw01.BitioSplits', WHERE WHAT IT READS IS OF BULK AT MOST 1048576: true; the input reads as it did. -/
def bitioSplitsUptoRow : OpenClaim := { program := "ytdniaingipoggaa", sum := "55b08c29c4c65e1bd8d0520d6817460d0d90809207510a9e750df9f12524b974", func := "tsblock/tsblocklaw01.BitioSplits", spec := "bitioSplits", apart := false, narrowed := true }
def BitioSplitsUptoSaid : Prop := bitioSplitsUptoRow.holds Try.pinned (OpenSpec.upto bitioSplitsSpec)

/-- 'tsblocklaw01.BitioIsolated', WHERE WHAT IT READS IS OF BULK AT MOST 1048576: true; the input reads as it did. -/
def bitioIsolatedUptoRow : OpenClaim := { program := "ytdniaingipoggaa", sum := "55b08c29c4c65e1bd8d0520d6817460d0d90809207510a9e750df9f12524b974", func := "tsblock/tsblocklaw01.BitioIsolated", spec := "bitioIsolated", apart := false, narrowed := true }
def BitioIsolatedUptoSaid : Prop := bitioIsolatedUptoRow.holds Try.pinned (OpenSpec.upto bitioIsolatedSpec)

/-- 'tsblocklaw01.BitioReads', WHERE WHAT IT READS IS OF BULK AT MOST 1048576: true; the input reads as it did. -/
def bitioReadsUptoRow : OpenClaim := { program := "ytdniaingipoggaa", sum := "55b08c29c4c65e1bd8d0520d6817460d0d90809207510a9e750df9f12524b974", func := "tsblock/tsblocklaw01.BitioReads", spec := "bitioReads", apart := false, narrowed := true }
def BitioReadsUptoSaid : Prop := bitioReadsUptoRow.holds Try.pinned (OpenSpec.upto bitioReadsSpec)

/-- 'tsblocklaw01.BitioRoundTrip', WHERE WHAT IT READS IS OF BULK AT MOST 1048576: true; the input reads as it did. -/
def bitioRoundTripUptoRow : OpenClaim := { program := "ytdniaingipoggaa", sum := "55b08c29c4c65e1bd8d0520d6817460d0d90809207510a9e750df9f12524b974", func := "tsblock/tsblocklaw01.BitioRoundTrip", spec := "bitioRoundTrip", apart := false, narrowed := true }
def BitioRoundTripUptoSaid : Prop := bitioRoundTripUptoRow.holds Try.pinned (OpenSpec.upto bitioRoundTripSpec)

/-- 'tsblocklaw01.BitioNil', WHERE WHAT IT READS IS OF BULK AT MOST 1048576: true; the input reads as it did. -/
def bitioNilUptoRow : OpenClaim := { program := "ytdniaingipoggaa", sum := "55b08c29c4c65e1bd8d0520d6817460d0d90809207510a9e750df9f12524b974", func := "tsblock/tsblocklaw01.BitioNil", spec := "bitioNil", apart := false, narrowed := true }
def BitioNilUptoSaid : Prop := bitioNilUptoRow.holds Try.pinned (OpenSpec.upto bitioNilSpec)

/-- 'tsblocklaw02.VarintIsCanonical', WHERE WHAT IT READS IS OF BULK AT MOST 1048576: true; the input reads as it did. -/
def varintIsCanonicalUptoRow : OpenClaim := { program := "ytdniaingipoggaa", sum := "55b08c29c4c65e1bd8d0520d6817460d0d90809207510a9e750df9f12524b974", func := "tsblock/tsblocklaw02.VarintIsCanonical", spec := "varintIsCanonical", unfollowed := true, recurses := true, apart := false, narrowed := true }
def VarintIsCanonicalUptoSaid : Prop := varintIsCanonicalUptoRow.holds Try.pinned (OpenSpec.upto varintIsCanonicalSpec)

/-- 'tsblocklaw02.VarintPrefixes', WHERE WHAT IT READS IS OF BULK AT MOST 1048576: true; the input reads as it did. -/
def varintPrefixesUptoRow : OpenClaim := { program := "ytdniaingipoggaa", sum := "55b08c29c4c65e1bd8d0520d6817460d0d90809207510a9e750df9f12524b974", func := "tsblock/tsblocklaw02.VarintPrefixes", spec := "varintPrefixes", unfollowed := true, recurses := true, apart := false, narrowed := true }
def VarintPrefixesUptoSaid : Prop := varintPrefixesUptoRow.holds Try.pinned (OpenSpec.upto varintPrefixesSpec)

/-- 'tsblocklaw02.VarintDecodes', WHERE WHAT IT READS IS OF BULK AT MOST 1048576: true; the input reads as it did. -/
def varintDecodesUptoRow : OpenClaim := { program := "ytdniaingipoggaa", sum := "55b08c29c4c65e1bd8d0520d6817460d0d90809207510a9e750df9f12524b974", func := "tsblock/tsblocklaw02.VarintDecodes", spec := "varintDecodes", unfollowed := true, recurses := true, apart := false, narrowed := true }
def VarintDecodesUptoSaid : Prop := varintDecodesUptoRow.holds Try.pinned (OpenSpec.upto varintDecodesSpec)

/-- 'tsblocklaw02.VarintEncodes', WHERE WHAT IT READS IS OF BULK AT MOST 1048576: true; the input reads as it did. -/
def varintEncodesUptoRow : OpenClaim := { program := "ytdniaingipoggaa", sum := "55b08c29c4c65e1bd8d0520d6817460d0d90809207510a9e750df9f12524b974", func := "tsblock/tsblocklaw02.VarintEncodes", spec := "varintEncodes", unfollowed := true, recurses := true, apart := false, narrowed := true }
def VarintEncodesUptoSaid : Prop := varintEncodesUptoRow.holds Try.pinned (OpenSpec.upto varintEncodesSpec)

/-- 'tsblocklaw02.VarintRoundTrip', WHERE WHAT IT READS IS OF BULK AT MOST 1048576: true; the input reads as it did. -/
def varintRoundTripUptoRow : OpenClaim := { program := "ytdniaingipoggaa", sum := "55b08c29c4c65e1bd8d0520d6817460d0d90809207510a9e750df9f12524b974", func := "tsblock/tsblocklaw02.VarintRoundTrip", spec := "varintRoundTrip", unfollowed := true, recurses := true, apart := false, narrowed := true }
def VarintRoundTripUptoSaid : Prop := varintRoundTripUptoRow.holds Try.pinned (OpenSpec.upto varintRoundTripSpec)

/-- 'tsblocklaw02.VarintEncodesSigned', WHERE WHAT IT READS IS OF BULK AT MOST 1048576: true; the input reads as it did. -/
def varintEncodesSignedUptoRow : OpenClaim := { program := "ytdniaingipoggaa", sum := "55b08c29c4c65e1bd8d0520d6817460d0d90809207510a9e750df9f12524b974", func := "tsblock/tsblocklaw02.VarintEncodesSigned", spec := "varintEncodesSigned", unfollowed := true, recurses := true, apart := false, narrowed := true }
def VarintEncodesSignedUptoSaid : Prop := varintEncodesSignedUptoRow.holds Try.pinned (OpenSpec.upto varintEncodesSignedSpec)

/-- 'tsblocklaw07.RunvalSplits', WHERE WHAT IT READS IS OF BULK AT MOST 1048576: true; the input reads as it did. -/
def runvalSplitsUptoRow : OpenClaim := { program := "ytdniaingipoggaa", sum := "55b08c29c4c65e1bd8d0520d6817460d0d90809207510a9e750df9f12524b974", func := "tsblock/tsblocklaw07.RunvalSplits", spec := "runvalSplits", unfollowed := true, recurses := true, apart := false, narrowed := true }
def RunvalSplitsUptoSaid : Prop := runvalSplitsUptoRow.holds Try.pinned (OpenSpec.upto runvalSplitsSpec)

/-- 'tsblocklaw07.RunvalReads', WHERE WHAT IT READS IS OF BULK AT MOST 1048576: true; the input reads as it did. -/
def runvalReadsUptoRow : OpenClaim := { program := "ytdniaingipoggaa", sum := "55b08c29c4c65e1bd8d0520d6817460d0d90809207510a9e750df9f12524b974", func := "tsblock/tsblocklaw07.RunvalReads", spec := "runvalReads", unfollowed := true, recurses := true, apart := false, narrowed := true }
def RunvalReadsUptoSaid : Prop := runvalReadsUptoRow.holds Try.pinned (OpenSpec.upto runvalReadsSpec)

/-- 'tsblocklaw07.RunvalIsCanonical', WHERE WHAT IT READS IS OF BULK AT MOST 1048576: true; the input reads as it did. -/
def runvalIsCanonicalUptoRow : OpenClaim := { program := "ytdniaingipoggaa", sum := "55b08c29c4c65e1bd8d0520d6817460d0d90809207510a9e750df9f12524b974", func := "tsblock/tsblocklaw07.RunvalIsCanonical", spec := "runvalIsCanonical", unfollowed := true, recurses := true, apart := false, narrowed := true }
def RunvalIsCanonicalUptoSaid : Prop := runvalIsCanonicalUptoRow.holds Try.pinned (OpenSpec.upto runvalIsCanonicalSpec)

/-- 'tsblocklaw07.RunvalWrites', WHERE WHAT IT READS IS OF BULK AT MOST 1048576: true; the input reads as it did. -/
def runvalWritesUptoRow : OpenClaim := { program := "ytdniaingipoggaa", sum := "55b08c29c4c65e1bd8d0520d6817460d0d90809207510a9e750df9f12524b974", func := "tsblock/tsblocklaw07.RunvalWrites", spec := "runvalWrites", unfollowed := true, recurses := true, apart := false, narrowed := true }
def RunvalWritesUptoSaid : Prop := runvalWritesUptoRow.holds Try.pinned (OpenSpec.upto runvalWritesSpec)

/-- 'tsblocklaw07.RunvalRoundTrip', WHERE WHAT IT READS IS OF BULK AT MOST 1048576: true; the input reads as it did. -/
def runvalRoundTripUptoRow : OpenClaim := { program := "ytdniaingipoggaa", sum := "55b08c29c4c65e1bd8d0520d6817460d0d90809207510a9e750df9f12524b974", func := "tsblock/tsblocklaw07.RunvalRoundTrip", spec := "runvalRoundTrip", unfollowed := true, recurses := true, apart := false, narrowed := true }
def RunvalRoundTripUptoSaid : Prop := runvalRoundTripUptoRow.holds Try.pinned (OpenSpec.upto runvalRoundTripSpec)

/-- 'tsblocklaw07.RunvalJoins', WHERE WHAT IT READS IS OF BULK AT MOST 1048576: true; the input reads as it did. -/
def runvalJoinsUptoRow : OpenClaim := { program := "ytdniaingipoggaa", sum := "55b08c29c4c65e1bd8d0520d6817460d0d90809207510a9e750df9f12524b974", func := "tsblock/tsblocklaw07.RunvalJoins", spec := "runvalJoins", unfollowed := true, recurses := true, apart := false, narrowed := true }
def RunvalJoinsUptoSaid : Prop := runvalJoinsUptoRow.holds Try.pinned (OpenSpec.upto runvalJoinsSpec)

end Rows
end Go.Proofs.Ytdniaingipoggaa
