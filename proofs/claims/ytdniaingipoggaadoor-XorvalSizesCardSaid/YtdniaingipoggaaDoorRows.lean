/-
  NARROWER THAN 'FOR EVERY INPUT', by the rows' own cells (each row's printed sentence says how): TimesReads: laid · TimesAreCanonical: laid · TimesSizes: laid · TimesWrites: laid · TimesShift: laid · TimesRoundTrip: laid · XorvalReads: laid · XorvalIsCanonical: laid · XorvalWrites: laid · XorvalMasks: laid · XorvalRoundTrip: laid · XorvalSizes: laid.
  DERIVED. THE GIVEN ROWS OF THIS SEAT. 12 by the template 'for every input the law returns true; each argument reads behind the call as it read before'; 0 by the template 'total and deterministic' (their statements: YtdniaingipoggaaDoorTotals.lean).
  GIVEN WITH THE SEED: the statements are not yours to turn. If you find one false, say at which input.
  Laid BY PROGRAM, IN A SANDBOX (cutbox-rows.mjs): the forced cells as the released guide's own fill.sh prints them over the translation e7b94cf51cca0176… (all of the seat's roots in one cut). By AI agents, Wed Nov 11 2026. No macro, syntax, notation, axiom, sorry.
-/
import Derived.Test.YtdniaingipoggaaDoorChecked
import GoSem.Claim
import GoSem.ClaimJoined
import GoSem.ClaimMapViews
import Derived.JoinedTies
import Derived.KernelRfl
namespace Go.Proofs.YtdniaingipoggaaDoor
/- THE CELL 'sum', in the pinned program and in every row, IS THE sha256 OF THE DUMP (.gsa) THAT YtdniaingipoggaaDoorProg.lean LOADS. Nothing in Lean hashes anything: it is a label: what it is worth is what the hold of that sum in a sandbox is worth. -/
noncomputable def Tryd.pinned : Pinned := { name := "ytdniaingipoggaadoor", sum := "e7b94cf51cca01769f1e034b026272e0973ab65a2ee6759b52aaa74f7643c643", checked := Tryd.checked }
namespace Rows
def none {H : Type} : Left H := { results := [], args := [] }

/- WHAT THE LISTED PACKAGE-LEVEL VARIABLES READ AS WHEN THE CALL BEGINS. Each datum BY PROGRAM (the guide's laid-datum.mjs) off the statement by which the dump's own 'gosem.cut.vars' lays the variable. In a bare row this is a premise. The card (YtdniaingipoggaaDoorCards.lean) ties it to the program's text. -/
def laid_tsblock_times_forms {H : Type} : DataW H := .agg [.agg [.lit (.int .u64 0), .lit (.int .i64 1), .lit (.int .i64 0)], .agg [.lit (.int .u64 2), .lit (.int .i64 2), .lit (.int .i64 7)], .agg [.lit (.int .u64 6), .lit (.int .i64 3), .lit (.int .i64 12)], .agg [.lit (.int .u64 14), .lit (.int .i64 4), .lit (.int .i64 32)], .agg [.lit (.int .u64 15), .lit (.int .i64 4), .lit (.int .i64 64)]]
def laid_math_bits_deBruijn64tab {H : Type} : DataW H := .agg [.lit (.int .u8 0), .lit (.int .u8 1), .lit (.int .u8 56), .lit (.int .u8 2), .lit (.int .u8 57), .lit (.int .u8 49), .lit (.int .u8 28), .lit (.int .u8 3), .lit (.int .u8 61), .lit (.int .u8 58), .lit (.int .u8 42), .lit (.int .u8 50), .lit (.int .u8 38), .lit (.int .u8 29), .lit (.int .u8 17), .lit (.int .u8 4), .lit (.int .u8 62), .lit (.int .u8 47), .lit (.int .u8 59), .lit (.int .u8 36), .lit (.int .u8 45), .lit (.int .u8 43), .lit (.int .u8 51), .lit (.int .u8 22), .lit (.int .u8 53), .lit (.int .u8 39), .lit (.int .u8 33), .lit (.int .u8 30), .lit (.int .u8 24), .lit (.int .u8 18), .lit (.int .u8 12), .lit (.int .u8 5), .lit (.int .u8 63), .lit (.int .u8 55), .lit (.int .u8 48), .lit (.int .u8 27), .lit (.int .u8 60), .lit (.int .u8 41), .lit (.int .u8 37), .lit (.int .u8 16), .lit (.int .u8 46), .lit (.int .u8 35), .lit (.int .u8 44), .lit (.int .u8 21), .lit (.int .u8 52), .lit (.int .u8 32), .lit (.int .u8 23), .lit (.int .u8 11), .lit (.int .u8 54), .lit (.int .u8 26), .lit (.int .u8 40), .lit (.int .u8 15), .lit (.int .u8 34), .lit (.int .u8 20), .lit (.int .u8 31), .lit (.int .u8 10), .lit (.int .u8 25), .lit (.int .u8 14), .lit (.int .u8 19), .lit (.int .u8 9), .lit (.int .u8 13), .lit (.int .u8 8), .lit (.int .u8 7), .lit (.int .u8 6)]

/-- 'tsblocklaw05.TimesReads': WHATEVER THE INPUT: true; the input reads as it did. -/
def timesReadsSpec : ChangeSpec := { name := "timesReads", fn := fun _ => fun
  | [d1, d2] => { results := [.lit (.bool true)], args := [d1, d2] }
  | _ => none }
def timesReadsRow : OpenClaim := { program := "ytdniaingipoggaadoor", sum := "e7b94cf51cca01769f1e034b026272e0973ab65a2ee6759b52aaa74f7643c643", func := "tsblock/tsblocklaw05.TimesReads", spec := "timesReads", unfollowed := true, recurses := true, named := ["tsblock/times.forms"], apart := false, laid := [("tsblock/times.forms", laid_tsblock_times_forms)] }
def TimesReadsSaid : Prop := timesReadsRow.holds Tryd.pinned (OpenSpec.ofChange timesReadsSpec)

/-- ITS FALSE NEIGHBOUR: 'it returns false'. Refute it at one input. -/
def timesReadsWrong : ChangeSpec := { name := "timesReads", fn := fun _ => fun
  | [d1, d2] => { results := [.lit (.bool false)], args := [d1, d2] }
  | _ => none }
def TimesReadsWrongFalsely : Prop := timesReadsRow.holds Tryd.pinned (OpenSpec.ofChange timesReadsWrong)

/-- 'tsblocklaw05.TimesAreCanonical': WHATEVER THE INPUT: true; the input reads as it did. -/
def timesAreCanonicalSpec : ChangeSpec := { name := "timesAreCanonical", fn := fun _ => fun
  | [d1, d2] => { results := [.lit (.bool true)], args := [d1, d2] }
  | _ => none }
def timesAreCanonicalRow : OpenClaim := { program := "ytdniaingipoggaadoor", sum := "e7b94cf51cca01769f1e034b026272e0973ab65a2ee6759b52aaa74f7643c643", func := "tsblock/tsblocklaw05.TimesAreCanonical", spec := "timesAreCanonical", unfollowed := true, recurses := true, named := ["tsblock/times.forms"], apart := false, laid := [("tsblock/times.forms", laid_tsblock_times_forms)] }
def TimesAreCanonicalSaid : Prop := timesAreCanonicalRow.holds Tryd.pinned (OpenSpec.ofChange timesAreCanonicalSpec)

/-- ITS FALSE NEIGHBOUR: 'it returns false'. Refute it at one input. -/
def timesAreCanonicalWrong : ChangeSpec := { name := "timesAreCanonical", fn := fun _ => fun
  | [d1, d2] => { results := [.lit (.bool false)], args := [d1, d2] }
  | _ => none }
def TimesAreCanonicalWrongFalsely : Prop := timesAreCanonicalRow.holds Tryd.pinned (OpenSpec.ofChange timesAreCanonicalWrong)

/-- 'tsblocklaw05.TimesSizes': WHATEVER THE INPUT: true; the input reads as it did. -/
def timesSizesSpec : ChangeSpec := { name := "timesSizes", fn := fun _ => fun
  | [d1, d2, d3] => { results := [.lit (.bool true)], args := [d1, d2, d3] }
  | _ => none }
def timesSizesRow : OpenClaim := { program := "ytdniaingipoggaadoor", sum := "e7b94cf51cca01769f1e034b026272e0973ab65a2ee6759b52aaa74f7643c643", func := "tsblock/tsblocklaw05.TimesSizes", spec := "timesSizes", unfollowed := true, recurses := true, named := ["tsblock/times.forms"], apart := false, laid := [("tsblock/times.forms", laid_tsblock_times_forms)] }
def TimesSizesSaid : Prop := timesSizesRow.holds Tryd.pinned (OpenSpec.ofChange timesSizesSpec)

/-- ITS FALSE NEIGHBOUR: 'it returns false'. Refute it at one input. -/
def timesSizesWrong : ChangeSpec := { name := "timesSizes", fn := fun _ => fun
  | [d1, d2, d3] => { results := [.lit (.bool false)], args := [d1, d2, d3] }
  | _ => none }
def TimesSizesWrongFalsely : Prop := timesSizesRow.holds Tryd.pinned (OpenSpec.ofChange timesSizesWrong)

/-- 'tsblocklaw05.TimesWrites': WHATEVER THE INPUT: true; the input reads as it did. -/
def timesWritesSpec : ChangeSpec := { name := "timesWrites", fn := fun _ => fun
  | [d1, d2] => { results := [.lit (.bool true)], args := [d1, d2] }
  | _ => none }
def timesWritesRow : OpenClaim := { program := "ytdniaingipoggaadoor", sum := "e7b94cf51cca01769f1e034b026272e0973ab65a2ee6759b52aaa74f7643c643", func := "tsblock/tsblocklaw05.TimesWrites", spec := "timesWrites", unfollowed := true, recurses := true, named := ["tsblock/times.forms"], apart := false, laid := [("tsblock/times.forms", laid_tsblock_times_forms)] }
def TimesWritesSaid : Prop := timesWritesRow.holds Tryd.pinned (OpenSpec.ofChange timesWritesSpec)

/-- ITS FALSE NEIGHBOUR: 'it returns false'. Refute it at one input. -/
def timesWritesWrong : ChangeSpec := { name := "timesWrites", fn := fun _ => fun
  | [d1, d2] => { results := [.lit (.bool false)], args := [d1, d2] }
  | _ => none }
def TimesWritesWrongFalsely : Prop := timesWritesRow.holds Tryd.pinned (OpenSpec.ofChange timesWritesWrong)

/-- 'tsblocklaw05.TimesShift': WHATEVER THE INPUT: true; the input reads as it did. -/
def timesShiftSpec : ChangeSpec := { name := "timesShift", fn := fun _ => fun
  | [d1, d2] => { results := [.lit (.bool true)], args := [d1, d2] }
  | _ => none }
def timesShiftRow : OpenClaim := { program := "ytdniaingipoggaadoor", sum := "e7b94cf51cca01769f1e034b026272e0973ab65a2ee6759b52aaa74f7643c643", func := "tsblock/tsblocklaw05.TimesShift", spec := "timesShift", unfollowed := true, recurses := true, named := ["tsblock/times.forms"], apart := false, laid := [("tsblock/times.forms", laid_tsblock_times_forms)] }
def TimesShiftSaid : Prop := timesShiftRow.holds Tryd.pinned (OpenSpec.ofChange timesShiftSpec)

/-- ITS FALSE NEIGHBOUR: 'it returns false'. Refute it at one input. -/
def timesShiftWrong : ChangeSpec := { name := "timesShift", fn := fun _ => fun
  | [d1, d2] => { results := [.lit (.bool false)], args := [d1, d2] }
  | _ => none }
def TimesShiftWrongFalsely : Prop := timesShiftRow.holds Tryd.pinned (OpenSpec.ofChange timesShiftWrong)

/-- 'tsblocklaw05.TimesRoundTrip': WHATEVER THE INPUT: true; the input reads as it did. -/
def timesRoundTripSpec : ChangeSpec := { name := "timesRoundTrip", fn := fun _ => fun
  | [d] => { results := [.lit (.bool true)], args := [d] }
  | _ => none }
def timesRoundTripRow : OpenClaim := { program := "ytdniaingipoggaadoor", sum := "e7b94cf51cca01769f1e034b026272e0973ab65a2ee6759b52aaa74f7643c643", func := "tsblock/tsblocklaw05.TimesRoundTrip", spec := "timesRoundTrip", unfollowed := true, recurses := true, named := ["tsblock/times.forms"], apart := false, laid := [("tsblock/times.forms", laid_tsblock_times_forms)] }
def TimesRoundTripSaid : Prop := timesRoundTripRow.holds Tryd.pinned (OpenSpec.ofChange timesRoundTripSpec)

/-- ITS FALSE NEIGHBOUR: 'it returns false'. Refute it at one input. -/
def timesRoundTripWrong : ChangeSpec := { name := "timesRoundTrip", fn := fun _ => fun
  | [d] => { results := [.lit (.bool false)], args := [d] }
  | _ => none }
def TimesRoundTripWrongFalsely : Prop := timesRoundTripRow.holds Tryd.pinned (OpenSpec.ofChange timesRoundTripWrong)

/-- 'tsblocklaw06.XorvalReads': WHATEVER THE INPUT: true; the input reads as it did. -/
def xorvalReadsSpec : ChangeSpec := { name := "xorvalReads", fn := fun _ => fun
  | [d1, d2] => { results := [.lit (.bool true)], args := [d1, d2] }
  | _ => none }
def xorvalReadsRow : OpenClaim := { program := "ytdniaingipoggaadoor", sum := "e7b94cf51cca01769f1e034b026272e0973ab65a2ee6759b52aaa74f7643c643", func := "tsblock/tsblocklaw06.XorvalReads", spec := "xorvalReads", unfollowed := true, recurses := true, named := ["math/bits.deBruijn64tab"], apart := false, laid := [("math/bits.deBruijn64tab", laid_math_bits_deBruijn64tab)] }
def XorvalReadsSaid : Prop := xorvalReadsRow.holds Tryd.pinned (OpenSpec.ofChange xorvalReadsSpec)

/-- ITS FALSE NEIGHBOUR: 'it returns false'. Refute it at one input. -/
def xorvalReadsWrong : ChangeSpec := { name := "xorvalReads", fn := fun _ => fun
  | [d1, d2] => { results := [.lit (.bool false)], args := [d1, d2] }
  | _ => none }
def XorvalReadsWrongFalsely : Prop := xorvalReadsRow.holds Tryd.pinned (OpenSpec.ofChange xorvalReadsWrong)

/-- 'tsblocklaw06.XorvalIsCanonical': WHATEVER THE INPUT: true; the input reads as it did. -/
def xorvalIsCanonicalSpec : ChangeSpec := { name := "xorvalIsCanonical", fn := fun _ => fun
  | [d1, d2] => { results := [.lit (.bool true)], args := [d1, d2] }
  | _ => none }
def xorvalIsCanonicalRow : OpenClaim := { program := "ytdniaingipoggaadoor", sum := "e7b94cf51cca01769f1e034b026272e0973ab65a2ee6759b52aaa74f7643c643", func := "tsblock/tsblocklaw06.XorvalIsCanonical", spec := "xorvalIsCanonical", unfollowed := true, recurses := true, named := ["math/bits.deBruijn64tab"], apart := false, laid := [("math/bits.deBruijn64tab", laid_math_bits_deBruijn64tab)] }
def XorvalIsCanonicalSaid : Prop := xorvalIsCanonicalRow.holds Tryd.pinned (OpenSpec.ofChange xorvalIsCanonicalSpec)

/-- ITS FALSE NEIGHBOUR: 'it returns false'. Refute it at one input. -/
def xorvalIsCanonicalWrong : ChangeSpec := { name := "xorvalIsCanonical", fn := fun _ => fun
  | [d1, d2] => { results := [.lit (.bool false)], args := [d1, d2] }
  | _ => none }
def XorvalIsCanonicalWrongFalsely : Prop := xorvalIsCanonicalRow.holds Tryd.pinned (OpenSpec.ofChange xorvalIsCanonicalWrong)

/-- 'tsblocklaw06.XorvalWrites': WHATEVER THE INPUT: true; the input reads as it did. -/
def xorvalWritesSpec : ChangeSpec := { name := "xorvalWrites", fn := fun _ => fun
  | [d1, d2] => { results := [.lit (.bool true)], args := [d1, d2] }
  | _ => none }
def xorvalWritesRow : OpenClaim := { program := "ytdniaingipoggaadoor", sum := "e7b94cf51cca01769f1e034b026272e0973ab65a2ee6759b52aaa74f7643c643", func := "tsblock/tsblocklaw06.XorvalWrites", spec := "xorvalWrites", unfollowed := true, recurses := true, named := ["math/bits.deBruijn64tab"], apart := false, laid := [("math/bits.deBruijn64tab", laid_math_bits_deBruijn64tab)] }
def XorvalWritesSaid : Prop := xorvalWritesRow.holds Tryd.pinned (OpenSpec.ofChange xorvalWritesSpec)

/-- ITS FALSE NEIGHBOUR: 'it returns false'. Refute it at one input. -/
def xorvalWritesWrong : ChangeSpec := { name := "xorvalWrites", fn := fun _ => fun
  | [d1, d2] => { results := [.lit (.bool false)], args := [d1, d2] }
  | _ => none }
def XorvalWritesWrongFalsely : Prop := xorvalWritesRow.holds Tryd.pinned (OpenSpec.ofChange xorvalWritesWrong)

/-- 'tsblocklaw06.XorvalMasks': WHATEVER THE INPUT: true; the input reads as it did. -/
def xorvalMasksSpec : ChangeSpec := { name := "xorvalMasks", fn := fun _ => fun
  | [d1, d2] => { results := [.lit (.bool true)], args := [d1, d2] }
  | _ => none }
def xorvalMasksRow : OpenClaim := { program := "ytdniaingipoggaadoor", sum := "e7b94cf51cca01769f1e034b026272e0973ab65a2ee6759b52aaa74f7643c643", func := "tsblock/tsblocklaw06.XorvalMasks", spec := "xorvalMasks", unfollowed := true, recurses := true, named := ["math/bits.deBruijn64tab"], apart := false, laid := [("math/bits.deBruijn64tab", laid_math_bits_deBruijn64tab)] }
def XorvalMasksSaid : Prop := xorvalMasksRow.holds Tryd.pinned (OpenSpec.ofChange xorvalMasksSpec)

/-- ITS FALSE NEIGHBOUR: 'it returns false'. Refute it at one input. -/
def xorvalMasksWrong : ChangeSpec := { name := "xorvalMasks", fn := fun _ => fun
  | [d1, d2] => { results := [.lit (.bool false)], args := [d1, d2] }
  | _ => none }
def XorvalMasksWrongFalsely : Prop := xorvalMasksRow.holds Tryd.pinned (OpenSpec.ofChange xorvalMasksWrong)

/-- 'tsblocklaw06.XorvalRoundTrip': WHATEVER THE INPUT: true; the input reads as it did. -/
def xorvalRoundTripSpec : ChangeSpec := { name := "xorvalRoundTrip", fn := fun _ => fun
  | [d] => { results := [.lit (.bool true)], args := [d] }
  | _ => none }
def xorvalRoundTripRow : OpenClaim := { program := "ytdniaingipoggaadoor", sum := "e7b94cf51cca01769f1e034b026272e0973ab65a2ee6759b52aaa74f7643c643", func := "tsblock/tsblocklaw06.XorvalRoundTrip", spec := "xorvalRoundTrip", unfollowed := true, recurses := true, named := ["math/bits.deBruijn64tab"], apart := false, laid := [("math/bits.deBruijn64tab", laid_math_bits_deBruijn64tab)] }
def XorvalRoundTripSaid : Prop := xorvalRoundTripRow.holds Tryd.pinned (OpenSpec.ofChange xorvalRoundTripSpec)

/-- ITS FALSE NEIGHBOUR: 'it returns false'. Refute it at one input. -/
def xorvalRoundTripWrong : ChangeSpec := { name := "xorvalRoundTrip", fn := fun _ => fun
  | [d] => { results := [.lit (.bool false)], args := [d] }
  | _ => none }
def XorvalRoundTripWrongFalsely : Prop := xorvalRoundTripRow.holds Tryd.pinned (OpenSpec.ofChange xorvalRoundTripWrong)

/-- 'tsblocklaw06.XorvalSizes': WHATEVER THE INPUT: true; the input reads as it did. -/
def xorvalSizesSpec : ChangeSpec := { name := "xorvalSizes", fn := fun _ => fun
  | [d1, d2, d3] => { results := [.lit (.bool true)], args := [d1, d2, d3] }
  | _ => none }
def xorvalSizesRow : OpenClaim := { program := "ytdniaingipoggaadoor", sum := "e7b94cf51cca01769f1e034b026272e0973ab65a2ee6759b52aaa74f7643c643", func := "tsblock/tsblocklaw06.XorvalSizes", spec := "xorvalSizes", unfollowed := true, recurses := true, named := ["math/bits.deBruijn64tab"], apart := false, laid := [("math/bits.deBruijn64tab", laid_math_bits_deBruijn64tab)] }
def XorvalSizesSaid : Prop := xorvalSizesRow.holds Tryd.pinned (OpenSpec.ofChange xorvalSizesSpec)

/-- ITS FALSE NEIGHBOUR: 'it returns false'. Refute it at one input. -/
def xorvalSizesWrong : ChangeSpec := { name := "xorvalSizes", fn := fun _ => fun
  | [d1, d2, d3] => { results := [.lit (.bool false)], args := [d1, d2, d3] }
  | _ => none }
def XorvalSizesWrongFalsely : Prop := xorvalSizesRow.holds Tryd.pinned (OpenSpec.ofChange xorvalSizesWrong)

/- THE SECOND FORM. 'bulk': how many values and letters a reading holds, each counted each time it is reached (what is shared counts as often as it is met; a slice's spare places count too). A statement '..UptoSaid' is the law's where the arguments, and the package variables that the reading takes, are together of bulk at most 1048576: NARROWER than '..Said'. Prove '..Said' where nothing that the law and all that it calls make is longer than what came in: it says more and counts as full. Else prove '..UptoSaid'. A law counts once. -/
mutual
def uptoBulk {H : Type} : DataW H → Nat
  | .lit (.string bytes) => bytes.length + 1
  | .lit _ => 1
  | .nil => 1
  | .ptr d => uptoBulk d + 1
  | .slice elems spare => uptoBulkAll elems + uptoBulkAll spare + 1
  | .agg parts => uptoBulkAll parts + 1
  | .iface _ d => uptoBulk d + 1
  | .map entries => uptoBulkEntries entries + 1
  | .held _ => 1
def uptoBulkAll {H : Type} : List (DataW H) → Nat
  | [] => 0
  | d :: r => uptoBulk d + uptoBulkAll r
def uptoBulkEntries {H : Type} : List (Lit × DataW H) → Nat
  | [] => 0
  | x :: r => uptoBulkEntry x + uptoBulkEntries r
def uptoBulkEntry {H : Type} : Lit × DataW H → Nat
  | (.string bytes, d) => bytes.length + uptoBulk d + 1
  | (_, d) => uptoBulk d + 1
 end
def uptoSmall : (H : Type) → List (DataW H) → Bool := fun _ ds => decide (uptoBulkAll ds ≤ 1048576)
def OpenSpec.upto (s : _root_.Go.ChangeSpec) : _root_.Go.OpenSpec := { _root_.Go.OpenSpec.ofChange s with cond := some uptoSmall }

/-- 'tsblocklaw05.TimesReads', WHERE WHAT IT READS IS OF BULK AT MOST 1048576: true; the input reads as it did. -/
def timesReadsUptoRow : OpenClaim := { program := "ytdniaingipoggaadoor", sum := "e7b94cf51cca01769f1e034b026272e0973ab65a2ee6759b52aaa74f7643c643", func := "tsblock/tsblocklaw05.TimesReads", spec := "timesReads", unfollowed := true, recurses := true, named := ["tsblock/times.forms"], apart := false, laid := [("tsblock/times.forms", laid_tsblock_times_forms)], narrowed := true }
def TimesReadsUptoSaid : Prop := timesReadsUptoRow.holds Tryd.pinned (OpenSpec.upto timesReadsSpec)

/-- 'tsblocklaw05.TimesAreCanonical', WHERE WHAT IT READS IS OF BULK AT MOST 1048576: true; the input reads as it did. -/
def timesAreCanonicalUptoRow : OpenClaim := { program := "ytdniaingipoggaadoor", sum := "e7b94cf51cca01769f1e034b026272e0973ab65a2ee6759b52aaa74f7643c643", func := "tsblock/tsblocklaw05.TimesAreCanonical", spec := "timesAreCanonical", unfollowed := true, recurses := true, named := ["tsblock/times.forms"], apart := false, laid := [("tsblock/times.forms", laid_tsblock_times_forms)], narrowed := true }
def TimesAreCanonicalUptoSaid : Prop := timesAreCanonicalUptoRow.holds Tryd.pinned (OpenSpec.upto timesAreCanonicalSpec)

/-- 'tsblocklaw05.TimesSizes', WHERE WHAT IT READS IS OF BULK AT MOST 1048576: true; the input reads as it did. -/
def timesSizesUptoRow : OpenClaim := { program := "ytdniaingipoggaadoor", sum := "e7b94cf51cca01769f1e034b026272e0973ab65a2ee6759b52aaa74f7643c643", func := "tsblock/tsblocklaw05.TimesSizes", spec := "timesSizes", unfollowed := true, recurses := true, named := ["tsblock/times.forms"], apart := false, laid := [("tsblock/times.forms", laid_tsblock_times_forms)], narrowed := true }
def TimesSizesUptoSaid : Prop := timesSizesUptoRow.holds Tryd.pinned (OpenSpec.upto timesSizesSpec)

/-- 'tsblocklaw05.TimesWrites', WHERE WHAT IT READS IS OF BULK AT MOST 1048576: true; the input reads as it did. -/
def timesWritesUptoRow : OpenClaim := { program := "ytdniaingipoggaadoor", sum := "e7b94cf51cca01769f1e034b026272e0973ab65a2ee6759b52aaa74f7643c643", func := "tsblock/tsblocklaw05.TimesWrites", spec := "timesWrites", unfollowed := true, recurses := true, named := ["tsblock/times.forms"], apart := false, laid := [("tsblock/times.forms", laid_tsblock_times_forms)], narrowed := true }
def TimesWritesUptoSaid : Prop := timesWritesUptoRow.holds Tryd.pinned (OpenSpec.upto timesWritesSpec)

/-- 'tsblocklaw05.TimesShift', WHERE WHAT IT READS IS OF BULK AT MOST 1048576: true; the input reads as it did. -/
def timesShiftUptoRow : OpenClaim := { program := "ytdniaingipoggaadoor", sum := "e7b94cf51cca01769f1e034b026272e0973ab65a2ee6759b52aaa74f7643c643", func := "tsblock/tsblocklaw05.TimesShift", spec := "timesShift", unfollowed := true, recurses := true, named := ["tsblock/times.forms"], apart := false, laid := [("tsblock/times.forms", laid_tsblock_times_forms)], narrowed := true }
def TimesShiftUptoSaid : Prop := timesShiftUptoRow.holds Tryd.pinned (OpenSpec.upto timesShiftSpec)

/-- 'tsblocklaw05.TimesRoundTrip', WHERE WHAT IT READS IS OF BULK AT MOST 1048576: true; the input reads as it did. -/
def timesRoundTripUptoRow : OpenClaim := { program := "ytdniaingipoggaadoor", sum := "e7b94cf51cca01769f1e034b026272e0973ab65a2ee6759b52aaa74f7643c643", func := "tsblock/tsblocklaw05.TimesRoundTrip", spec := "timesRoundTrip", unfollowed := true, recurses := true, named := ["tsblock/times.forms"], apart := false, laid := [("tsblock/times.forms", laid_tsblock_times_forms)], narrowed := true }
def TimesRoundTripUptoSaid : Prop := timesRoundTripUptoRow.holds Tryd.pinned (OpenSpec.upto timesRoundTripSpec)

/-- 'tsblocklaw06.XorvalReads', WHERE WHAT IT READS IS OF BULK AT MOST 1048576: true; the input reads as it did. -/
def xorvalReadsUptoRow : OpenClaim := { program := "ytdniaingipoggaadoor", sum := "e7b94cf51cca01769f1e034b026272e0973ab65a2ee6759b52aaa74f7643c643", func := "tsblock/tsblocklaw06.XorvalReads", spec := "xorvalReads", unfollowed := true, recurses := true, named := ["math/bits.deBruijn64tab"], apart := false, laid := [("math/bits.deBruijn64tab", laid_math_bits_deBruijn64tab)], narrowed := true }
def XorvalReadsUptoSaid : Prop := xorvalReadsUptoRow.holds Tryd.pinned (OpenSpec.upto xorvalReadsSpec)

/-- 'tsblocklaw06.XorvalIsCanonical', WHERE WHAT IT READS IS OF BULK AT MOST 1048576: true; the input reads as it did. -/
def xorvalIsCanonicalUptoRow : OpenClaim := { program := "ytdniaingipoggaadoor", sum := "e7b94cf51cca01769f1e034b026272e0973ab65a2ee6759b52aaa74f7643c643", func := "tsblock/tsblocklaw06.XorvalIsCanonical", spec := "xorvalIsCanonical", unfollowed := true, recurses := true, named := ["math/bits.deBruijn64tab"], apart := false, laid := [("math/bits.deBruijn64tab", laid_math_bits_deBruijn64tab)], narrowed := true }
def XorvalIsCanonicalUptoSaid : Prop := xorvalIsCanonicalUptoRow.holds Tryd.pinned (OpenSpec.upto xorvalIsCanonicalSpec)

/-- 'tsblocklaw06.XorvalWrites', WHERE WHAT IT READS IS OF BULK AT MOST 1048576: true; the input reads as it did. -/
def xorvalWritesUptoRow : OpenClaim := { program := "ytdniaingipoggaadoor", sum := "e7b94cf51cca01769f1e034b026272e0973ab65a2ee6759b52aaa74f7643c643", func := "tsblock/tsblocklaw06.XorvalWrites", spec := "xorvalWrites", unfollowed := true, recurses := true, named := ["math/bits.deBruijn64tab"], apart := false, laid := [("math/bits.deBruijn64tab", laid_math_bits_deBruijn64tab)], narrowed := true }
def XorvalWritesUptoSaid : Prop := xorvalWritesUptoRow.holds Tryd.pinned (OpenSpec.upto xorvalWritesSpec)

/-- 'tsblocklaw06.XorvalMasks', WHERE WHAT IT READS IS OF BULK AT MOST 1048576: true; the input reads as it did. -/
def xorvalMasksUptoRow : OpenClaim := { program := "ytdniaingipoggaadoor", sum := "e7b94cf51cca01769f1e034b026272e0973ab65a2ee6759b52aaa74f7643c643", func := "tsblock/tsblocklaw06.XorvalMasks", spec := "xorvalMasks", unfollowed := true, recurses := true, named := ["math/bits.deBruijn64tab"], apart := false, laid := [("math/bits.deBruijn64tab", laid_math_bits_deBruijn64tab)], narrowed := true }
def XorvalMasksUptoSaid : Prop := xorvalMasksUptoRow.holds Tryd.pinned (OpenSpec.upto xorvalMasksSpec)

/-- 'tsblocklaw06.XorvalRoundTrip', WHERE WHAT IT READS IS OF BULK AT MOST 1048576: true; the input reads as it did. -/
def xorvalRoundTripUptoRow : OpenClaim := { program := "ytdniaingipoggaadoor", sum := "e7b94cf51cca01769f1e034b026272e0973ab65a2ee6759b52aaa74f7643c643", func := "tsblock/tsblocklaw06.XorvalRoundTrip", spec := "xorvalRoundTrip", unfollowed := true, recurses := true, named := ["math/bits.deBruijn64tab"], apart := false, laid := [("math/bits.deBruijn64tab", laid_math_bits_deBruijn64tab)], narrowed := true }
def XorvalRoundTripUptoSaid : Prop := xorvalRoundTripUptoRow.holds Tryd.pinned (OpenSpec.upto xorvalRoundTripSpec)

/-- 'tsblocklaw06.XorvalSizes', WHERE WHAT IT READS IS OF BULK AT MOST 1048576: true; the input reads as it did. -/
def xorvalSizesUptoRow : OpenClaim := { program := "ytdniaingipoggaadoor", sum := "e7b94cf51cca01769f1e034b026272e0973ab65a2ee6759b52aaa74f7643c643", func := "tsblock/tsblocklaw06.XorvalSizes", spec := "xorvalSizes", unfollowed := true, recurses := true, named := ["math/bits.deBruijn64tab"], apart := false, laid := [("math/bits.deBruijn64tab", laid_math_bits_deBruijn64tab)], narrowed := true }
def XorvalSizesUptoSaid : Prop := xorvalSizesUptoRow.holds Tryd.pinned (OpenSpec.upto xorvalSizesSpec)

end Rows
end Go.Proofs.YtdniaingipoggaaDoor
