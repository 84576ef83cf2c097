/-
  DERIVED. GIVEN WITH THE SEED: THE CARDS: each row of YtdniaingipoggaaDoorRows.lean that lists a variable, with what it lists TIED to the program's text (the seventh form; the later family's looks); each row that meets fmt, with fmt's text TOLD by the authors' own Lean function (tested against real Go, not proved from fmt's source: count such statements apart). THE CARD IS WHAT COUNTS. Prove the row's statement (the work); the ties are given (YtdniaingipoggaaDoorTie.lean); close each card by the builder's one call (the guide's Derived/Test/ToyasCard.lean, 'card_holds'). Laid BY PROGRAM, IN A SANDBOX (cutbox-door.mjs). By AI agents, Wed Nov 11 2026. No macro, syntax, notation, axiom, sorry.
-/
import Derived.Test.YtdniaingipoggaaDoorRows
import GoSem.ClaimSeven
namespace Go.Proofs.YtdniaingipoggaaDoor
namespace Rows

/-- THE TIED CARD OF 'tsblocklaw05.TimesReads'. -/
def timesReadsCard : Claim7 := { stood := { row := timesReadsRow, standIns := [], harness := (true, "3f1bb72a947943ff9e970c17f2b5a184f3f6491429bcfe80cbb6f749d564d892"), looks := false }, kinds := [], alts := [], laidByText := true, laidKinds := [.data], laidTests := true, laidLooks := .later }
def TimesReadsCardSaid : Prop := Claim7.holds Tryd.pinned (.plain (OpenSpec.ofChange timesReadsSpec)) timesReadsCard

/-- THE TIED CARD OF 'tsblocklaw05.TimesAreCanonical'. -/
def timesAreCanonicalCard : Claim7 := { stood := { row := timesAreCanonicalRow, standIns := [], harness := (true, "3f1bb72a947943ff9e970c17f2b5a184f3f6491429bcfe80cbb6f749d564d892"), looks := false }, kinds := [], alts := [], laidByText := true, laidKinds := [.data], laidTests := true, laidLooks := .later }
def TimesAreCanonicalCardSaid : Prop := Claim7.holds Tryd.pinned (.plain (OpenSpec.ofChange timesAreCanonicalSpec)) timesAreCanonicalCard

/-- THE TIED CARD OF 'tsblocklaw05.TimesSizes'. -/
def timesSizesCard : Claim7 := { stood := { row := timesSizesRow, standIns := [], harness := (true, "3f1bb72a947943ff9e970c17f2b5a184f3f6491429bcfe80cbb6f749d564d892"), looks := false }, kinds := [], alts := [], laidByText := true, laidKinds := [.data], laidTests := true, laidLooks := .later }
def TimesSizesCardSaid : Prop := Claim7.holds Tryd.pinned (.plain (OpenSpec.ofChange timesSizesSpec)) timesSizesCard

/-- THE TIED CARD OF 'tsblocklaw05.TimesWrites'. -/
def timesWritesCard : Claim7 := { stood := { row := timesWritesRow, standIns := [], harness := (true, "3f1bb72a947943ff9e970c17f2b5a184f3f6491429bcfe80cbb6f749d564d892"), looks := false }, kinds := [], alts := [], laidByText := true, laidKinds := [.data], laidTests := true, laidLooks := .later }
def TimesWritesCardSaid : Prop := Claim7.holds Tryd.pinned (.plain (OpenSpec.ofChange timesWritesSpec)) timesWritesCard

/-- THE TIED CARD OF 'tsblocklaw05.TimesShift'. -/
def timesShiftCard : Claim7 := { stood := { row := timesShiftRow, standIns := [], harness := (true, "3f1bb72a947943ff9e970c17f2b5a184f3f6491429bcfe80cbb6f749d564d892"), looks := false }, kinds := [], alts := [], laidByText := true, laidKinds := [.data], laidTests := true, laidLooks := .later }
def TimesShiftCardSaid : Prop := Claim7.holds Tryd.pinned (.plain (OpenSpec.ofChange timesShiftSpec)) timesShiftCard

/-- THE TIED CARD OF 'tsblocklaw05.TimesRoundTrip'. -/
def timesRoundTripCard : Claim7 := { stood := { row := timesRoundTripRow, standIns := [], harness := (true, "3f1bb72a947943ff9e970c17f2b5a184f3f6491429bcfe80cbb6f749d564d892"), looks := false }, kinds := [], alts := [], laidByText := true, laidKinds := [.data], laidTests := true, laidLooks := .later }
def TimesRoundTripCardSaid : Prop := Claim7.holds Tryd.pinned (.plain (OpenSpec.ofChange timesRoundTripSpec)) timesRoundTripCard

/-- THE TIED CARD OF 'tsblocklaw06.XorvalReads'. -/
def xorvalReadsCard : Claim7 := { stood := { row := xorvalReadsRow, standIns := [], harness := (true, "3f1bb72a947943ff9e970c17f2b5a184f3f6491429bcfe80cbb6f749d564d892"), looks := false }, kinds := [], alts := [], laidByText := true, laidKinds := [.data], laidTests := true, laidLooks := .later }
def XorvalReadsCardSaid : Prop := Claim7.holds Tryd.pinned (.plain (OpenSpec.ofChange xorvalReadsSpec)) xorvalReadsCard

/-- THE TIED CARD OF 'tsblocklaw06.XorvalIsCanonical'. -/
def xorvalIsCanonicalCard : Claim7 := { stood := { row := xorvalIsCanonicalRow, standIns := [], harness := (true, "3f1bb72a947943ff9e970c17f2b5a184f3f6491429bcfe80cbb6f749d564d892"), looks := false }, kinds := [], alts := [], laidByText := true, laidKinds := [.data], laidTests := true, laidLooks := .later }
def XorvalIsCanonicalCardSaid : Prop := Claim7.holds Tryd.pinned (.plain (OpenSpec.ofChange xorvalIsCanonicalSpec)) xorvalIsCanonicalCard

/-- THE TIED CARD OF 'tsblocklaw06.XorvalWrites'. -/
def xorvalWritesCard : Claim7 := { stood := { row := xorvalWritesRow, standIns := [], harness := (true, "3f1bb72a947943ff9e970c17f2b5a184f3f6491429bcfe80cbb6f749d564d892"), looks := false }, kinds := [], alts := [], laidByText := true, laidKinds := [.data], laidTests := true, laidLooks := .later }
def XorvalWritesCardSaid : Prop := Claim7.holds Tryd.pinned (.plain (OpenSpec.ofChange xorvalWritesSpec)) xorvalWritesCard

/-- THE TIED CARD OF 'tsblocklaw06.XorvalMasks'. -/
def xorvalMasksCard : Claim7 := { stood := { row := xorvalMasksRow, standIns := [], harness := (true, "3f1bb72a947943ff9e970c17f2b5a184f3f6491429bcfe80cbb6f749d564d892"), looks := false }, kinds := [], alts := [], laidByText := true, laidKinds := [.data], laidTests := true, laidLooks := .later }
def XorvalMasksCardSaid : Prop := Claim7.holds Tryd.pinned (.plain (OpenSpec.ofChange xorvalMasksSpec)) xorvalMasksCard

/-- THE TIED CARD OF 'tsblocklaw06.XorvalRoundTrip'. -/
def xorvalRoundTripCard : Claim7 := { stood := { row := xorvalRoundTripRow, standIns := [], harness := (true, "3f1bb72a947943ff9e970c17f2b5a184f3f6491429bcfe80cbb6f749d564d892"), looks := false }, kinds := [], alts := [], laidByText := true, laidKinds := [.data], laidTests := true, laidLooks := .later }
def XorvalRoundTripCardSaid : Prop := Claim7.holds Tryd.pinned (.plain (OpenSpec.ofChange xorvalRoundTripSpec)) xorvalRoundTripCard

/-- THE TIED CARD OF 'tsblocklaw06.XorvalSizes'. -/
def xorvalSizesCard : Claim7 := { stood := { row := xorvalSizesRow, standIns := [], harness := (true, "3f1bb72a947943ff9e970c17f2b5a184f3f6491429bcfe80cbb6f749d564d892"), looks := false }, kinds := [], alts := [], laidByText := true, laidKinds := [.data], laidTests := true, laidLooks := .later }
def XorvalSizesCardSaid : Prop := Claim7.holds Tryd.pinned (.plain (OpenSpec.ofChange xorvalSizesSpec)) xorvalSizesCard

/-- THE SECOND FORM's CARD OF 'tsblocklaw05.TimesReads'. -/
def timesReadsUptoCard : Claim7 := { stood := { row := timesReadsUptoRow, standIns := [], harness := (true, "3f1bb72a947943ff9e970c17f2b5a184f3f6491429bcfe80cbb6f749d564d892"), looks := false }, kinds := [], alts := [], laidByText := true, laidKinds := [.data], laidTests := true, laidLooks := .later }
def TimesReadsUptoCardSaid : Prop := Claim7.holds Tryd.pinned (.plain (OpenSpec.upto timesReadsSpec)) timesReadsUptoCard

/-- THE SECOND FORM's CARD OF 'tsblocklaw05.TimesAreCanonical'. -/
def timesAreCanonicalUptoCard : Claim7 := { stood := { row := timesAreCanonicalUptoRow, standIns := [], harness := (true, "3f1bb72a947943ff9e970c17f2b5a184f3f6491429bcfe80cbb6f749d564d892"), looks := false }, kinds := [], alts := [], laidByText := true, laidKinds := [.data], laidTests := true, laidLooks := .later }
def TimesAreCanonicalUptoCardSaid : Prop := Claim7.holds Tryd.pinned (.plain (OpenSpec.upto timesAreCanonicalSpec)) timesAreCanonicalUptoCard

/-- THE SECOND FORM's CARD OF 'tsblocklaw05.TimesSizes'. -/
def timesSizesUptoCard : Claim7 := { stood := { row := timesSizesUptoRow, standIns := [], harness := (true, "3f1bb72a947943ff9e970c17f2b5a184f3f6491429bcfe80cbb6f749d564d892"), looks := false }, kinds := [], alts := [], laidByText := true, laidKinds := [.data], laidTests := true, laidLooks := .later }
def TimesSizesUptoCardSaid : Prop := Claim7.holds Tryd.pinned (.plain (OpenSpec.upto timesSizesSpec)) timesSizesUptoCard

/-- THE SECOND FORM's CARD OF 'tsblocklaw05.TimesWrites'. -/
def timesWritesUptoCard : Claim7 := { stood := { row := timesWritesUptoRow, standIns := [], harness := (true, "3f1bb72a947943ff9e970c17f2b5a184f3f6491429bcfe80cbb6f749d564d892"), looks := false }, kinds := [], alts := [], laidByText := true, laidKinds := [.data], laidTests := true, laidLooks := .later }
def TimesWritesUptoCardSaid : Prop := Claim7.holds Tryd.pinned (.plain (OpenSpec.upto timesWritesSpec)) timesWritesUptoCard

/-- THE SECOND FORM's CARD OF 'tsblocklaw05.TimesShift'. -/
def timesShiftUptoCard : Claim7 := { stood := { row := timesShiftUptoRow, standIns := [], harness := (true, "3f1bb72a947943ff9e970c17f2b5a184f3f6491429bcfe80cbb6f749d564d892"), looks := false }, kinds := [], alts := [], laidByText := true, laidKinds := [.data], laidTests := true, laidLooks := .later }
def TimesShiftUptoCardSaid : Prop := Claim7.holds Tryd.pinned (.plain (OpenSpec.upto timesShiftSpec)) timesShiftUptoCard

/-- THE SECOND FORM's CARD OF 'tsblocklaw05.TimesRoundTrip'. -/
def timesRoundTripUptoCard : Claim7 := { stood := { row := timesRoundTripUptoRow, standIns := [], harness := (true, "3f1bb72a947943ff9e970c17f2b5a184f3f6491429bcfe80cbb6f749d564d892"), looks := false }, kinds := [], alts := [], laidByText := true, laidKinds := [.data], laidTests := true, laidLooks := .later }
def TimesRoundTripUptoCardSaid : Prop := Claim7.holds Tryd.pinned (.plain (OpenSpec.upto timesRoundTripSpec)) timesRoundTripUptoCard

/-- THE SECOND FORM's CARD OF 'tsblocklaw06.XorvalReads'. -/
def xorvalReadsUptoCard : Claim7 := { stood := { row := xorvalReadsUptoRow, standIns := [], harness := (true, "3f1bb72a947943ff9e970c17f2b5a184f3f6491429bcfe80cbb6f749d564d892"), looks := false }, kinds := [], alts := [], laidByText := true, laidKinds := [.data], laidTests := true, laidLooks := .later }
def XorvalReadsUptoCardSaid : Prop := Claim7.holds Tryd.pinned (.plain (OpenSpec.upto xorvalReadsSpec)) xorvalReadsUptoCard

/-- THE SECOND FORM's CARD OF 'tsblocklaw06.XorvalIsCanonical'. -/
def xorvalIsCanonicalUptoCard : Claim7 := { stood := { row := xorvalIsCanonicalUptoRow, standIns := [], harness := (true, "3f1bb72a947943ff9e970c17f2b5a184f3f6491429bcfe80cbb6f749d564d892"), looks := false }, kinds := [], alts := [], laidByText := true, laidKinds := [.data], laidTests := true, laidLooks := .later }
def XorvalIsCanonicalUptoCardSaid : Prop := Claim7.holds Tryd.pinned (.plain (OpenSpec.upto xorvalIsCanonicalSpec)) xorvalIsCanonicalUptoCard

/-- THE SECOND FORM's CARD OF 'tsblocklaw06.XorvalWrites'. -/
def xorvalWritesUptoCard : Claim7 := { stood := { row := xorvalWritesUptoRow, standIns := [], harness := (true, "3f1bb72a947943ff9e970c17f2b5a184f3f6491429bcfe80cbb6f749d564d892"), looks := false }, kinds := [], alts := [], laidByText := true, laidKinds := [.data], laidTests := true, laidLooks := .later }
def XorvalWritesUptoCardSaid : Prop := Claim7.holds Tryd.pinned (.plain (OpenSpec.upto xorvalWritesSpec)) xorvalWritesUptoCard

/-- THE SECOND FORM's CARD OF 'tsblocklaw06.XorvalMasks'. -/
def xorvalMasksUptoCard : Claim7 := { stood := { row := xorvalMasksUptoRow, standIns := [], harness := (true, "3f1bb72a947943ff9e970c17f2b5a184f3f6491429bcfe80cbb6f749d564d892"), looks := false }, kinds := [], alts := [], laidByText := true, laidKinds := [.data], laidTests := true, laidLooks := .later }
def XorvalMasksUptoCardSaid : Prop := Claim7.holds Tryd.pinned (.plain (OpenSpec.upto xorvalMasksSpec)) xorvalMasksUptoCard

/-- THE SECOND FORM's CARD OF 'tsblocklaw06.XorvalRoundTrip'. -/
def xorvalRoundTripUptoCard : Claim7 := { stood := { row := xorvalRoundTripUptoRow, standIns := [], harness := (true, "3f1bb72a947943ff9e970c17f2b5a184f3f6491429bcfe80cbb6f749d564d892"), looks := false }, kinds := [], alts := [], laidByText := true, laidKinds := [.data], laidTests := true, laidLooks := .later }
def XorvalRoundTripUptoCardSaid : Prop := Claim7.holds Tryd.pinned (.plain (OpenSpec.upto xorvalRoundTripSpec)) xorvalRoundTripUptoCard

/-- THE SECOND FORM's CARD OF 'tsblocklaw06.XorvalSizes'. -/
def xorvalSizesUptoCard : Claim7 := { stood := { row := xorvalSizesUptoRow, standIns := [], harness := (true, "3f1bb72a947943ff9e970c17f2b5a184f3f6491429bcfe80cbb6f749d564d892"), looks := false }, kinds := [], alts := [], laidByText := true, laidKinds := [.data], laidTests := true, laidLooks := .later }
def XorvalSizesUptoCardSaid : Prop := Claim7.holds Tryd.pinned (.plain (OpenSpec.upto xorvalSizesSpec)) xorvalSizesUptoCard
end Rows
end Go.Proofs.YtdniaingipoggaaDoor
