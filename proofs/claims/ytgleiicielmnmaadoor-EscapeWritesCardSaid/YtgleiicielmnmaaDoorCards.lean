/-
  DERIVED. GIVEN WITH THE SEED: THE CARDS: each row of YtgleiicielmnmaaDoorRows.lean that lists a variable, with what it lists TIED to the program's text (the seventh form; the later family's looks); each row that meets fmt, with fmt's text TOLD by the authors' own Lean function (tested against real Go, not proved from fmt's source: count such statements apart). THE CARD IS WHAT COUNTS. Prove the row's statement (the work); the ties are given (YtgleiicielmnmaaDoorTie.lean); close each card by the builder's one call (the guide's Derived/Test/ToyasCard.lean, 'card_holds'). Laid BY PROGRAM, IN A SANDBOX (cutbox-door.mjs). By AI agents, Wed Nov 11 2026. No macro, syntax, notation, axiom, sorry.
-/
import Derived.Test.YtgleiicielmnmaaDoorRows
import GoSem.ClaimSeven
namespace Go.Proofs.YtgleiicielmnmaaDoor
namespace Rows

/-- THE TIED CARD OF 'tsblocklaw22.EscapeUnquotes'. -/
def escapeUnquotesCard : Claim7 := { stood := { row := escapeUnquotesRow, standIns := [], harness := (true, "2c4556f6f407b5e59f18e99ec36799e96f36dd3bf11876827e8442c63dd43022"), looks := true }, kinds := [], alts := [], laidByText := true, laidKinds := [.data, .data, .data, .data, .data, .pinned], laidTests := true, laidLooks := .later }
def EscapeUnquotesCardSaid : Prop := Claim7.holds Tryd.pinned (.plain (OpenSpec.ofChange escapeUnquotesSpec)) escapeUnquotesCard

/-- THE TIED CARD OF 'tsblocklaw22.EscapeRoundTrip'. -/
def escapeRoundTripCard : Claim7 := { stood := { row := escapeRoundTripRow, standIns := [], harness := (true, "2c4556f6f407b5e59f18e99ec36799e96f36dd3bf11876827e8442c63dd43022"), looks := true }, kinds := [], alts := [], laidByText := true, laidKinds := [.data, .data, .data, .data, .data, .pinned], laidTests := true, laidLooks := .later }
def EscapeRoundTripCardSaid : Prop := Claim7.holds Tryd.pinned (.plain (OpenSpec.ofChange escapeRoundTripSpec)) escapeRoundTripCard

/-- THE TIED CARD OF 'tsblocklaw22.EscapeIsCanonical'. -/
def escapeIsCanonicalCard : Claim7 := { stood := { row := escapeIsCanonicalRow, standIns := [], harness := (true, "2c4556f6f407b5e59f18e99ec36799e96f36dd3bf11876827e8442c63dd43022"), looks := true }, kinds := [], alts := [], laidByText := true, laidKinds := [.data, .data, .data, .data, .data, .pinned], laidTests := true, laidLooks := .later }
def EscapeIsCanonicalCardSaid : Prop := Claim7.holds Tryd.pinned (.plain (OpenSpec.ofChange escapeIsCanonicalSpec)) escapeIsCanonicalCard

/-- THE TIED CARD OF 'tsblocklaw22.EscapeQuotes'. -/
def escapeQuotesCard : Claim7 := { stood := { row := escapeQuotesRow, standIns := [], harness := (true, "2c4556f6f407b5e59f18e99ec36799e96f36dd3bf11876827e8442c63dd43022"), looks := true }, kinds := [], alts := [], laidByText := true, laidKinds := [.data, .data, .data, .data, .data, .pinned], laidTests := true, laidLooks := .later }
def EscapeQuotesCardSaid : Prop := Claim7.holds Tryd.pinned (.plain (OpenSpec.ofChange escapeQuotesSpec)) escapeQuotesCard

/-- THE TIED CARD OF 'tsblocklaw22.EscapeNumbers'. -/
def escapeNumbersCard : Claim7 := { stood := { row := escapeNumbersRow, standIns := [], harness := (true, "2c4556f6f407b5e59f18e99ec36799e96f36dd3bf11876827e8442c63dd43022"), looks := true }, kinds := [], alts := [], laidByText := true, laidKinds := [.data, .data, .data, .data, .sentinel, .sentinel, .data, .pinned], laidTests := true, laidLooks := .later }
def EscapeNumbersCardSaid : Prop := Claim7.holds Tryd.pinned (.plain (OpenSpec.ofChange escapeNumbersSpec)) escapeNumbersCard

/-- THE TIED CARD OF 'tsblocklaw22.EscapeWrites'. -/
def escapeWritesCard : Claim7 := { stood := { row := escapeWritesRow, standIns := [], harness := (true, "2c4556f6f407b5e59f18e99ec36799e96f36dd3bf11876827e8442c63dd43022"), looks := true }, kinds := [], alts := [], laidByText := true, laidKinds := [.data, .data, .data, .data, .sentinel, .sentinel, .data, .pinned], laidTests := true, laidLooks := .later }
def EscapeWritesCardSaid : Prop := Claim7.holds Tryd.pinned (.plain (OpenSpec.ofChange escapeWritesSpec)) escapeWritesCard

/-- THE SECOND FORM's CARD OF 'tsblocklaw22.EscapeUnquotes'. -/
def escapeUnquotesUptoCard : Claim7 := { stood := { row := escapeUnquotesUptoRow, standIns := [], harness := (true, "2c4556f6f407b5e59f18e99ec36799e96f36dd3bf11876827e8442c63dd43022"), looks := true }, kinds := [], alts := [], laidByText := true, laidKinds := [.data, .data, .data, .data, .data, .pinned], laidTests := true, laidLooks := .later }
def EscapeUnquotesUptoCardSaid : Prop := Claim7.holds Tryd.pinned (.plain (OpenSpec.upto escapeUnquotesSpec)) escapeUnquotesUptoCard

/-- THE SECOND FORM's CARD OF 'tsblocklaw22.EscapeRoundTrip'. -/
def escapeRoundTripUptoCard : Claim7 := { stood := { row := escapeRoundTripUptoRow, standIns := [], harness := (true, "2c4556f6f407b5e59f18e99ec36799e96f36dd3bf11876827e8442c63dd43022"), looks := true }, kinds := [], alts := [], laidByText := true, laidKinds := [.data, .data, .data, .data, .data, .pinned], laidTests := true, laidLooks := .later }
def EscapeRoundTripUptoCardSaid : Prop := Claim7.holds Tryd.pinned (.plain (OpenSpec.upto escapeRoundTripSpec)) escapeRoundTripUptoCard

/-- THE SECOND FORM's CARD OF 'tsblocklaw22.EscapeIsCanonical'. -/
def escapeIsCanonicalUptoCard : Claim7 := { stood := { row := escapeIsCanonicalUptoRow, standIns := [], harness := (true, "2c4556f6f407b5e59f18e99ec36799e96f36dd3bf11876827e8442c63dd43022"), looks := true }, kinds := [], alts := [], laidByText := true, laidKinds := [.data, .data, .data, .data, .data, .pinned], laidTests := true, laidLooks := .later }
def EscapeIsCanonicalUptoCardSaid : Prop := Claim7.holds Tryd.pinned (.plain (OpenSpec.upto escapeIsCanonicalSpec)) escapeIsCanonicalUptoCard

/-- THE SECOND FORM's CARD OF 'tsblocklaw22.EscapeQuotes'. -/
def escapeQuotesUptoCard : Claim7 := { stood := { row := escapeQuotesUptoRow, standIns := [], harness := (true, "2c4556f6f407b5e59f18e99ec36799e96f36dd3bf11876827e8442c63dd43022"), looks := true }, kinds := [], alts := [], laidByText := true, laidKinds := [.data, .data, .data, .data, .data, .pinned], laidTests := true, laidLooks := .later }
def EscapeQuotesUptoCardSaid : Prop := Claim7.holds Tryd.pinned (.plain (OpenSpec.upto escapeQuotesSpec)) escapeQuotesUptoCard

/-- THE SECOND FORM's CARD OF 'tsblocklaw22.EscapeNumbers'. -/
def escapeNumbersUptoCard : Claim7 := { stood := { row := escapeNumbersUptoRow, standIns := [], harness := (true, "2c4556f6f407b5e59f18e99ec36799e96f36dd3bf11876827e8442c63dd43022"), looks := true }, kinds := [], alts := [], laidByText := true, laidKinds := [.data, .data, .data, .data, .sentinel, .sentinel, .data, .pinned], laidTests := true, laidLooks := .later }
def EscapeNumbersUptoCardSaid : Prop := Claim7.holds Tryd.pinned (.plain (OpenSpec.upto escapeNumbersSpec)) escapeNumbersUptoCard

/-- THE SECOND FORM's CARD OF 'tsblocklaw22.EscapeWrites'. -/
def escapeWritesUptoCard : Claim7 := { stood := { row := escapeWritesUptoRow, standIns := [], harness := (true, "2c4556f6f407b5e59f18e99ec36799e96f36dd3bf11876827e8442c63dd43022"), looks := true }, kinds := [], alts := [], laidByText := true, laidKinds := [.data, .data, .data, .data, .sentinel, .sentinel, .data, .pinned], laidTests := true, laidLooks := .later }
def EscapeWritesUptoCardSaid : Prop := Claim7.holds Tryd.pinned (.plain (OpenSpec.upto escapeWritesSpec)) escapeWritesUptoCard
end Rows
end Go.Proofs.YtgleiicielmnmaaDoor
