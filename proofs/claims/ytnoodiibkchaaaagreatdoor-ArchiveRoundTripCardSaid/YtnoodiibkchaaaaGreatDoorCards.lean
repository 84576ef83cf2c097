/-
  DERIVED. GIVEN WITH THE SEED: THE CARDS: each row of YtnoodiibkchaaaaGreatDoorRows.lean that lists a variable, with what it lists TIED to the program's text (the seventh form; the later family's looks); each row that meets fmt, with fmt's text TOLD by the authors' own Lean function (tested against real Go, not proved from fmt's source: count such statements apart). THE CARD IS WHAT COUNTS. Prove the row's statement (the work); the ties are given (YtnoodiibkchaaaaGreatDoorTie.lean); close each card by the builder's one call (the guide's Derived/Test/ToyasCard.lean, 'card_holds'). Laid BY PROGRAM, IN A SANDBOX (cutbox-door.mjs). By AI agents, Wed Nov 11 2026. No macro, syntax, notation, axiom, sorry.
-/
import Derived.Test.YtnoodiibkchaaaaGreatDoorRows
import GoSem.ClaimSeven
namespace Go.Proofs.YtnoodiibkchaaaaGreatDoor
namespace Rows

/-- THE TIED CARD OF 'tsblocklaw23.ArchiveExports'. -/
def archiveExportsCard : Claim7 := { stood := { row := archiveExportsRow, standIns := [], harness := (true, "1add8cc53021f6e57bd905323332677b02d54da743dca7fd17a06e0fcd28aa0e"), looks := true }, kinds := [], alts := [], laidByText := true, laidKinds := [.data, .data, .data, .data, .sentinel, .sentinel, .data, .pinned], laidTests := true, laidLooks := .later }
def ArchiveExportsCardSaid : Prop := Claim7.holds Tryz.pinned (.plain (OpenSpec.ofChange archiveExportsSpec)) archiveExportsCard

/-- THE TIED CARD OF 'tsblocklaw23.ArchiveImports'. -/
def archiveImportsCard : Claim7 := { stood := { row := archiveImportsRow, standIns := [], harness := (true, "1add8cc53021f6e57bd905323332677b02d54da743dca7fd17a06e0fcd28aa0e"), looks := true }, kinds := [], alts := [], laidByText := true, laidKinds := [.data, .data, .data, .data, .sentinel, .sentinel, .data, .pinned], laidTests := true, laidLooks := .later }
def ArchiveImportsCardSaid : Prop := Claim7.holds Tryz.pinned (.plain (OpenSpec.ofChange archiveImportsSpec)) archiveImportsCard

/-- THE TIED CARD OF 'tsblocklaw23.ArchiveIsCanonical'. -/
def archiveIsCanonicalCard : Claim7 := { stood := { row := archiveIsCanonicalRow, standIns := [], harness := (true, "1add8cc53021f6e57bd905323332677b02d54da743dca7fd17a06e0fcd28aa0e"), looks := true }, kinds := [], alts := [], laidByText := true, laidKinds := [.data, .data, .data, .data, .sentinel, .sentinel, .data, .pinned], laidTests := true, laidLooks := .later }
def ArchiveIsCanonicalCardSaid : Prop := Claim7.holds Tryz.pinned (.plain (OpenSpec.ofChange archiveIsCanonicalSpec)) archiveIsCanonicalCard

/-- THE TIED CARD OF 'tsblocklaw23.ArchiveHeads'. -/
def archiveHeadsCard : Claim7 := { stood := { row := archiveHeadsRow, standIns := [], harness := (true, "1add8cc53021f6e57bd905323332677b02d54da743dca7fd17a06e0fcd28aa0e"), looks := true }, kinds := [], alts := [], laidByText := true, laidKinds := [.data, .data, .data, .data, .sentinel, .sentinel, .data, .pinned], laidTests := true, laidLooks := .later }
def ArchiveHeadsCardSaid : Prop := Claim7.holds Tryz.pinned (.plain (OpenSpec.ofChange archiveHeadsSpec)) archiveHeadsCard

/-- THE TIED CARD OF 'tsblocklaw23.ArchiveParsesHeads'. -/
def archiveParsesHeadsCard : Claim7 := { stood := { row := archiveParsesHeadsRow, standIns := [], harness := (true, "1add8cc53021f6e57bd905323332677b02d54da743dca7fd17a06e0fcd28aa0e"), looks := true }, kinds := [], alts := [], laidByText := true, laidKinds := [.data, .data, .data, .data, .sentinel, .sentinel, .data, .pinned], laidTests := true, laidLooks := .later }
def ArchiveParsesHeadsCardSaid : Prop := Claim7.holds Tryz.pinned (.plain (OpenSpec.ofChange archiveParsesHeadsSpec)) archiveParsesHeadsCard

/-- THE TIED CARD OF 'tsblocklaw23.ArchiveRoundTrip'. -/
def archiveRoundTripCard : Claim7 := { stood := { row := archiveRoundTripRow, standIns := [], harness := (true, "1add8cc53021f6e57bd905323332677b02d54da743dca7fd17a06e0fcd28aa0e"), looks := true }, kinds := [], alts := [], laidByText := true, laidKinds := [.data, .data, .data, .data, .sentinel, .sentinel, .data, .pinned], laidTests := true, laidLooks := .later }
def ArchiveRoundTripCardSaid : Prop := Claim7.holds Tryz.pinned (.plain (OpenSpec.ofChange archiveRoundTripSpec)) archiveRoundTripCard

/-- THE SECOND FORM's CARD OF 'tsblocklaw23.ArchiveExports'. -/
def archiveExportsUptoCard : Claim7 := { stood := { row := archiveExportsUptoRow, standIns := [], harness := (true, "1add8cc53021f6e57bd905323332677b02d54da743dca7fd17a06e0fcd28aa0e"), looks := true }, kinds := [], alts := [], laidByText := true, laidKinds := [.data, .data, .data, .data, .sentinel, .sentinel, .data, .pinned], laidTests := true, laidLooks := .later }
def ArchiveExportsUptoCardSaid : Prop := Claim7.holds Tryz.pinned (.plain (OpenSpec.upto archiveExportsSpec)) archiveExportsUptoCard

/-- THE SECOND FORM's CARD OF 'tsblocklaw23.ArchiveImports'. -/
def archiveImportsUptoCard : Claim7 := { stood := { row := archiveImportsUptoRow, standIns := [], harness := (true, "1add8cc53021f6e57bd905323332677b02d54da743dca7fd17a06e0fcd28aa0e"), looks := true }, kinds := [], alts := [], laidByText := true, laidKinds := [.data, .data, .data, .data, .sentinel, .sentinel, .data, .pinned], laidTests := true, laidLooks := .later }
def ArchiveImportsUptoCardSaid : Prop := Claim7.holds Tryz.pinned (.plain (OpenSpec.upto archiveImportsSpec)) archiveImportsUptoCard

/-- THE SECOND FORM's CARD OF 'tsblocklaw23.ArchiveIsCanonical'. -/
def archiveIsCanonicalUptoCard : Claim7 := { stood := { row := archiveIsCanonicalUptoRow, standIns := [], harness := (true, "1add8cc53021f6e57bd905323332677b02d54da743dca7fd17a06e0fcd28aa0e"), looks := true }, kinds := [], alts := [], laidByText := true, laidKinds := [.data, .data, .data, .data, .sentinel, .sentinel, .data, .pinned], laidTests := true, laidLooks := .later }
def ArchiveIsCanonicalUptoCardSaid : Prop := Claim7.holds Tryz.pinned (.plain (OpenSpec.upto archiveIsCanonicalSpec)) archiveIsCanonicalUptoCard

/-- THE SECOND FORM's CARD OF 'tsblocklaw23.ArchiveHeads'. -/
def archiveHeadsUptoCard : Claim7 := { stood := { row := archiveHeadsUptoRow, standIns := [], harness := (true, "1add8cc53021f6e57bd905323332677b02d54da743dca7fd17a06e0fcd28aa0e"), looks := true }, kinds := [], alts := [], laidByText := true, laidKinds := [.data, .data, .data, .data, .sentinel, .sentinel, .data, .pinned], laidTests := true, laidLooks := .later }
def ArchiveHeadsUptoCardSaid : Prop := Claim7.holds Tryz.pinned (.plain (OpenSpec.upto archiveHeadsSpec)) archiveHeadsUptoCard

/-- THE SECOND FORM's CARD OF 'tsblocklaw23.ArchiveParsesHeads'. -/
def archiveParsesHeadsUptoCard : Claim7 := { stood := { row := archiveParsesHeadsUptoRow, standIns := [], harness := (true, "1add8cc53021f6e57bd905323332677b02d54da743dca7fd17a06e0fcd28aa0e"), looks := true }, kinds := [], alts := [], laidByText := true, laidKinds := [.data, .data, .data, .data, .sentinel, .sentinel, .data, .pinned], laidTests := true, laidLooks := .later }
def ArchiveParsesHeadsUptoCardSaid : Prop := Claim7.holds Tryz.pinned (.plain (OpenSpec.upto archiveParsesHeadsSpec)) archiveParsesHeadsUptoCard

/-- THE SECOND FORM's CARD OF 'tsblocklaw23.ArchiveRoundTrip'. -/
def archiveRoundTripUptoCard : Claim7 := { stood := { row := archiveRoundTripUptoRow, standIns := [], harness := (true, "1add8cc53021f6e57bd905323332677b02d54da743dca7fd17a06e0fcd28aa0e"), looks := true }, kinds := [], alts := [], laidByText := true, laidKinds := [.data, .data, .data, .data, .sentinel, .sentinel, .data, .pinned], laidTests := true, laidLooks := .later }
def ArchiveRoundTripUptoCardSaid : Prop := Claim7.holds Tryz.pinned (.plain (OpenSpec.upto archiveRoundTripSpec)) archiveRoundTripUptoCard
end Rows
end Go.Proofs.YtnoodiibkchaaaaGreatDoor
