/-
  DERIVED. GIVEN WITH THE SEED: THE CARDS: each row of YtfpcgcbehdogjaaGreatDoorRows.lean that lists a variable, with what it lists TIED to the program's text (the seventh form; the later family's looks); each row that meets fmt, with fmt's text TOLD by the authors' own Lean function (tested against real Go, not proved from fmt's source: count such statements apart). THE CARD IS WHAT COUNTS. Prove the row's statement (the work); the ties are given (YtfpcgcbehdogjaaGreatDoorTie.lean); close each card by the builder's one call (the guide's Derived/Test/ToyasCard.lean, 'card_holds'). Laid BY PROGRAM, IN A SANDBOX (cutbox-door.mjs). By AI agents, Wed Nov 11 2026. No macro, syntax, notation, axiom, sorry.
-/
import Derived.Test.YtfpcgcbehdogjaaGreatDoorRows
import GoSem.ClaimSeven
namespace Go.Proofs.YtfpcgcbehdogjaaGreatDoor
namespace Rows

/-- THE TIED CARD OF 'tsblocktop.TopChunks'. -/
def topChunksCard : Claim7 := { stood := { row := topChunksRow, standIns := [], harness := (true, "d39850d1a4ce299b07da997cec6d66e12b9b7bc9747e8f2cf3b4f536b2935c86"), looks := true }, kinds := [], alts := [], laidByText := true, laidKinds := [.data, .data, .data], laidTests := true, laidLooks := .later }
def TopChunksCardSaid : Prop := Claim7.holds Tryz.pinned (.plain (OpenSpec.ofChange topChunksSpec)) topChunksCard

/-- THE TIED CARD OF 'tsblocktop.TopTruncates'. -/
def topTruncatesCard : Claim7 := { stood := { row := topTruncatesRow, standIns := [], harness := (true, "d39850d1a4ce299b07da997cec6d66e12b9b7bc9747e8f2cf3b4f536b2935c86"), looks := true }, kinds := [], alts := [], laidByText := true, laidKinds := [.data, .data, .data], laidTests := true, laidLooks := .later }
def TopTruncatesCardSaid : Prop := Claim7.holds Tryz.pinned (.plain (OpenSpec.ofChange topTruncatesSpec)) topTruncatesCard

/-- THE SECOND FORM's CARD OF 'tsblocktop.TopChunks'. -/
def topChunksUptoCard : Claim7 := { stood := { row := topChunksUptoRow, standIns := [], harness := (true, "d39850d1a4ce299b07da997cec6d66e12b9b7bc9747e8f2cf3b4f536b2935c86"), looks := true }, kinds := [], alts := [], laidByText := true, laidKinds := [.data, .data, .data], laidTests := true, laidLooks := .later }
def TopChunksUptoCardSaid : Prop := Claim7.holds Tryz.pinned (.plain (OpenSpec.upto topChunksSpec)) topChunksUptoCard

/-- THE SECOND FORM's CARD OF 'tsblocktop.TopTruncates'. -/
def topTruncatesUptoCard : Claim7 := { stood := { row := topTruncatesUptoRow, standIns := [], harness := (true, "d39850d1a4ce299b07da997cec6d66e12b9b7bc9747e8f2cf3b4f536b2935c86"), looks := true }, kinds := [], alts := [], laidByText := true, laidKinds := [.data, .data, .data], laidTests := true, laidLooks := .later }
def TopTruncatesUptoCardSaid : Prop := Claim7.holds Tryz.pinned (.plain (OpenSpec.upto topTruncatesSpec)) topTruncatesUptoCard
end Rows
end Go.Proofs.YtfpcgcbehdogjaaGreatDoor
