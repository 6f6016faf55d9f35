/-
  DERIVED. GIVEN WITH THE SEED: THE CARDS: each row of YtnmbpmomilehoaaGreatDoorRows.lean that lists a variable, with what it lists TIED to the program's text (the seventh form; the later family's looks); each row that meets fmt, with fmt's text TOLD by the authors' own Lean function (tested against real Go, not proved from fmt's source: count such statements apart). THE CARD IS WHAT COUNTS. Prove the row's statement (the work); the ties are given (YtnmbpmomilehoaaGreatDoorTie.lean); close each card by the builder's one call (the guide's Derived/Test/ToyasCard.lean, 'card_holds'). Laid BY PROGRAM, IN A SANDBOX (cutbox-door.mjs). By AI agents, Wed Nov 11 2026. No macro, syntax, notation, axiom, sorry.
-/
import Derived.Test.YtnmbpmomilehoaaGreatDoorRows
import GoSem.ClaimSeven
namespace Go.Proofs.YtnmbpmomilehoaaGreatDoor
namespace Rows

/-- THE TIED CARD OF 'latticelaw05.LexReads'. -/
def lexReadsCard : Claim7 := { stood := { row := lexReadsRow, standIns := [], harness := (true, "500c0d547d1d7032933d6721d7a47add1736a043b8b628f852eb168b351e9b8b"), looks := true }, kinds := [], alts := [], laidByText := true, laidKinds := [.data, .data, .data, .data, .sentinel, .sentinel, .data, .pinned], laidTests := true, laidLooks := .later }
def LexReadsCardSaid : Prop := Claim7.holds Tryz.pinned (.plain (OpenSpec.ofChange lexReadsSpec)) lexReadsCard

/-- THE TIED CARD OF 'latticelaw05.LexShows'. -/
def lexShowsCard : Claim7 := { stood := { row := lexShowsRow, standIns := [], harness := (true, "500c0d547d1d7032933d6721d7a47add1736a043b8b628f852eb168b351e9b8b"), looks := true }, kinds := [], alts := [], laidByText := true, laidKinds := [.data, .data, .data, .data, .sentinel, .sentinel, .data, .pinned], laidTests := true, laidLooks := .later }
def LexShowsCardSaid : Prop := Claim7.holds Tryz.pinned (.plain (OpenSpec.ofChange lexShowsSpec)) lexShowsCard

/-- THE TIED CARD OF 'latticelaw05.LexBack'. -/
def lexBackCard : Claim7 := { stood := { row := lexBackRow, standIns := [], harness := (true, "500c0d547d1d7032933d6721d7a47add1736a043b8b628f852eb168b351e9b8b"), looks := true }, kinds := [], alts := [], laidByText := true, laidKinds := [.data, .data, .data, .data, .sentinel, .sentinel, .data, .pinned], laidTests := true, laidLooks := .later }
def LexBackCardSaid : Prop := Claim7.holds Tryz.pinned (.plain (OpenSpec.ofChange lexBackSpec)) lexBackCard

/-- THE TIED CARD OF 'latticelaw05.LexBlanks'. -/
def lexBlanksCard : Claim7 := { stood := { row := lexBlanksRow, standIns := [], harness := (true, "500c0d547d1d7032933d6721d7a47add1736a043b8b628f852eb168b351e9b8b"), looks := true }, kinds := [], alts := [], laidByText := true, laidKinds := [.data, .data, .data, .data, .sentinel, .sentinel, .data, .pinned], laidTests := true, laidLooks := .later }
def LexBlanksCardSaid : Prop := Claim7.holds Tryz.pinned (.plain (OpenSpec.ofChange lexBlanksSpec)) lexBlanksCard

/-- THE TIED CARD OF 'latticelaw05.LexLong'. -/
def lexLongCard : Claim7 := { stood := { row := lexLongRow, standIns := [], harness := (true, "500c0d547d1d7032933d6721d7a47add1736a043b8b628f852eb168b351e9b8b"), looks := true }, kinds := [], alts := [], laidByText := true, laidKinds := [.data, .data, .data, .data, .sentinel, .sentinel, .data, .pinned], laidTests := true, laidLooks := .later }
def LexLongCardSaid : Prop := Claim7.holds Tryz.pinned (.plain (OpenSpec.ofChange lexLongSpec)) lexLongCard

/-- THE SECOND FORM's CARD OF 'latticelaw05.LexReads'. -/
def lexReadsUptoCard : Claim7 := { stood := { row := lexReadsUptoRow, standIns := [], harness := (true, "500c0d547d1d7032933d6721d7a47add1736a043b8b628f852eb168b351e9b8b"), looks := true }, kinds := [], alts := [], laidByText := true, laidKinds := [.data, .data, .data, .data, .sentinel, .sentinel, .data, .pinned], laidTests := true, laidLooks := .later }
def LexReadsUptoCardSaid : Prop := Claim7.holds Tryz.pinned (.plain (OpenSpec.upto lexReadsSpec)) lexReadsUptoCard

/-- THE SECOND FORM's CARD OF 'latticelaw05.LexShows'. -/
def lexShowsUptoCard : Claim7 := { stood := { row := lexShowsUptoRow, standIns := [], harness := (true, "500c0d547d1d7032933d6721d7a47add1736a043b8b628f852eb168b351e9b8b"), looks := true }, kinds := [], alts := [], laidByText := true, laidKinds := [.data, .data, .data, .data, .sentinel, .sentinel, .data, .pinned], laidTests := true, laidLooks := .later }
def LexShowsUptoCardSaid : Prop := Claim7.holds Tryz.pinned (.plain (OpenSpec.upto lexShowsSpec)) lexShowsUptoCard

/-- THE SECOND FORM's CARD OF 'latticelaw05.LexBack'. -/
def lexBackUptoCard : Claim7 := { stood := { row := lexBackUptoRow, standIns := [], harness := (true, "500c0d547d1d7032933d6721d7a47add1736a043b8b628f852eb168b351e9b8b"), looks := true }, kinds := [], alts := [], laidByText := true, laidKinds := [.data, .data, .data, .data, .sentinel, .sentinel, .data, .pinned], laidTests := true, laidLooks := .later }
def LexBackUptoCardSaid : Prop := Claim7.holds Tryz.pinned (.plain (OpenSpec.upto lexBackSpec)) lexBackUptoCard

/-- THE SECOND FORM's CARD OF 'latticelaw05.LexBlanks'. -/
def lexBlanksUptoCard : Claim7 := { stood := { row := lexBlanksUptoRow, standIns := [], harness := (true, "500c0d547d1d7032933d6721d7a47add1736a043b8b628f852eb168b351e9b8b"), looks := true }, kinds := [], alts := [], laidByText := true, laidKinds := [.data, .data, .data, .data, .sentinel, .sentinel, .data, .pinned], laidTests := true, laidLooks := .later }
def LexBlanksUptoCardSaid : Prop := Claim7.holds Tryz.pinned (.plain (OpenSpec.upto lexBlanksSpec)) lexBlanksUptoCard

/-- THE SECOND FORM's CARD OF 'latticelaw05.LexLong'. -/
def lexLongUptoCard : Claim7 := { stood := { row := lexLongUptoRow, standIns := [], harness := (true, "500c0d547d1d7032933d6721d7a47add1736a043b8b628f852eb168b351e9b8b"), looks := true }, kinds := [], alts := [], laidByText := true, laidKinds := [.data, .data, .data, .data, .sentinel, .sentinel, .data, .pinned], laidTests := true, laidLooks := .later }
def LexLongUptoCardSaid : Prop := Claim7.holds Tryz.pinned (.plain (OpenSpec.upto lexLongSpec)) lexLongUptoCard
end Rows
end Go.Proofs.YtnmbpmomilehoaaGreatDoor
