/-
  DERIVED. GIVEN WITH THE SEED: THE CARDS: each row of YtjejpdfldmempaaGreatDoorRows.lean that lists a variable, with what it lists TIED to the program's text (the seventh form; the later family's looks); each row that meets fmt, with fmt's text TOLD by the authors' own Lean function (tested against real Go, not proved from fmt's source: count such statements apart). THE CARD IS WHAT COUNTS. Prove the row's statement (the work); the ties are given (YtjejpdfldmempaaGreatDoorTie.lean); close each card by the builder's one call (the guide's Derived/Test/ToyasCard.lean, 'card_holds'). Laid BY PROGRAM, IN A SANDBOX (cutbox-door.mjs). By AI agents, Wed Nov 11 2026. No macro, syntax, notation, axiom, sorry.
-/
import Derived.Test.YtjejpdfldmempaaGreatDoorRows
import GoSem.ClaimSeven
namespace Go.Proofs.YtjejpdfldmempaaGreatDoor
namespace Rows

/-- THE TIED CARD OF 'fretworklaw16.AggFolds'. -/
def aggFoldsCard : Claim7 := { stood := { row := aggFoldsRow, standIns := [], harness := (true, "0faa73328bcd184032b6238c5d05f63c29faaccda1632a86b4eac2223f8b1606"), looks := true }, kinds := [], alts := [], laidByText := true, laidKinds := [.data, .data, .data, .handle], laidTests := true, laidLooks := .later }
def AggFoldsCardSaid : Prop := Claim7.holds Tryz.pinned (.plain (OpenSpec.ofChange aggFoldsSpec)) aggFoldsCard

/-- THE TIED CARD OF 'fretworklaw18.LevelOnce'. -/
def levelOnceCard : Claim7 := { stood := { row := levelOnceRow, standIns := [], harness := (true, "0faa73328bcd184032b6238c5d05f63c29faaccda1632a86b4eac2223f8b1606"), looks := true }, kinds := [], alts := [], laidByText := true, laidKinds := [.handle], laidTests := true, laidLooks := .later }
def LevelOnceCardSaid : Prop := Claim7.holds Tryz.pinned (.plain (OpenSpec.ofChange levelOnceSpec)) levelOnceCard

/-- THE TIED CARD OF 'fretworklaw18.LevelGrows'. -/
def levelGrowsCard : Claim7 := { stood := { row := levelGrowsRow, standIns := [], harness := (true, "0faa73328bcd184032b6238c5d05f63c29faaccda1632a86b4eac2223f8b1606"), looks := true }, kinds := [], alts := [], laidByText := true, laidKinds := [.handle], laidTests := true, laidLooks := .later }
def LevelGrowsCardSaid : Prop := Claim7.holds Tryz.pinned (.plain (OpenSpec.ofChange levelGrowsSpec)) levelGrowsCard

/-- THE TIED CARD OF 'fretworklaw18.LevelDepth'. -/
def levelDepthCard : Claim7 := { stood := { row := levelDepthRow, standIns := [], harness := (true, "0faa73328bcd184032b6238c5d05f63c29faaccda1632a86b4eac2223f8b1606"), looks := true }, kinds := [], alts := [], laidByText := true, laidKinds := [.handle], laidTests := true, laidLooks := .later }
def LevelDepthCardSaid : Prop := Claim7.holds Tryz.pinned (.plain (OpenSpec.ofChange levelDepthSpec)) levelDepthCard

/-- THE TIED CARD OF 'fretworklaw18.LevelAll'. -/
def levelAllCard : Claim7 := { stood := { row := levelAllRow, standIns := [], harness := (true, "0faa73328bcd184032b6238c5d05f63c29faaccda1632a86b4eac2223f8b1606"), looks := true }, kinds := [], alts := [], laidByText := true, laidKinds := [.data, .data, .data, .handle], laidTests := true, laidLooks := .later }
def LevelAllCardSaid : Prop := Claim7.holds Tryz.pinned (.plain (OpenSpec.ofChange levelAllSpec)) levelAllCard

/-- THE TIED CARD OF 'fretworklaw18.LevelTables'. -/
def levelTablesCard : Claim7 := { stood := { row := levelTablesRow, standIns := [], harness := (true, "0faa73328bcd184032b6238c5d05f63c29faaccda1632a86b4eac2223f8b1606"), looks := true }, kinds := [], alts := [], laidByText := true, laidKinds := [.data, .data, .data, .handle], laidTests := true, laidLooks := .later }
def LevelTablesCardSaid : Prop := Claim7.holds Tryz.pinned (.plain (OpenSpec.ofChange levelTablesSpec)) levelTablesCard

/-- THE SECOND FORM's CARD OF 'fretworklaw16.AggFolds'. -/
def aggFoldsUptoCard : Claim7 := { stood := { row := aggFoldsUptoRow, standIns := [], harness := (true, "0faa73328bcd184032b6238c5d05f63c29faaccda1632a86b4eac2223f8b1606"), looks := true }, kinds := [], alts := [], laidByText := true, laidKinds := [.data, .data, .data, .handle], laidTests := true, laidLooks := .later }
def AggFoldsUptoCardSaid : Prop := Claim7.holds Tryz.pinned (.plain (OpenSpec.upto aggFoldsSpec)) aggFoldsUptoCard

/-- THE SECOND FORM's CARD OF 'fretworklaw18.LevelOnce'. -/
def levelOnceUptoCard : Claim7 := { stood := { row := levelOnceUptoRow, standIns := [], harness := (true, "0faa73328bcd184032b6238c5d05f63c29faaccda1632a86b4eac2223f8b1606"), looks := true }, kinds := [], alts := [], laidByText := true, laidKinds := [.handle], laidTests := true, laidLooks := .later }
def LevelOnceUptoCardSaid : Prop := Claim7.holds Tryz.pinned (.plain (OpenSpec.upto levelOnceSpec)) levelOnceUptoCard

/-- THE SECOND FORM's CARD OF 'fretworklaw18.LevelGrows'. -/
def levelGrowsUptoCard : Claim7 := { stood := { row := levelGrowsUptoRow, standIns := [], harness := (true, "0faa73328bcd184032b6238c5d05f63c29faaccda1632a86b4eac2223f8b1606"), looks := true }, kinds := [], alts := [], laidByText := true, laidKinds := [.handle], laidTests := true, laidLooks := .later }
def LevelGrowsUptoCardSaid : Prop := Claim7.holds Tryz.pinned (.plain (OpenSpec.upto levelGrowsSpec)) levelGrowsUptoCard

/-- THE SECOND FORM's CARD OF 'fretworklaw18.LevelDepth'. -/
def levelDepthUptoCard : Claim7 := { stood := { row := levelDepthUptoRow, standIns := [], harness := (true, "0faa73328bcd184032b6238c5d05f63c29faaccda1632a86b4eac2223f8b1606"), looks := true }, kinds := [], alts := [], laidByText := true, laidKinds := [.handle], laidTests := true, laidLooks := .later }
def LevelDepthUptoCardSaid : Prop := Claim7.holds Tryz.pinned (.plain (OpenSpec.upto levelDepthSpec)) levelDepthUptoCard

/-- THE SECOND FORM's CARD OF 'fretworklaw18.LevelAll'. -/
def levelAllUptoCard : Claim7 := { stood := { row := levelAllUptoRow, standIns := [], harness := (true, "0faa73328bcd184032b6238c5d05f63c29faaccda1632a86b4eac2223f8b1606"), looks := true }, kinds := [], alts := [], laidByText := true, laidKinds := [.data, .data, .data, .handle], laidTests := true, laidLooks := .later }
def LevelAllUptoCardSaid : Prop := Claim7.holds Tryz.pinned (.plain (OpenSpec.upto levelAllSpec)) levelAllUptoCard

/-- THE SECOND FORM's CARD OF 'fretworklaw18.LevelTables'. -/
def levelTablesUptoCard : Claim7 := { stood := { row := levelTablesUptoRow, standIns := [], harness := (true, "0faa73328bcd184032b6238c5d05f63c29faaccda1632a86b4eac2223f8b1606"), looks := true }, kinds := [], alts := [], laidByText := true, laidKinds := [.data, .data, .data, .handle], laidTests := true, laidLooks := .later }
def LevelTablesUptoCardSaid : Prop := Claim7.holds Tryz.pinned (.plain (OpenSpec.upto levelTablesSpec)) levelTablesUptoCard
end Rows
end Go.Proofs.YtjejpdfldmempaaGreatDoor
