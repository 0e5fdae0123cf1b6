/-
  DERIVED. GIVEN WITH THE SEED: THE CARDS: each row of YtmkbgbnehokmmaaDoorRows.lean that lists a variable, with what it lists TIED to the program's text (the seventh form; the later family's looks); each row that meets fmt, with fmt's text TOLD by the authors' own Lean function (tested against real Go, not proved from fmt's source: count such statements apart). THE CARD IS WHAT COUNTS. Prove the row's statement (the work); the ties are given (YtmkbgbnehokmmaaDoorTie.lean); close each card by the builder's one call (the guide's Derived/Test/ToyasCard.lean, 'card_holds'). Laid BY PROGRAM, IN A SANDBOX (cutbox-door.mjs). By AI agents, Wed Nov 11 2026. No macro, syntax, notation, axiom, sorry.
-/
import Derived.Test.YtmkbgbnehokmmaaDoorRows
import GoSem.ClaimSeven
namespace Go.Proofs.YtmkbgbnehokmmaaDoor
namespace Rows

/-- THE TIED CARD OF 'fretworklaw04.GraphLarge'. -/
def graphLargeCard : Claim7 := { stood := { row := graphLargeRow, standIns := [], harness := (true, "7a7bd964303462ef3fd414a904b8d3cb075fe185d6e76d24fc4f931259fe2ac2"), looks := true }, kinds := [], alts := [], laidByText := true, laidKinds := [.handle], laidTests := true, laidLooks := .later }
def GraphLargeCardSaid : Prop := Claim7.holds Tryd.pinned (.plain (OpenSpec.ofChange graphLargeSpec)) graphLargeCard

/-- THE TIED CARD OF 'fretworklaw25.ScriptParses'. -/
def scriptParsesCard : Claim7 := { stood := { row := scriptParsesRow, standIns := [], harness := (true, "7a7bd964303462ef3fd414a904b8d3cb075fe185d6e76d24fc4f931259fe2ac2"), looks := true }, kinds := [], alts := [], laidByText := true, laidKinds := [.data, .data, .data, .handle, .sentinel, .sentinel], laidTests := true, laidLooks := .later }
def ScriptParsesCardSaid : Prop := Claim7.holds Tryd.pinned (.plain (OpenSpec.ofChange scriptParsesSpec)) scriptParsesCard

/-- THE TIED CARD OF 'fretworklaw25.ScriptOrder'. -/
def scriptOrderCard : Claim7 := { stood := { row := scriptOrderRow, standIns := [], harness := (true, "7a7bd964303462ef3fd414a904b8d3cb075fe185d6e76d24fc4f931259fe2ac2"), looks := true }, kinds := [], alts := [], laidByText := true, laidKinds := [.data, .data, .data, .handle, .sentinel, .sentinel], laidTests := true, laidLooks := .later }
def ScriptOrderCardSaid : Prop := Claim7.holds Tryd.pinned (.plain (OpenSpec.ofChange scriptOrderSpec)) scriptOrderCard

/-- THE TIED CARD OF 'fretworklaw25.ScriptTexts'. -/
def scriptTextsCard : Claim7 := { stood := { row := scriptTextsRow, standIns := [], harness := (true, "7a7bd964303462ef3fd414a904b8d3cb075fe185d6e76d24fc4f931259fe2ac2"), looks := true }, kinds := [], alts := [], laidByText := true, laidKinds := [.data, .data, .data, .handle, .sentinel, .sentinel], laidTests := true, laidLooks := .later }
def ScriptTextsCardSaid : Prop := Claim7.holds Tryd.pinned (.plain (OpenSpec.ofChange scriptTextsSpec)) scriptTextsCard

/-- THE TIED CARD OF 'fretworklaw25.ScriptCounts'. -/
def scriptCountsCard : Claim7 := { stood := { row := scriptCountsRow, standIns := [], harness := (true, "7a7bd964303462ef3fd414a904b8d3cb075fe185d6e76d24fc4f931259fe2ac2"), looks := true }, kinds := [], alts := [], laidByText := true, laidKinds := [.data, .data, .data, .handle, .sentinel, .sentinel], laidTests := true, laidLooks := .later }
def ScriptCountsCardSaid : Prop := Claim7.holds Tryd.pinned (.plain (OpenSpec.ofChange scriptCountsSpec)) scriptCountsCard

/-- THE TIED CARD OF 'fretworklaw04.GraphCopies'. -/
def graphCopiesCard : Claim7 := { stood := { row := graphCopiesRow, standIns := [], harness := (true, "7a7bd964303462ef3fd414a904b8d3cb075fe185d6e76d24fc4f931259fe2ac2"), looks := true }, kinds := [], alts := [], laidByText := true, laidKinds := [.handle], laidTests := true, laidLooks := .later }
def GraphCopiesCardSaid : Prop := Claim7.holds Tryd.pinned (.plain (OpenSpec.ofChange graphCopiesSpec)) graphCopiesCard

/-- THE TIED CARD OF 'fretworklaw11.LinesLarge'. -/
def linesLargeCard : Claim7 := { stood := { row := linesLargeRow, standIns := [], harness := (true, "7a7bd964303462ef3fd414a904b8d3cb075fe185d6e76d24fc4f931259fe2ac2"), looks := true }, kinds := [], alts := [], laidByText := true, laidKinds := [.handle], laidTests := true, laidLooks := .later }
def LinesLargeCardSaid : Prop := Claim7.holds Tryd.pinned (.plain (OpenSpec.ofChange linesLargeSpec)) linesLargeCard

/-- THE SECOND FORM's CARD OF 'fretworklaw04.GraphLarge'. -/
def graphLargeUptoCard : Claim7 := { stood := { row := graphLargeUptoRow, standIns := [], harness := (true, "7a7bd964303462ef3fd414a904b8d3cb075fe185d6e76d24fc4f931259fe2ac2"), looks := true }, kinds := [], alts := [], laidByText := true, laidKinds := [.handle], laidTests := true, laidLooks := .later }
def GraphLargeUptoCardSaid : Prop := Claim7.holds Tryd.pinned (.plain (OpenSpec.upto graphLargeSpec)) graphLargeUptoCard

/-- THE SECOND FORM's CARD OF 'fretworklaw25.ScriptParses'. -/
def scriptParsesUptoCard : Claim7 := { stood := { row := scriptParsesUptoRow, standIns := [], harness := (true, "7a7bd964303462ef3fd414a904b8d3cb075fe185d6e76d24fc4f931259fe2ac2"), looks := true }, kinds := [], alts := [], laidByText := true, laidKinds := [.data, .data, .data, .handle, .sentinel, .sentinel], laidTests := true, laidLooks := .later }
def ScriptParsesUptoCardSaid : Prop := Claim7.holds Tryd.pinned (.plain (OpenSpec.upto scriptParsesSpec)) scriptParsesUptoCard

/-- THE SECOND FORM's CARD OF 'fretworklaw25.ScriptOrder'. -/
def scriptOrderUptoCard : Claim7 := { stood := { row := scriptOrderUptoRow, standIns := [], harness := (true, "7a7bd964303462ef3fd414a904b8d3cb075fe185d6e76d24fc4f931259fe2ac2"), looks := true }, kinds := [], alts := [], laidByText := true, laidKinds := [.data, .data, .data, .handle, .sentinel, .sentinel], laidTests := true, laidLooks := .later }
def ScriptOrderUptoCardSaid : Prop := Claim7.holds Tryd.pinned (.plain (OpenSpec.upto scriptOrderSpec)) scriptOrderUptoCard

/-- THE SECOND FORM's CARD OF 'fretworklaw25.ScriptTexts'. -/
def scriptTextsUptoCard : Claim7 := { stood := { row := scriptTextsUptoRow, standIns := [], harness := (true, "7a7bd964303462ef3fd414a904b8d3cb075fe185d6e76d24fc4f931259fe2ac2"), looks := true }, kinds := [], alts := [], laidByText := true, laidKinds := [.data, .data, .data, .handle, .sentinel, .sentinel], laidTests := true, laidLooks := .later }
def ScriptTextsUptoCardSaid : Prop := Claim7.holds Tryd.pinned (.plain (OpenSpec.upto scriptTextsSpec)) scriptTextsUptoCard

/-- THE SECOND FORM's CARD OF 'fretworklaw25.ScriptCounts'. -/
def scriptCountsUptoCard : Claim7 := { stood := { row := scriptCountsUptoRow, standIns := [], harness := (true, "7a7bd964303462ef3fd414a904b8d3cb075fe185d6e76d24fc4f931259fe2ac2"), looks := true }, kinds := [], alts := [], laidByText := true, laidKinds := [.data, .data, .data, .handle, .sentinel, .sentinel], laidTests := true, laidLooks := .later }
def ScriptCountsUptoCardSaid : Prop := Claim7.holds Tryd.pinned (.plain (OpenSpec.upto scriptCountsSpec)) scriptCountsUptoCard

/-- THE SECOND FORM's CARD OF 'fretworklaw04.GraphCopies'. -/
def graphCopiesUptoCard : Claim7 := { stood := { row := graphCopiesUptoRow, standIns := [], harness := (true, "7a7bd964303462ef3fd414a904b8d3cb075fe185d6e76d24fc4f931259fe2ac2"), looks := true }, kinds := [], alts := [], laidByText := true, laidKinds := [.handle], laidTests := true, laidLooks := .later }
def GraphCopiesUptoCardSaid : Prop := Claim7.holds Tryd.pinned (.plain (OpenSpec.upto graphCopiesSpec)) graphCopiesUptoCard

/-- THE SECOND FORM's CARD OF 'fretworklaw11.LinesLarge'. -/
def linesLargeUptoCard : Claim7 := { stood := { row := linesLargeUptoRow, standIns := [], harness := (true, "7a7bd964303462ef3fd414a904b8d3cb075fe185d6e76d24fc4f931259fe2ac2"), looks := true }, kinds := [], alts := [], laidByText := true, laidKinds := [.handle], laidTests := true, laidLooks := .later }
def LinesLargeUptoCardSaid : Prop := Claim7.holds Tryd.pinned (.plain (OpenSpec.upto linesLargeSpec)) linesLargeUptoCard
end Rows
end Go.Proofs.YtmkbgbnehokmmaaDoor
