/-
  DERIVED. GIVEN WITH THE SEED: THE CARDS: each row of YthegabgbakckfaaGreatDoorRows.lean that lists a variable, with what it lists TIED to the program's text (the seventh form; the later family's looks); each row that meets fmt, with fmt's text TOLD by the authors' own Lean function (tested against real Go, not proved from fmt's source: count such statements apart). THE CARD IS WHAT COUNTS. Prove the row's statement (the work); the ties are given (YthegabgbakckfaaGreatDoorTie.lean); close each card by the builder's one call (the guide's Derived/Test/ToyasCard.lean, 'card_holds'). Laid BY PROGRAM, IN A SANDBOX (cutbox-door.mjs). By AI agents, Wed Nov 11 2026. No macro, syntax, notation, axiom, sorry.
-/
import Derived.Test.YthegabgbakckfaaGreatDoorRows
import GoSem.ClaimSeven
namespace Go.Proofs.YthegabgbakckfaaGreatDoor
namespace Rows

/-- THE TIED CARD OF 'fretworklaw12.QuickImages'. -/
def quickImagesCard : Claim7 := { stood := { row := quickImagesRow, standIns := [], harness := (true, "e6ac1402bd6bc33c2158d843cd318e6f8c1a710c37b7997030070878131eeaca"), looks := true }, kinds := [], alts := [], laidByText := true, laidKinds := [.data, .data, .data, .handle], laidTests := true, laidLooks := .later }
def QuickImagesCardSaid : Prop := Claim7.holds Tryz.pinned (.plain (OpenSpec.ofChange quickImagesSpec)) quickImagesCard

/-- THE TIED CARD OF 'fretworklaw09.CanonLess'. -/
def canonLessCard : Claim7 := { stood := { row := canonLessRow, standIns := [], harness := (true, "e6ac1402bd6bc33c2158d843cd318e6f8c1a710c37b7997030070878131eeaca"), looks := true }, kinds := [], alts := [], laidByText := true, laidKinds := [.data, .data, .data], laidTests := true, laidLooks := .later }
def CanonLessCardSaid : Prop := Claim7.holds Tryz.pinned (.plain (OpenSpec.ofChange canonLessSpec)) canonLessCard

/-- THE TIED CARD OF 'fretworklaw12.QuickTells'. -/
def quickTellsCard : Claim7 := { stood := { row := quickTellsRow, standIns := [], harness := (true, "e6ac1402bd6bc33c2158d843cd318e6f8c1a710c37b7997030070878131eeaca"), looks := true }, kinds := [], alts := [], laidByText := true, laidKinds := [.data, .data, .data, .handle], laidTests := true, laidLooks := .later }
def QuickTellsCardSaid : Prop := Claim7.holds Tryz.pinned (.plain (OpenSpec.ofChange quickTellsSpec)) quickTellsCard

/-- THE TIED CARD OF 'fretworklaw09.CanonTurns'. -/
def canonTurnsCard : Claim7 := { stood := { row := canonTurnsRow, standIns := [], harness := (true, "e6ac1402bd6bc33c2158d843cd318e6f8c1a710c37b7997030070878131eeaca"), looks := true }, kinds := [], alts := [], laidByText := true, laidKinds := [.data, .data, .data], laidTests := true, laidLooks := .later }
def CanonTurnsCardSaid : Prop := Claim7.holds Tryz.pinned (.plain (OpenSpec.ofChange canonTurnsSpec)) canonTurnsCard

/-- THE TIED CARD OF 'fretworklaw09.CanonMaps'. -/
def canonMapsCard : Claim7 := { stood := { row := canonMapsRow, standIns := [], harness := (true, "e6ac1402bd6bc33c2158d843cd318e6f8c1a710c37b7997030070878131eeaca"), looks := true }, kinds := [], alts := [], laidByText := true, laidKinds := [.data, .data, .data], laidTests := true, laidLooks := .later }
def CanonMapsCardSaid : Prop := Claim7.holds Tryz.pinned (.plain (OpenSpec.ofChange canonMapsSpec)) canonMapsCard

/-- THE TIED CARD OF 'fretworklaw09.CanonParts'. -/
def canonPartsCard : Claim7 := { stood := { row := canonPartsRow, standIns := [], harness := (true, "e6ac1402bd6bc33c2158d843cd318e6f8c1a710c37b7997030070878131eeaca"), looks := true }, kinds := [], alts := [], laidByText := true, laidKinds := [.data, .data, .data], laidTests := true, laidLooks := .later }
def CanonPartsCardSaid : Prop := Claim7.holds Tryz.pinned (.plain (OpenSpec.ofChange canonPartsSpec)) canonPartsCard

/-- THE TIED CARD OF 'fretworklaw09.CanonOrbits'. -/
def canonOrbitsCard : Claim7 := { stood := { row := canonOrbitsRow, standIns := [], harness := (true, "e6ac1402bd6bc33c2158d843cd318e6f8c1a710c37b7997030070878131eeaca"), looks := true }, kinds := [], alts := [], laidByText := true, laidKinds := [.data, .data, .data], laidTests := true, laidLooks := .later }
def CanonOrbitsCardSaid : Prop := Claim7.holds Tryz.pinned (.plain (OpenSpec.ofChange canonOrbitsSpec)) canonOrbitsCard

/-- THE TIED CARD OF 'fretworklaw12.QuickCounts'. -/
def quickCountsCard : Claim7 := { stood := { row := quickCountsRow, standIns := [], harness := (true, "e6ac1402bd6bc33c2158d843cd318e6f8c1a710c37b7997030070878131eeaca"), looks := true }, kinds := [], alts := [], laidByText := true, laidKinds := [.data, .data, .data, .handle], laidTests := true, laidLooks := .later }
def QuickCountsCardSaid : Prop := Claim7.holds Tryz.pinned (.plain (OpenSpec.ofChange quickCountsSpec)) quickCountsCard

/-- THE TIED CARD OF 'fretworklaw12.QuickForms'. -/
def quickFormsCard : Claim7 := { stood := { row := quickFormsRow, standIns := [], harness := (true, "e6ac1402bd6bc33c2158d843cd318e6f8c1a710c37b7997030070878131eeaca"), looks := true }, kinds := [], alts := [], laidByText := true, laidKinds := [.data, .data, .data, .handle], laidTests := true, laidLooks := .later }
def QuickFormsCardSaid : Prop := Claim7.holds Tryz.pinned (.plain (OpenSpec.ofChange quickFormsSpec)) quickFormsCard

/-- THE TIED CARD OF 'fretworklaw12.QuickEdges'. -/
def quickEdgesCard : Claim7 := { stood := { row := quickEdgesRow, standIns := [], harness := (true, "e6ac1402bd6bc33c2158d843cd318e6f8c1a710c37b7997030070878131eeaca"), looks := true }, kinds := [], alts := [], laidByText := true, laidKinds := [.data, .data, .data, .handle], laidTests := true, laidLooks := .later }
def QuickEdgesCardSaid : Prop := Claim7.holds Tryz.pinned (.plain (OpenSpec.ofChange quickEdgesSpec)) quickEdgesCard

/-- THE SECOND FORM's CARD OF 'fretworklaw12.QuickImages'. -/
def quickImagesUptoCard : Claim7 := { stood := { row := quickImagesUptoRow, standIns := [], harness := (true, "e6ac1402bd6bc33c2158d843cd318e6f8c1a710c37b7997030070878131eeaca"), looks := true }, kinds := [], alts := [], laidByText := true, laidKinds := [.data, .data, .data, .handle], laidTests := true, laidLooks := .later }
def QuickImagesUptoCardSaid : Prop := Claim7.holds Tryz.pinned (.plain (OpenSpec.upto quickImagesSpec)) quickImagesUptoCard

/-- THE SECOND FORM's CARD OF 'fretworklaw09.CanonLess'. -/
def canonLessUptoCard : Claim7 := { stood := { row := canonLessUptoRow, standIns := [], harness := (true, "e6ac1402bd6bc33c2158d843cd318e6f8c1a710c37b7997030070878131eeaca"), looks := true }, kinds := [], alts := [], laidByText := true, laidKinds := [.data, .data, .data], laidTests := true, laidLooks := .later }
def CanonLessUptoCardSaid : Prop := Claim7.holds Tryz.pinned (.plain (OpenSpec.upto canonLessSpec)) canonLessUptoCard

/-- THE SECOND FORM's CARD OF 'fretworklaw12.QuickTells'. -/
def quickTellsUptoCard : Claim7 := { stood := { row := quickTellsUptoRow, standIns := [], harness := (true, "e6ac1402bd6bc33c2158d843cd318e6f8c1a710c37b7997030070878131eeaca"), looks := true }, kinds := [], alts := [], laidByText := true, laidKinds := [.data, .data, .data, .handle], laidTests := true, laidLooks := .later }
def QuickTellsUptoCardSaid : Prop := Claim7.holds Tryz.pinned (.plain (OpenSpec.upto quickTellsSpec)) quickTellsUptoCard

/-- THE SECOND FORM's CARD OF 'fretworklaw09.CanonTurns'. -/
def canonTurnsUptoCard : Claim7 := { stood := { row := canonTurnsUptoRow, standIns := [], harness := (true, "e6ac1402bd6bc33c2158d843cd318e6f8c1a710c37b7997030070878131eeaca"), looks := true }, kinds := [], alts := [], laidByText := true, laidKinds := [.data, .data, .data], laidTests := true, laidLooks := .later }
def CanonTurnsUptoCardSaid : Prop := Claim7.holds Tryz.pinned (.plain (OpenSpec.upto canonTurnsSpec)) canonTurnsUptoCard

/-- THE SECOND FORM's CARD OF 'fretworklaw09.CanonMaps'. -/
def canonMapsUptoCard : Claim7 := { stood := { row := canonMapsUptoRow, standIns := [], harness := (true, "e6ac1402bd6bc33c2158d843cd318e6f8c1a710c37b7997030070878131eeaca"), looks := true }, kinds := [], alts := [], laidByText := true, laidKinds := [.data, .data, .data], laidTests := true, laidLooks := .later }
def CanonMapsUptoCardSaid : Prop := Claim7.holds Tryz.pinned (.plain (OpenSpec.upto canonMapsSpec)) canonMapsUptoCard

/-- THE SECOND FORM's CARD OF 'fretworklaw09.CanonParts'. -/
def canonPartsUptoCard : Claim7 := { stood := { row := canonPartsUptoRow, standIns := [], harness := (true, "e6ac1402bd6bc33c2158d843cd318e6f8c1a710c37b7997030070878131eeaca"), looks := true }, kinds := [], alts := [], laidByText := true, laidKinds := [.data, .data, .data], laidTests := true, laidLooks := .later }
def CanonPartsUptoCardSaid : Prop := Claim7.holds Tryz.pinned (.plain (OpenSpec.upto canonPartsSpec)) canonPartsUptoCard

/-- THE SECOND FORM's CARD OF 'fretworklaw09.CanonOrbits'. -/
def canonOrbitsUptoCard : Claim7 := { stood := { row := canonOrbitsUptoRow, standIns := [], harness := (true, "e6ac1402bd6bc33c2158d843cd318e6f8c1a710c37b7997030070878131eeaca"), looks := true }, kinds := [], alts := [], laidByText := true, laidKinds := [.data, .data, .data], laidTests := true, laidLooks := .later }
def CanonOrbitsUptoCardSaid : Prop := Claim7.holds Tryz.pinned (.plain (OpenSpec.upto canonOrbitsSpec)) canonOrbitsUptoCard

/-- THE SECOND FORM's CARD OF 'fretworklaw12.QuickCounts'. -/
def quickCountsUptoCard : Claim7 := { stood := { row := quickCountsUptoRow, standIns := [], harness := (true, "e6ac1402bd6bc33c2158d843cd318e6f8c1a710c37b7997030070878131eeaca"), looks := true }, kinds := [], alts := [], laidByText := true, laidKinds := [.data, .data, .data, .handle], laidTests := true, laidLooks := .later }
def QuickCountsUptoCardSaid : Prop := Claim7.holds Tryz.pinned (.plain (OpenSpec.upto quickCountsSpec)) quickCountsUptoCard

/-- THE SECOND FORM's CARD OF 'fretworklaw12.QuickForms'. -/
def quickFormsUptoCard : Claim7 := { stood := { row := quickFormsUptoRow, standIns := [], harness := (true, "e6ac1402bd6bc33c2158d843cd318e6f8c1a710c37b7997030070878131eeaca"), looks := true }, kinds := [], alts := [], laidByText := true, laidKinds := [.data, .data, .data, .handle], laidTests := true, laidLooks := .later }
def QuickFormsUptoCardSaid : Prop := Claim7.holds Tryz.pinned (.plain (OpenSpec.upto quickFormsSpec)) quickFormsUptoCard

/-- THE SECOND FORM's CARD OF 'fretworklaw12.QuickEdges'. -/
def quickEdgesUptoCard : Claim7 := { stood := { row := quickEdgesUptoRow, standIns := [], harness := (true, "e6ac1402bd6bc33c2158d843cd318e6f8c1a710c37b7997030070878131eeaca"), looks := true }, kinds := [], alts := [], laidByText := true, laidKinds := [.data, .data, .data, .handle], laidTests := true, laidLooks := .later }
def QuickEdgesUptoCardSaid : Prop := Claim7.holds Tryz.pinned (.plain (OpenSpec.upto quickEdgesSpec)) quickEdgesUptoCard
end Rows
end Go.Proofs.YthegabgbakckfaaGreatDoor
