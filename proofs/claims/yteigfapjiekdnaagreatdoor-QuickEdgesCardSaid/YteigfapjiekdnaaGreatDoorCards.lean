/-
  DERIVED. GIVEN WITH THE SEED: THE CARDS: each row of YteigfapjiekdnaaGreatDoorRows.lean that lists a variable, with what it lists TIED to the program's text (the seventh form; the later family's looks); each row that meets fmt, with fmt's text TOLD by the authors' own Lean function (tested against real Go, not proved from fmt's source: count such statements apart). THE CARD IS WHAT COUNTS. Prove the row's statement (the work); the ties are given (YteigfapjiekdnaaGreatDoorTie.lean); close each card by the builder's one call (the guide's Derived/Test/ToyasCard.lean, 'card_holds'). Laid BY PROGRAM, IN A SANDBOX (cutbox-door.mjs). By AI agents, Wed Nov 11 2026. No macro, syntax, notation, axiom, sorry.
-/
import Derived.Test.YteigfapjiekdnaaGreatDoorRows
import GoSem.ClaimSeven
namespace Go.Proofs.YteigfapjiekdnaaGreatDoor
namespace Rows

/-- THE TIED CARD OF 'fretworklaw15.MiniLabels'. -/
def miniLabelsCard : Claim7 := { stood := { row := miniLabelsRow, standIns := [], harness := (true, "4726e53f80f3dad8acec2093eb6021fe9178a784c86f500375f89a8a9f412dd1"), looks := true }, kinds := [], alts := [], laidByText := true, laidKinds := [.handle], laidTests := true, laidLooks := .later }
def MiniLabelsCardSaid : Prop := Claim7.holds Tryz.pinned (.plain (OpenSpec.ofChange miniLabelsSpec)) miniLabelsCard

/-- THE TIED CARD OF 'fretworklaw15.MiniRules'. -/
def miniRulesCard : Claim7 := { stood := { row := miniRulesRow, standIns := [], harness := (true, "4726e53f80f3dad8acec2093eb6021fe9178a784c86f500375f89a8a9f412dd1"), looks := true }, kinds := [], alts := [], laidByText := true, laidKinds := [.handle], laidTests := true, laidLooks := .later }
def MiniRulesCardSaid : Prop := Claim7.holds Tryz.pinned (.plain (OpenSpec.ofChange miniRulesSpec)) miniRulesCard

/-- THE TIED CARD OF 'fretworklaw12.QuickCounts'. -/
def quickCountsCard : Claim7 := { stood := { row := quickCountsRow, standIns := [], harness := (true, "4726e53f80f3dad8acec2093eb6021fe9178a784c86f500375f89a8a9f412dd1"), looks := true }, kinds := [], alts := [], laidByText := true, laidKinds := [.data, .data, .data, .handle], laidTests := true, laidLooks := .later }
def QuickCountsCardSaid : Prop := Claim7.holds Tryz.pinned (.plain (OpenSpec.ofChange quickCountsSpec)) quickCountsCard

/-- THE TIED CARD OF 'fretworklaw15.MiniTakes'. -/
def miniTakesCard : Claim7 := { stood := { row := miniTakesRow, standIns := [], harness := (true, "4726e53f80f3dad8acec2093eb6021fe9178a784c86f500375f89a8a9f412dd1"), looks := true }, kinds := [], alts := [], laidByText := true, laidKinds := [.handle], laidTests := true, laidLooks := .later }
def MiniTakesCardSaid : Prop := Claim7.holds Tryz.pinned (.plain (OpenSpec.ofChange miniTakesSpec)) miniTakesCard

/-- THE TIED CARD OF 'fretworklaw12.QuickForms'. -/
def quickFormsCard : Claim7 := { stood := { row := quickFormsRow, standIns := [], harness := (true, "4726e53f80f3dad8acec2093eb6021fe9178a784c86f500375f89a8a9f412dd1"), looks := true }, kinds := [], alts := [], laidByText := true, laidKinds := [.data, .data, .data, .handle], laidTests := true, laidLooks := .later }
def QuickFormsCardSaid : Prop := Claim7.holds Tryz.pinned (.plain (OpenSpec.ofChange quickFormsSpec)) quickFormsCard

/-- THE TIED CARD OF 'fretworklaw12.QuickEdges'. -/
def quickEdgesCard : Claim7 := { stood := { row := quickEdgesRow, standIns := [], harness := (true, "4726e53f80f3dad8acec2093eb6021fe9178a784c86f500375f89a8a9f412dd1"), looks := true }, kinds := [], alts := [], laidByText := true, laidKinds := [.data, .data, .data, .handle], laidTests := true, laidLooks := .later }
def QuickEdgesCardSaid : Prop := Claim7.holds Tryz.pinned (.plain (OpenSpec.ofChange quickEdgesSpec)) quickEdgesCard

/-- THE SECOND FORM's CARD OF 'fretworklaw15.MiniLabels'. -/
def miniLabelsUptoCard : Claim7 := { stood := { row := miniLabelsUptoRow, standIns := [], harness := (true, "4726e53f80f3dad8acec2093eb6021fe9178a784c86f500375f89a8a9f412dd1"), looks := true }, kinds := [], alts := [], laidByText := true, laidKinds := [.handle], laidTests := true, laidLooks := .later }
def MiniLabelsUptoCardSaid : Prop := Claim7.holds Tryz.pinned (.plain (OpenSpec.upto miniLabelsSpec)) miniLabelsUptoCard

/-- THE SECOND FORM's CARD OF 'fretworklaw15.MiniRules'. -/
def miniRulesUptoCard : Claim7 := { stood := { row := miniRulesUptoRow, standIns := [], harness := (true, "4726e53f80f3dad8acec2093eb6021fe9178a784c86f500375f89a8a9f412dd1"), looks := true }, kinds := [], alts := [], laidByText := true, laidKinds := [.handle], laidTests := true, laidLooks := .later }
def MiniRulesUptoCardSaid : Prop := Claim7.holds Tryz.pinned (.plain (OpenSpec.upto miniRulesSpec)) miniRulesUptoCard

/-- THE SECOND FORM's CARD OF 'fretworklaw12.QuickCounts'. -/
def quickCountsUptoCard : Claim7 := { stood := { row := quickCountsUptoRow, standIns := [], harness := (true, "4726e53f80f3dad8acec2093eb6021fe9178a784c86f500375f89a8a9f412dd1"), looks := true }, kinds := [], alts := [], laidByText := true, laidKinds := [.data, .data, .data, .handle], laidTests := true, laidLooks := .later }
def QuickCountsUptoCardSaid : Prop := Claim7.holds Tryz.pinned (.plain (OpenSpec.upto quickCountsSpec)) quickCountsUptoCard

/-- THE SECOND FORM's CARD OF 'fretworklaw15.MiniTakes'. -/
def miniTakesUptoCard : Claim7 := { stood := { row := miniTakesUptoRow, standIns := [], harness := (true, "4726e53f80f3dad8acec2093eb6021fe9178a784c86f500375f89a8a9f412dd1"), looks := true }, kinds := [], alts := [], laidByText := true, laidKinds := [.handle], laidTests := true, laidLooks := .later }
def MiniTakesUptoCardSaid : Prop := Claim7.holds Tryz.pinned (.plain (OpenSpec.upto miniTakesSpec)) miniTakesUptoCard

/-- THE SECOND FORM's CARD OF 'fretworklaw12.QuickForms'. -/
def quickFormsUptoCard : Claim7 := { stood := { row := quickFormsUptoRow, standIns := [], harness := (true, "4726e53f80f3dad8acec2093eb6021fe9178a784c86f500375f89a8a9f412dd1"), looks := true }, kinds := [], alts := [], laidByText := true, laidKinds := [.data, .data, .data, .handle], laidTests := true, laidLooks := .later }
def QuickFormsUptoCardSaid : Prop := Claim7.holds Tryz.pinned (.plain (OpenSpec.upto quickFormsSpec)) quickFormsUptoCard

/-- THE SECOND FORM's CARD OF 'fretworklaw12.QuickEdges'. -/
def quickEdgesUptoCard : Claim7 := { stood := { row := quickEdgesUptoRow, standIns := [], harness := (true, "4726e53f80f3dad8acec2093eb6021fe9178a784c86f500375f89a8a9f412dd1"), looks := true }, kinds := [], alts := [], laidByText := true, laidKinds := [.data, .data, .data, .handle], laidTests := true, laidLooks := .later }
def QuickEdgesUptoCardSaid : Prop := Claim7.holds Tryz.pinned (.plain (OpenSpec.upto quickEdgesSpec)) quickEdgesUptoCard
end Rows
end Go.Proofs.YteigfapjiekdnaaGreatDoor
