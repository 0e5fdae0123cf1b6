/-
  DERIVED. GIVEN WITH THE SEED: THE CARDS: each row of YtdbafjjmdgdjgaaDoorRows.lean that lists a variable, with what it lists TIED to the program's text (the seventh form; the later family's looks); each row that meets fmt, with fmt's text TOLD by the authors' own Lean function (tested against real Go, not proved from fmt's source: count such statements apart). THE CARD IS WHAT COUNTS. Prove the row's statement (the work); the ties are given (YtdbafjjmdgdjgaaDoorTie.lean); close each card by the builder's one call (the guide's Derived/Test/ToyasCard.lean, 'card_holds'). Laid BY PROGRAM, IN A SANDBOX (cutbox-door.mjs). By AI agents, Wed Nov 11 2026. No macro, syntax, notation, axiom, sorry.
-/
import Derived.Test.YtdbafjjmdgdjgaaDoorRows
import GoSem.ClaimSeven
namespace Go.Proofs.YtdbafjjmdgdjgaaDoor
namespace Rows

/-- THE TIED CARD OF 'fretworklaw25.ScriptParses'. -/
def scriptParsesCard : Claim7 := { stood := { row := scriptParsesRow, standIns := [], harness := (true, "f686778a346668b4fddd78e9b49444e6e55867bf8b47553b6de41f1ab30647c2"), looks := true }, kinds := [], alts := [], laidByText := true, laidKinds := [.data, .data, .data, .handle, .sentinel, .sentinel], laidTests := true, laidLooks := .later }
def ScriptParsesCardSaid : Prop := Claim7.holds Tryd.pinned (.plain (OpenSpec.ofChange scriptParsesSpec)) scriptParsesCard

/-- THE TIED CARD OF 'fretworklaw25.ScriptOrder'. -/
def scriptOrderCard : Claim7 := { stood := { row := scriptOrderRow, standIns := [], harness := (true, "f686778a346668b4fddd78e9b49444e6e55867bf8b47553b6de41f1ab30647c2"), looks := true }, kinds := [], alts := [], laidByText := true, laidKinds := [.data, .data, .data, .handle, .sentinel, .sentinel], laidTests := true, laidLooks := .later }
def ScriptOrderCardSaid : Prop := Claim7.holds Tryd.pinned (.plain (OpenSpec.ofChange scriptOrderSpec)) scriptOrderCard

/-- THE TIED CARD OF 'fretworklaw25.ScriptTexts'. -/
def scriptTextsCard : Claim7 := { stood := { row := scriptTextsRow, standIns := [], harness := (true, "f686778a346668b4fddd78e9b49444e6e55867bf8b47553b6de41f1ab30647c2"), looks := true }, kinds := [], alts := [], laidByText := true, laidKinds := [.data, .data, .data, .handle, .sentinel, .sentinel], laidTests := true, laidLooks := .later }
def ScriptTextsCardSaid : Prop := Claim7.holds Tryd.pinned (.plain (OpenSpec.ofChange scriptTextsSpec)) scriptTextsCard

/-- THE TIED CARD OF 'fretworklaw25.ScriptCounts'. -/
def scriptCountsCard : Claim7 := { stood := { row := scriptCountsRow, standIns := [], harness := (true, "f686778a346668b4fddd78e9b49444e6e55867bf8b47553b6de41f1ab30647c2"), looks := true }, kinds := [], alts := [], laidByText := true, laidKinds := [.data, .data, .data, .handle, .sentinel, .sentinel], laidTests := true, laidLooks := .later }
def ScriptCountsCardSaid : Prop := Claim7.holds Tryd.pinned (.plain (OpenSpec.ofChange scriptCountsSpec)) scriptCountsCard

/-- THE SECOND FORM's CARD OF 'fretworklaw25.ScriptParses'. -/
def scriptParsesUptoCard : Claim7 := { stood := { row := scriptParsesUptoRow, standIns := [], harness := (true, "f686778a346668b4fddd78e9b49444e6e55867bf8b47553b6de41f1ab30647c2"), looks := true }, kinds := [], alts := [], laidByText := true, laidKinds := [.data, .data, .data, .handle, .sentinel, .sentinel], laidTests := true, laidLooks := .later }
def ScriptParsesUptoCardSaid : Prop := Claim7.holds Tryd.pinned (.plain (OpenSpec.upto scriptParsesSpec)) scriptParsesUptoCard

/-- THE SECOND FORM's CARD OF 'fretworklaw25.ScriptOrder'. -/
def scriptOrderUptoCard : Claim7 := { stood := { row := scriptOrderUptoRow, standIns := [], harness := (true, "f686778a346668b4fddd78e9b49444e6e55867bf8b47553b6de41f1ab30647c2"), looks := true }, kinds := [], alts := [], laidByText := true, laidKinds := [.data, .data, .data, .handle, .sentinel, .sentinel], laidTests := true, laidLooks := .later }
def ScriptOrderUptoCardSaid : Prop := Claim7.holds Tryd.pinned (.plain (OpenSpec.upto scriptOrderSpec)) scriptOrderUptoCard

/-- THE SECOND FORM's CARD OF 'fretworklaw25.ScriptTexts'. -/
def scriptTextsUptoCard : Claim7 := { stood := { row := scriptTextsUptoRow, standIns := [], harness := (true, "f686778a346668b4fddd78e9b49444e6e55867bf8b47553b6de41f1ab30647c2"), looks := true }, kinds := [], alts := [], laidByText := true, laidKinds := [.data, .data, .data, .handle, .sentinel, .sentinel], laidTests := true, laidLooks := .later }
def ScriptTextsUptoCardSaid : Prop := Claim7.holds Tryd.pinned (.plain (OpenSpec.upto scriptTextsSpec)) scriptTextsUptoCard

/-- THE SECOND FORM's CARD OF 'fretworklaw25.ScriptCounts'. -/
def scriptCountsUptoCard : Claim7 := { stood := { row := scriptCountsUptoRow, standIns := [], harness := (true, "f686778a346668b4fddd78e9b49444e6e55867bf8b47553b6de41f1ab30647c2"), looks := true }, kinds := [], alts := [], laidByText := true, laidKinds := [.data, .data, .data, .handle, .sentinel, .sentinel], laidTests := true, laidLooks := .later }
def ScriptCountsUptoCardSaid : Prop := Claim7.holds Tryd.pinned (.plain (OpenSpec.upto scriptCountsSpec)) scriptCountsUptoCard
end Rows
end Go.Proofs.YtdbafjjmdgdjgaaDoor
