/-
  DERIVED. GIVEN WITH THE SEED: THE CARDS: each row of YtjpmmkodoeipmaaGreatDoorRows.lean that lists a variable, with what it lists TIED to the program's text (the seventh form; the later family's looks); each row that meets fmt, with fmt's text TOLD by the authors' own Lean function (tested against real Go, not proved from fmt's source: count such statements apart). THE CARD IS WHAT COUNTS. Prove the row's statement (the work); the ties are given (YtjpmmkodoeipmaaGreatDoorTie.lean); close each card by the builder's one call (the guide's Derived/Test/ToyasCard.lean, 'card_holds'). Laid BY PROGRAM, IN A SANDBOX (cutbox-door.mjs). By AI agents, Wed Nov 11 2026. No macro, syntax, notation, axiom, sorry.
-/
import Derived.Test.YtjpmmkodoeipmaaGreatDoorRows
import GoSem.ClaimSeven
namespace Go.Proofs.YtjpmmkodoeipmaaGreatDoor
namespace Rows

/-- THE TIED CARD OF 'fretworklaw23.RenderKeeps'. -/
def renderKeepsCard : Claim7 := { stood := { row := renderKeepsRow, standIns := [], harness := (true, "729bb724fb031e91383824d8c801e9096f27eb6ce9e0751b5f2bbc98d18b1c2b"), looks := true }, kinds := [], alts := [], laidByText := true, laidKinds := [.data, .data, .data], laidTests := true, laidLooks := .later }
def RenderKeepsCardSaid : Prop := Claim7.holds Tryz.pinned (.plain (OpenSpec.ofChange renderKeepsSpec)) renderKeepsCard

/-- THE TIED CARD OF 'fretworklaw23.RenderTurned'. -/
def renderTurnedCard : Claim7 := { stood := { row := renderTurnedRow, standIns := [], harness := (true, "729bb724fb031e91383824d8c801e9096f27eb6ce9e0751b5f2bbc98d18b1c2b"), looks := true }, kinds := [], alts := [], laidByText := true, laidKinds := [.data, .data, .data], laidTests := true, laidLooks := .later }
def RenderTurnedCardSaid : Prop := Claim7.holds Tryz.pinned (.plain (OpenSpec.ofChange renderTurnedSpec)) renderTurnedCard

/-- THE SECOND FORM's CARD OF 'fretworklaw23.RenderKeeps'. -/
def renderKeepsUptoCard : Claim7 := { stood := { row := renderKeepsUptoRow, standIns := [], harness := (true, "729bb724fb031e91383824d8c801e9096f27eb6ce9e0751b5f2bbc98d18b1c2b"), looks := true }, kinds := [], alts := [], laidByText := true, laidKinds := [.data, .data, .data], laidTests := true, laidLooks := .later }
def RenderKeepsUptoCardSaid : Prop := Claim7.holds Tryz.pinned (.plain (OpenSpec.upto renderKeepsSpec)) renderKeepsUptoCard

/-- THE SECOND FORM's CARD OF 'fretworklaw23.RenderTurned'. -/
def renderTurnedUptoCard : Claim7 := { stood := { row := renderTurnedUptoRow, standIns := [], harness := (true, "729bb724fb031e91383824d8c801e9096f27eb6ce9e0751b5f2bbc98d18b1c2b"), looks := true }, kinds := [], alts := [], laidByText := true, laidKinds := [.data, .data, .data], laidTests := true, laidLooks := .later }
def RenderTurnedUptoCardSaid : Prop := Claim7.holds Tryz.pinned (.plain (OpenSpec.upto renderTurnedSpec)) renderTurnedUptoCard
end Rows
end Go.Proofs.YtjpmmkodoeipmaaGreatDoor
