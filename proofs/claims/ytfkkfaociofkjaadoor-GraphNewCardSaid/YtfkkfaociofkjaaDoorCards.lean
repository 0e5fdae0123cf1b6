/-
  DERIVED. GIVEN WITH THE SEED: THE CARDS: each row of YtfkkfaociofkjaaDoorRows.lean that lists a variable, with what it lists TIED to the program's text (the seventh form; the later family's looks); each row that meets fmt, with fmt's text TOLD by the authors' own Lean function (tested against real Go, not proved from fmt's source: count such statements apart). THE CARD IS WHAT COUNTS. Prove the row's statement (the work); the ties are given (YtfkkfaociofkjaaDoorTie.lean); close each card by the builder's one call (the guide's Derived/Test/ToyasCard.lean, 'card_holds'). Laid BY PROGRAM, IN A SANDBOX (cutbox-door.mjs). By AI agents, Wed Nov 11 2026. No macro, syntax, notation, axiom, sorry.
-/
import Derived.Test.YtfkkfaociofkjaaDoorRows
import GoSem.ClaimSeven
namespace Go.Proofs.YtfkkfaociofkjaaDoor
namespace Rows

/-- THE TIED CARD OF 'fretworklaw04.GraphLarge'. -/
def graphLargeCard : Claim7 := { stood := { row := graphLargeRow, standIns := [], harness := (true, "a3824a3540d678281f707ab60105080c06dc02f4e5ad1c46e019646b1f87015c"), looks := true }, kinds := [], alts := [], laidByText := true, laidKinds := [.handle], laidTests := true, laidLooks := .later }
def GraphLargeCardSaid : Prop := Claim7.holds Tryd.pinned (.plain (OpenSpec.ofChange graphLargeSpec)) graphLargeCard

/-- THE TIED CARD OF 'fretworklaw04.GraphCopies'. -/
def graphCopiesCard : Claim7 := { stood := { row := graphCopiesRow, standIns := [], harness := (true, "a3824a3540d678281f707ab60105080c06dc02f4e5ad1c46e019646b1f87015c"), looks := true }, kinds := [], alts := [], laidByText := true, laidKinds := [.handle], laidTests := true, laidLooks := .later }
def GraphCopiesCardSaid : Prop := Claim7.holds Tryd.pinned (.plain (OpenSpec.ofChange graphCopiesSpec)) graphCopiesCard

/-- THE TIED CARD OF 'fretworklaw04.GraphParts'. -/
def graphPartsCard : Claim7 := { stood := { row := graphPartsRow, standIns := [], harness := (true, "a3824a3540d678281f707ab60105080c06dc02f4e5ad1c46e019646b1f87015c"), looks := true }, kinds := [], alts := [], laidByText := true, laidKinds := [.handle], laidTests := true, laidLooks := .later }
def GraphPartsCardSaid : Prop := Claim7.holds Tryd.pinned (.plain (OpenSpec.ofChange graphPartsSpec)) graphPartsCard

/-- THE TIED CARD OF 'fretworklaw04.GraphNew'. -/
def graphNewCard : Claim7 := { stood := { row := graphNewRow, standIns := [], harness := (true, "a3824a3540d678281f707ab60105080c06dc02f4e5ad1c46e019646b1f87015c"), looks := true }, kinds := [], alts := [], laidByText := true, laidKinds := [.handle], laidTests := true, laidLooks := .later }
def GraphNewCardSaid : Prop := Claim7.holds Tryd.pinned (.plain (OpenSpec.ofChange graphNewSpec)) graphNewCard

/-- THE TIED CARD OF 'fretworklaw11.LinesLarge'. -/
def linesLargeCard : Claim7 := { stood := { row := linesLargeRow, standIns := [], harness := (true, "a3824a3540d678281f707ab60105080c06dc02f4e5ad1c46e019646b1f87015c"), looks := true }, kinds := [], alts := [], laidByText := true, laidKinds := [.handle], laidTests := true, laidLooks := .later }
def LinesLargeCardSaid : Prop := Claim7.holds Tryd.pinned (.plain (OpenSpec.ofChange linesLargeSpec)) linesLargeCard

/-- THE SECOND FORM's CARD OF 'fretworklaw04.GraphLarge'. -/
def graphLargeUptoCard : Claim7 := { stood := { row := graphLargeUptoRow, standIns := [], harness := (true, "a3824a3540d678281f707ab60105080c06dc02f4e5ad1c46e019646b1f87015c"), looks := true }, kinds := [], alts := [], laidByText := true, laidKinds := [.handle], laidTests := true, laidLooks := .later }
def GraphLargeUptoCardSaid : Prop := Claim7.holds Tryd.pinned (.plain (OpenSpec.upto graphLargeSpec)) graphLargeUptoCard

/-- THE SECOND FORM's CARD OF 'fretworklaw04.GraphCopies'. -/
def graphCopiesUptoCard : Claim7 := { stood := { row := graphCopiesUptoRow, standIns := [], harness := (true, "a3824a3540d678281f707ab60105080c06dc02f4e5ad1c46e019646b1f87015c"), looks := true }, kinds := [], alts := [], laidByText := true, laidKinds := [.handle], laidTests := true, laidLooks := .later }
def GraphCopiesUptoCardSaid : Prop := Claim7.holds Tryd.pinned (.plain (OpenSpec.upto graphCopiesSpec)) graphCopiesUptoCard

/-- THE SECOND FORM's CARD OF 'fretworklaw04.GraphParts'. -/
def graphPartsUptoCard : Claim7 := { stood := { row := graphPartsUptoRow, standIns := [], harness := (true, "a3824a3540d678281f707ab60105080c06dc02f4e5ad1c46e019646b1f87015c"), looks := true }, kinds := [], alts := [], laidByText := true, laidKinds := [.handle], laidTests := true, laidLooks := .later }
def GraphPartsUptoCardSaid : Prop := Claim7.holds Tryd.pinned (.plain (OpenSpec.upto graphPartsSpec)) graphPartsUptoCard

/-- THE SECOND FORM's CARD OF 'fretworklaw04.GraphNew'. -/
def graphNewUptoCard : Claim7 := { stood := { row := graphNewUptoRow, standIns := [], harness := (true, "a3824a3540d678281f707ab60105080c06dc02f4e5ad1c46e019646b1f87015c"), looks := true }, kinds := [], alts := [], laidByText := true, laidKinds := [.handle], laidTests := true, laidLooks := .later }
def GraphNewUptoCardSaid : Prop := Claim7.holds Tryd.pinned (.plain (OpenSpec.upto graphNewSpec)) graphNewUptoCard

/-- THE SECOND FORM's CARD OF 'fretworklaw11.LinesLarge'. -/
def linesLargeUptoCard : Claim7 := { stood := { row := linesLargeUptoRow, standIns := [], harness := (true, "a3824a3540d678281f707ab60105080c06dc02f4e5ad1c46e019646b1f87015c"), looks := true }, kinds := [], alts := [], laidByText := true, laidKinds := [.handle], laidTests := true, laidLooks := .later }
def LinesLargeUptoCardSaid : Prop := Claim7.holds Tryd.pinned (.plain (OpenSpec.upto linesLargeSpec)) linesLargeUptoCard
end Rows
end Go.Proofs.YtfkkfaociofkjaaDoor
