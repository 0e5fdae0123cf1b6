/-
  DERIVED. GIVEN WITH THE SEED: THE CARDS: each row of YtmkbgbnehokmmaaGreatDoorRows.lean that lists a variable, with what it lists TIED to the program's text (the seventh form; the later family's looks); each row that meets fmt, with fmt's text TOLD by the authors' own Lean function (tested against real Go, not proved from fmt's source: count such statements apart). THE CARD IS WHAT COUNTS. Prove the row's statement (the work); the ties are given (YtmkbgbnehokmmaaGreatDoorTie.lean); close each card by the builder's one call (the guide's Derived/Test/ToyasCard.lean, 'card_holds'). Laid BY PROGRAM, IN A SANDBOX (cutbox-door.mjs). By AI agents, Wed Nov 11 2026. No macro, syntax, notation, axiom, sorry.
-/
import Derived.Test.YtmkbgbnehokmmaaGreatDoorRows
import GoSem.ClaimSeven
namespace Go.Proofs.YtmkbgbnehokmmaaGreatDoor
namespace Rows

/-- THE TIED CARD OF 'fretworklaw04.GraphOrder'. -/
def graphOrderCard : Claim7 := { stood := { row := graphOrderRow, standIns := [], harness := (true, "5a2116fbdbc758c4e97d7bf8f0a37465588ed6b57bb6355a5a444e2ee30d87cb"), looks := true }, kinds := [], alts := [], laidByText := true, laidKinds := [.handle], laidTests := true, laidLooks := .later }
def GraphOrderCardSaid : Prop := Claim7.holds Tryz.pinned (.plain (OpenSpec.ofChange graphOrderSpec)) graphOrderCard

/-- THE SECOND FORM's CARD OF 'fretworklaw04.GraphOrder'. -/
def graphOrderUptoCard : Claim7 := { stood := { row := graphOrderUptoRow, standIns := [], harness := (true, "5a2116fbdbc758c4e97d7bf8f0a37465588ed6b57bb6355a5a444e2ee30d87cb"), looks := true }, kinds := [], alts := [], laidByText := true, laidKinds := [.handle], laidTests := true, laidLooks := .later }
def GraphOrderUptoCardSaid : Prop := Claim7.holds Tryz.pinned (.plain (OpenSpec.upto graphOrderSpec)) graphOrderUptoCard
end Rows
end Go.Proofs.YtmkbgbnehokmmaaGreatDoor
