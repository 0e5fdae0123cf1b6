/-
  DERIVED. GIVEN WITH THE SEED: THE CARDS: each row of YtlpjdngjmknniaaDoorRows.lean that lists a variable, with what it lists TIED to the program's text (the seventh form; the later family's looks); each row that meets fmt, with fmt's text TOLD by the authors' own Lean function (tested against real Go, not proved from fmt's source: count such statements apart). THE CARD IS WHAT COUNTS. Prove the row's statement (the work); the ties are given (YtlpjdngjmknniaaDoorTie.lean); close each card by the builder's one call (the guide's Derived/Test/ToyasCard.lean, 'card_holds'). Laid BY PROGRAM, IN A SANDBOX (cutbox-door.mjs). By AI agents, Wed Nov 11 2026. No macro, syntax, notation, axiom, sorry.
-/
import Derived.Test.YtlpjdngjmknniaaDoorRows
import GoSem.ClaimSeven
namespace Go.Proofs.YtlpjdngjmknniaaDoor
namespace Rows

/-- THE TIED CARD OF 'fretworklaw19.NetPlays'. -/
def netPlaysCard : Claim7 := { stood := { row := netPlaysRow, standIns := [], harness := (true, "4d45c60f593a85015b8baca196f05d83bcbe64b11bbfe308bd648a40ff94caf3"), looks := true }, kinds := [], alts := [], laidByText := true, laidKinds := [.handle], laidTests := true, laidLooks := .later }
def NetPlaysCardSaid : Prop := Claim7.holds Tryd.pinned (.plain (OpenSpec.ofChange netPlaysSpec)) netPlaysCard

/-- THE TIED CARD OF 'fretworklaw19.NetAll'. -/
def netAllCard : Claim7 := { stood := { row := netAllRow, standIns := [], harness := (true, "4d45c60f593a85015b8baca196f05d83bcbe64b11bbfe308bd648a40ff94caf3"), looks := true }, kinds := [], alts := [], laidByText := true, laidKinds := [.handle], laidTests := true, laidLooks := .later }
def NetAllCardSaid : Prop := Claim7.holds Tryd.pinned (.plain (OpenSpec.ofChange netAllSpec)) netAllCard

/-- THE TIED CARD OF 'fretworklaw19.NetNumbers'. -/
def netNumbersCard : Claim7 := { stood := { row := netNumbersRow, standIns := [], harness := (true, "4d45c60f593a85015b8baca196f05d83bcbe64b11bbfe308bd648a40ff94caf3"), looks := true }, kinds := [], alts := [], laidByText := true, laidKinds := [.handle], laidTests := true, laidLooks := .later }
def NetNumbersCardSaid : Prop := Claim7.holds Tryd.pinned (.plain (OpenSpec.ofChange netNumbersSpec)) netNumbersCard

/-- THE TIED CARD OF 'fretworklaw19.NetLate'. -/
def netLateCard : Claim7 := { stood := { row := netLateRow, standIns := [], harness := (true, "4d45c60f593a85015b8baca196f05d83bcbe64b11bbfe308bd648a40ff94caf3"), looks := true }, kinds := [], alts := [], laidByText := true, laidKinds := [.handle], laidTests := true, laidLooks := .later }
def NetLateCardSaid : Prop := Claim7.holds Tryd.pinned (.plain (OpenSpec.ofChange netLateSpec)) netLateCard

/-- THE TIED CARD OF 'fretworklaw19.NetClones'. -/
def netClonesCard : Claim7 := { stood := { row := netClonesRow, standIns := [], harness := (true, "4d45c60f593a85015b8baca196f05d83bcbe64b11bbfe308bd648a40ff94caf3"), looks := true }, kinds := [], alts := [], laidByText := true, laidKinds := [.handle], laidTests := true, laidLooks := .later }
def NetClonesCardSaid : Prop := Claim7.holds Tryd.pinned (.plain (OpenSpec.ofChange netClonesSpec)) netClonesCard

/-- THE TIED CARD OF 'fretworklaw20.BspInboxes'. -/
def bspInboxesCard : Claim7 := { stood := { row := bspInboxesRow, standIns := [], harness := (true, "4d45c60f593a85015b8baca196f05d83bcbe64b11bbfe308bd648a40ff94caf3"), looks := true }, kinds := [], alts := [], laidByText := true, laidKinds := [.handle], laidTests := true, laidLooks := .later }
def BspInboxesCardSaid : Prop := Claim7.holds Tryd.pinned (.plain (OpenSpec.ofChange bspInboxesSpec)) bspInboxesCard

/-- THE TIED CARD OF 'fretworklaw20.BspBarrier'. -/
def bspBarrierCard : Claim7 := { stood := { row := bspBarrierRow, standIns := [], harness := (true, "4d45c60f593a85015b8baca196f05d83bcbe64b11bbfe308bd648a40ff94caf3"), looks := true }, kinds := [], alts := [], laidByText := true, laidKinds := [.handle], laidTests := true, laidLooks := .later }
def BspBarrierCardSaid : Prop := Claim7.holds Tryd.pinned (.plain (OpenSpec.ofChange bspBarrierSpec)) bspBarrierCard

/-- THE TIED CARD OF 'fretworklaw20.BspSame'. -/
def bspSameCard : Claim7 := { stood := { row := bspSameRow, standIns := [], harness := (true, "4d45c60f593a85015b8baca196f05d83bcbe64b11bbfe308bd648a40ff94caf3"), looks := true }, kinds := [], alts := [], laidByText := true, laidKinds := [.handle], laidTests := true, laidLooks := .later }
def BspSameCardSaid : Prop := Claim7.holds Tryd.pinned (.plain (OpenSpec.ofChange bspSameSpec)) bspSameCard

/-- THE TIED CARD OF 'fretworklaw20.BspPlays'. -/
def bspPlaysCard : Claim7 := { stood := { row := bspPlaysRow, standIns := [], harness := (true, "4d45c60f593a85015b8baca196f05d83bcbe64b11bbfe308bd648a40ff94caf3"), looks := true }, kinds := [], alts := [], laidByText := true, laidKinds := [.handle], laidTests := true, laidLooks := .later }
def BspPlaysCardSaid : Prop := Claim7.holds Tryd.pinned (.plain (OpenSpec.ofChange bspPlaysSpec)) bspPlaysCard

/-- THE TIED CARD OF 'fretworklaw20.BspBroken'. -/
def bspBrokenCard : Claim7 := { stood := { row := bspBrokenRow, standIns := [], harness := (true, "4d45c60f593a85015b8baca196f05d83bcbe64b11bbfe308bd648a40ff94caf3"), looks := true }, kinds := [], alts := [], laidByText := true, laidKinds := [.handle], laidTests := true, laidLooks := .later }
def BspBrokenCardSaid : Prop := Claim7.holds Tryd.pinned (.plain (OpenSpec.ofChange bspBrokenSpec)) bspBrokenCard

/-- THE SECOND FORM's CARD OF 'fretworklaw19.NetPlays'. -/
def netPlaysUptoCard : Claim7 := { stood := { row := netPlaysUptoRow, standIns := [], harness := (true, "4d45c60f593a85015b8baca196f05d83bcbe64b11bbfe308bd648a40ff94caf3"), looks := true }, kinds := [], alts := [], laidByText := true, laidKinds := [.handle], laidTests := true, laidLooks := .later }
def NetPlaysUptoCardSaid : Prop := Claim7.holds Tryd.pinned (.plain (OpenSpec.upto netPlaysSpec)) netPlaysUptoCard

/-- THE SECOND FORM's CARD OF 'fretworklaw19.NetAll'. -/
def netAllUptoCard : Claim7 := { stood := { row := netAllUptoRow, standIns := [], harness := (true, "4d45c60f593a85015b8baca196f05d83bcbe64b11bbfe308bd648a40ff94caf3"), looks := true }, kinds := [], alts := [], laidByText := true, laidKinds := [.handle], laidTests := true, laidLooks := .later }
def NetAllUptoCardSaid : Prop := Claim7.holds Tryd.pinned (.plain (OpenSpec.upto netAllSpec)) netAllUptoCard

/-- THE SECOND FORM's CARD OF 'fretworklaw19.NetNumbers'. -/
def netNumbersUptoCard : Claim7 := { stood := { row := netNumbersUptoRow, standIns := [], harness := (true, "4d45c60f593a85015b8baca196f05d83bcbe64b11bbfe308bd648a40ff94caf3"), looks := true }, kinds := [], alts := [], laidByText := true, laidKinds := [.handle], laidTests := true, laidLooks := .later }
def NetNumbersUptoCardSaid : Prop := Claim7.holds Tryd.pinned (.plain (OpenSpec.upto netNumbersSpec)) netNumbersUptoCard

/-- THE SECOND FORM's CARD OF 'fretworklaw19.NetLate'. -/
def netLateUptoCard : Claim7 := { stood := { row := netLateUptoRow, standIns := [], harness := (true, "4d45c60f593a85015b8baca196f05d83bcbe64b11bbfe308bd648a40ff94caf3"), looks := true }, kinds := [], alts := [], laidByText := true, laidKinds := [.handle], laidTests := true, laidLooks := .later }
def NetLateUptoCardSaid : Prop := Claim7.holds Tryd.pinned (.plain (OpenSpec.upto netLateSpec)) netLateUptoCard

/-- THE SECOND FORM's CARD OF 'fretworklaw19.NetClones'. -/
def netClonesUptoCard : Claim7 := { stood := { row := netClonesUptoRow, standIns := [], harness := (true, "4d45c60f593a85015b8baca196f05d83bcbe64b11bbfe308bd648a40ff94caf3"), looks := true }, kinds := [], alts := [], laidByText := true, laidKinds := [.handle], laidTests := true, laidLooks := .later }
def NetClonesUptoCardSaid : Prop := Claim7.holds Tryd.pinned (.plain (OpenSpec.upto netClonesSpec)) netClonesUptoCard

/-- THE SECOND FORM's CARD OF 'fretworklaw20.BspInboxes'. -/
def bspInboxesUptoCard : Claim7 := { stood := { row := bspInboxesUptoRow, standIns := [], harness := (true, "4d45c60f593a85015b8baca196f05d83bcbe64b11bbfe308bd648a40ff94caf3"), looks := true }, kinds := [], alts := [], laidByText := true, laidKinds := [.handle], laidTests := true, laidLooks := .later }
def BspInboxesUptoCardSaid : Prop := Claim7.holds Tryd.pinned (.plain (OpenSpec.upto bspInboxesSpec)) bspInboxesUptoCard

/-- THE SECOND FORM's CARD OF 'fretworklaw20.BspBarrier'. -/
def bspBarrierUptoCard : Claim7 := { stood := { row := bspBarrierUptoRow, standIns := [], harness := (true, "4d45c60f593a85015b8baca196f05d83bcbe64b11bbfe308bd648a40ff94caf3"), looks := true }, kinds := [], alts := [], laidByText := true, laidKinds := [.handle], laidTests := true, laidLooks := .later }
def BspBarrierUptoCardSaid : Prop := Claim7.holds Tryd.pinned (.plain (OpenSpec.upto bspBarrierSpec)) bspBarrierUptoCard

/-- THE SECOND FORM's CARD OF 'fretworklaw20.BspSame'. -/
def bspSameUptoCard : Claim7 := { stood := { row := bspSameUptoRow, standIns := [], harness := (true, "4d45c60f593a85015b8baca196f05d83bcbe64b11bbfe308bd648a40ff94caf3"), looks := true }, kinds := [], alts := [], laidByText := true, laidKinds := [.handle], laidTests := true, laidLooks := .later }
def BspSameUptoCardSaid : Prop := Claim7.holds Tryd.pinned (.plain (OpenSpec.upto bspSameSpec)) bspSameUptoCard

/-- THE SECOND FORM's CARD OF 'fretworklaw20.BspPlays'. -/
def bspPlaysUptoCard : Claim7 := { stood := { row := bspPlaysUptoRow, standIns := [], harness := (true, "4d45c60f593a85015b8baca196f05d83bcbe64b11bbfe308bd648a40ff94caf3"), looks := true }, kinds := [], alts := [], laidByText := true, laidKinds := [.handle], laidTests := true, laidLooks := .later }
def BspPlaysUptoCardSaid : Prop := Claim7.holds Tryd.pinned (.plain (OpenSpec.upto bspPlaysSpec)) bspPlaysUptoCard

/-- THE SECOND FORM's CARD OF 'fretworklaw20.BspBroken'. -/
def bspBrokenUptoCard : Claim7 := { stood := { row := bspBrokenUptoRow, standIns := [], harness := (true, "4d45c60f593a85015b8baca196f05d83bcbe64b11bbfe308bd648a40ff94caf3"), looks := true }, kinds := [], alts := [], laidByText := true, laidKinds := [.handle], laidTests := true, laidLooks := .later }
def BspBrokenUptoCardSaid : Prop := Claim7.holds Tryd.pinned (.plain (OpenSpec.upto bspBrokenSpec)) bspBrokenUptoCard
end Rows
end Go.Proofs.YtlpjdngjmknniaaDoor
