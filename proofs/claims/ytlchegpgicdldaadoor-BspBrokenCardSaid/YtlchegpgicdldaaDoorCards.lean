/-
  DERIVED. GIVEN WITH THE SEED: THE CARDS: each row of YtlchegpgicdldaaDoorRows.lean that lists a variable, with what it lists TIED to the program's text (the seventh form; the later family's looks); each row that meets fmt, with fmt's text TOLD by the authors' own Lean function (tested against real Go, not proved from fmt's source: count such statements apart). THE CARD IS WHAT COUNTS. Prove the row's statement (the work); the ties are given (YtlchegpgicdldaaDoorTie.lean); close each card by the builder's one call (the guide's Derived/Test/ToyasCard.lean, 'card_holds'). Laid BY PROGRAM, IN A SANDBOX (cutbox-door.mjs). By AI agents, Wed Nov 11 2026. No macro, syntax, notation, axiom, sorry.
-/
import Derived.Test.YtlchegpgicdldaaDoorRows
import GoSem.ClaimSeven
namespace Go.Proofs.YtlchegpgicdldaaDoor
namespace Rows

/-- THE TIED CARD OF 'fretworklaw20.BspInboxes'. -/
def bspInboxesCard : Claim7 := { stood := { row := bspInboxesRow, standIns := [], harness := (true, "aff032f86030ac95009e7c23493f880daa0ec3e680593605574944f9eaae977b"), looks := true }, kinds := [], alts := [], laidByText := true, laidKinds := [.handle], laidTests := true, laidLooks := .later }
def BspInboxesCardSaid : Prop := Claim7.holds Tryd.pinned (.plain (OpenSpec.ofChange bspInboxesSpec)) bspInboxesCard

/-- THE TIED CARD OF 'fretworklaw20.BspBarrier'. -/
def bspBarrierCard : Claim7 := { stood := { row := bspBarrierRow, standIns := [], harness := (true, "aff032f86030ac95009e7c23493f880daa0ec3e680593605574944f9eaae977b"), looks := true }, kinds := [], alts := [], laidByText := true, laidKinds := [.handle], laidTests := true, laidLooks := .later }
def BspBarrierCardSaid : Prop := Claim7.holds Tryd.pinned (.plain (OpenSpec.ofChange bspBarrierSpec)) bspBarrierCard

/-- THE TIED CARD OF 'fretworklaw20.BspSame'. -/
def bspSameCard : Claim7 := { stood := { row := bspSameRow, standIns := [], harness := (true, "aff032f86030ac95009e7c23493f880daa0ec3e680593605574944f9eaae977b"), looks := true }, kinds := [], alts := [], laidByText := true, laidKinds := [.handle], laidTests := true, laidLooks := .later }
def BspSameCardSaid : Prop := Claim7.holds Tryd.pinned (.plain (OpenSpec.ofChange bspSameSpec)) bspSameCard

/-- THE TIED CARD OF 'fretworklaw20.BspPlays'. -/
def bspPlaysCard : Claim7 := { stood := { row := bspPlaysRow, standIns := [], harness := (true, "aff032f86030ac95009e7c23493f880daa0ec3e680593605574944f9eaae977b"), looks := true }, kinds := [], alts := [], laidByText := true, laidKinds := [.handle], laidTests := true, laidLooks := .later }
def BspPlaysCardSaid : Prop := Claim7.holds Tryd.pinned (.plain (OpenSpec.ofChange bspPlaysSpec)) bspPlaysCard

/-- THE TIED CARD OF 'fretworklaw20.BspBroken'. -/
def bspBrokenCard : Claim7 := { stood := { row := bspBrokenRow, standIns := [], harness := (true, "aff032f86030ac95009e7c23493f880daa0ec3e680593605574944f9eaae977b"), looks := true }, kinds := [], alts := [], laidByText := true, laidKinds := [.handle], laidTests := true, laidLooks := .later }
def BspBrokenCardSaid : Prop := Claim7.holds Tryd.pinned (.plain (OpenSpec.ofChange bspBrokenSpec)) bspBrokenCard

/-- THE SECOND FORM's CARD OF 'fretworklaw20.BspInboxes'. -/
def bspInboxesUptoCard : Claim7 := { stood := { row := bspInboxesUptoRow, standIns := [], harness := (true, "aff032f86030ac95009e7c23493f880daa0ec3e680593605574944f9eaae977b"), looks := true }, kinds := [], alts := [], laidByText := true, laidKinds := [.handle], laidTests := true, laidLooks := .later }
def BspInboxesUptoCardSaid : Prop := Claim7.holds Tryd.pinned (.plain (OpenSpec.upto bspInboxesSpec)) bspInboxesUptoCard

/-- THE SECOND FORM's CARD OF 'fretworklaw20.BspBarrier'. -/
def bspBarrierUptoCard : Claim7 := { stood := { row := bspBarrierUptoRow, standIns := [], harness := (true, "aff032f86030ac95009e7c23493f880daa0ec3e680593605574944f9eaae977b"), looks := true }, kinds := [], alts := [], laidByText := true, laidKinds := [.handle], laidTests := true, laidLooks := .later }
def BspBarrierUptoCardSaid : Prop := Claim7.holds Tryd.pinned (.plain (OpenSpec.upto bspBarrierSpec)) bspBarrierUptoCard

/-- THE SECOND FORM's CARD OF 'fretworklaw20.BspSame'. -/
def bspSameUptoCard : Claim7 := { stood := { row := bspSameUptoRow, standIns := [], harness := (true, "aff032f86030ac95009e7c23493f880daa0ec3e680593605574944f9eaae977b"), looks := true }, kinds := [], alts := [], laidByText := true, laidKinds := [.handle], laidTests := true, laidLooks := .later }
def BspSameUptoCardSaid : Prop := Claim7.holds Tryd.pinned (.plain (OpenSpec.upto bspSameSpec)) bspSameUptoCard

/-- THE SECOND FORM's CARD OF 'fretworklaw20.BspPlays'. -/
def bspPlaysUptoCard : Claim7 := { stood := { row := bspPlaysUptoRow, standIns := [], harness := (true, "aff032f86030ac95009e7c23493f880daa0ec3e680593605574944f9eaae977b"), looks := true }, kinds := [], alts := [], laidByText := true, laidKinds := [.handle], laidTests := true, laidLooks := .later }
def BspPlaysUptoCardSaid : Prop := Claim7.holds Tryd.pinned (.plain (OpenSpec.upto bspPlaysSpec)) bspPlaysUptoCard

/-- THE SECOND FORM's CARD OF 'fretworklaw20.BspBroken'. -/
def bspBrokenUptoCard : Claim7 := { stood := { row := bspBrokenUptoRow, standIns := [], harness := (true, "aff032f86030ac95009e7c23493f880daa0ec3e680593605574944f9eaae977b"), looks := true }, kinds := [], alts := [], laidByText := true, laidKinds := [.handle], laidTests := true, laidLooks := .later }
def BspBrokenUptoCardSaid : Prop := Claim7.holds Tryd.pinned (.plain (OpenSpec.upto bspBrokenSpec)) bspBrokenUptoCard
end Rows
end Go.Proofs.YtlchegpgicdldaaDoor
