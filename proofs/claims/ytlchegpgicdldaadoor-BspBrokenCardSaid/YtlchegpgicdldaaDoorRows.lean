/-
  NARROWER THAN 'FOR EVERY INPUT', by the rows' own cells (each row's printed sentence says how): BspInboxes: laid · BspBarrier: laid · BspSame: laid · BspPlays: laid · BspBroken: laid.
  DERIVED. THE GIVEN ROWS OF THIS SEAT. 5 by the template 'for every input the law returns true; each argument reads behind the call as it read before'; 0 by the template 'total and deterministic' (their statements: YtlchegpgicdldaaDoorTotals.lean).
  GIVEN WITH THE SEED: the statements are not yours to turn. If you find one false, say at which input.
  Laid BY PROGRAM, IN A SANDBOX (cutbox-rows.mjs): the forced cells as the released guide's own fill.sh prints them over the translation cedbf8a1c8968a64… (all of the seat's roots in one cut). By AI agents, Wed Nov 11 2026. No macro, syntax, notation, axiom, sorry.
-/
import Derived.Test.YtlchegpgicdldaaDoorChecked
import GoSem.Claim
import GoSem.ClaimJoined
import GoSem.ClaimMapViews
import Derived.JoinedTies
import Derived.KernelRfl
namespace Go.Proofs.YtlchegpgicdldaaDoor
/- THE CELL 'sum', in the pinned program and in every row, IS THE sha256 OF THE DUMP (.gsa) THAT YtlchegpgicdldaaDoorProg.lean LOADS. Nothing in Lean hashes anything: it is a label: what it is worth is what the hold of that sum in a sandbox is worth. -/
noncomputable def Tryd.pinned : Pinned := { name := "ytlchegpgicdldaadoor", sum := "cedbf8a1c8968a64d73086b9f0c67c0e296de41f153baca10ec6131f971eca58", checked := Tryd.checked }
namespace Rows
def none {H : Type} : Left H := { results := [], args := [] }

/- WHAT THE LISTED PACKAGE-LEVEL VARIABLES READ AS WHEN THE CALL BEGINS. Each datum BY PROGRAM (the guide's laid-datum.mjs) off the statement by which the dump's own 'gosem.cut.vars' lays the variable. In a bare row this is a premise. The card (YtlchegpgicdldaaDoorCards.lean) ties it to the program's text. -/
def laid_errors_errorType {H : Type} : DataW H := .iface "internal/reflectlite.rtype" (.agg [.ptr (.lit (.string [101, 114, 114, 111, 114]))])

/-- 'fretworklaw20.BspInboxes': WHATEVER THE INPUT: true; the input reads as it did. -/
def bspInboxesSpec : ChangeSpec := { name := "bspInboxes", fn := fun _ => fun
  | [d1, d2, d3] => { results := [.lit (.bool true)], args := [d1, d2, d3] }
  | _ => none }
def bspInboxesRow : OpenClaim := { program := "ytlchegpgicdldaadoor", sum := "cedbf8a1c8968a64d73086b9f0c67c0e296de41f153baca10ec6131f971eca58", func := "fretwork/fretworklaw20.BspInboxes", spec := "bspInboxes", inPlace := ["internal/reflectlite.ValueOf", "(internal/reflectlite.Value).Type", "(internal/reflectlite.Value).IsNil", "internal/reflectlite.TypeOf", "(internal/reflectlite.Value).Elem", "(internal/reflectlite.Value).Set"], unfollowed := true, recurses := true, named := ["errors.errorType"], plainKeys := false, apart := false, laid := [("errors.errorType", laid_errors_errorType)] }
def BspInboxesSaid : Prop := bspInboxesRow.holds Tryd.pinned (OpenSpec.ofChange bspInboxesSpec)

/-- ITS FALSE NEIGHBOUR: 'it returns false'. Refute it at one input. -/
def bspInboxesWrong : ChangeSpec := { name := "bspInboxes", fn := fun _ => fun
  | [d1, d2, d3] => { results := [.lit (.bool false)], args := [d1, d2, d3] }
  | _ => none }
def BspInboxesWrongFalsely : Prop := bspInboxesRow.holds Tryd.pinned (OpenSpec.ofChange bspInboxesWrong)

/-- 'fretworklaw20.BspBarrier': WHATEVER THE INPUT: true; the input reads as it did. -/
def bspBarrierSpec : ChangeSpec := { name := "bspBarrier", fn := fun _ => fun
  | [d1, d2] => { results := [.lit (.bool true)], args := [d1, d2] }
  | _ => none }
def bspBarrierRow : OpenClaim := { program := "ytlchegpgicdldaadoor", sum := "cedbf8a1c8968a64d73086b9f0c67c0e296de41f153baca10ec6131f971eca58", func := "fretwork/fretworklaw20.BspBarrier", spec := "bspBarrier", inPlace := ["internal/reflectlite.ValueOf", "(internal/reflectlite.Value).Type", "(internal/reflectlite.Value).IsNil", "internal/reflectlite.TypeOf", "(internal/reflectlite.Value).Elem", "(internal/reflectlite.Value).Set"], unfollowed := true, recurses := true, named := ["errors.errorType"], plainKeys := false, apart := false, laid := [("errors.errorType", laid_errors_errorType)] }
def BspBarrierSaid : Prop := bspBarrierRow.holds Tryd.pinned (OpenSpec.ofChange bspBarrierSpec)

/-- ITS FALSE NEIGHBOUR: 'it returns false'. Refute it at one input. -/
def bspBarrierWrong : ChangeSpec := { name := "bspBarrier", fn := fun _ => fun
  | [d1, d2] => { results := [.lit (.bool false)], args := [d1, d2] }
  | _ => none }
def BspBarrierWrongFalsely : Prop := bspBarrierRow.holds Tryd.pinned (OpenSpec.ofChange bspBarrierWrong)

/-- 'fretworklaw20.BspSame': WHATEVER THE INPUT: true; the input reads as it did. -/
def bspSameSpec : ChangeSpec := { name := "bspSame", fn := fun _ => fun
  | [d1, d2, d3, d4] => { results := [.lit (.bool true)], args := [d1, d2, d3, d4] }
  | _ => none }
def bspSameRow : OpenClaim := { program := "ytlchegpgicdldaadoor", sum := "cedbf8a1c8968a64d73086b9f0c67c0e296de41f153baca10ec6131f971eca58", func := "fretwork/fretworklaw20.BspSame", spec := "bspSame", inPlace := ["internal/reflectlite.ValueOf", "(internal/reflectlite.Value).Type", "(internal/reflectlite.Value).IsNil", "internal/reflectlite.TypeOf", "(internal/reflectlite.Value).Elem", "(internal/reflectlite.Value).Set"], unfollowed := true, recurses := true, named := ["errors.errorType"], plainKeys := false, apart := false, laid := [("errors.errorType", laid_errors_errorType)] }
def BspSameSaid : Prop := bspSameRow.holds Tryd.pinned (OpenSpec.ofChange bspSameSpec)

/-- ITS FALSE NEIGHBOUR: 'it returns false'. Refute it at one input. -/
def bspSameWrong : ChangeSpec := { name := "bspSame", fn := fun _ => fun
  | [d1, d2, d3, d4] => { results := [.lit (.bool false)], args := [d1, d2, d3, d4] }
  | _ => none }
def BspSameWrongFalsely : Prop := bspSameRow.holds Tryd.pinned (OpenSpec.ofChange bspSameWrong)

/-- 'fretworklaw20.BspPlays': WHATEVER THE INPUT: true; the input reads as it did. -/
def bspPlaysSpec : ChangeSpec := { name := "bspPlays", fn := fun _ => fun
  | [d1, d2, d3] => { results := [.lit (.bool true)], args := [d1, d2, d3] }
  | _ => none }
def bspPlaysRow : OpenClaim := { program := "ytlchegpgicdldaadoor", sum := "cedbf8a1c8968a64d73086b9f0c67c0e296de41f153baca10ec6131f971eca58", func := "fretwork/fretworklaw20.BspPlays", spec := "bspPlays", inPlace := ["internal/reflectlite.ValueOf", "(internal/reflectlite.Value).Type", "(internal/reflectlite.Value).IsNil", "internal/reflectlite.TypeOf", "(internal/reflectlite.Value).Elem", "(internal/reflectlite.Value).Set"], unfollowed := true, recurses := true, named := ["errors.errorType"], plainKeys := false, apart := false, laid := [("errors.errorType", laid_errors_errorType)] }
def BspPlaysSaid : Prop := bspPlaysRow.holds Tryd.pinned (OpenSpec.ofChange bspPlaysSpec)

/-- ITS FALSE NEIGHBOUR: 'it returns false'. Refute it at one input. -/
def bspPlaysWrong : ChangeSpec := { name := "bspPlays", fn := fun _ => fun
  | [d1, d2, d3] => { results := [.lit (.bool false)], args := [d1, d2, d3] }
  | _ => none }
def BspPlaysWrongFalsely : Prop := bspPlaysRow.holds Tryd.pinned (OpenSpec.ofChange bspPlaysWrong)

/-- 'fretworklaw20.BspBroken': WHATEVER THE INPUT: true; the input reads as it did. -/
def bspBrokenSpec : ChangeSpec := { name := "bspBroken", fn := fun _ => fun
  | [d1, d2, d3] => { results := [.lit (.bool true)], args := [d1, d2, d3] }
  | _ => none }
def bspBrokenRow : OpenClaim := { program := "ytlchegpgicdldaadoor", sum := "cedbf8a1c8968a64d73086b9f0c67c0e296de41f153baca10ec6131f971eca58", func := "fretwork/fretworklaw20.BspBroken", spec := "bspBroken", inPlace := ["internal/reflectlite.ValueOf", "(internal/reflectlite.Value).Type", "(internal/reflectlite.Value).IsNil", "internal/reflectlite.TypeOf", "(internal/reflectlite.Value).Elem", "(internal/reflectlite.Value).Set"], unfollowed := true, recurses := true, named := ["errors.errorType"], plainKeys := false, apart := false, laid := [("errors.errorType", laid_errors_errorType)] }
def BspBrokenSaid : Prop := bspBrokenRow.holds Tryd.pinned (OpenSpec.ofChange bspBrokenSpec)

/-- ITS FALSE NEIGHBOUR: 'it returns false'. Refute it at one input. -/
def bspBrokenWrong : ChangeSpec := { name := "bspBroken", fn := fun _ => fun
  | [d1, d2, d3] => { results := [.lit (.bool false)], args := [d1, d2, d3] }
  | _ => none }
def BspBrokenWrongFalsely : Prop := bspBrokenRow.holds Tryd.pinned (OpenSpec.ofChange bspBrokenWrong)

/- THE SECOND FORM. 'bulk': how many values and letters a reading holds, each counted each time it is reached (what is shared counts as often as it is met; a slice's spare places count too). A statement '..UptoSaid' is the law's where the arguments, and the package variables that the reading takes, are together of bulk at most 1048576: NARROWER than '..Said'. Prove '..Said' where nothing that the law and all that it calls make is longer than what came in: it says more and counts as full. Else prove '..UptoSaid'. A law counts once. -/
mutual
def uptoBulk {H : Type} : DataW H → Nat
  | .lit (.string bytes) => bytes.length + 1
  | .lit _ => 1
  | .nil => 1
  | .ptr d => uptoBulk d + 1
  | .slice elems spare => uptoBulkAll elems + uptoBulkAll spare + 1
  | .agg parts => uptoBulkAll parts + 1
  | .iface _ d => uptoBulk d + 1
  | .map entries => uptoBulkEntries entries + 1
  | .held _ => 1
def uptoBulkAll {H : Type} : List (DataW H) → Nat
  | [] => 0
  | d :: r => uptoBulk d + uptoBulkAll r
def uptoBulkEntries {H : Type} : List (Lit × DataW H) → Nat
  | [] => 0
  | x :: r => uptoBulkEntry x + uptoBulkEntries r
def uptoBulkEntry {H : Type} : Lit × DataW H → Nat
  | (.string bytes, d) => bytes.length + uptoBulk d + 1
  | (_, d) => uptoBulk d + 1
 end
def uptoSmall : (H : Type) → List (DataW H) → Bool := fun _ ds => decide (uptoBulkAll ds ≤ 1048576)
def OpenSpec.upto (s : _root_.Go.ChangeSpec) : _root_.Go.OpenSpec := { _root_.Go.OpenSpec.ofChange s with cond := some uptoSmall }

/-- 'fretworklaw20.BspInboxes', WHERE WHAT IT READS IS OF BULK AT MOST 1048576: true; the input reads as it did. -/
def bspInboxesUptoRow : OpenClaim := { program := "ytlchegpgicdldaadoor", sum := "cedbf8a1c8968a64d73086b9f0c67c0e296de41f153baca10ec6131f971eca58", func := "fretwork/fretworklaw20.BspInboxes", spec := "bspInboxes", inPlace := ["internal/reflectlite.ValueOf", "(internal/reflectlite.Value).Type", "(internal/reflectlite.Value).IsNil", "internal/reflectlite.TypeOf", "(internal/reflectlite.Value).Elem", "(internal/reflectlite.Value).Set"], unfollowed := true, recurses := true, named := ["errors.errorType"], plainKeys := false, apart := false, laid := [("errors.errorType", laid_errors_errorType)], narrowed := true }
def BspInboxesUptoSaid : Prop := bspInboxesUptoRow.holds Tryd.pinned (OpenSpec.upto bspInboxesSpec)

/-- 'fretworklaw20.BspBarrier', WHERE WHAT IT READS IS OF BULK AT MOST 1048576: true; the input reads as it did. -/
def bspBarrierUptoRow : OpenClaim := { program := "ytlchegpgicdldaadoor", sum := "cedbf8a1c8968a64d73086b9f0c67c0e296de41f153baca10ec6131f971eca58", func := "fretwork/fretworklaw20.BspBarrier", spec := "bspBarrier", inPlace := ["internal/reflectlite.ValueOf", "(internal/reflectlite.Value).Type", "(internal/reflectlite.Value).IsNil", "internal/reflectlite.TypeOf", "(internal/reflectlite.Value).Elem", "(internal/reflectlite.Value).Set"], unfollowed := true, recurses := true, named := ["errors.errorType"], plainKeys := false, apart := false, laid := [("errors.errorType", laid_errors_errorType)], narrowed := true }
def BspBarrierUptoSaid : Prop := bspBarrierUptoRow.holds Tryd.pinned (OpenSpec.upto bspBarrierSpec)

/-- 'fretworklaw20.BspSame', WHERE WHAT IT READS IS OF BULK AT MOST 1048576: true; the input reads as it did. -/
def bspSameUptoRow : OpenClaim := { program := "ytlchegpgicdldaadoor", sum := "cedbf8a1c8968a64d73086b9f0c67c0e296de41f153baca10ec6131f971eca58", func := "fretwork/fretworklaw20.BspSame", spec := "bspSame", inPlace := ["internal/reflectlite.ValueOf", "(internal/reflectlite.Value).Type", "(internal/reflectlite.Value).IsNil", "internal/reflectlite.TypeOf", "(internal/reflectlite.Value).Elem", "(internal/reflectlite.Value).Set"], unfollowed := true, recurses := true, named := ["errors.errorType"], plainKeys := false, apart := false, laid := [("errors.errorType", laid_errors_errorType)], narrowed := true }
def BspSameUptoSaid : Prop := bspSameUptoRow.holds Tryd.pinned (OpenSpec.upto bspSameSpec)

/-- 'fretworklaw20.BspPlays', WHERE WHAT IT READS IS OF BULK AT MOST 1048576: true; the input reads as it did. -/
def bspPlaysUptoRow : OpenClaim := { program := "ytlchegpgicdldaadoor", sum := "cedbf8a1c8968a64d73086b9f0c67c0e296de41f153baca10ec6131f971eca58", func := "fretwork/fretworklaw20.BspPlays", spec := "bspPlays", inPlace := ["internal/reflectlite.ValueOf", "(internal/reflectlite.Value).Type", "(internal/reflectlite.Value).IsNil", "internal/reflectlite.TypeOf", "(internal/reflectlite.Value).Elem", "(internal/reflectlite.Value).Set"], unfollowed := true, recurses := true, named := ["errors.errorType"], plainKeys := false, apart := false, laid := [("errors.errorType", laid_errors_errorType)], narrowed := true }
def BspPlaysUptoSaid : Prop := bspPlaysUptoRow.holds Tryd.pinned (OpenSpec.upto bspPlaysSpec)

/-- 'fretworklaw20.BspBroken', WHERE WHAT IT READS IS OF BULK AT MOST 1048576: true; the input reads as it did. -/
def bspBrokenUptoRow : OpenClaim := { program := "ytlchegpgicdldaadoor", sum := "cedbf8a1c8968a64d73086b9f0c67c0e296de41f153baca10ec6131f971eca58", func := "fretwork/fretworklaw20.BspBroken", spec := "bspBroken", inPlace := ["internal/reflectlite.ValueOf", "(internal/reflectlite.Value).Type", "(internal/reflectlite.Value).IsNil", "internal/reflectlite.TypeOf", "(internal/reflectlite.Value).Elem", "(internal/reflectlite.Value).Set"], unfollowed := true, recurses := true, named := ["errors.errorType"], plainKeys := false, apart := false, laid := [("errors.errorType", laid_errors_errorType)], narrowed := true }
def BspBrokenUptoSaid : Prop := bspBrokenUptoRow.holds Tryd.pinned (OpenSpec.upto bspBrokenSpec)

end Rows
end Go.Proofs.YtlchegpgicdldaaDoor
