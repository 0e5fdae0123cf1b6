/-
  NARROWER THAN 'FOR EVERY INPUT', by the rows' own cells (each row's printed sentence says how): GraphLarge: laid · GraphCopies: laid · GraphParts: laid · GraphNew: laid · LinesLarge: laid.
  DERIVED. THE GIVEN ROWS OF THIS SEAT. 5 by the template 'for every input the law returns true; each argument reads behind the call as it read before'; 0 by the template 'total and deterministic' (their statements: YtfkkfaociofkjaaDoorTotals.lean).
  GIVEN WITH THE SEED: the statements are not yours to turn. If you find one false, say at which input.
  Laid BY PROGRAM, IN A SANDBOX (cutbox-rows.mjs): the forced cells as the released guide's own fill.sh prints them over the translation b79e153e934ee48b… (all of the seat's roots in one cut). By AI agents, Wed Nov 11 2026. No macro, syntax, notation, axiom, sorry.
-/
import Derived.Test.YtfkkfaociofkjaaDoorChecked
import GoSem.Claim
import GoSem.ClaimJoined
import GoSem.ClaimMapViews
import Derived.JoinedTies
import Derived.KernelRfl
namespace Go.Proofs.YtfkkfaociofkjaaDoor
/- THE CELL 'sum', in the pinned program and in every row, IS THE sha256 OF THE DUMP (.gsa) THAT YtfkkfaociofkjaaDoorProg.lean LOADS. Nothing in Lean hashes anything: it is a label: what it is worth is what the hold of that sum in a sandbox is worth. -/
noncomputable def Tryd.pinned : Pinned := { name := "ytfkkfaociofkjaadoor", sum := "b79e153e934ee48b42987b77e67666a78c76cdc562e73f112ba2c9fba65da37d", checked := Tryd.checked }
namespace Rows
def none {H : Type} : Left H := { results := [], args := [] }

/- WHAT THE LISTED PACKAGE-LEVEL VARIABLES READ AS WHEN THE CALL BEGINS. Each datum BY PROGRAM (the guide's laid-datum.mjs) off the statement by which the dump's own 'gosem.cut.vars' lays the variable. In a bare row this is a premise. The card (YtfkkfaociofkjaaDoorCards.lean) ties it to the program's text. -/
def laid_errors_errorType {H : Type} : DataW H := .iface "internal/reflectlite.rtype" (.agg [.ptr (.lit (.string [101, 114, 114, 111, 114]))])

/-- 'fretworklaw04.GraphLarge': WHATEVER THE INPUT: true; the input reads as it did. -/
def graphLargeSpec : ChangeSpec := { name := "graphLarge", fn := fun _ => fun
  | [d1, d2] => { results := [.lit (.bool true)], args := [d1, d2] }
  | _ => none }
def graphLargeRow : OpenClaim := { program := "ytfkkfaociofkjaadoor", sum := "b79e153e934ee48b42987b77e67666a78c76cdc562e73f112ba2c9fba65da37d", func := "fretwork/fretworklaw04.GraphLarge", spec := "graphLarge", inPlace := ["internal/reflectlite.ValueOf", "(internal/reflectlite.Value).Type", "(internal/reflectlite.Value).IsNil", "internal/reflectlite.TypeOf", "(internal/reflectlite.Value).Elem", "(internal/reflectlite.Value).Set"], unfollowed := true, recurses := true, named := ["errors.errorType"], plainKeys := false, apart := false, laid := [("errors.errorType", laid_errors_errorType)] }
def GraphLargeSaid : Prop := graphLargeRow.holds Tryd.pinned (OpenSpec.ofChange graphLargeSpec)

/-- ITS FALSE NEIGHBOUR: 'it returns false'. Refute it at one input. -/
def graphLargeWrong : ChangeSpec := { name := "graphLarge", fn := fun _ => fun
  | [d1, d2] => { results := [.lit (.bool false)], args := [d1, d2] }
  | _ => none }
def GraphLargeWrongFalsely : Prop := graphLargeRow.holds Tryd.pinned (OpenSpec.ofChange graphLargeWrong)

/-- 'fretworklaw04.GraphCopies': WHATEVER THE INPUT: true; the input reads as it did. -/
def graphCopiesSpec : ChangeSpec := { name := "graphCopies", fn := fun _ => fun
  | [d1, d2] => { results := [.lit (.bool true)], args := [d1, d2] }
  | _ => none }
def graphCopiesRow : OpenClaim := { program := "ytfkkfaociofkjaadoor", sum := "b79e153e934ee48b42987b77e67666a78c76cdc562e73f112ba2c9fba65da37d", func := "fretwork/fretworklaw04.GraphCopies", spec := "graphCopies", inPlace := ["internal/reflectlite.ValueOf", "(internal/reflectlite.Value).Type", "(internal/reflectlite.Value).IsNil", "internal/reflectlite.TypeOf", "(internal/reflectlite.Value).Elem", "(internal/reflectlite.Value).Set"], unfollowed := true, recurses := true, named := ["errors.errorType"], plainKeys := false, apart := false, laid := [("errors.errorType", laid_errors_errorType)] }
def GraphCopiesSaid : Prop := graphCopiesRow.holds Tryd.pinned (OpenSpec.ofChange graphCopiesSpec)

/-- ITS FALSE NEIGHBOUR: 'it returns false'. Refute it at one input. -/
def graphCopiesWrong : ChangeSpec := { name := "graphCopies", fn := fun _ => fun
  | [d1, d2] => { results := [.lit (.bool false)], args := [d1, d2] }
  | _ => none }
def GraphCopiesWrongFalsely : Prop := graphCopiesRow.holds Tryd.pinned (OpenSpec.ofChange graphCopiesWrong)

/-- 'fretworklaw04.GraphParts': WHATEVER THE INPUT: true; the input reads as it did. -/
def graphPartsSpec : ChangeSpec := { name := "graphParts", fn := fun _ => fun
  | [d1, d2] => { results := [.lit (.bool true)], args := [d1, d2] }
  | _ => none }
def graphPartsRow : OpenClaim := { program := "ytfkkfaociofkjaadoor", sum := "b79e153e934ee48b42987b77e67666a78c76cdc562e73f112ba2c9fba65da37d", func := "fretwork/fretworklaw04.GraphParts", spec := "graphParts", inPlace := ["internal/reflectlite.ValueOf", "(internal/reflectlite.Value).Type", "(internal/reflectlite.Value).IsNil", "internal/reflectlite.TypeOf", "(internal/reflectlite.Value).Elem", "(internal/reflectlite.Value).Set"], unfollowed := true, recurses := true, named := ["errors.errorType"], plainKeys := false, apart := false, laid := [("errors.errorType", laid_errors_errorType)] }
def GraphPartsSaid : Prop := graphPartsRow.holds Tryd.pinned (OpenSpec.ofChange graphPartsSpec)

/-- ITS FALSE NEIGHBOUR: 'it returns false'. Refute it at one input. -/
def graphPartsWrong : ChangeSpec := { name := "graphParts", fn := fun _ => fun
  | [d1, d2] => { results := [.lit (.bool false)], args := [d1, d2] }
  | _ => none }
def GraphPartsWrongFalsely : Prop := graphPartsRow.holds Tryd.pinned (OpenSpec.ofChange graphPartsWrong)

/-- 'fretworklaw04.GraphNew': WHATEVER THE INPUT: true; the input reads as it did. -/
def graphNewSpec : ChangeSpec := { name := "graphNew", fn := fun _ => fun
  | [d1, d2, d3, d4] => { results := [.lit (.bool true)], args := [d1, d2, d3, d4] }
  | _ => none }
def graphNewRow : OpenClaim := { program := "ytfkkfaociofkjaadoor", sum := "b79e153e934ee48b42987b77e67666a78c76cdc562e73f112ba2c9fba65da37d", func := "fretwork/fretworklaw04.GraphNew", spec := "graphNew", inPlace := ["internal/reflectlite.ValueOf", "(internal/reflectlite.Value).Type", "(internal/reflectlite.Value).IsNil", "internal/reflectlite.TypeOf", "(internal/reflectlite.Value).Elem", "(internal/reflectlite.Value).Set"], unfollowed := true, recurses := true, named := ["errors.errorType"], plainKeys := false, apart := false, laid := [("errors.errorType", laid_errors_errorType)] }
def GraphNewSaid : Prop := graphNewRow.holds Tryd.pinned (OpenSpec.ofChange graphNewSpec)

/-- ITS FALSE NEIGHBOUR: 'it returns false'. Refute it at one input. -/
def graphNewWrong : ChangeSpec := { name := "graphNew", fn := fun _ => fun
  | [d1, d2, d3, d4] => { results := [.lit (.bool false)], args := [d1, d2, d3, d4] }
  | _ => none }
def GraphNewWrongFalsely : Prop := graphNewRow.holds Tryd.pinned (OpenSpec.ofChange graphNewWrong)

/-- 'fretworklaw11.LinesLarge': WHATEVER THE INPUT: true; the input reads as it did. -/
def linesLargeSpec : ChangeSpec := { name := "linesLarge", fn := fun _ => fun
  | [d] => { results := [.lit (.bool true)], args := [d] }
  | _ => none }
def linesLargeRow : OpenClaim := { program := "ytfkkfaociofkjaadoor", sum := "b79e153e934ee48b42987b77e67666a78c76cdc562e73f112ba2c9fba65da37d", func := "fretwork/fretworklaw11.LinesLarge", spec := "linesLarge", inPlace := ["internal/reflectlite.ValueOf", "(internal/reflectlite.Value).Type", "(internal/reflectlite.Value).IsNil", "internal/reflectlite.TypeOf", "(internal/reflectlite.Value).Elem", "(internal/reflectlite.Value).Set"], unfollowed := true, recurses := true, named := ["errors.errorType"], plainKeys := false, apart := false, laid := [("errors.errorType", laid_errors_errorType)] }
def LinesLargeSaid : Prop := linesLargeRow.holds Tryd.pinned (OpenSpec.ofChange linesLargeSpec)

/-- ITS FALSE NEIGHBOUR: 'it returns false'. Refute it at one input. -/
def linesLargeWrong : ChangeSpec := { name := "linesLarge", fn := fun _ => fun
  | [d] => { results := [.lit (.bool false)], args := [d] }
  | _ => none }
def LinesLargeWrongFalsely : Prop := linesLargeRow.holds Tryd.pinned (OpenSpec.ofChange linesLargeWrong)

/- THE SECOND FORM. 'bulk': how many values and letters a reading holds, each counted each time it is reached (what is shared counts as often as it is met; a slice's spare places count too). A statement '..UptoSaid' is the law's where the arguments, and the package variables that the reading takes, are together of bulk at most 1048576: NARROWER than '..Said'. Prove '..Said' where nothing that the law and all that it calls make is longer than what came in: it says more and counts as full. Else prove '..UptoSaid'. A law counts once. -/
mutual
def uptoBulk {H : Type} : DataW H → Nat
  | .lit (.string bytes) => bytes.length + 1
  | .lit _ => 1
  | .nil => 1
  | .ptr d => uptoBulk d + 1
  | .slice elems spare => uptoBulkAll elems + uptoBulkAll spare + 1
  | .agg parts => uptoBulkAll parts + 1
  | .iface _ d => uptoBulk d + 1
  | .map entries => uptoBulkEntries entries + 1
  | .held _ => 1
def uptoBulkAll {H : Type} : List (DataW H) → Nat
  | [] => 0
  | d :: r => uptoBulk d + uptoBulkAll r
def uptoBulkEntries {H : Type} : List (Lit × DataW H) → Nat
  | [] => 0
  | x :: r => uptoBulkEntry x + uptoBulkEntries r
def uptoBulkEntry {H : Type} : Lit × DataW H → Nat
  | (.string bytes, d) => bytes.length + uptoBulk d + 1
  | (_, d) => uptoBulk d + 1
 end
def uptoSmall : (H : Type) → List (DataW H) → Bool := fun _ ds => decide (uptoBulkAll ds ≤ 1048576)
def OpenSpec.upto (s : _root_.Go.ChangeSpec) : _root_.Go.OpenSpec := { _root_.Go.OpenSpec.ofChange s with cond := some uptoSmall }

/-- 'fretworklaw04.GraphLarge', WHERE WHAT IT READS IS OF BULK AT MOST 1048576: true; the input reads as it did. -/
def graphLargeUptoRow : OpenClaim := { program := "ytfkkfaociofkjaadoor", sum := "b79e153e934ee48b42987b77e67666a78c76cdc562e73f112ba2c9fba65da37d", func := "fretwork/fretworklaw04.GraphLarge", spec := "graphLarge", inPlace := ["internal/reflectlite.ValueOf", "(internal/reflectlite.Value).Type", "(internal/reflectlite.Value).IsNil", "internal/reflectlite.TypeOf", "(internal/reflectlite.Value).Elem", "(internal/reflectlite.Value).Set"], unfollowed := true, recurses := true, named := ["errors.errorType"], plainKeys := false, apart := false, laid := [("errors.errorType", laid_errors_errorType)], narrowed := true }
def GraphLargeUptoSaid : Prop := graphLargeUptoRow.holds Tryd.pinned (OpenSpec.upto graphLargeSpec)

/-- 'fretworklaw04.GraphCopies', WHERE WHAT IT READS IS OF BULK AT MOST 1048576: true; the input reads as it did. -/
def graphCopiesUptoRow : OpenClaim := { program := "ytfkkfaociofkjaadoor", sum := "b79e153e934ee48b42987b77e67666a78c76cdc562e73f112ba2c9fba65da37d", func := "fretwork/fretworklaw04.GraphCopies", spec := "graphCopies", inPlace := ["internal/reflectlite.ValueOf", "(internal/reflectlite.Value).Type", "(internal/reflectlite.Value).IsNil", "internal/reflectlite.TypeOf", "(internal/reflectlite.Value).Elem", "(internal/reflectlite.Value).Set"], unfollowed := true, recurses := true, named := ["errors.errorType"], plainKeys := false, apart := false, laid := [("errors.errorType", laid_errors_errorType)], narrowed := true }
def GraphCopiesUptoSaid : Prop := graphCopiesUptoRow.holds Tryd.pinned (OpenSpec.upto graphCopiesSpec)

/-- 'fretworklaw04.GraphParts', WHERE WHAT IT READS IS OF BULK AT MOST 1048576: true; the input reads as it did. -/
def graphPartsUptoRow : OpenClaim := { program := "ytfkkfaociofkjaadoor", sum := "b79e153e934ee48b42987b77e67666a78c76cdc562e73f112ba2c9fba65da37d", func := "fretwork/fretworklaw04.GraphParts", spec := "graphParts", inPlace := ["internal/reflectlite.ValueOf", "(internal/reflectlite.Value).Type", "(internal/reflectlite.Value).IsNil", "internal/reflectlite.TypeOf", "(internal/reflectlite.Value).Elem", "(internal/reflectlite.Value).Set"], unfollowed := true, recurses := true, named := ["errors.errorType"], plainKeys := false, apart := false, laid := [("errors.errorType", laid_errors_errorType)], narrowed := true }
def GraphPartsUptoSaid : Prop := graphPartsUptoRow.holds Tryd.pinned (OpenSpec.upto graphPartsSpec)

/-- 'fretworklaw04.GraphNew', WHERE WHAT IT READS IS OF BULK AT MOST 1048576: true; the input reads as it did. -/
def graphNewUptoRow : OpenClaim := { program := "ytfkkfaociofkjaadoor", sum := "b79e153e934ee48b42987b77e67666a78c76cdc562e73f112ba2c9fba65da37d", func := "fretwork/fretworklaw04.GraphNew", spec := "graphNew", inPlace := ["internal/reflectlite.ValueOf", "(internal/reflectlite.Value).Type", "(internal/reflectlite.Value).IsNil", "internal/reflectlite.TypeOf", "(internal/reflectlite.Value).Elem", "(internal/reflectlite.Value).Set"], unfollowed := true, recurses := true, named := ["errors.errorType"], plainKeys := false, apart := false, laid := [("errors.errorType", laid_errors_errorType)], narrowed := true }
def GraphNewUptoSaid : Prop := graphNewUptoRow.holds Tryd.pinned (OpenSpec.upto graphNewSpec)

/-- 'fretworklaw11.LinesLarge', WHERE WHAT IT READS IS OF BULK AT MOST 1048576: true; the input reads as it did. -/
def linesLargeUptoRow : OpenClaim := { program := "ytfkkfaociofkjaadoor", sum := "b79e153e934ee48b42987b77e67666a78c76cdc562e73f112ba2c9fba65da37d", func := "fretwork/fretworklaw11.LinesLarge", spec := "linesLarge", inPlace := ["internal/reflectlite.ValueOf", "(internal/reflectlite.Value).Type", "(internal/reflectlite.Value).IsNil", "internal/reflectlite.TypeOf", "(internal/reflectlite.Value).Elem", "(internal/reflectlite.Value).Set"], unfollowed := true, recurses := true, named := ["errors.errorType"], plainKeys := false, apart := false, laid := [("errors.errorType", laid_errors_errorType)], narrowed := true }
def LinesLargeUptoSaid : Prop := linesLargeUptoRow.holds Tryd.pinned (OpenSpec.upto linesLargeSpec)

end Rows
end Go.Proofs.YtfkkfaociofkjaaDoor
