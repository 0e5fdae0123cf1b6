/-
  No cell of these rows narrows 'for every input' (looked for: loops, veiled, ifaces, maps, wideKeys, modest, calm, conditions, laid).
  DERIVED. THE GIVEN ROWS OF THIS SEAT. 5 by the template 'for every input the law returns true; each argument reads behind the call as it read before'; 0 by the template 'total and deterministic' (their statements: YtmkbgbnehokmmaaTotals.lean).
  GIVEN WITH THE SEED: the statements are not yours to turn. If you find one false, say at which input.
  Laid BY PROGRAM, IN A SANDBOX (cutbox-rows.mjs): the forced cells as the released guide's own fill.sh prints them over the translation a8ac77db27b52bbb… (all of the seat's roots in one cut). By AI agents, Wed Nov 11 2026. No macro, syntax, notation, axiom, sorry.
-/
import Derived.Test.YtmkbgbnehokmmaaChecked
import GoSem.Claim
import GoSem.ClaimJoined
import GoSem.ClaimMapViews
import Derived.JoinedTies
import Derived.KernelRfl
namespace Go.Proofs.Ytmkbgbnehokmmaa
/- THE CELL 'sum', in the pinned program and in every row, IS THE sha256 OF THE DUMP (.gsa) THAT YtmkbgbnehokmmaaProg.lean LOADS. Nothing in Lean hashes anything: it is a label: what it is worth is what the hold of that sum in a sandbox is worth. -/
noncomputable def Try.pinned : Pinned := { name := "ytmkbgbnehokmmaa", sum := "a8ac77db27b52bbb2b1ba2fd5877bddf27f82997f8a7ff5fa0c9d2e0e619934f", checked := Try.checked }
namespace Rows
def none {H : Type} : Left H := { results := [], args := [] }

/-- 'fretworklaw11.LinesOf': WHATEVER THE INPUT: true; the input reads as it did. -/
def linesOfSpec : ChangeSpec := { name := "linesOf", fn := fun _ => fun
  | [d1, d2, d3, d4] => { results := [.lit (.bool true)], args := [d1, d2, d3, d4] }
  | _ => none }
def linesOfRow : OpenClaim := { program := "ytmkbgbnehokmmaa", sum := "a8ac77db27b52bbb2b1ba2fd5877bddf27f82997f8a7ff5fa0c9d2e0e619934f", func := "fretwork/fretworklaw11.LinesOf", spec := "linesOf", unfollowed := true, recurses := true, plainKeys := false, apart := false }
def LinesOfSaid : Prop := linesOfRow.holds Try.pinned (OpenSpec.ofChange linesOfSpec)

/-- ITS FALSE NEIGHBOUR: 'it returns false'. Refute it at one input. -/
def linesOfWrong : ChangeSpec := { name := "linesOf", fn := fun _ => fun
  | [d1, d2, d3, d4] => { results := [.lit (.bool false)], args := [d1, d2, d3, d4] }
  | _ => none }
def LinesOfWrongFalsely : Prop := linesOfRow.holds Try.pinned (OpenSpec.ofChange linesOfWrong)

/-- 'fretworklaw11.LinesVerts': WHATEVER THE INPUT: true; the input reads as it did. -/
def linesVertsSpec : ChangeSpec := { name := "linesVerts", fn := fun _ => fun
  | [d1, d2, d3] => { results := [.lit (.bool true)], args := [d1, d2, d3] }
  | _ => none }
def linesVertsRow : OpenClaim := { program := "ytmkbgbnehokmmaa", sum := "a8ac77db27b52bbb2b1ba2fd5877bddf27f82997f8a7ff5fa0c9d2e0e619934f", func := "fretwork/fretworklaw11.LinesVerts", spec := "linesVerts", unfollowed := true, recurses := true, plainKeys := false, apart := false }
def LinesVertsSaid : Prop := linesVertsRow.holds Try.pinned (OpenSpec.ofChange linesVertsSpec)

/-- ITS FALSE NEIGHBOUR: 'it returns false'. Refute it at one input. -/
def linesVertsWrong : ChangeSpec := { name := "linesVerts", fn := fun _ => fun
  | [d1, d2, d3] => { results := [.lit (.bool false)], args := [d1, d2, d3] }
  | _ => none }
def LinesVertsWrongFalsely : Prop := linesVertsRow.holds Try.pinned (OpenSpec.ofChange linesVertsWrong)

/-- 'fretworklaw10.VertGrowth': WHATEVER THE INPUT: true; the input reads as it did. -/
def vertGrowthSpec : ChangeSpec := { name := "vertGrowth", fn := fun _ => fun
  | [d1, d2, d3] => { results := [.lit (.bool true)], args := [d1, d2, d3] }
  | _ => none }
def vertGrowthRow : OpenClaim := { program := "ytmkbgbnehokmmaa", sum := "a8ac77db27b52bbb2b1ba2fd5877bddf27f82997f8a7ff5fa0c9d2e0e619934f", func := "fretwork/fretworklaw10.VertGrowth", spec := "vertGrowth", unfollowed := true, recurses := true, plainKeys := false, apart := false }
def VertGrowthSaid : Prop := vertGrowthRow.holds Try.pinned (OpenSpec.ofChange vertGrowthSpec)

/-- ITS FALSE NEIGHBOUR: 'it returns false'. Refute it at one input. -/
def vertGrowthWrong : ChangeSpec := { name := "vertGrowth", fn := fun _ => fun
  | [d1, d2, d3] => { results := [.lit (.bool false)], args := [d1, d2, d3] }
  | _ => none }
def VertGrowthWrongFalsely : Prop := vertGrowthRow.holds Try.pinned (OpenSpec.ofChange vertGrowthWrong)

/-- 'fretworklaw10.VertParts': WHATEVER THE INPUT: true; the input reads as it did. -/
def vertPartsSpec : ChangeSpec := { name := "vertParts", fn := fun _ => fun
  | [d1, d2, d3] => { results := [.lit (.bool true)], args := [d1, d2, d3] }
  | _ => none }
def vertPartsRow : OpenClaim := { program := "ytmkbgbnehokmmaa", sum := "a8ac77db27b52bbb2b1ba2fd5877bddf27f82997f8a7ff5fa0c9d2e0e619934f", func := "fretwork/fretworklaw10.VertParts", spec := "vertParts", unfollowed := true, recurses := true, plainKeys := false, apart := false }
def VertPartsSaid : Prop := vertPartsRow.holds Try.pinned (OpenSpec.ofChange vertPartsSpec)

/-- ITS FALSE NEIGHBOUR: 'it returns false'. Refute it at one input. -/
def vertPartsWrong : ChangeSpec := { name := "vertParts", fn := fun _ => fun
  | [d1, d2, d3] => { results := [.lit (.bool false)], args := [d1, d2, d3] }
  | _ => none }
def VertPartsWrongFalsely : Prop := vertPartsRow.holds Try.pinned (OpenSpec.ofChange vertPartsWrong)

/-- 'fretworklaw10.VertBegins': WHATEVER THE INPUT: true; the input reads as it did. -/
def vertBeginsSpec : ChangeSpec := { name := "vertBegins", fn := fun _ => fun
  | [d1, d2, d3] => { results := [.lit (.bool true)], args := [d1, d2, d3] }
  | _ => none }
def vertBeginsRow : OpenClaim := { program := "ytmkbgbnehokmmaa", sum := "a8ac77db27b52bbb2b1ba2fd5877bddf27f82997f8a7ff5fa0c9d2e0e619934f", func := "fretwork/fretworklaw10.VertBegins", spec := "vertBegins", unfollowed := true, recurses := true, plainKeys := false, apart := false }
def VertBeginsSaid : Prop := vertBeginsRow.holds Try.pinned (OpenSpec.ofChange vertBeginsSpec)

/-- ITS FALSE NEIGHBOUR: 'it returns false'. Refute it at one input. -/
def vertBeginsWrong : ChangeSpec := { name := "vertBegins", fn := fun _ => fun
  | [d1, d2, d3] => { results := [.lit (.bool false)], args := [d1, d2, d3] }
  | _ => none }
def VertBeginsWrongFalsely : Prop := vertBeginsRow.holds Try.pinned (OpenSpec.ofChange vertBeginsWrong)

/- THE SECOND FORM. 'bulk': how many values and letters a reading holds, each counted each time it is reached (what is shared counts as often as it is met; a slice's spare places count too). A statement '..UptoSaid' is the law's where the arguments, and the package variables that the reading takes, are together of bulk at most 1048576: NARROWER than '..Said'. Prove '..Said' where nothing that the law and all that it calls make is longer than what came in: it says more and counts as full. Else prove '..UptoSaid'. A law counts once. -/
mutual
def uptoBulk {H : Type} : DataW H → Nat
  | .lit (.string bytes) => bytes.length + 1
  | .lit _ => 1
  | .nil => 1
  | .ptr d => uptoBulk d + 1
  | .slice elems spare => uptoBulkAll elems + uptoBulkAll spare + 1
  | .agg parts => uptoBulkAll parts + 1
  | .iface _ d => uptoBulk d + 1
  | .map entries => uptoBulkEntries entries + 1
  | .held _ => 1
def uptoBulkAll {H : Type} : List (DataW H) → Nat
  | [] => 0
  | d :: r => uptoBulk d + uptoBulkAll r
def uptoBulkEntries {H : Type} : List (Lit × DataW H) → Nat
  | [] => 0
  | x :: r => uptoBulkEntry x + uptoBulkEntries r
def uptoBulkEntry {H : Type} : Lit × DataW H → Nat
  | (.string bytes, d) => bytes.length + uptoBulk d + 1
  | (_, d) => uptoBulk d + 1
 end
def uptoSmall : (H : Type) → List (DataW H) → Bool := fun _ ds => decide (uptoBulkAll ds ≤ 1048576)
def OpenSpec.upto (s : _root_.Go.ChangeSpec) : _root_.Go.OpenSpec := { _root_.Go.OpenSpec.ofChange s with cond := some uptoSmall }

/-- 'fretworklaw11.LinesOf', WHERE WHAT IT READS IS OF BULK AT MOST 1048576: true; the input reads as it did. -/
def linesOfUptoRow : OpenClaim := { program := "ytmkbgbnehokmmaa", sum := "a8ac77db27b52bbb2b1ba2fd5877bddf27f82997f8a7ff5fa0c9d2e0e619934f", func := "fretwork/fretworklaw11.LinesOf", spec := "linesOf", unfollowed := true, recurses := true, plainKeys := false, apart := false, narrowed := true }
def LinesOfUptoSaid : Prop := linesOfUptoRow.holds Try.pinned (OpenSpec.upto linesOfSpec)

/-- 'fretworklaw11.LinesVerts', WHERE WHAT IT READS IS OF BULK AT MOST 1048576: true; the input reads as it did. -/
def linesVertsUptoRow : OpenClaim := { program := "ytmkbgbnehokmmaa", sum := "a8ac77db27b52bbb2b1ba2fd5877bddf27f82997f8a7ff5fa0c9d2e0e619934f", func := "fretwork/fretworklaw11.LinesVerts", spec := "linesVerts", unfollowed := true, recurses := true, plainKeys := false, apart := false, narrowed := true }
def LinesVertsUptoSaid : Prop := linesVertsUptoRow.holds Try.pinned (OpenSpec.upto linesVertsSpec)

/-- 'fretworklaw10.VertGrowth', WHERE WHAT IT READS IS OF BULK AT MOST 1048576: true; the input reads as it did. -/
def vertGrowthUptoRow : OpenClaim := { program := "ytmkbgbnehokmmaa", sum := "a8ac77db27b52bbb2b1ba2fd5877bddf27f82997f8a7ff5fa0c9d2e0e619934f", func := "fretwork/fretworklaw10.VertGrowth", spec := "vertGrowth", unfollowed := true, recurses := true, plainKeys := false, apart := false, narrowed := true }
def VertGrowthUptoSaid : Prop := vertGrowthUptoRow.holds Try.pinned (OpenSpec.upto vertGrowthSpec)

/-- 'fretworklaw10.VertParts', WHERE WHAT IT READS IS OF BULK AT MOST 1048576: true; the input reads as it did. -/
def vertPartsUptoRow : OpenClaim := { program := "ytmkbgbnehokmmaa", sum := "a8ac77db27b52bbb2b1ba2fd5877bddf27f82997f8a7ff5fa0c9d2e0e619934f", func := "fretwork/fretworklaw10.VertParts", spec := "vertParts", unfollowed := true, recurses := true, plainKeys := false, apart := false, narrowed := true }
def VertPartsUptoSaid : Prop := vertPartsUptoRow.holds Try.pinned (OpenSpec.upto vertPartsSpec)

/-- 'fretworklaw10.VertBegins', WHERE WHAT IT READS IS OF BULK AT MOST 1048576: true; the input reads as it did. -/
def vertBeginsUptoRow : OpenClaim := { program := "ytmkbgbnehokmmaa", sum := "a8ac77db27b52bbb2b1ba2fd5877bddf27f82997f8a7ff5fa0c9d2e0e619934f", func := "fretwork/fretworklaw10.VertBegins", spec := "vertBegins", unfollowed := true, recurses := true, plainKeys := false, apart := false, narrowed := true }
def VertBeginsUptoSaid : Prop := vertBeginsUptoRow.holds Try.pinned (OpenSpec.upto vertBeginsSpec)

end Rows
end Go.Proofs.Ytmkbgbnehokmmaa
