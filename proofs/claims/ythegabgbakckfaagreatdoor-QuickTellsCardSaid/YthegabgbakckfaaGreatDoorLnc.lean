/- LinesOf: the walk. -/
import Derived.Test.YthegabgbakckfaaGreatDoorLnb
import Derived.Test.YthegabgbakckfaaGreatDoorSxu
namespace Go.Proofs.YthegabgbakckfaaGreatDoor
open Go.Sx Go.RowKit Go.Reg Go.Gr

set_option maxRecDepth 100000
/-! ### the chapter's example -/
def exE : List Edg := [⟨0, 2⟩, ⟨1, 2⟩, ⟨0, 1⟩]
def exS : List Edg := [⟨0, 1⟩, ⟨0, 2⟩, ⟨1, 2⟩]
theorem ex_canon : canon exE = exS := (canon_eq (by decide) (by decide) (by decide)).symm
def exG : Gr := ⟨[0, 0, 0], exS⟩
theorem ex_err : newErr [0, 0, 0] exE = none := by decide
theorem ex_made : madeY [0, 0, 0] exE = .tuple [dG exG, dM [0, 0, 0] exS, .bool true] := by
  unfold madeY madeG
  rw [if_pos (by decide), ex_err, ex_canon]
  rfl
theorem ex_ok : exG.Ok := by
  have := canon_ok ex_err
  rwa [ex_canon] at this
def exL : Gr := ⟨List.replicate 3 0, wantW exS 3⟩
theorem ex_lof : lofY exG = .tuple [dG exL, .nili] := by
  unfold lofY
  rw [if_neg (by decide)]
  rfl
/-! ### the statement -/
theorem pairs_small {G : Gr} (hG : G.Ok) (hn : G.labels.length ≤ 10) (hm : G.edges.length ≤ 30) : (pairsOf G.edges G.labels.length).length ≤ 16384 := by
  have key : ∀ v, (pairsOf G.edges v).length ≤ v * 900 := by
    intro v
    induction v with
    | zero => simp [pairsOf]
    | succ v ih =>
      rw [pairsOf_step, List.length_append, pairUp_len]
      have h0 : (atD G.edges v).length ≤ 30 := by
        unfold atD
        rw [List.length_map]
        have := List.length_filter_le (fun p : Edg × Nat => decide (p.1.a = (v : Int) ∨ p.1.b = (v : Int))) G.edges.zipIdx
        rw [List.length_zipIdx] at this
        omega
      have h1 := pairsN_le (atD G.edges v).length
      have h2 : (atD G.edges v).length * (atD G.edges v).length ≤ 30 * 30 := Nat.mul_le_mul h0 h0
      omega
  have := key G.labels.length
  omega
def lnG (G : Gr) : Gr := ⟨List.replicate G.edges.length 0, wantW G.edges G.edges.length⟩
theorem lofY_small {G : Gr} (hG : G.Ok) (hn : G.labels.length ≤ 10) (hm : G.edges.length ≤ 30) : lofY G = .tuple [dG (lnG G), .nili] := by
  unfold lofY
  have := pairs_small hG hn hm
  rw [if_neg (by omega)]
  rfl
theorem pairs_want {G : Gr} (hG : G.Ok) : (pairsOf G.edges G.labels.length).length = (wantW G.edges G.edges.length).length := by
  rw [← lines_canon hG, canon_len]
end Go.Proofs.YthegabgbakckfaaGreatDoor
