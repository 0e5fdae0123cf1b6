/- LinesOf: the walk. -/
import Derived.Test.YtmkbgbnehokmmaaDoorLnb
import Derived.Test.YtmkbgbnehokmmaaDoorSxu
namespace Go.Proofs.YtmkbgbnehokmmaaDoor
open Go.Sx Go.RowKit Go.Reg Go.Gr

set_option maxRecDepth 100000
/-! ### the chapter's example -/
def exE : List Edg := [⟨0, 2⟩, ⟨1, 2⟩, ⟨0, 1⟩]
def exS : List Edg := [⟨0, 1⟩, ⟨0, 2⟩, ⟨1, 2⟩]
theorem ex_canon : canon exE = exS := (canon_eq (by decide) (by decide) (by decide)).symm
def exG : Gr := ⟨[0, 0, 0], exS⟩
theorem ex_err : newErr [0, 0, 0] exE = none := by decide
theorem ex_made : madeY [0, 0, 0] exE = .tuple [dG exG, dM [0, 0, 0] exS, .bool true] := by
  unfold madeY madeG
  rw [if_pos (by decide), ex_err, ex_canon]
  rfl
theorem ex_ok : exG.Ok := by
  have := canon_ok ex_err
  rwa [ex_canon] at this
def exL : Gr := ⟨List.replicate 3 0, wantW exS 3⟩
theorem ex_lof : lofY exG = .tuple [dG exL, .nili] := by
  unfold lofY
  rw [if_neg (by decide)]
  rfl
def pl_lalive : List (Nat × Plan) := []
def G_lalive : List FuncId := []
theorem cok_lalive : codeOk Tryd.prog G_lalive pl_lalive (Tryd.f33.body.getD .skip) = true := by kernel_rfl
theorem run_lalive (vs : Array Value) (w : World) : (callFunc 33 vs).run C1.P w = .ok (.enter 33 vs) w := by kernel_rfl
theorem lalive_pure : Pure C1 33 [] (fun y => y = .bool true) := by
  refine pure_of c1_ok (pl := pl_lalive) (G := G_lalive) Tryd.func33 rfl Tryd.ntmps33 run_lalive cok_lalive (by simp) ?_
  ((conv => whnf); repeat' ((first | refine odw ?_ | refine ify ?_ | refine ifn ?_ | refine i6 ?_ | refine ati ?_ | refine mst ?_ | refine rmd ?_ | refine ibo (fun _ => ?_) (fun _ => ?_)) <;> conv => whnf))
  refine call_frz 7 rfl ?_
  refine call_frz 11 rfl ?_
  refine call_eq (xs := [dIs [0, 0, 0], dEs exE]) rfl (made_pure [0, 0, 0] exE) ?_
  rw [ex_made]
  ((conv => whnf); repeat' ((first | refine odw ?_ | refine ify ?_ | refine ifn ?_ | refine i6 ?_ | refine ati ?_ | refine mst ?_ | refine rmd ?_ | refine ibo (fun _ => ?_) (fun _ => ?_)) <;> conv => whnf))
  refine call_eq rfl (lof_pure exG ex_ok (by decide)) ?_
  rw [ex_lof]
  ((conv => whnf); repeat' ((first | refine odw ?_ | refine ify ?_ | refine ifn ?_ | refine i6 ?_ | refine ati ?_ | refine mst ?_ | refine rmd ?_ | refine ibo (fun _ => ?_) (fun _ => ?_)) <;> conv => whnf))
  refine call_eq rfl (len_pure exL) ?_
  rw [show (exL.labels.length : Int) = 3 from rfl]
  ((conv => whnf); repeat' ((first | refine odw ?_ | refine ify ?_ | refine ifn ?_ | refine i6 ?_ | refine ati ?_ | refine mst ?_ | refine rmd ?_ | refine ibo (fun _ => ?_) (fun _ => ?_)) <;> conv => whnf))
  refine call_eq rfl (size_pure exL) ?_
  rw [show (exL.edges.length : Int) = 3 by decide]
  ((conv => whnf); repeat' ((first | refine odw ?_ | refine ify ?_ | refine ifn ?_ | refine i6 ?_ | refine ati ?_ | refine mst ?_ | refine rmd ?_ | refine ibo (fun _ => ?_) (fun _ => ?_)) <;> conv => whnf))
  refine call_eq rfl (touch_pure exG 0 1) ?_
  rw [show touchV exG.edges 0 1 = true by decide]
  ((conv => whnf); repeat' ((first | refine odw ?_ | refine ify ?_ | refine ifn ?_ | refine i6 ?_ | refine ati ?_ | refine mst ?_ | refine rmd ?_ | refine ibo (fun _ => ?_) (fun _ => ?_)) <;> conv => whnf))
  exact rfl
/-! ### the statement -/
theorem pairs_small {G : Gr} (hG : G.Ok) (hn : G.labels.length ≤ 10) (hm : G.edges.length ≤ 30) : (pairsOf G.edges G.labels.length).length ≤ 16384 := by
  have key : ∀ v, (pairsOf G.edges v).length ≤ v * 900 := by
    intro v
    induction v with
    | zero => simp [pairsOf]
    | succ v ih =>
      rw [pairsOf_step, List.length_append, pairUp_len]
      have h0 : (atD G.edges v).length ≤ 30 := by
        unfold atD
        rw [List.length_map]
        have := List.length_filter_le (fun p : Edg × Nat => decide (p.1.a = (v : Int) ∨ p.1.b = (v : Int))) G.edges.zipIdx
        rw [List.length_zipIdx] at this
        omega
      have h1 := pairsN_le (atD G.edges v).length
      have h2 : (atD G.edges v).length * (atD G.edges v).length ≤ 30 * 30 := Nat.mul_le_mul h0 h0
      omega
  have := key G.labels.length
  omega
def lnG (G : Gr) : Gr := ⟨List.replicate G.edges.length 0, wantW G.edges G.edges.length⟩
theorem lofY_small {G : Gr} (hG : G.Ok) (hn : G.labels.length ≤ 10) (hm : G.edges.length ≤ 30) : lofY G = .tuple [dG (lnG G), .nili] := by
  unfold lofY
  have := pairs_small hG hn hm
  rw [if_neg (by omega)]
  rfl
theorem pairs_want {G : Gr} (hG : G.Ok) : (pairsOf G.edges G.labels.length).length = (wantW G.edges G.edges.length).length := by
  rw [← lines_canon hG, canon_len]
end Go.Proofs.YtmkbgbnehokmmaaDoor
