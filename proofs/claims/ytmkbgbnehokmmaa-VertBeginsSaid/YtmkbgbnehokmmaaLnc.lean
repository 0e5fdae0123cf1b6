/- LinesOf: the walk. -/
import Derived.Test.YtmkbgbnehokmmaaLnb
import Derived.Test.YtmkbgbnehokmmaaSxu
namespace Go.Proofs.Ytmkbgbnehokmmaa
open Go.Sx Go.RowKit Go.Reg Go.Gr

set_option maxRecDepth 100000
/-! ### the chapter's example -/
def exE : List Edg := [⟨0, 2⟩, ⟨1, 2⟩, ⟨0, 1⟩]
def exS : List Edg := [⟨0, 1⟩, ⟨0, 2⟩, ⟨1, 2⟩]
theorem ex_canon : canon exE = exS := (canon_eq (by decide) (by decide) (by decide)).symm
def exG : Gr := ⟨[0, 0, 0], exS⟩
theorem ex_err : newErr [0, 0, 0] exE = none := by decide
theorem ex_made : madeY [0, 0, 0] exE = .tuple [dG exG, dM [0, 0, 0] exS, .bool true] := by
  unfold madeY madeG
  rw [if_pos (by decide), ex_err, ex_canon]
  rfl
theorem ex_ok : exG.Ok := by
  have := canon_ok ex_err
  rwa [ex_canon] at this
def exL : Gr := ⟨List.replicate 3 0, wantW exS 3⟩
theorem ex_lof : lofY exG = .tuple [dG exL, .nili] := by
  unfold lofY
  rw [if_neg (by decide)]
  rfl
def pl_lalive : List (Nat × Plan) := []
def G_lalive : List FuncId := []
theorem cok_lalive : codeOk Try.prog G_lalive pl_lalive (Try.f8.body.getD .skip) = true := by kernel_rfl
theorem run_lalive (vs : Array Value) (w : World) : (callFunc 8 vs).run C1.P w = .ok (.enter 8 vs) w := by kernel_rfl
theorem lalive_pure : Pure C1 8 [] (fun y => y = .bool true) := by
  refine pure_of c1_ok (pl := pl_lalive) (G := G_lalive) Try.func8 rfl Try.ntmps8 run_lalive cok_lalive (by simp) ?_
  ((conv => whnf); repeat' ((first | refine odw ?_ | refine ify ?_ | refine ifn ?_ | refine i6 ?_ | refine ati ?_ | refine mst ?_ | refine rmd ?_ | refine ibo (fun _ => ?_) (fun _ => ?_)) <;> conv => whnf))
  refine call_frz 7 rfl ?_
  refine call_frz 11 rfl ?_
  refine call_eq (xs := [dIs [0, 0, 0], dEs exE]) rfl (made_pure [0, 0, 0] exE) ?_
  rw [ex_made]
  ((conv => whnf); repeat' ((first | refine odw ?_ | refine ify ?_ | refine ifn ?_ | refine i6 ?_ | refine ati ?_ | refine mst ?_ | refine rmd ?_ | refine ibo (fun _ => ?_) (fun _ => ?_)) <;> conv => whnf))
  refine call_eq rfl (lof_pure exG ex_ok (by decide)) ?_
  rw [ex_lof]
  ((conv => whnf); repeat' ((first | refine odw ?_ | refine ify ?_ | refine ifn ?_ | refine i6 ?_ | refine ati ?_ | refine mst ?_ | refine rmd ?_ | refine ibo (fun _ => ?_) (fun _ => ?_)) <;> conv => whnf))
  refine call_eq rfl (len_pure exL) ?_
  rw [show (exL.labels.length : Int) = 3 from rfl]
  ((conv => whnf); repeat' ((first | refine odw ?_ | refine ify ?_ | refine ifn ?_ | refine i6 ?_ | refine ati ?_ | refine mst ?_ | refine rmd ?_ | refine ibo (fun _ => ?_) (fun _ => ?_)) <;> conv => whnf))
  refine call_eq rfl (size_pure exL) ?_
  rw [show (exL.edges.length : Int) = 3 by decide]
  ((conv => whnf); repeat' ((first | refine odw ?_ | refine ify ?_ | refine ifn ?_ | refine i6 ?_ | refine ati ?_ | refine mst ?_ | refine rmd ?_ | refine ibo (fun _ => ?_) (fun _ => ?_)) <;> conv => whnf))
  refine call_eq rfl (touch_pure exG 0 1) ?_
  rw [show touchV exG.edges 0 1 = true by decide]
  ((conv => whnf); repeat' ((first | refine odw ?_ | refine ify ?_ | refine ifn ?_ | refine i6 ?_ | refine ati ?_ | refine mst ?_ | refine rmd ?_ | refine ibo (fun _ => ?_) (fun _ => ?_)) <;> conv => whnf))
  exact rfl
/-! ### the statement -/
theorem pairs_small {G : Gr} (hG : G.Ok) (hn : G.labels.length ≤ 10) (hm : G.edges.length ≤ 30) : (pairsOf G.edges G.labels.length).length ≤ 16384 := by
  have key : ∀ v, (pairsOf G.edges v).length ≤ v * 900 := by
    intro v
    induction v with
    | zero => simp [pairsOf]
    | succ v ih =>
      rw [pairsOf_step, List.length_append, pairUp_len]
      have h0 : (atD G.edges v).length ≤ 30 := by
        unfold atD
        rw [List.length_map]
        have := List.length_filter_le (fun p : Edg × Nat => decide (p.1.a = (v : Int) ∨ p.1.b = (v : Int))) G.edges.zipIdx
        rw [List.length_zipIdx] at this
        omega
      have h1 := pairsN_le (atD G.edges v).length
      have h2 : (atD G.edges v).length * (atD G.edges v).length ≤ 30 * 30 := Nat.mul_le_mul h0 h0
      omega
  have := key G.labels.length
  omega
def lnG (G : Gr) : Gr := ⟨List.replicate G.edges.length 0, wantW G.edges G.edges.length⟩
theorem lofY_small {G : Gr} (hG : G.Ok) (hn : G.labels.length ≤ 10) (hm : G.edges.length ≤ 30) : lofY G = .tuple [dG (lnG G), .nili] := by
  unfold lofY
  have := pairs_small hG hn hm
  rw [if_neg (by omega)]
  rfl
theorem pairs_want {G : Gr} (hG : G.Ok) : (pairsOf G.edges G.labels.length).length = (wantW G.edges G.edges.length).length := by
  rw [← lines_canon hG, canon_len]
def pl_linesof : List (Nat × Plan) := [(8, .leaf [0, 0, 0, 0, 2, 0, 1, 0, 0, 0, 0, 0, 2, 0, 1, 0, 0, 0, 0, 0, 2, 0, 1, 0, 0, 0, 0, 0, 0, 0, 2, 1, 0, 0, 2, 0, 0] [0, 1, 2, 3, 5, 6, 7, 4, 8, 9, 10, 11, 13, 14, 15, 12, 16, 17, 18, 19, 21, 22, 23, 20, 24, 25, 26, 27, 28, 29, 32, 33, 31, 30, 34, 35, 36] [0, 1, 3, 7, 15, 7, 39, 103, 255, 511, 1023, 2047, 4095, 2047, 10239, 26623, 65535, 131071, 262143, 524287, 1048575, 524287, 2621439, 6815743, 16777215, 33554431, 67108863, 134217727, 134217727, 134217727, 1073741823, 134217727, 134217727, 134217727, 17179869183, 34359738367, 68719476735]),
  (14, .leaf [0, 0, 0, 1, 0, 1, 0, 0, 1, 3, 0] [0, 1, 2, 4, 6, 3, 5, 7, 8, 9, 10] [0, 1, 3, 7, 7, 23, 7, 119, 247, 511, 1023])]
def G_linesof : List FuncId := [12, 13, 14, 15, 16]
theorem cok_linesof : codeOk Try.prog G_linesof pl_linesof (Try.f3.body.getD .skip) = true := by kernel_rfl
theorem run_linesof (vs : Array Value) (w : World) : (callFunc 3 vs).run C1.P w = .ok (.enter 3 vs) w := by kernel_rfl
set_option maxHeartbeats 4000000 in
theorem linesof_pure (labels : List Int) (edges : List Edg) (a b : Int) : Pure C1 3 [dIs labels, dEs edges, .int .i64 a, .int .i64 b] (fun y => y = .bool true) := by
  refine pure_of c1_ok (pl := pl_linesof) (G := G_linesof) Try.func3 rfl Try.ntmps3 run_linesof cok_linesof (by simp) ?_
  ((conv => whnf); repeat' ((first | refine odw ?_ | refine ify ?_ | refine ifn ?_ | refine i6 ?_ | refine ati ?_ | refine mst ?_ | refine rmd ?_ | refine ibo (fun _ => ?_) (fun _ => ?_)) <;> conv => whnf))
  refine call_eq rfl lalive_pure ?_
  ((conv => whnf); repeat' ((first | refine odw ?_ | refine ify ?_ | refine ifn ?_ | refine i6 ?_ | refine ati ?_ | refine mst ?_ | refine rmd ?_ | refine ibo (fun _ => ?_) (fun _ => ?_)) <;> conv => whnf))
  refine call_eq rfl (made_pure labels edges) ?_
  rcases made_case labels edges with e | ⟨G, e, hG, hn, hm, _, _, _⟩
  · rw [e]
    ((conv => whnf); repeat' ((first | refine odw ?_ | refine ify ?_ | refine ifn ?_ | refine i6 ?_ | refine ati ?_ | refine mst ?_ | refine rmd ?_ | refine ibo (fun _ => ?_) (fun _ => ?_)) <;> conv => whnf))
    exact rfl
  rw [e]
  ((conv => whnf); repeat' ((first | refine odw ?_ | refine ify ?_ | refine ifn ?_ | refine i6 ?_ | refine ati ?_ | refine mst ?_ | refine rmd ?_ | refine ibo (fun _ => ?_) (fun _ => ?_)) <;> conv => whnf))
  refine call_eq rfl (lof_pure G hG (by omega)) ?_
  rw [lofY_small hG hn hm]
  ((conv => whnf); repeat' ((first | refine odw ?_ | refine ify ?_ | refine ifn ?_ | refine i6 ?_ | refine ati ?_ | refine mst ?_ | refine rmd ?_ | refine ibo (fun _ => ?_) (fun _ => ?_)) <;> conv => whnf))
  refine call_eq rfl (rof_pure G.labels G.edges (by omega)) ?_
  have hlen : Pure C1 12 [dG (lnG G)] (fun y => y = .int .i64 G.edges.length) := by have := len_pure (lnG G); simpa only [lnG, List.length_replicate] using this
  have hsize : Pure C1 13 [dG (lnG G)] (fun y => y = .int .i64 (wantW G.edges G.edges.length).length) := size_pure (lnG G)
  have hpairs : Pure C1 14 [dG G] (fun y => y = .int .i64 (wantW G.edges G.edges.length).length) := by have := pairs_pure G hG; rwa [pairs_want hG] at this
  have hel : (G.edges.map dE).length = G.edges.length := List.length_map _
  have hwl : ((wantW G.edges G.edges.length).map dE).length = (wantW G.edges G.edges.length).length := List.length_map _
  have hwb := wantW_len G.edges G.edges.length
  have hwb2 : G.edges.length * G.edges.length ≤ 30 * 30 := Nat.mul_le_mul hm hm
  have hedge := fun i => edge_pure (lnG G) i
  have hlab := fun i => label_pure (lnG G) i
  have hT := touch_pure G a b
  have hR := rtouch_pure G.labels G.edges a b
  generalize touchV G.edges a b = t at hT hR
  (conv => whnf)
  (repeat' ((first | refine ord_ok (by (conv => whnf); (repeat' ((first | refine call_eq rfl hlen ?_ | refine call_eq rfl hsize ?_ | refine call_eq rfl hpairs ?_ | refine call_eq rfl hT ?_ | refine call_eq rfl hR ?_ | refine if_no (fun h => h Iff.rfl) ?_ | refine ify ?_ | refine ifn ?_ | refine i6 ?_ | refine ati ?_ | refine mst ?_ | refine rmd ?_ | refine ibo (fun _ => ?_) (fun _ => ?_)) <;> conv => whnf)); (all_goals (repeat' (first | exact trivial | exact rfl | refine And.intro ?_ ?_)))) ?_ | refine call_eq rfl hlen ?_ | refine call_eq rfl hsize ?_ | refine call_eq rfl hpairs ?_ | refine call_eq rfl hT ?_ | refine call_eq rfl hR ?_ | refine if_no (fun h => h Iff.rfl) ?_ | refine ify ?_ | refine ifn ?_ | refine i6 ?_ | refine ati ?_ | refine mst ?_ | refine rmd ?_ | refine ibo (fun _ => ?_) (fun _ => ?_)) <;> conv => whnf))
  have hLe : (lnG G).edges = wantW G.edges G.edges.length := rfl
  rw [hLe] at hedge
  have hlv : ∀ i : Nat, i < G.edges.length → labelV (lnG G) i = 0 := fun i hi => by
    unfold labelV
    have : ((lnG G).labels.length : Int) = G.edges.length := by simp [lnG]
    rw [if_pos (by omega)]
    simp [lnG, hi]
  generalize wantW G.edges G.edges.length = W at *
  refine loop_lo (ι := Nat) (fun i => i ≤ W.length) (fun i => [(15, .d (.int .i64 i)), (14, .own 14), (12, .d (dG (lnG G)))]) (fun _ => [(14, .cells 27 [.d (dIs (List.replicate G.edges.length 0)), .d (dEs W)])])
    (fun i => W.length - i) 0 (fun _ => rfl) (Nat.zero_le _) (.refl _ _) ⟨rfl, rfl, rfl, trivial⟩ ⟨rfl, trivial⟩ ?_
  intro i hi
  refine sxCode_sound c1_ok (G := G_linesof) (pl := pl_linesof) _ _ _ _ (by kernel_rfl) ?_
  by_cases hlt : i < W.length
  · have hx := List.getElem?_eq_getElem hlt
    generalize W[i] = x at hx
    have he := hedge i
    have e : edgeY W (i : Int) = .tuple [dE x, .bool true] := by unfold edgeY; rw [if_pos (by omega), Int.toNat_natCast, hx]; rfl
    rw [e] at he
    obtain ⟨xa, xb⟩ := x
    rw [show dE ⟨xa, xb⟩ = .agg [.int .i64 xa, .int .i64 xb] from rfl] at he
    have hxd : (W.map dE)[i]? = some (.agg [.int .i64 xa, .int .i64 xb]) := by rw [List.getElem?_map, hx]; rfl
    (conv => whnf)
    (repeat' ((first | refine ord_ok (by (conv => whnf); (repeat' ((first | refine call_eq rfl he ?_ | refine at_da hxd rfl ?_ | refine ify ?_ | refine ifn ?_ | refine i6 ?_ | refine ati ?_ | refine mst ?_ | refine rmd ?_ | refine ibo (fun _ => ?_) (fun _ => ?_)) <;> conv => whnf)); (all_goals (repeat' (first | exact trivial | exact rfl | refine And.intro ?_ ?_)))) ?_ | refine call_eq rfl he ?_ | refine at_da hxd rfl ?_ | refine ify ?_ | refine ifn ?_ | refine i6 ?_ | refine ati ?_ | refine mst ?_ | refine rmd ?_ | refine ibo (fun _ => ?_) (fun _ => ?_)) <;> conv => whnf))
    exact ⟨i + 1, _, _, hlt, .refl _ _, ⟨rfl, rfl, rfl, trivial⟩, ⟨rfl, trivial⟩, by omega⟩
  · have hie : i = W.length := by omega
    subst hie
    ((conv => whnf); repeat' ((first | refine odw ?_ | refine ify ?_ | refine ifn ?_ | refine i6 ?_ | refine ati ?_ | refine mst ?_ | refine rmd ?_ | refine ibo (fun _ => ?_) (fun _ => ?_)) <;> conv => whnf))
    refine loop_lo (ι := Nat) (fun i => i ≤ G.edges.length) (fun i => [(18, .d (.int .i64 i)), (12, .d (dG (lnG G)))]) (fun _ => [])
      (fun i => G.edges.length - i) 0 (fun _ => rfl) (Nat.zero_le _) (.refl _ _) ⟨rfl, rfl, trivial⟩ trivial ?_
    intro i hi
    refine sxCode_sound c1_ok (G := G_linesof) (pl := pl_linesof) _ _ _ _ (by kernel_rfl) ?_
    by_cases hlt : i < G.edges.length
    · have hl := hlab i
      rw [hlv i hlt] at hl
      (conv => whnf)
      (repeat' ((first | refine ord_ok (by (conv => whnf); (repeat' ((first | refine call_eq rfl hlen ?_ | refine call_eq rfl hl ?_ | refine ify ?_ | refine ifn ?_ | refine i6 ?_ | refine ati ?_ | refine mst ?_ | refine rmd ?_ | refine ibo (fun _ => ?_) (fun _ => ?_)) <;> conv => whnf)); (all_goals (repeat' (first | exact trivial | exact rfl | refine And.intro ?_ ?_)))) ?_ | refine call_eq rfl hlen ?_ | refine call_eq rfl hl ?_ | refine ify ?_ | refine ifn ?_ | refine i6 ?_ | refine ati ?_ | refine mst ?_ | refine rmd ?_ | refine ibo (fun _ => ?_) (fun _ => ?_)) <;> conv => whnf))
      exact ⟨i + 1, _, _, hlt, .refl _ _, ⟨rfl, rfl, trivial⟩, trivial, by omega⟩
    · have hie : i = G.edges.length := by omega
      subst hie
      (conv => whnf)
      (repeat' ((first | refine ord_ok (by (conv => whnf); (repeat' ((first | refine call_eq rfl hlen ?_ | refine ify ?_ | refine ifn ?_ | refine i6 ?_ | refine ati ?_ | refine mst ?_ | refine rmd ?_ | refine ibo (fun _ => ?_) (fun _ => ?_)) <;> conv => whnf)); (all_goals (repeat' (first | exact trivial | exact rfl | refine And.intro ?_ ?_)))) ?_ | refine call_eq rfl hlen ?_ | refine ify ?_ | refine ifn ?_ | refine i6 ?_ | refine ati ?_ | refine mst ?_ | refine rmd ?_ | refine ibo (fun _ => ?_) (fun _ => ?_)) <;> conv => whnf))
      exact rfl
end Go.Proofs.Ytmkbgbnehokmmaa
