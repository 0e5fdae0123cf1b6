/- CanonParts: the walk. -/
import Derived.Test.YthegabgbakckfaaGreatDoorGrw
namespace Go.Gr
open Go.Proofs.YthegabgbakckfaaGreatDoor
theorem pErr_less {p : Pt} (hp : pErr p = none) (h8 : p.labels.length ≤ 8) (i : Nat) : pErr (lessP p i) = none :=
  pErr_of (less_ok (pt_of hp) i) h8 fun x hx => (lErr_none (pErr_none hp).1).2 x hx
end Go.Gr
namespace Go.Proofs.YthegabgbakckfaaGreatDoor
open Go.Sx Go.RowKit Go.Reg Go.Gr

set_option maxRecDepth 100000
def pl_lcs : List (Nat × Plan) := [(6, .leaf [0, 1, 0, 0, 0, 1, 0, 0, 0, 1, 6, 3] [0, 2, 3, 4, 1, 5, 6, 7, 8, 9, 10, 11] [0, 1, 0, 4, 0, 16, 48, 124, 255, 511, 0, 2047]),
  (12, .leaf [0, 1, 0, 0, 0, 1, 0, 1, 0, 1, 0, 0, 1, 0, 0, 1, 0, 0, 0, 1, 2, 1, 0, 2, 0, 0] [0, 2, 3, 4, 8, 10, 1, 5, 6, 7, 9, 11, 12, 13, 14, 16, 17, 18, 22, 15, 19, 21, 20, 23, 24, 25] [0, 1, 0, 0, 12, 28, 63, 127, 0, 256, 0, 1792, 3840, 8191, 16383, 32767, 32767, 32767, 229375, 491519, 1048575, 32767, 32767, 8388607, 16777215, 33554431]),
  (17, .leaf [0, 1, 0, 0, 0, 1, 0, 1, 0, 0, 1, 0] [0, 2, 3, 6, 8, 1, 4, 5, 7, 9, 10, 11] [0, 1, 0, 4, 15, 31, 0, 64, 0, 448, 960, 2047]),
  (20, .leaf [1, 1, 2, 0, 0, 0, 0, 0, 0, 1, 0, 0, 1, 0, 1, 0, 0, 1, 0, 1, 2, 0, 0, 0, 1, 0, 0, 1, 0, 0, 0, 0] [0, 1, 2, 3, 4, 5, 6, 7, 8, 10, 11, 15, 16, 9, 12, 13, 14, 17, 18, 19, 20, 21, 22, 23, 26, 24, 25, 27, 28, 29, 30, 31] [0, 0, 3, 7, 15, 31, 63, 127, 255, 511, 511, 511, 2559, 7679, 15871, 511, 511, 66047, 229887, 492031, 1048575, 2097151, 4194303, 8388607, 16777215, 33554431, 8388607, 75497471, 209715199, 536870911, 1073741823, 2147483647])]
def G_lcs : List FuncId := [20, 21, 16, 43, 22, 44, 38, 27, 45]
theorem cok_lcs : codeOk Tryz.prog G_lcs pl_lcs (Tryz.f8.body.getD .skip) = true := by kernel_rfl
theorem run_lcs (vs : Array Value) (w : World) : (callFunc 8 vs).run C1.P w = .ok (.enter 8 vs) w := by kernel_rfl
set_option maxHeartbeats 16000000 in
theorem lparts_pure (p : Pt) (a : Int) (ha : 0 ≤ a ∧ a ≤ 255) : Sx.Pure C3 8 [dPt p, .int .u8 a] (fun y => y = .bool true) := by
  have hal := lalive_pure
  have hsm := Pure.up3 (lsmall_pure p 6)
  have hde : (p.edges.map dE).length = p.edges.length := List.length_map _
  refine pure_of c3_ok (pl := pl_lcs) (G := G_lcs) Tryz.func8 rfl Tryz.ntmps8 run_lcs cok_lcs (by simp) ?_
  by_cases hs : pErr p = none ∧ (p.labels.length : Int) ≤ 6
  · rw [decide_eq_true hs] at hsm
    by_cases hE0 : p.edges.length = 0
    · (conv => whnf)
      (repeat' ((first | refine ord_ok (by (conv => whnf); (repeat' ((first | refine call_eq rfl hal ?_ | refine call_eq rfl hsm ?_ | refine ify ?_ | refine ifn ?_ | refine i6 ?_ | refine ati ?_ | refine mst ?_ | refine rmd ?_ | refine ibo (fun _ => ?_) (fun _ => ?_)) <;> conv => whnf)); (all_goals (repeat' (first | exact trivial | exact rfl | refine And.intro ?_ ?_)))) ?_ | refine call_eq rfl hal ?_ | refine call_eq rfl hsm ?_ | refine ify ?_ | refine ifn ?_ | refine i6 ?_ | refine ati ?_ | refine mst ?_ | refine rmd ?_ | refine ibo (fun _ => ?_) (fun _ => ?_)) <;> conv => whnf))
      exact rfl
    · obtain ⟨hp, h6⟩ := hs
      have hE := pt_edges hp
      have hof := Pure.up3 (lawpt_pure p (by omega))
      have hpo := pt_of hp
      have hdl : (p.labels.map dI).length = p.labels.length := List.length_map _
      obtain ⟨r, hr⟩ := Int.eq_ofNat_of_zero_le ha.1
      subst hr
      have hrl := Nat.mod_lt r (show 0 < p.edges.length by omega)
      have hrm : (r : Int).tmod ((p.edges.map dE).length : Int) = ((r % p.edges.length : Nat) : Int) := by rw [hde, Int.tmod_eq_emod_of_nonneg (by omega), ← Int.natCast_emod]
      generalize r % p.edges.length = i at hrl hrm
      have he := List.getElem?_eq_getElem hrl
      have hem := List.getElem_mem hrl
      generalize p.edges[i] = e at he hem
      have hed : (p.edges.map dE)[i]? = some (.agg [.int .i64 e.a, .int .i64 e.b]) := by rw [List.getElem?_map, he]; rfl
      have heo := hpo.edge e hem
      have hq := pErr_less hp (by omega) i
      have hEq := pt_edges hq
      have w1 := Pure.up3 (less_pure hp he)
      have w2 := Pure.up3 (form_pure p hp (by omega))
      have w3 := Pure.up3 (map_pure hp hq (by omega) (by omega))
      have w4 := Pure.up3 (alike_pure hp hq (by omega) (by omega))
      rw [decide_eq_false (less_form hpo hrl)] at w4
      unfold mapY at w3
      rw [less_no hpo hrl] at w3
      simp only at w3
      obtain ⟨_, hB, eF, hsrt, _⟩ := form_spec hpo
      obtain ⟨n, hn⟩ : ∃ n, p.labels.length = n := ⟨_, rfl⟩
      rw [hn] at hpo hB
      have hFo : PtOk n (formP p) := by rw [eF]; exact turnP_ok hB hpo
      have hlab : ∀ v, v < n → (formP p).labels[pl (byP p) v]? = p.labels[v]? := fun v hv => by rw [eF]; exact turnP_at hB hpo hv
      have hdg : ∀ v, v < n → degE (formP p).edges (pl (byP p) v : Int) = degE p.edges v := fun v hv => by rw [eF]; exact deg_turn hB hpo hv
      have hhas : turn ⟨((byP p)[e.a.toNat]?).getD 0, ((byP p)[e.b.toNat]?).getD 0⟩ ∈ (formP p).edges := by rw [eF]; exact has_turn hB hpo hem
      have hlen : (formP p).edges.length = p.edges.length := by rw [eF]; exact turnP_edge_len hB hpo
      have hle := sortI_le p.labels
      rw [← hsrt] at hle
      generalize lessP p i = q at w1 w3 w4 hq hEq
      generalize formP p = F at w2 hFo hlab hdg hhas hlen hle
      generalize byP p = B at w2 hB hlab hdg hhas
      clear eF hsrt
      have hFl := hFo.len
      have hBl := hB.1
      have hdF : (F.labels.map dI).length = F.labels.length := List.length_map _
      have hdB : (B.map dI).length = B.length := List.length_map _
      have hdFe : (F.edges.map dE).length = F.edges.length := List.length_map _
      (conv => whnf)
      (repeat' ((first | refine ord_ok (by (conv => whnf); (repeat' ((first | refine call_eq rfl hal ?_ | refine call_eq rfl hsm ?_ | refine call_eq rfl hof ?_ | refine at_da hed hrm ?_ | refine call_eq rfl w1 ?_ | refine call_eq rfl w2 ?_ | refine ify ?_ | refine ifn ?_ | refine i6 ?_ | refine ati ?_ | refine mst ?_ | refine rmd ?_ | refine ibo (fun _ => ?_) (fun _ => ?_)) <;> conv => whnf)); (all_goals (repeat' (first | exact trivial | exact rfl | refine And.intro ?_ ?_)))) ?_ | refine call_eq rfl hal ?_ | refine call_eq rfl hsm ?_ | refine call_eq rfl hof ?_ | refine at_da hed hrm ?_ | refine call_eq rfl w1 ?_ | refine call_eq rfl w2 ?_ | refine ify ?_ | refine ifn ?_ | refine i6 ?_ | refine ati ?_ | refine mst ?_ | refine rmd ?_ | refine ibo (fun _ => ?_) (fun _ => ?_)) <;> conv => whnf))
      refine loop_lo (ι := Nat) (fun v => v ≤ n) (fun v => [(12, .d (.int .i64 v)), (10, .d (dIs B)), (9, .own 9), (7, .own 7), (6, .own 6), (5, .own 5), (2, .own 2)]) (fun _ => [(2, .cells 25 [.d (dIs p.labels), .d (dEs p.edges)]), (5, .cells 35 [.d (dIs p.labels), .d (dEs p.edges)]), (6, .cells 77 [.d (.int .i64 e.a), .d (.int .i64 e.b)]), (7, .cells 35 [.d (dIs q.labels), .d (dEs q.edges)]), (9, .cells 35 [.d (dIs F.labels), .d (dEs F.edges)])]) (fun v => n - v) 0 (fun _ => rfl) (Nat.zero_le _) (.refl _ _) ⟨rfl, rfl, rfl, rfl, rfl, rfl, rfl, trivial⟩ ⟨rfl, rfl, rfl, rfl, rfl, trivial⟩ ?_
      intro v hv
      refine sxCode_sound c3_ok (G := G_lcs) (pl := pl_lcs) _ _ _ _ (by kernel_rfl) ?_
      by_cases hvl : v < n
      · have hx := pl_at hB hvl
        have hk := pl_lt hB hvl
        have h1 := hlab v hvl
        have h2 := hdg v hvl
        generalize pl B v = k at hx hk h1 h2
        have hy := List.getElem?_eq_getElem (l := p.labels) (i := v) (by omega)
        generalize p.labels[v]'(by omega) = y at hy
        have hxd : (B.map dI)[v]? = some (.int .i64 k) := by rw [List.getElem?_map, hx]; rfl
        have hyd : (p.labels.map dI)[v]? = some (.int .i64 y) := by rw [List.getElem?_map, hy]; rfl
        have hyF : (F.labels.map dI)[k]? = some (.int .i64 y) := by rw [List.getElem?_map, h1, hy]; rfl
        have d1 := Pure.up3 (pdegree_pure F k (by omega))
        have d2 := Pure.up3 (pdegree_pure p v (by omega))
        rw [h2] at d1
        generalize degE p.edges v = dg at d1 d2
        (conv => whnf)
        (repeat' ((first | refine ord_ok (by (conv => whnf); (repeat' ((first | refine at_da hxd rfl ?_ | refine at_da hyd rfl ?_ | refine at_da hyF rfl ?_ | refine call_eq rfl d1 ?_ | refine call_eq rfl d2 ?_ | refine ify ?_ | refine ifn ?_ | refine i6 ?_ | refine ati ?_ | refine mst ?_ | refine rmd ?_ | refine ibo (fun _ => ?_) (fun _ => ?_)) <;> conv => whnf)); (all_goals (repeat' (first | exact trivial | exact rfl | refine And.intro ?_ ?_)))) ?_ | refine at_da hxd rfl ?_ | refine at_da hyd rfl ?_ | refine at_da hyF rfl ?_ | refine call_eq rfl d1 ?_ | refine call_eq rfl d2 ?_ | refine ify ?_ | refine ifn ?_ | refine i6 ?_ | refine ati ?_ | refine mst ?_ | refine rmd ?_ | refine ibo (fun _ => ?_) (fun _ => ?_)) <;> conv => whnf))
        exact ⟨v + 1, _, _, hvl, .refl _ _, ⟨rfl, rfl, rfl, rfl, rfl, rfl, rfl, trivial⟩, ⟨rfl, rfl, rfl, rfl, rfl, trivial⟩, by omega⟩
      · ((conv => whnf); repeat' ((first | refine odw ?_ | refine ify ?_ | refine ifn ?_ | refine i6 ?_ | refine ati ?_ | refine mst ?_ | refine rmd ?_ | refine ibo (fun _ => ?_) (fun _ => ?_)) <;> conv => whnf))
        refine loop_lo (ι := Nat) (fun v => v + 1 ≤ n ∨ v = 0) (fun v => [(13, .d (.int .i64 (v + 1 : Nat))), (10, .d (dIs B)), (9, .own 9), (7, .own 7), (6, .own 6), (5, .own 5)]) (fun _ => [(5, .cells 35 [.d (dIs p.labels), .d (dEs p.edges)]), (6, .cells 77 [.d (.int .i64 e.a), .d (.int .i64 e.b)]), (7, .cells 35 [.d (dIs q.labels), .d (dEs q.edges)]), (9, .cells 35 [.d (dIs F.labels), .d (dEs F.edges)])]) (fun v => n - v) 0 (fun _ => rfl) (.inr rfl) (.refl _ _) ⟨rfl, rfl, rfl, rfl, rfl, rfl, trivial⟩ ⟨rfl, rfl, rfl, rfl, trivial⟩ ?_
        intro u hu
        refine sxCode_sound c3_ok (G := G_lcs) (pl := pl_lcs) _ _ _ _ (by kernel_rfl) ?_
        by_cases hul : u + 1 < n
        · have hx := List.getElem?_eq_getElem (l := F.labels) (i := u) (by omega)
          have hy := List.getElem?_eq_getElem (l := F.labels) (i := u + 1) (by omega)
          have hxy := List.pairwise_iff_getElem.1 hle u (u + 1) (by omega) (by omega) (by omega)
          generalize F.labels[u]'(by omega) = x at hx hxy
          generalize F.labels[u + 1]'(by omega) = y at hy hxy
          have hxd : (F.labels.map dI)[u]? = some (.int .i64 x) := by rw [List.getElem?_map, hx]; rfl
          have hyd : (F.labels.map dI)[u + 1]? = some (.int .i64 y) := by rw [List.getElem?_map, hy]; rfl
          (conv => whnf)
          (repeat' ((first | refine ord_ok (by (conv => whnf); (repeat' ((first | refine at_da hxd (by omega) ?_ | refine at_da hyd rfl ?_ | refine ify ?_ | refine ifn ?_ | refine i6 ?_ | refine ati ?_ | refine mst ?_ | refine rmd ?_ | refine ibo (fun _ => ?_) (fun _ => ?_)) <;> conv => whnf)); (all_goals (repeat' (first | exact trivial | exact rfl | refine And.intro ?_ ?_)))) ?_ | refine at_da hxd (by omega) ?_ | refine at_da hyd rfl ?_ | refine ify ?_ | refine ifn ?_ | refine i6 ?_ | refine ati ?_ | refine mst ?_ | refine rmd ?_ | refine ibo (fun _ => ?_) (fun _ => ?_)) <;> conv => whnf))
          exact ⟨u + 1, _, _, .inl (by omega), .refl _ _, ⟨int_is (by omega), rfl, rfl, rfl, rfl, rfl, trivial⟩, ⟨rfl, rfl, rfl, rfl, trivial⟩, by omega⟩
        · have ga := List.getElem?_eq_getElem (l := B) (i := e.a.toNat) (by omega)
          have gb := List.getElem?_eq_getElem (l := B) (i := e.b.toNat) (by omega)
          rw [ga, gb] at hhas
          generalize B[e.a.toNat]'(by omega) = ya at ga hhas
          generalize B[e.b.toNat]'(by omega) = yb at gb hhas
          have gad : (B.map dI)[e.a.toNat]? = some (.int .i64 ya) := by rw [List.getElem?_map, ga]; rfl
          have gbd : (B.map dI)[e.b.toNat]? = some (.int .i64 yb) := by rw [List.getElem?_map, gb]; rfl
          have w5 := Pure.up3 (phas_pure F ya yb (by omega))
          rw [decide_eq_true (show turn ⟨ya, yb⟩ ∈ F.edges from hhas)] at w5
          (conv => whnf)
          (repeat' ((first | refine ord_ok (by (conv => whnf); (repeat' ((first | refine call_eq rfl w3 ?_ | refine call_eq rfl w4 ?_ | refine at_da gad (by omega) ?_ | refine at_da gbd (by omega) ?_ | refine call_eq rfl w5 ?_ | refine ify ?_ | refine ifn ?_ | refine i6 ?_ | refine ati ?_ | refine mst ?_ | refine rmd ?_ | refine ibo (fun _ => ?_) (fun _ => ?_)) <;> conv => whnf)); (all_goals (repeat' (first | exact trivial | exact rfl | refine And.intro ?_ ?_)))) ?_ | refine call_eq rfl w3 ?_ | refine call_eq rfl w4 ?_ | refine at_da gad (by omega) ?_ | refine at_da gbd (by omega) ?_ | refine call_eq rfl w5 ?_ | refine ify ?_ | refine ifn ?_ | refine i6 ?_ | refine ati ?_ | refine mst ?_ | refine rmd ?_ | refine ibo (fun _ => ?_) (fun _ => ?_)) <;> conv => whnf))
          exact congrArg Da.bool (decide_eq_true (by omega))
  · rw [decide_eq_false hs] at hsm
    (conv => whnf)
    (repeat' ((first | refine ord_ok (by (conv => whnf); (repeat' ((first | refine call_eq rfl hal ?_ | refine call_eq rfl hsm ?_ | refine ify ?_ | refine ifn ?_ | refine i6 ?_ | refine ati ?_ | refine mst ?_ | refine rmd ?_ | refine ibo (fun _ => ?_) (fun _ => ?_)) <;> conv => whnf)); (all_goals (repeat' (first | exact trivial | exact rfl | refine And.intro ?_ ?_)))) ?_ | refine call_eq rfl hal ?_ | refine call_eq rfl hsm ?_ | refine ify ?_ | refine ifn ?_ | refine i6 ?_ | refine ati ?_ | refine mst ?_ | refine rmd ?_ | refine ibo (fun _ => ?_) (fun _ => ?_)) <;> conv => whnf))
    exact rfl
end Go.Proofs.YthegabgbakckfaaGreatDoor
