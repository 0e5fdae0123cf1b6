/- slices.Equal at ints and at edges; Same of two graphs; Of as an owned slice. -/
import Derived.Test.YtmkbgbnehokmmaaGreatDoorGrh
import Derived.Test.YtmkbgbnehokmmaaGreatDoorRfa
import Derived.Test.YtmkbgbnehokmmaaGreatDoorSxu
namespace Go.Proofs.YtmkbgbnehokmmaaGreatDoor
open Go.Sx Go.RowKit Go.Reg Go.Gr

set_option maxRecDepth 100000
theorem len_of {O : List Nat} {w : World} {l : List Int} {v : Value} (h : Rep O w (dIs l) v) : l.length ≤ 9223372036854775807 := by
  obtain ⟨cs, h, -⟩ := h
  simp only [dIs, RepC] at h
  obtain ⟨a, c, css, -, h1, h2, -⟩ := h
  rw [List.length_map] at h1
  unfold maxLen at h2; omega
def pl_eqi : List (Nat × Plan) := [(6, .leaf [0, 0, 0, 1, 0, 0, 0, 1, 0] [0, 1, 2, 4, 5, 6, 3, 7, 8] [0, 0, 3, 7, 0, 0, 48, 112, 255])]
def G_eqi : List FuncId := []
theorem cok_eqi : codeOk Tryz.prog G_eqi pl_eqi (Tryz.f27.body.getD .skip) = true := by kernel_rfl
theorem run_eqi (vs : Array Value) (w : World) : (callFunc 27 vs).run C1.P w = .ok (.enter 27 vs) w := by kernel_rfl
theorem eqI_pure (a b : List Int) : Pure C1 27 [dIs a, dIs b] (fun y => y = .bool (decide (a = b))) := by
  refine Pure.assume (fun O w us hr => by obtain ⟨v, vs, rfl, h1, _⟩ := reps_inv hr; exact len_of h1) fun hm => ?_
  have hal : (a.map dI).length = a.length := List.length_map _
  have hbl : (b.map dI).length = b.length := List.length_map _
  refine pure_of c1_ok (pl := pl_eqi) (G := G_eqi) Tryz.func27 rfl Tryz.ntmps27 run_eqi cok_eqi (by simp) ?_
  by_cases hlen : a.length = b.length
  · ((conv => whnf); repeat' ((first | refine odw ?_ | refine ify ?_ | refine ifn ?_ | refine i6 ?_ | refine ati ?_ | refine mst ?_ | refine rmd ?_ | refine ibo (fun _ => ?_) (fun _ => ?_)) <;> conv => whnf))
    refine loop_lo (ι := Nat) (fun i => i ≤ a.length ∧ ∀ j, j < i → a[j]? = b[j]?) (fun i => [(13, .d (.int .i64 i)), (12, .d (.int .i64 (a.map dI).length)), (1, .d (dIs b)), (0, .d (dIs a))]) (fun _ => []) (fun i => a.length - i) 0 (fun _ => rfl) ⟨Nat.zero_le _, by intro j h; omega⟩ (.refl _ _) ⟨rfl, rfl, rfl, rfl, trivial⟩ trivial ?_
    rintro i ⟨hi, he⟩
    refine sxCode_sound c1_ok (G := G_eqi) (pl := pl_eqi) _ _ _ _ (by kernel_rfl) ?_
    by_cases hlt : i < a.length
    · have hx := List.getElem?_eq_getElem hlt
      have hy := List.getElem?_eq_getElem (l := b) (i := i) (by omega)
      generalize a[i] = x at hx
      generalize b[i]'(by omega) = z at hy
      have hxd : (a.map dI)[i]? = some (.int .i64 x) := by rw [List.getElem?_map, hx]; rfl
      have hyd : (b.map dI)[i]? = some (.int .i64 z) := by rw [List.getElem?_map, hy]; rfl
      by_cases hxz : x = z
      · (conv => whnf)
        (repeat' ((first | refine ord_ok (by (conv => whnf); (repeat' ((first | refine at_da hxd rfl ?_ | refine at_da hyd rfl ?_ | refine ify ?_ | refine ifn ?_ | refine i6 ?_ | refine ati ?_ | refine mst ?_ | refine rmd ?_ | refine ibo (fun _ => ?_) (fun _ => ?_)) <;> conv => whnf)); (all_goals (repeat' (first | exact trivial | exact rfl | refine And.intro ?_ ?_)))) ?_ | refine at_da hxd rfl ?_ | refine at_da hyd rfl ?_ | refine ify ?_ | refine ifn ?_ | refine i6 ?_ | refine ati ?_ | refine mst ?_ | refine rmd ?_ | refine ibo (fun _ => ?_) (fun _ => ?_)) <;> conv => whnf))
        refine ⟨i + 1, _, _, ⟨hlt, fun j hj => ?_⟩, .refl _ _, ⟨rfl, rfl, rfl, rfl, trivial⟩, trivial, by omega⟩
        by_cases hji : j = i
        · subst hji; rw [hx, hy, hxz]
        · exact he j (by omega)
      · rw [decide_eq_false (fun h => by subst h; rw [hx] at hy; cases hy; exact hxz rfl)]
        (conv => whnf)
        (repeat' ((first | refine ord_ok (by (conv => whnf); (repeat' ((first | refine at_da hxd rfl ?_ | refine at_da hyd rfl ?_ | refine ify ?_ | refine ifn ?_ | refine i6 ?_ | refine ati ?_ | refine mst ?_ | refine rmd ?_ | refine ibo (fun _ => ?_) (fun _ => ?_)) <;> conv => whnf)); (all_goals (repeat' (first | exact trivial | exact rfl | refine And.intro ?_ ?_)))) ?_ | refine at_da hxd rfl ?_ | refine at_da hyd rfl ?_ | refine ify ?_ | refine ifn ?_ | refine i6 ?_ | refine ati ?_ | refine mst ?_ | refine rmd ?_ | refine ibo (fun _ => ?_) (fun _ => ?_)) <;> conv => whnf))
        exact rfl
    · rw [decide_eq_true (List.ext_getElem? fun j => by
        by_cases hj : j < a.length
        · exact he j (by omega)
        · rw [List.getElem?_eq_none (by omega), List.getElem?_eq_none (by omega)])]
      ((conv => whnf); repeat' ((first | refine odw ?_ | refine ify ?_ | refine ifn ?_ | refine i6 ?_ | refine ati ?_ | refine mst ?_ | refine rmd ?_ | refine ibo (fun _ => ?_) (fun _ => ?_)) <;> conv => whnf))
      exact rfl
  · rw [decide_eq_false (fun h => hlen (by rw [h]))]
    ((conv => whnf); repeat' ((first | refine odw ?_ | refine ify ?_ | refine ifn ?_ | refine i6 ?_ | refine ati ?_ | refine mst ?_ | refine rmd ?_ | refine ibo (fun _ => ?_) (fun _ => ?_)) <;> conv => whnf))
    exact rfl
def pl_eqe : List (Nat × Plan) := [(6, .leaf [0, 0, 0, 1, 0, 0, 0, 1, 3] [0, 1, 2, 4, 5, 6, 3, 7, 8] [0, 0, 3, 7, 0, 0, 48, 112, 255])]
def G_eqe : List FuncId := []
theorem cok_eqe : codeOk Tryz.prog G_eqe pl_eqe (Tryz.f28.body.getD .skip) = true := by kernel_rfl
theorem run_eqe (vs : Array Value) (w : World) : (callFunc 28 vs).run C1.P w = .ok (.enter 28 vs) w := by kernel_rfl
theorem eqE_pure (a b : List Edg) (hm : a.length ≤ 4294967296) : Pure C1 28 [dEs a, dEs b] (fun y => y = .bool (decide (a = b))) := by
  have hal : (a.map dE).length = a.length := List.length_map _
  have hbl : (b.map dE).length = b.length := List.length_map _
  refine pure_of c1_ok (pl := pl_eqe) (G := G_eqe) Tryz.func28 rfl Tryz.ntmps28 run_eqe cok_eqe (by simp) ?_
  by_cases hlen : a.length = b.length
  · ((conv => whnf); repeat' ((first | refine odw ?_ | refine ify ?_ | refine ifn ?_ | refine i6 ?_ | refine ati ?_ | refine mst ?_ | refine rmd ?_ | refine ibo (fun _ => ?_) (fun _ => ?_)) <;> conv => whnf))
    refine loop_lo (ι := Nat) (fun i => i ≤ a.length ∧ ∀ j, j < i → a[j]? = b[j]?) (fun i => [(13, .d (.int .i64 i)), (12, .d (.int .i64 (a.map dE).length)), (1, .d (dEs b)), (0, .d (dEs a))]) (fun _ => []) (fun i => a.length - i) 0 (fun _ => rfl) ⟨Nat.zero_le _, by intro j h; omega⟩ (.refl _ _) ⟨rfl, rfl, rfl, rfl, trivial⟩ trivial ?_
    rintro i ⟨hi, he⟩
    refine sxCode_sound c1_ok (G := G_eqe) (pl := pl_eqe) _ _ _ _ (by kernel_rfl) ?_
    by_cases hlt : i < a.length
    · have hx := List.getElem?_eq_getElem hlt
      have hy := List.getElem?_eq_getElem (l := b) (i := i) (by omega)
      generalize a[i] = x at hx
      generalize b[i]'(by omega) = z at hy
      have hxd : (a.map dE)[i]? = some (.agg [.int .i64 x.a, .int .i64 x.b]) := by rw [List.getElem?_map, hx]; rfl
      have hyd : (b.map dE)[i]? = some (.agg [.int .i64 z.a, .int .i64 z.b]) := by rw [List.getElem?_map, hy]; rfl
      by_cases hxz : x.a = z.a ∧ x.b = z.b
      · have hxe : x = z := by cases x; cases z; simp only at hxz; rw [hxz.1, hxz.2]
        (conv => whnf)
        (repeat' ((first | refine ord_ok (by (conv => whnf); (repeat' ((first | refine at_da hxd rfl ?_ | refine at_da hyd rfl ?_ | refine ify ?_ | refine ifn ?_ | refine i6 ?_ | refine ati ?_ | refine mst ?_ | refine rmd ?_ | refine ibo (fun _ => ?_) (fun _ => ?_)) <;> conv => whnf)); (all_goals (repeat' (first | exact trivial | exact rfl | refine And.intro ?_ ?_)))) ?_ | refine at_da hxd rfl ?_ | refine at_da hyd rfl ?_ | refine ify ?_ | refine ifn ?_ | refine i6 ?_ | refine ati ?_ | refine mst ?_ | refine rmd ?_ | refine ibo (fun _ => ?_) (fun _ => ?_)) <;> conv => whnf))
        refine ⟨i + 1, _, _, ⟨hlt, fun j hj => ?_⟩, .refl _ _, ⟨rfl, rfl, rfl, rfl, trivial⟩, trivial, by omega⟩
        by_cases hji : j = i
        · subst hji; rw [hx, hy, hxe]
        · exact he j (by omega)
      · rw [decide_eq_false (fun h => by subst h; rw [hx] at hy; cases hy; exact hxz ⟨rfl, rfl⟩)]
        (conv => whnf)
        (repeat' ((first | refine ord_ok (by (conv => whnf); (repeat' ((first | refine at_da hxd rfl ?_ | refine at_da hyd rfl ?_ | refine ify ?_ | refine ifn ?_ | refine i6 ?_ | refine ati ?_ | refine mst ?_ | refine rmd ?_ | refine ibo (fun _ => ?_) (fun _ => ?_)) <;> conv => whnf)); (all_goals (repeat' (first | exact trivial | exact rfl | refine And.intro ?_ ?_)))) ?_ | refine at_da hxd rfl ?_ | refine at_da hyd rfl ?_ | refine ify ?_ | refine ifn ?_ | refine i6 ?_ | refine ati ?_ | refine mst ?_ | refine rmd ?_ | refine ibo (fun _ => ?_) (fun _ => ?_)) <;> conv => whnf))
        exact rfl
    · rw [decide_eq_true (List.ext_getElem? fun j => by
        by_cases hj : j < a.length
        · exact he j (by omega)
        · rw [List.getElem?_eq_none (by omega), List.getElem?_eq_none (by omega)])]
      ((conv => whnf); repeat' ((first | refine odw ?_ | refine ify ?_ | refine ifn ?_ | refine i6 ?_ | refine ati ?_ | refine mst ?_ | refine rmd ?_ | refine ibo (fun _ => ?_) (fun _ => ?_)) <;> conv => whnf))
      exact rfl
  · rw [decide_eq_false (fun h => hlen (by rw [h]))]
    ((conv => whnf); repeat' ((first | refine odw ?_ | refine ify ?_ | refine ifn ?_ | refine i6 ?_ | refine ati ?_ | refine mst ?_ | refine rmd ?_ | refine ibo (fun _ => ?_) (fun _ => ?_)) <;> conv => whnf))
    exact rfl
def pl_gsame : List (Nat × Plan) := [(3, .leaf [0, 0, 0, 1, 0, 0, 0, 1, 2, 0, 0, 0, 0, 1, 0, 0, 0, 1, 2, 0, 0] [0, 1, 2, 4, 5, 6, 3, 7, 8, 9, 10, 11, 12, 14, 15, 16, 13, 17, 18, 19, 20] [0, 1, 3, 7, 0, 16, 48, 112, 255, 511, 1023, 2047, 4095, 8191, 1023, 17407, 50175, 115711, 262143, 524287, 1048575])]
def G_gsame : List FuncId := [27, 28]
theorem cok_gsame : codeOk Tryz.prog G_gsame pl_gsame (Tryz.f7.body.getD .skip) = true := by kernel_rfl
theorem run_gsame (vs : Array Value) (w : World) : (callFunc 7 vs).run C1.P w = .ok (.enter 7 vs) w := by kernel_rfl
theorem same_g (G H : Gr) (hG : G.Ok) : Pure C1 7 [dG G, dG H] (fun y => y = .bool (decide (G.labels = H.labels) && decide (G.edges = H.edges))) := by
  have h1 := eqI_pure G.labels H.labels
  have h2 := eqE_pure G.edges H.edges (by have := hG.esize; omega)
  refine pure_of c1_ok (pl := pl_gsame) (G := G_gsame) Tryz.func7 rfl Tryz.ntmps7 run_gsame cok_gsame (by simp) ?_
  cases hb : decide (G.labels = H.labels) with
  | true =>
    rw [hb] at h1
    (conv => whnf)
    (repeat' ((first | refine ord_ok (by (conv => whnf); (repeat' ((first | refine call_eq rfl h1 ?_ | refine call_eq rfl h2 ?_ | refine ify ?_ | refine ifn ?_ | refine i6 ?_ | refine ati ?_ | refine mst ?_ | refine rmd ?_ | refine ibo (fun _ => ?_) (fun _ => ?_)) <;> conv => whnf)); (all_goals (repeat' (first | exact trivial | exact rfl | refine And.intro ?_ ?_)))) ?_ | refine call_eq rfl h1 ?_ | refine call_eq rfl h2 ?_ | refine ify ?_ | refine ifn ?_ | refine i6 ?_ | refine ati ?_ | refine mst ?_ | refine rmd ?_ | refine ibo (fun _ => ?_) (fun _ => ?_)) <;> conv => whnf))
    exact rfl
  | false =>
    rw [hb] at h1
    (conv => whnf)
    (repeat' ((first | refine ord_ok (by (conv => whnf); (repeat' ((first | refine call_eq rfl h1 ?_ | refine call_eq rfl h2 ?_ | refine ify ?_ | refine ifn ?_ | refine i6 ?_ | refine ati ?_ | refine mst ?_ | refine rmd ?_ | refine ibo (fun _ => ?_) (fun _ => ?_)) <;> conv => whnf)); (all_goals (repeat' (first | exact trivial | exact rfl | refine And.intro ?_ ?_)))) ?_ | refine call_eq rfl h1 ?_ | refine call_eq rfl h2 ?_ | refine ify ?_ | refine ifn ?_ | refine i6 ?_ | refine ati ?_ | refine mst ?_ | refine rmd ?_ | refine ibo (fun _ => ?_) (fun _ => ?_)) <;> conv => whnf))
    exact rfl
theorem same_gnil (G : Gr) : Pure C1 7 [dG G, .nilp] (fun y => y = .bool false) := by
  refine pure_of c1_ok (pl := pl_gsame) (G := G_gsame) Tryz.func7 rfl Tryz.ntmps7 run_gsame cok_gsame (by simp) ?_
  ((conv => whnf); repeat' ((first | refine odw ?_ | refine ify ?_ | refine ifn ?_ | refine i6 ?_ | refine ati ?_ | refine mst ?_ | refine rmd ?_ | refine ibo (fun _ => ?_) (fun _ => ?_)) <;> conv => whnf))
  exact rfl
theorem same_nil2 : Pure C1 7 [.nilp, .nilp] (fun y => y = .bool true) := by
  refine pure_of c1_ok (pl := pl_gsame) (G := G_gsame) Tryz.func7 rfl Tryz.ntmps7 run_gsame cok_gsame (by simp) ?_
  ((conv => whnf); repeat' ((first | refine odw ?_ | refine ify ?_ | refine ifn ?_ | refine i6 ?_ | refine ati ?_ | refine mst ?_ | refine rmd ?_ | refine ibo (fun _ => ?_) (fun _ => ?_)) <;> conv => whnf))
  exact rfl
theorem lawof_mksl (edges : List Edg) (hm : edges.length ≤ 4294967296) : MakeSl C1 10 [dEs edges] 33 2 (fun ds => ds = edges.map dE) := by
  have hel : (edges.map dE).length = edges.length := List.length_map _
  refine mksl_of c1_ok (pl := pl_lawof) (G := G_lawof) Tryz.func10 rfl Tryz.ntmps10 run_lawof cok_lawof (by simp) ?_
  ((conv => whnf); repeat' ((first | refine odw ?_ | refine ify ?_ | refine ifn ?_ | refine i6 ?_ | refine ati ?_ | refine mst ?_ | refine rmd ?_ | refine ibo (fun _ => ?_) (fun _ => ?_)) <;> conv => whnf))
  refine loop_lo (ι := Nat) (fun i => i ≤ edges.length) (fun i => [(4, .d (.int .i64 i)), (3, .own 300), (0, .d (dEs edges))]) (fun i => [(300, .slice 33 2 ((edges.take i).map dE))]) (fun i => edges.length - i) 0 (fun _ => rfl) (Nat.zero_le _)
    (.own 3 300 33 2 rfl rfl (.refl _ _)) ⟨rfl, rfl, rfl, trivial⟩ ⟨rfl, trivial⟩ ?_
  intro i hi
  refine sxCode_sound c1_ok (G := G_lawof) (pl := pl_lawof) _ _ _ _ (by kernel_rfl) ?_
  by_cases hlt : i < edges.length
  · have hx := List.getElem?_eq_getElem hlt
    generalize edges[i] = e at hx
    have hxd : (edges.map dE)[i]? = some (dE e) := by rw [List.getElem?_map, hx]; rfl
    have htl : (edges.take i).length = i := by rw [List.length_take]; omega
    (repeat' ((first | refine ord_ok (by (conv => whnf); (repeat' ((first | refine at_da hxd rfl ?_ | refine ify ?_ | refine ifn ?_ | refine i6 ?_ | refine ati ?_ | refine mst ?_ | refine rmd ?_ | refine ibo (fun _ => ?_) (fun _ => ?_)) <;> conv => whnf)); (all_goals (repeat' (first | exact trivial | exact rfl | refine And.intro ?_ ?_)))) ?_ | refine at_da hxd rfl ?_ | refine ify ?_ | refine ifn ?_ | refine i6 ?_ | refine ati ?_ | refine mst ?_ | refine rmd ?_ | refine ibo (fun _ => ?_) (fun _ => ?_)) <;> conv => whnf))
    have hfin : (edges.take i).map dE ++ [dE e] = (edges.take (i + 1)).map dE := by rw [take_snoc hx, List.map_append]; rfl
    exact ⟨i + 1, _, _, hlt, .refl _ _, ⟨rfl, rfl, rfl, trivial⟩, ⟨slice_is hfin, trivial⟩, by omega⟩
  · have hii : edges.take i = edges := List.take_of_length_le (by omega)
    rw [hii]
    ((conv => whnf); repeat' ((first | refine odw ?_ | refine ify ?_ | refine ifn ?_ | refine i6 ?_ | refine ati ?_ | refine mst ?_ | refine rmd ?_ | refine ibo (fun _ => ?_) (fun _ => ?_)) <;> conv => whnf))
    exact ⟨rfl, rfl, rfl⟩
end Go.Proofs.YtmkbgbnehokmmaaGreatDoor
