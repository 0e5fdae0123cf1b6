/- VertAll: the walk. -/
import Derived.Test.YtmkbgbnehokmmaaGreatVtc
namespace Go.Proofs.YtmkbgbnehokmmaaGreat
open Go.Sx Go.RowKit Go.Reg Go.Gr

set_option maxRecDepth 100000
theorem dIs_more' (l : List Int) (x : Int) : dIs (l ++ [x]) = .list 1 (l.map dI ++ [.int .i64 x]) := by unfold dIs; rw [List.map_append]; rfl
theorem row_most {G : Gr} (hG : G.Ok) (hn : G.labels.length ≤ 7) {k : Nat} (hk : k ≤ 6) : (rowV G k).length ≤ 823543 :=
  Nat.le_trans (row_len hG k) (Nat.le_trans (Nat.pow_le_pow_left hn _) (Nat.le_trans (Nat.pow_le_pow_right (by decide) (show k + 1 ≤ 7 by omega)) (by decide)))
theorem rows_part {G : Gr} {k i : Nat} : (((rowV G k).take i).flatMap (growL G)).length ≤ (rowV G (k + 1)).length := by
  have h : rowV G (k + 1) = ((rowV G k).take i).flatMap (growL G) ++ ((rowV G k).drop i).flatMap (growL G) := by
    rw [← List.flatMap_append, List.take_append_drop]; rfl
  rw [h, List.length_append]; omega
theorem row_zero (G : Gr) : .list 1 ((upto G.labels.length).map dOne) = dLs (rowV G 0) := by
  unfold dLs rowV
  rw [List.map_map]; rfl
theorem dLs_at {P : List (List Int)} {i : Nat} {x : List Int} (h : P[i]? = some x) : (P.map dIs)[i]? = some (.list 1 (x.map dI)) := by rw [List.getElem?_map, h]; rfl
def hitsV (P : List (List Int)) (w : List Int) (j : Nat) : Nat := ((P.take j).filter fun x => decide (setOf x = w)).length
theorem hitsV_step {P : List (List Int)} {w : List Int} {j : Nat} {x : List Int} (h : P[j]? = some x) : hitsV P w (j + 1) = hitsV P w j + (if setOf x = w then 1 else 0) := by
  unfold hitsV
  rw [List.take_add_one, h, Option.toList_some, List.filter_append, List.length_append]
  by_cases hc : setOf x = w <;> simp [hc]
theorem hitsV_le (P : List (List Int)) (w : List Int) (j : Nat) : hitsV P w j ≤ j := by
  unfold hitsV
  have := List.length_filter_le (fun x => decide (setOf x = w)) (P.take j)
  rw [List.length_take] at this; omega
def pl_vta : List (Nat × Plan) := [(20, .leaf [0, 0, 0, 1, 2, 0, 0, 0, 1, 2] [0, 1, 2, 5, 6, 7, 3, 8, 4, 9] [0, 0, 3, 7, 15, 0, 0, 96, 224, 511]),
  (34, .split 10 6 (.split 1 11 (.split 11 6 (.leaf [0, 6, 0, 0, 0, 1, 3, 0, 0, 0, 1, 6, 3, 6, 3, 0] [0, 2, 3, 4, 7, 8, 9, 5, 10, 1, 11, 6, 12, 13, 14, 15] [0, 0, 0, 0, 12, 28, 4030, 0, 0, 384, 896, 1922, 4094, 8190, 16383, 32767]) (.leaf [0, 6, 0, 0, 0, 1, 3, 0, 0, 0, 1, 6, 3, 6, 3, 0] [0, 2, 3, 4, 7, 8, 9, 5, 10, 1, 6, 11, 12, 13, 14, 15] [0, 0, 0, 0, 12, 28, 1982, 0, 0, 384, 896, 2046, 4094, 8190, 16383, 32767])) (.leaf [0, 6, 0, 0, 0, 1, 3, 0, 0, 0, 1, 6, 3, 6, 3, 0] [0, 2, 3, 4, 7, 8, 9, 5, 10, 11, 1, 6, 12, 13, 14, 15] [0, 3968, 0, 0, 12, 28, 4030, 0, 0, 384, 896, 1920, 4094, 8190, 16383, 32767])) (.leaf [0, 6, 0, 0, 0, 1, 3, 0, 0, 0, 1, 6, 3, 6, 3, 0] [0, 2, 3, 4, 7, 8, 9, 5, 1, 6, 10, 11, 12, 13, 14, 15] [0, 0, 0, 0, 12, 28, 62, 0, 0, 384, 1022, 2046, 4094, 8190, 16383, 32767]))]
def G_vta : List FuncId := [7, 8, 10, 9, 11, 12]
theorem cok_vta : codeOk Tryz.prog G_vta pl_vta (Tryz.f3.body.getD .skip) = true := by kernel_rfl
theorem run_vta (vs : Array Value) (w : World) : (callFunc 3 vs).run C1.P w = .ok (.enter 3 vs) w := by kernel_rfl
set_option maxHeartbeats 4000000 in
theorem vall_pure (labels : List Int) (edges : List Edg) : Pure C1 3 [dIs labels, dEs edges] (fun y => y = .bool true) := by
  have hlm : (labels.map dI).length = labels.length := List.length_map _
  refine pure_of c1_ok (pl := pl_vta) (G := G_vta) Tryz.func3 rfl Tryz.ntmps3 run_vta cok_vta (by simp) ?_
  ((conv => whnf); repeat' ((first | refine odw ?_ | refine ify ?_ | refine ifn ?_ | refine i6 ?_ | refine ati ?_ | refine mst ?_ | refine rmd ?_ | refine ibo (fun _ => ?_) (fun _ => ?_)) <;> conv => whnf))
  refine call_eq rfl valive_pure ?_
  ((conv => whnf); repeat' ((first | refine odw ?_ | refine ify ?_ | refine ifn ?_ | refine i6 ?_ | refine ati ?_ | refine mst ?_ | refine rmd ?_ | refine ibo (fun _ => ?_) (fun _ => ?_)) <;> conv => whnf))
  refine call_eq rfl (made_pure labels edges) ?_
  rcases made_case labels edges with e | ⟨G, e, hG, hn, hm, hGe, _, hlen⟩
  · rw [e]
    ((conv => whnf); repeat' ((first | refine odw ?_ | refine ify ?_ | refine ifn ?_ | refine i6 ?_ | refine ati ?_ | refine mst ?_ | refine rmd ?_ | refine ibo (fun _ => ?_) (fun _ => ?_)) <;> conv => whnf))
    exact rfl
  rw [e]
  have hlab : G.labels = labels := by rw [hGe]
  by_cases h7 : 7 < labels.length
  · ((conv => whnf); repeat' ((first | refine odw ?_ | refine ify ?_ | refine ifn ?_ | refine i6 ?_ | refine ati ?_ | refine mst ?_ | refine rmd ?_ | refine ibo (fun _ => ?_) (fun _ => ?_)) <;> conv => whnf))
    exact rfl
  have hn7 : G.labels.length ≤ 7 := by rw [hlab]; omega
  have hbr := bare_pure G hG
  rw [row_zero] at hbr
  (conv => whnf)
  (repeat' ((first | refine ord_ok (by (conv => whnf); (repeat' ((first | refine call_eq rfl hbr ?_ | refine ify ?_ | refine ifn ?_ | refine i6 ?_ | refine ati ?_ | refine mst ?_ | refine rmd ?_ | refine ibo (fun _ => ?_) (fun _ => ?_)) <;> conv => whnf)); (all_goals (repeat' (first | exact trivial | exact rfl | refine And.intro ?_ ?_)))) ?_ | refine call_eq rfl hbr ?_ | refine ify ?_ | refine ifn ?_ | refine i6 ?_ | refine ati ?_ | refine mst ?_ | refine rmd ?_ | refine ibo (fun _ => ?_) (fun _ => ?_)) <;> conv => whnf))
  refine loop_lo (ι := Nat) (fun k => k ≤ 5) (fun k => [(9, .d (.int .i64 ((k + 1 : Nat) : Int))), (8, .d (dLs (rowV G k))), (6, .own 6), (5, .d (dG G))]) (fun _ => [(6, .cells 27 [.d (dIs G.labels), .d (dEs G.edges)])]) (fun k => 5 - k) 0 (fun _ => rfl) (Nat.zero_le _) (.refl _ _) ⟨rfl, rfl, rfl, rfl, trivial⟩ ⟨rfl, trivial⟩ ?_
  intro k hk
  refine sxCode_sound c1_ok (G := G_vta) (pl := pl_vta) _ _ _ _ (by kernel_rfl) ?_
  by_cases hk5 : k < 5
  · have hst := sets_pure G (k + 1) hn7 (by omega)
    have hrm := row_most hG hn7 (k := k) (by omega)
    have hrm2 := row_most hG hn7 (k := k + 1) (by omega)
    have hpart := fun i => rows_part (G := G) (k := k) (i := i)
    have hmem := fun x => mem_rowV hG k (x := x)
    have hnext : rowV G (k + 1) = (rowV G k).flatMap (growL G) := rfl
    ((conv => whnf); repeat' ((first | refine odw ?_ | refine ify ?_ | refine ifn ?_ | refine i6 ?_ | refine ati ?_ | refine mst ?_ | refine rmd ?_ | refine ibo (fun _ => ?_) (fun _ => ?_)) <;> conv => whnf))
    refine call_pure rfl hst ?_
    rintro y ⟨W, rfl, hW⟩
    have hpl := (rows_perm hG hW).length_eq
    rw [List.length_map] at hpl
    have hone := fun w (hw : w ∈ W) => one_hit hG hW hw
    generalize rowV G k = R at hrm hpart hmem hnext hpl hone ⊢
    have hRm : (R.map dIs).length = R.length := List.length_map _
    have hWm : (W.map dIs).length = W.length := List.length_map _
    ((conv => whnf); repeat' ((first | refine odw ?_ | refine ify ?_ | refine ifn ?_ | refine i6 ?_ | refine ati ?_ | refine mst ?_ | refine rmd ?_ | refine ibo (fun _ => ?_) (fun _ => ?_)) <;> conv => whnf))
    refine loop_lo (ι := Nat) (fun i => i ≤ W.length) (fun i => [(11, .d (.int .i64 i)), (10, .d (dLs W)), (9, .d (.int .i64 ((k + 1 : Nat) : Int))), (8, .d (dLs R)), (6, .own 6), (5, .d (dG G))]) (fun _ => [(6, .cells 27 [.d (dIs G.labels), .d (dEs G.edges)])]) (fun i => W.length - i) 0 (fun _ => rfl) (Nat.zero_le _) (.refl _ _) ⟨rfl, rfl, rfl, rfl, rfl, rfl, trivial⟩ ⟨rfl, trivial⟩ ?_
    intro i hi
    refine sxCode_sound c1_ok (G := G_vta) (pl := pl_vta) _ _ _ _ (by kernel_rfl) ?_
    by_cases hil : i < W.length
    · have hw := List.getElem?_eq_getElem hil
      have hwh := hone _ (List.getElem_mem hil)
      generalize W[i] = w at hw hwh
      have hwd := dLs_at hw
      ((conv => whnf); repeat' ((first | refine odw ?_ | refine ify ?_ | refine ifn ?_ | refine i6 ?_ | refine ati ?_ | refine mst ?_ | refine rmd ?_ | refine ibo (fun _ => ?_) (fun _ => ?_)) <;> conv => whnf))
      refine loop_lo (ι := Nat) (fun j => j ≤ R.length) (fun j => [(13, .d (.int .i64 j)), (12, .d (.int .i64 (hitsV R w j : Nat))), (11, .d (.int .i64 i)), (10, .d (dLs W)), (9, .d (.int .i64 ((k + 1 : Nat) : Int))), (8, .d (dLs R)), (6, .own 6), (5, .d (dG G))]) (fun _ => [(6, .cells 27 [.d (dIs G.labels), .d (dEs G.edges)])]) (fun j => R.length - j) 0 (fun _ => rfl) (Nat.zero_le _) (.refl _ _) ⟨rfl, rfl, rfl, rfl, rfl, rfl, rfl, rfl, trivial⟩ ⟨rfl, trivial⟩ ?_
      intro j hj
      refine sxCode_sound c1_ok (G := G_vta) (pl := pl_vta) _ _ _ _ (by kernel_rfl) ?_
      have hhl := hitsV_le R w j
      by_cases hjl : j < R.length
      · have hx := List.getElem?_eq_getElem hjl
        have hxm := (hmem _).1 (List.getElem_mem hjl)
        generalize R[j] = x at hx hxm
        have hxd := dLs_at hx
        have hst := hitsV_step (w := w) hx
        have hof := of06_pure x (by omega)
        have hsm := same_pure (setOf x) w
        by_cases hc : setOf x = w
        · rw [decide_eq_true hc] at hsm
          rw [if_pos hc] at hst
          (conv => whnf)
          (repeat' ((first | refine ord_ok (by (conv => whnf); (repeat' ((first | refine at_da hxd rfl ?_ | refine at_da hwd rfl ?_ | refine call_eq rfl hof ?_ | refine call_eq rfl hsm ?_ | refine ify ?_ | refine ifn ?_ | refine i6 ?_ | refine ati ?_ | refine mst ?_ | refine rmd ?_ | refine ibo (fun _ => ?_) (fun _ => ?_)) <;> conv => whnf)); (all_goals (repeat' (first | exact trivial | exact rfl | refine And.intro ?_ ?_)))) ?_ | refine at_da hxd rfl ?_ | refine at_da hwd rfl ?_ | refine call_eq rfl hof ?_ | refine call_eq rfl hsm ?_ | refine ify ?_ | refine ifn ?_ | refine i6 ?_ | refine ati ?_ | refine mst ?_ | refine rmd ?_ | refine ibo (fun _ => ?_) (fun _ => ?_)) <;> conv => whnf))
          exact ⟨j + 1, _, _, hjl, .refl _ _, ⟨rfl, by rw [hst]; rfl, rfl, rfl, rfl, rfl, rfl, rfl, trivial⟩, ⟨rfl, trivial⟩, by omega⟩
        · rw [decide_eq_false hc] at hsm
          rw [if_neg hc, Nat.add_zero] at hst
          (conv => whnf)
          (repeat' ((first | refine ord_ok (by (conv => whnf); (repeat' ((first | refine at_da hxd rfl ?_ | refine at_da hwd rfl ?_ | refine call_eq rfl hof ?_ | refine call_eq rfl hsm ?_ | refine ify ?_ | refine ifn ?_ | refine i6 ?_ | refine ati ?_ | refine mst ?_ | refine rmd ?_ | refine ibo (fun _ => ?_) (fun _ => ?_)) <;> conv => whnf)); (all_goals (repeat' (first | exact trivial | exact rfl | refine And.intro ?_ ?_)))) ?_ | refine at_da hxd rfl ?_ | refine at_da hwd rfl ?_ | refine call_eq rfl hof ?_ | refine call_eq rfl hsm ?_ | refine ify ?_ | refine ifn ?_ | refine i6 ?_ | refine ati ?_ | refine mst ?_ | refine rmd ?_ | refine ibo (fun _ => ?_) (fun _ => ?_)) <;> conv => whnf))
          exact ⟨j + 1, _, _, hjl, .refl _ _, ⟨rfl, by rw [hst]; rfl, rfl, rfl, rfl, rfl, rfl, rfl, trivial⟩, ⟨rfl, trivial⟩, by omega⟩
      · have h1 : hitsV R w j = 1 := by
          unfold hitsV
          rw [List.take_of_length_le (by omega)]; exact hwh
        rw [h1]
        ((conv => whnf); repeat' ((first | refine odw ?_ | refine ify ?_ | refine ifn ?_ | refine i6 ?_ | refine ati ?_ | refine mst ?_ | refine rmd ?_ | refine ibo (fun _ => ?_) (fun _ => ?_)) <;> conv => whnf))
        exact ⟨i + 1, _, _, hil, .refl _ _, ⟨rfl, rfl, rfl, rfl, rfl, rfl, trivial⟩, ⟨rfl, trivial⟩, by omega⟩
    · ((conv => whnf); repeat' ((first | refine odw ?_ | refine ify ?_ | refine ifn ?_ | refine i6 ?_ | refine ati ?_ | refine mst ?_ | refine rmd ?_ | refine ibo (fun _ => ?_) (fun _ => ?_)) <;> conv => whnf))
      refine loop_lo (ι := Nat) (fun i => i ≤ R.length) (fun i => [(15, .d (.int .i64 i)), (14, .own 300), (9, .d (.int .i64 ((k + 1 : Nat) : Int))), (8, .d (dLs R)), (6, .own 6), (5, .d (dG G))]) (fun i => [(6, .cells 27 [.d (dIs G.labels), .d (dEs G.edges)]), (300, .slice 22 1 (((R.take i).flatMap (growL G)).map dIs))]) (fun i => R.length - i) 0 (fun _ => rfl) (Nat.zero_le _)
        (.own 14 300 22 1 rfl rfl (.refl _ _)) ⟨rfl, rfl, rfl, rfl, rfl, rfl, trivial⟩ ⟨rfl, rfl, trivial⟩ ?_
      intro i hi
      refine sxCode_sound c1_ok (G := G_vta) (pl := pl_vta) _ _ _ _ (by kernel_rfl) ?_
      have hp1 := hpart i
      have hp2 := hpart (i + 1)
      by_cases hil : i < R.length
      · have hx := List.getElem?_eq_getElem hil
        have hxm := (hmem _).1 (List.getElem_mem hil)
        generalize R[i] = x at hx hxm
        have hxd := dLs_at hx
        have hcn := canon_pure G hG x
        rw [hxm.1] at hcn
        have hgs := grow_mksl G hG x (by omega)
        have hst : (R.take (i + 1)).flatMap (growL G) = (R.take i).flatMap (growL G) ++ (growV G x).map fun v => x ++ [v] := by
          rw [List.take_add_one, hx, Option.toList_some, List.flatMap_append]; simp [growL]
        rw [hst, List.length_append, List.length_map] at hp2
        generalize (R.take i).flatMap (growL G) = N at hp1 hp2 hst ⊢
        generalize growV G x = W2 at hgs hst hp2
        have hW2 : (W2.map dI).length = W2.length := List.length_map _
        have hxl : (x.map dI).length = x.length := List.length_map _
        (conv => whnf)
        (repeat' ((first | refine ord_ok (by (conv => whnf); (repeat' ((first | refine at_da hxd rfl ?_ | refine call_eq rfl hcn ?_ | refine ify ?_ | refine ifn ?_ | refine i6 ?_ | refine ati ?_ | refine mst ?_ | refine rmd ?_ | refine ibo (fun _ => ?_) (fun _ => ?_)) <;> conv => whnf)); (all_goals (repeat' (first | exact trivial | exact rfl | refine And.intro ?_ ?_)))) ?_ | refine at_da hxd rfl ?_ | refine call_eq rfl hcn ?_ | refine ify ?_ | refine ifn ?_ | refine i6 ?_ | refine ati ?_ | refine mst ?_ | refine rmd ?_ | refine ibo (fun _ => ?_) (fun _ => ?_)) <;> conv => whnf))
        refine call_mksl 301 rfl rfl hgs ?_; rintro ds rfl
        ((conv => whnf); repeat' ((first | refine odw ?_ | refine ify ?_ | refine ifn ?_ | refine i6 ?_ | refine ati ?_ | refine mst ?_ | refine rmd ?_ | refine ibo (fun _ => ?_) (fun _ => ?_)) <;> conv => whnf))
        refine loop_lo (ι := Nat) (fun j => j ≤ W2.length) (fun j => [(17, .d (.int .i64 j)), (16, .d (dIs W2)), (15, .d (.int .i64 i)), (14, .own 300), (9, .d (.int .i64 ((k + 1 : Nat) : Int))), (8, .d (dLs R)), (6, .own 6), (5, .d (dG G))]) (fun j => [(6, .cells 27 [.d (dIs G.labels), .d (dEs G.edges)]), (300, .slice 22 1 ((N ++ (W2.take j).map fun v => x ++ [v]).map dIs))]) (fun j => W2.length - j) 0 (fun _ => rfl) (Nat.zero_le _)
          (.frz 301 rfl (.refl _ _)) ⟨rfl, rfl, rfl, rfl, rfl, rfl, rfl, rfl, trivial⟩ ⟨rfl, slice_is (by simp), trivial⟩ ?_
        intro j hj
        refine sxCode_sound c1_ok (G := G_vta) (pl := pl_vta) _ _ _ _ (by kernel_rfl) ?_
        have hNl : ((N ++ (W2.take j).map fun v => x ++ [v]).map dIs).length = N.length + j := by
          rw [List.length_map, List.length_append, List.length_map, List.length_take]; omega
        by_cases hjl : j < W2.length
        · have hv := List.getElem?_eq_getElem hjl
          generalize W2[j] = v at hv
          have hvd : (W2.map dI)[j]? = some (.int .i64 v) := by rw [List.getElem?_map, hv]; rfl
          have hfin : (N ++ (W2.take j).map fun v => x ++ [v]).map dIs ++ [.list 1 (x.map dI ++ [.int .i64 v])] = (N ++ (W2.take (j + 1)).map fun v => x ++ [v]).map dIs := by
            rw [tk1 hv, List.map_append, List.map_append, List.map_append, List.map_append, List.append_assoc]
            congr 2
            simp only [List.map_cons, List.map_nil]
            rw [dIs_more']
          (conv => whnf)
          (repeat' ((first | refine ord_ok (by (conv => whnf); (repeat' ((first | refine at_da hxd rfl ?_ | refine at_da hvd rfl ?_ | refine op_again c1_ok (G := []) (.frz 100 rfl (.refl _ _)) (.inl rfl) ?_ | refine ify ?_ | refine ifn ?_ | refine i6 ?_ | refine ati ?_ | refine mst ?_ | refine rmd ?_ | refine ibo (fun _ => ?_) (fun _ => ?_)) <;> conv => whnf)); (all_goals (repeat' (first | exact trivial | exact rfl | refine And.intro ?_ ?_)))) ?_ | refine at_da hxd rfl ?_ | refine at_da hvd rfl ?_ | refine op_again c1_ok (G := []) (.frz 100 rfl (.refl _ _)) (.inl rfl) ?_ | refine ify ?_ | refine ifn ?_ | refine i6 ?_ | refine ati ?_ | refine mst ?_ | refine rmd ?_ | refine ibo (fun _ => ?_) (fun _ => ?_)) <;> conv => whnf))
          exact ⟨j + 1, _, _, hjl, .refl _ _, ⟨rfl, rfl, rfl, rfl, rfl, rfl, rfl, rfl, trivial⟩, ⟨rfl, slice_is hfin, trivial⟩, by omega⟩
        · have hii : W2.take j = W2 := List.take_of_length_le (by omega)
          ((conv => whnf); repeat' ((first | refine odw ?_ | refine ify ?_ | refine ifn ?_ | refine i6 ?_ | refine ati ?_ | refine mst ?_ | refine rmd ?_ | refine ibo (fun _ => ?_) (fun _ => ?_)) <;> conv => whnf))
          exact ⟨i + 1, _, _, hil, .refl _ _, ⟨rfl, rfl, rfl, rfl, rfl, rfl, trivial⟩, ⟨rfl, slice_is (by rw [hst, hii]), trivial⟩, by omega⟩
      · have hii : R.take i = R := List.take_of_length_le (by omega)
        rw [hii, ← hnext]
        ((conv => whnf); repeat' ((first | refine odw ?_ | refine ify ?_ | refine ifn ?_ | refine i6 ?_ | refine ati ?_ | refine mst ?_ | refine rmd ?_ | refine ibo (fun _ => ?_) (fun _ => ?_)) <;> conv => whnf))
        exact ⟨k + 1, _, _, hk5, .frz 300 rfl (.refl _ _), ⟨rfl, rfl, rfl, rfl, trivial⟩, ⟨rfl, trivial⟩, by omega⟩
  · ((conv => whnf); repeat' ((first | refine odw ?_ | refine ify ?_ | refine ifn ?_ | refine i6 ?_ | refine ati ?_ | refine mst ?_ | refine rmd ?_ | refine ibo (fun _ => ?_) (fun _ => ?_)) <;> conv => whnf))
    exact rfl
end Go.Proofs.YtmkbgbnehokmmaaGreat
