/- VertParts: the walk. -/
import Derived.Test.YtmkbgbnehokmmaaSrq
namespace Go.Proofs.Ytmkbgbnehokmmaa
open Go.Sx Go.RowKit Go.Reg Go.Gr

set_option maxRecDepth 100000
theorem dIs_snoc (l : List Int) (x : Int) : dIs (l ++ [x]) = .list 1 (l.map dI ++ [.int .i64 x]) := by unfold dIs; rw [List.map_append]; rfl
def pl_vpa : List (Nat × Plan) := [(15, .split 7 3 (.split 1 8 (.split 8 3 (.leaf [0, 6, 0, 3, 0, 0, 0, 1, 6, 3, 2, 0, 0, 0, 0, 0, 0, 1, 2, 0, 0, 0, 0, 0, 0, 0, 0, 0, 1, 0, 0, 0, 1, 0, 0, 0] [0, 2, 4, 5, 6, 7, 1, 8, 3, 9, 10, 11, 12, 13, 14, 15, 16, 17, 18, 19, 20, 21, 22, 23, 24, 25, 26, 27, 29, 30, 31, 28, 32, 33, 34, 35] [0, 0, 0, 502, 0, 0, 48, 112, 242, 510, 1023, 2047, 4095, 8191, 8191, 8191, 57343, 122879, 262143, 524287, 1048575, 2097151, 4194303, 8388607, 16777215, 16777215, 50331647, 134217727, 268435455, 16777215, 16777215, 1627389951, 3774873599, 8589934591, 17179869183, 34359738367]) (.leaf [0, 6, 0, 3, 0, 0, 0, 1, 6, 3, 2, 0, 0, 0, 0, 0, 0, 1, 2, 0, 0, 0, 0, 0, 0, 0, 0, 0, 1, 0, 0, 0, 1, 0, 0, 0] [0, 2, 4, 5, 6, 7, 1, 3, 8, 9, 10, 11, 12, 13, 14, 15, 16, 17, 18, 19, 20, 21, 22, 23, 24, 25, 26, 27, 29, 30, 31, 28, 32, 33, 34, 35] [0, 0, 0, 246, 0, 0, 48, 112, 254, 510, 1023, 2047, 4095, 8191, 8191, 8191, 57343, 122879, 262143, 524287, 1048575, 2097151, 4194303, 8388607, 16777215, 16777215, 50331647, 134217727, 268435455, 16777215, 16777215, 1627389951, 3774873599, 8589934591, 17179869183, 34359738367])) (.leaf [0, 6, 0, 3, 0, 0, 0, 1, 6, 3, 2, 0, 0, 0, 0, 0, 0, 1, 2, 0, 0, 0, 0, 0, 0, 0, 0, 0, 1, 0, 0, 0, 1, 0, 0, 0] [0, 2, 4, 5, 6, 7, 8, 1, 3, 9, 10, 11, 12, 13, 14, 15, 16, 17, 18, 19, 20, 21, 22, 23, 24, 25, 26, 27, 29, 30, 31, 28, 32, 33, 34, 35] [0, 496, 0, 502, 0, 0, 48, 112, 240, 510, 1023, 2047, 4095, 8191, 8191, 8191, 57343, 122879, 262143, 524287, 1048575, 2097151, 4194303, 8388607, 16777215, 16777215, 50331647, 134217727, 268435455, 16777215, 16777215, 1627389951, 3774873599, 8589934591, 17179869183, 34359738367])) (.leaf [0, 6, 0, 3, 0, 0, 0, 1, 6, 3, 2, 0, 0, 0, 0, 0, 0, 1, 2, 0, 0, 0, 0, 0, 0, 0, 0, 0, 1, 0, 0, 0, 1, 0, 0, 0] [0, 2, 4, 5, 6, 1, 3, 7, 8, 9, 10, 11, 12, 13, 14, 15, 16, 17, 18, 19, 20, 21, 22, 23, 24, 25, 26, 27, 29, 30, 31, 28, 32, 33, 34, 35] [0, 0, 0, 6, 0, 0, 48, 126, 254, 510, 1023, 2047, 4095, 8191, 8191, 8191, 57343, 122879, 262143, 524287, 1048575, 2097151, 4194303, 8388607, 16777215, 16777215, 50331647, 134217727, 268435455, 16777215, 16777215, 1627389951, 3774873599, 8589934591, 17179869183, 34359738367]))]
def G_vpa : List FuncId := [26, 30, 28, 31, 20, 32, 12, 29]
theorem cok_vpa : codeOk Try.prog G_vpa pl_vpa (Try.f6.body.getD .skip) = true := by kernel_rfl
theorem run_vpa (vs : Array Value) (w : World) : (callFunc 6 vs).run C1.P w = .ok (.enter 6 vs) w := by kernel_rfl
set_option maxHeartbeats 4000000 in
theorem vparts_pure (labels : List Int) (edges : List Edg) (l : List Int) : Pure C1 6 [dIs labels, dEs edges, dIs l] (fun y => y = .bool true) := by
  have hll : (l.map dI).length = l.length := List.length_map _
  refine pure_of c1_ok (pl := pl_vpa) (G := G_vpa) Try.func6 rfl Try.ntmps6 run_vpa cok_vpa (by simp) ?_
  ((conv => whnf); repeat' ((first | refine odw ?_ | refine ify ?_ | refine ifn ?_ | refine i6 ?_ | refine ati ?_ | refine mst ?_ | refine rmd ?_ | refine ibo (fun _ => ?_) (fun _ => ?_)) <;> conv => whnf))
  refine call_eq rfl valive_pure ?_
  ((conv => whnf); repeat' ((first | refine odw ?_ | refine ify ?_ | refine ifn ?_ | refine i6 ?_ | refine ati ?_ | refine mst ?_ | refine rmd ?_ | refine ibo (fun _ => ?_) (fun _ => ?_)) <;> conv => whnf))
  refine call_eq rfl (made_pure labels edges) ?_
  rcases made_case labels edges with e | ⟨G, e, hG, hn, hm, hGe, _, hlen⟩
  · rw [e]
    ((conv => whnf); repeat' ((first | refine odw ?_ | refine ify ?_ | refine ifn ?_ | refine i6 ?_ | refine ati ?_ | refine mst ?_ | refine rmd ?_ | refine ibo (fun _ => ?_) (fun _ => ?_)) <;> conv => whnf))
    exact rfl
  rw [e]
  by_cases hs10 : 12 < l.length
  · ((conv => whnf); repeat' ((first | refine odw ?_ | refine ify ?_ | refine ifn ?_ | refine i6 ?_ | refine ati ?_ | refine mst ?_ | refine rmd ?_ | refine ibo (fun _ => ?_) (fun _ => ?_)) <;> conv => whnf))
    exact rfl
  have hl1 := list_pure G hG l (by omega)
  have hlk := linked_pure G hG l
  cases hk : linkedV G l with
  | false =>
    rw [hk] at hlk
    cases hr : listV G l with
    | none =>
      rw [hr] at hl1
      unfold listY at hl1
      (conv => whnf)
      (repeat' ((first | refine ord_ok (by (conv => whnf); (repeat' ((first | refine call_eq rfl hl1 ?_ | refine call_eq rfl hlk ?_ | refine ify ?_ | refine ifn ?_ | refine i6 ?_ | refine ati ?_ | refine mst ?_ | refine rmd ?_ | refine ibo (fun _ => ?_) (fun _ => ?_)) <;> conv => whnf)); (all_goals (repeat' (first | exact trivial | exact rfl | refine And.intro ?_ ?_)))) ?_ | refine call_eq rfl hl1 ?_ | refine call_eq rfl hlk ?_ | refine ify ?_ | refine ifn ?_ | refine i6 ?_ | refine ati ?_ | refine mst ?_ | refine rmd ?_ | refine ibo (fun _ => ?_) (fun _ => ?_)) <;> conv => whnf))
      exact rfl
    | some r =>
      rw [hr] at hl1
      unfold listY at hl1
      (conv => whnf)
      (repeat' ((first | refine ord_ok (by (conv => whnf); (repeat' ((first | refine call_eq rfl hl1 ?_ | refine call_eq rfl hlk ?_ | refine ify ?_ | refine ifn ?_ | refine i6 ?_ | refine ati ?_ | refine mst ?_ | refine rmd ?_ | refine ibo (fun _ => ?_) (fun _ => ?_)) <;> conv => whnf)); (all_goals (repeat' (first | exact trivial | exact rfl | refine And.intro ?_ ?_)))) ?_ | refine call_eq rfl hl1 ?_ | refine call_eq rfl hlk ?_ | refine ify ?_ | refine ifn ?_ | refine i6 ?_ | refine ati ?_ | refine mst ?_ | refine rmd ?_ | refine ibo (fun _ => ?_) (fun _ => ?_)) <;> conv => whnf))
      exact rfl
  | true =>
    rw [hk] at hlk
    obtain ⟨r, hr, hrl⟩ := linked_list hk
    rw [hr] at hl1
    unfold listY at hl1
    have hrm : (r.map dI).length = (l.map dI).length := by rw [List.length_map, List.length_map]; exact hrl
    by_cases hl0 : l.length = 0
    · (conv => whnf)
      (repeat' ((first | refine ord_ok (by (conv => whnf); (repeat' ((first | refine call_eq rfl hl1 ?_ | refine call_eq rfl hlk ?_ | refine ify ?_ | refine ifn ?_ | refine i6 ?_ | refine ati ?_ | refine mst ?_ | refine rmd ?_ | refine ibo (fun _ => ?_) (fun _ => ?_)) <;> conv => whnf)); (all_goals (repeat' (first | exact trivial | exact rfl | refine And.intro ?_ ?_)))) ?_ | refine call_eq rfl hl1 ?_ | refine call_eq rfl hlk ?_ | refine ify ?_ | refine ifn ?_ | refine i6 ?_ | refine ati ?_ | refine mst ?_ | refine rmd ?_ | refine ibo (fun _ => ?_) (fun _ => ?_)) <;> conv => whnf))
      exact rfl
    have hne : l ≠ [] := fun e => hl0 (by rw [e]; rfl)
    have hcr := canon_pure G hG r
    rw [(listV_spec hr).2] at hcr
    have hnx := next_pure G hG l (by omega)
    have hNr := next_rise G l
    have hNm := fun x (hx : x ∈ nextV G l) => link_next hG hk hx hne
    have hNo := fun x (hx : x ∈ nextV G l) => ((next_mem hne).1 hx).2
    have hNl := nextV_len hG (a := l) (by omega)
    have hgm := fun v => grow_mem (G := G) hG (l := l) (v := v)
    have hgn := fun v (h : v ∈ growV G l) => grow_next h
    have hgs := grow_mksl G hG l (by omega)
    have hGl : (growV G l).length ≤ 4294967296 := by
      unfold growV
      split
      · have := List.length_filter_le (fitsV G l) (nextV G l); omega
      · simp
    generalize nextV G l = N at hnx hNr hNm hNo hNl hgn
    generalize growV G l = W at hgm hgn hgs hGl
    have hNll : (N.map dI).length = N.length := List.length_map _
    have hWll : (W.map dI).length = W.length := List.length_map _
    (conv => whnf)
    (repeat' ((first | refine ord_ok (by (conv => whnf); (repeat' ((first | refine call_eq rfl hl1 ?_ | refine call_eq rfl hlk ?_ | refine call_eq rfl hnx ?_ | refine ify ?_ | refine ifn ?_ | refine i6 ?_ | refine ati ?_ | refine mst ?_ | refine rmd ?_ | refine ibo (fun _ => ?_) (fun _ => ?_)) <;> conv => whnf)); (all_goals (repeat' (first | exact trivial | exact rfl | refine And.intro ?_ ?_)))) ?_ | refine call_eq rfl hl1 ?_ | refine call_eq rfl hlk ?_ | refine call_eq rfl hnx ?_ | refine ify ?_ | refine ifn ?_ | refine i6 ?_ | refine ati ?_ | refine mst ?_ | refine rmd ?_ | refine ibo (fun _ => ?_) (fun _ => ?_)) <;> conv => whnf))
    refine call_mksl 300 rfl rfl hgs ?_; rintro ds rfl
    ((conv => whnf); repeat' ((first | refine odw ?_ | refine ify ?_ | refine ifn ?_ | refine i6 ?_ | refine ati ?_ | refine mst ?_ | refine rmd ?_ | refine ibo (fun _ => ?_) (fun _ => ?_)) <;> conv => whnf))
    refine loop_lo (ι := Nat) (fun i => i ≤ N.length) (fun i => [(14, .d (.int .i64 i)), (13, .d (dIs W)), (12, .d (dIs N)), (10, .d (dIs r)), (7, .d (dG G)), (2, .d (dIs l))]) (fun i => []) (fun i => N.length - i) 0 (fun _ => rfl) (Nat.zero_le _) (.frz 300 rfl (.refl _ _)) ⟨rfl, rfl, rfl, rfl, rfl, rfl, trivial⟩ trivial ?_
    intro i hi
    refine sxCode_sound c1_ok (G := G_vpa) (pl := pl_vpa) _ _ _ _ (by kernel_rfl) ?_
    by_cases hil : i < N.length
    · have hx := List.getElem?_eq_getElem hil
      have hxm := hNm _ (List.getElem_mem hil)
      have hxo := hNo _ (List.getElem_mem hil)
      by_cases hi0 : i = 0
      · generalize N[i] = x at hx hxm hxo
        have hxd : (N.map dI)[i]? = some (.int .i64 x) := by rw [List.getElem?_map, hx]; rfl
        have hh := has06_pure l x
        rw [decide_eq_false hxo] at hh
        have hlx := linked_pure G hG (l ++ [x])
        rw [hxm, dIs_snoc] at hlx
        (conv => whnf)
        (repeat' ((first | refine ord_ok (by (conv => whnf); (repeat' ((first | refine at_da hxd rfl ?_ | refine call_eqb tab rfl hlx rfl ?_ | refine call_eq rfl hh ?_ | refine ify ?_ | refine ifn ?_ | refine i6 ?_ | refine ati ?_ | refine mst ?_ | refine rmd ?_ | refine ibo (fun _ => ?_) (fun _ => ?_)) <;> conv => whnf)); (all_goals (repeat' (first | exact trivial | exact rfl | refine And.intro ?_ ?_)))) ?_ | refine at_da hxd rfl ?_ | refine call_eqb tab rfl hlx rfl ?_ | refine call_eq rfl hh ?_ | refine ify ?_ | refine ifn ?_ | refine i6 ?_ | refine ati ?_ | refine mst ?_ | refine rmd ?_ | refine ibo (fun _ => ?_) (fun _ => ?_)) <;> conv => whnf))
        exact ⟨i + 1, _, _, hil, .refl _ _, ⟨rfl, rfl, rfl, rfl, rfl, rfl, trivial⟩, trivial, by omega⟩
      · obtain ⟨j, rfl⟩ : ∃ j, i = j + 1 := ⟨i - 1, by omega⟩
        have hlt := List.pairwise_iff_getElem.1 hNr j (j + 1) (by omega) hil (by omega)
        have hy := List.getElem?_eq_getElem (l := N) (i := j) (by omega)
        generalize N[j + 1] = x at hx hxm hxo hlt
        generalize N[j]'(by omega) = z at hy hlt
        have hxd : (N.map dI)[j + 1]? = some (.int .i64 x) := by rw [List.getElem?_map, hx]; rfl
        have hyd : (N.map dI)[j]? = some (.int .i64 z) := by rw [List.getElem?_map, hy]; rfl
        have hh := has06_pure l x
        rw [decide_eq_false hxo] at hh
        have hlx := linked_pure G hG (l ++ [x])
        rw [hxm, dIs_snoc] at hlx
        have hj1 : ((j + 1 : Nat) : Int) - 1 = (j : Int) := by omega
        (conv => whnf)
        (repeat' ((first | refine ord_ok (by (conv => whnf); (repeat' ((first | refine at_da hxd rfl ?_ | refine at_da hyd (by omega) ?_ | refine call_eqb tab rfl hlx rfl ?_ | refine call_eq rfl hh ?_ | refine ify ?_ | refine ifn ?_ | refine i6 ?_ | refine ati ?_ | refine mst ?_ | refine rmd ?_ | refine ibo (fun _ => ?_) (fun _ => ?_)) <;> conv => whnf)); (all_goals (repeat' (first | exact trivial | exact rfl | refine And.intro ?_ ?_)))) ?_ | refine at_da hxd rfl ?_ | refine at_da hyd (by omega) ?_ | refine call_eqb tab rfl hlx rfl ?_ | refine call_eq rfl hh ?_ | refine ify ?_ | refine ifn ?_ | refine i6 ?_ | refine ati ?_ | refine mst ?_ | refine rmd ?_ | refine ibo (fun _ => ?_) (fun _ => ?_)) <;> conv => whnf))
        exact ⟨j + 1 + 1, _, _, hil, .refl _ _, ⟨rfl, rfl, rfl, rfl, rfl, rfl, trivial⟩, trivial, by omega⟩
    · ((conv => whnf); repeat' ((first | refine odw ?_ | refine ify ?_ | refine ifn ?_ | refine i6 ?_ | refine ati ?_ | refine mst ?_ | refine rmd ?_ | refine ibo (fun _ => ?_) (fun _ => ?_)) <;> conv => whnf))
      refine loop_lo (ι := Nat) (fun i => i ≤ W.length) (fun i => [(15, .d (.int .i64 i)), (13, .d (dIs W)), (12, .d (dIs N)), (10, .d (dIs r)), (7, .d (dG G)), (2, .d (dIs l))]) (fun i => []) (fun i => W.length - i) 0 (fun _ => rfl) (Nat.zero_le _) (.refl _ _) ⟨rfl, rfl, rfl, rfl, rfl, rfl, trivial⟩ trivial ?_
      intro i hi
      refine sxCode_sound c1_ok (G := G_vpa) (pl := pl_vpa) _ _ _ _ (by kernel_rfl) ?_
      by_cases hil : i < W.length
      · have hx := List.getElem?_eq_getElem hil
        have hx1 := hgn _ (List.getElem_mem hil)
        have hx2 := (hgm _).1 (List.getElem_mem hil)
        generalize W[i] = x at hx hx1 hx2
        have hxd : (W.map dI)[i]? = some (.int .i64 x) := by rw [List.getElem?_map, hx]; rfl
        have hh := has06_pure N x
        rw [decide_eq_true hx1] at hh
        have hmy := may_pure G hG l x
        rw [hx2.1, hx2.2] at hmy
        (conv => whnf)
        (repeat' ((first | refine ord_ok (by (conv => whnf); (repeat' ((first | refine at_da hxd rfl ?_ | refine call_eq rfl hh ?_ | refine call_eq rfl hmy ?_ | refine ify ?_ | refine ifn ?_ | refine i6 ?_ | refine ati ?_ | refine mst ?_ | refine rmd ?_ | refine ibo (fun _ => ?_) (fun _ => ?_)) <;> conv => whnf)); (all_goals (repeat' (first | exact trivial | exact rfl | refine And.intro ?_ ?_)))) ?_ | refine at_da hxd rfl ?_ | refine call_eq rfl hh ?_ | refine call_eq rfl hmy ?_ | refine ify ?_ | refine ifn ?_ | refine i6 ?_ | refine ati ?_ | refine mst ?_ | refine rmd ?_ | refine ibo (fun _ => ?_) (fun _ => ?_)) <;> conv => whnf))
        exact ⟨i + 1, _, _, hil, .refl _ _, ⟨rfl, rfl, rfl, rfl, rfl, rfl, trivial⟩, trivial, by omega⟩
      · have hgl := len_pure G
        ((conv => whnf); repeat' ((first | refine odw ?_ | refine ify ?_ | refine ifn ?_ | refine i6 ?_ | refine ati ?_ | refine mst ?_ | refine rmd ?_ | refine ibo (fun _ => ?_) (fun _ => ?_)) <;> conv => whnf))
        refine loop_lo (ι := Nat) (fun i => i ≤ G.labels.length) (fun i => [(16, .d (.int .i64 i)), (13, .d (dIs W)), (10, .d (dIs r)), (7, .d (dG G)), (2, .d (dIs l))]) (fun i => []) (fun i => G.labels.length - i) 0 (fun _ => rfl) (Nat.zero_le _) (.refl _ _) ⟨rfl, rfl, rfl, rfl, rfl, trivial⟩ trivial ?_
        intro i hi
        refine sxCode_sound c1_ok (G := G_vpa) (pl := pl_vpa) _ _ _ _ (by kernel_rfl) ?_
        by_cases hil : i < G.labels.length
        · have hh := has06_pure W i
          have hmy := may_pure G hG l i
          have he : (canonV G l && fitsV G l i) = decide ((i : Int) ∈ W) := by
            rw [Bool.eq_iff_iff, Bool.and_eq_true, decide_eq_true_eq]
            exact (hgm i).symm
          rw [he] at hmy
          generalize decide ((i : Int) ∈ W) = b at hh hmy
          cases b with
          | true =>
            (conv => whnf)
            (repeat' ((first | refine ord_ok (by (conv => whnf); (repeat' ((first | refine call_eq rfl hgl ?_ | refine call_eq rfl hh ?_ | refine call_eq rfl hmy ?_ | refine if_no (fun h => h Iff.rfl) ?_ | refine ify ?_ | refine ifn ?_ | refine i6 ?_ | refine ati ?_ | refine mst ?_ | refine rmd ?_ | refine ibo (fun _ => ?_) (fun _ => ?_)) <;> conv => whnf)); (all_goals (repeat' (first | exact trivial | exact rfl | refine And.intro ?_ ?_)))) ?_ | refine call_eq rfl hgl ?_ | refine call_eq rfl hh ?_ | refine call_eq rfl hmy ?_ | refine if_no (fun h => h Iff.rfl) ?_ | refine ify ?_ | refine ifn ?_ | refine i6 ?_ | refine ati ?_ | refine mst ?_ | refine rmd ?_ | refine ibo (fun _ => ?_) (fun _ => ?_)) <;> conv => whnf))
            exact ⟨i + 1, _, _, hil, .refl _ _, ⟨rfl, rfl, rfl, rfl, rfl, trivial⟩, trivial, by omega⟩
          | false =>
            (conv => whnf)
            (repeat' ((first | refine ord_ok (by (conv => whnf); (repeat' ((first | refine call_eq rfl hgl ?_ | refine call_eq rfl hh ?_ | refine call_eq rfl hmy ?_ | refine if_no (fun h => h Iff.rfl) ?_ | refine ify ?_ | refine ifn ?_ | refine i6 ?_ | refine ati ?_ | refine mst ?_ | refine rmd ?_ | refine ibo (fun _ => ?_) (fun _ => ?_)) <;> conv => whnf)); (all_goals (repeat' (first | exact trivial | exact rfl | refine And.intro ?_ ?_)))) ?_ | refine call_eq rfl hgl ?_ | refine call_eq rfl hh ?_ | refine call_eq rfl hmy ?_ | refine if_no (fun h => h Iff.rfl) ?_ | refine ify ?_ | refine ifn ?_ | refine i6 ?_ | refine ati ?_ | refine mst ?_ | refine rmd ?_ | refine ibo (fun _ => ?_) (fun _ => ?_)) <;> conv => whnf))
            exact ⟨i + 1, _, _, hil, .refl _ _, ⟨rfl, rfl, rfl, rfl, rfl, trivial⟩, trivial, by omega⟩
        · (conv => whnf)
          (repeat' ((first | refine ord_ok (by (conv => whnf); (repeat' ((first | refine call_eq rfl hgl ?_ | refine call_eq rfl hcr ?_ | refine ify ?_ | refine ifn ?_ | refine i6 ?_ | refine ati ?_ | refine mst ?_ | refine rmd ?_ | refine ibo (fun _ => ?_) (fun _ => ?_)) <;> conv => whnf)); (all_goals (repeat' (first | exact trivial | exact rfl | refine And.intro ?_ ?_)))) ?_ | refine call_eq rfl hgl ?_ | refine call_eq rfl hcr ?_ | refine ify ?_ | refine ifn ?_ | refine i6 ?_ | refine ati ?_ | refine mst ?_ | refine rmd ?_ | refine ibo (fun _ => ?_) (fun _ => ?_)) <;> conv => whnf))
          exact rfl
end Go.Proofs.Ytmkbgbnehokmmaa
