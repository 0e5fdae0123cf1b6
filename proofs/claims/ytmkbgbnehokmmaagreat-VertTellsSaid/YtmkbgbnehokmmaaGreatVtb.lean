/- VertTells: the walk. -/
import Derived.Test.YtmkbgbnehokmmaaGreatVta
namespace Go.Proofs.YtmkbgbnehokmmaaGreat
open Go.Sx Go.RowKit Go.Reg Go.Gr

set_option maxRecDepth 100000
theorem dIs_more (l : List Int) (x : Int) : dIs (l ++ [x]) = .list 1 (l.map dI ++ [.int .i64 x]) := by unfold dIs; rw [List.map_append]; rfl
/-- what is told of a set: its list, or nothing -/
def listD : Option (List Int) → Da
  | some r => dIs r
  | none => .nils
theorem listY_eq (r : Option (List Int)) : listY r = .tuple [listD r, .bool r.isSome] := by cases r <;> rfl
theorem same_told (r : Option (List Int)) : Pure C1 9 [listD r, listD r] (fun y => y = .bool true) := by
  cases r with
  | none => exact Sx.Pure.lax (.cons (.nils 1) (.cons (.nils 1) .nil)) (same_yes [])
  | some r => exact same_yes r
def pl_vtl : List (Nat × Plan) := [(8, .leaf [0, 0, 0, 0, 0, 0, 2, 0, 0, 0, 0, 0, 2, 1, 0, 2, 0, 0, 0, 0, 0, 2, 1, 0, 2, 0, 0] [0, 1, 2, 3, 4, 5, 6, 7, 8, 9, 10, 11, 14, 13, 12, 15, 16, 17, 18, 19, 20, 23, 22, 21, 24, 25, 26] [0, 0, 3, 7, 15, 15, 63, 127, 255, 511, 1023, 1023, 4095, 1023, 1023, 32767, 65535, 131071, 262143, 524287, 524287, 2097151, 524287, 524287, 16777215, 33554431, 67108863]),
  (11, .split 6 9 (.split 7 11 (.split 11 9 (.leaf [0, 0, 0, 2, 0, 0, 1, 6, 0, 3, 0, 6, 3, 2, 0, 0] [0, 1, 2, 4, 3, 5, 8, 10, 6, 7, 11, 9, 12, 13, 14, 15] [0, 0, 0, 7, 0, 31, 63, 63, 63, 3583, 63, 1215, 4095, 8191, 16383, 32767]) (.leaf [0, 0, 0, 2, 0, 0, 1, 6, 0, 3, 0, 6, 3, 2, 0, 0] [0, 1, 2, 4, 3, 5, 8, 10, 6, 7, 9, 11, 12, 13, 14, 15] [0, 0, 0, 7, 0, 31, 63, 63, 63, 511, 63, 2047, 4095, 8191, 16383, 32767])) (.leaf [0, 0, 0, 2, 0, 0, 1, 6, 0, 3, 0, 6, 3, 2, 0, 0] [0, 1, 2, 4, 3, 5, 8, 10, 6, 11, 7, 9, 12, 13, 14, 15] [0, 0, 0, 7, 0, 31, 63, 3135, 63, 3583, 63, 1087, 4095, 8191, 16383, 32767])) (.split 7 11 (.split 11 9 (.split 6 12 (.leaf [0, 0, 0, 2, 0, 0, 1, 6, 0, 3, 0, 6, 3, 2, 0, 0] [0, 1, 2, 4, 3, 5, 8, 10, 7, 11, 9, 6, 12, 13, 14, 15] [0, 0, 0, 7, 0, 31, 4031, 63, 63, 3519, 63, 1215, 4095, 8191, 16383, 32767]) (.leaf [0, 0, 0, 2, 0, 0, 1, 6, 0, 3, 0, 6, 3, 2, 0, 0] [0, 1, 2, 4, 3, 5, 8, 10, 7, 11, 9, 12, 6, 13, 14, 15] [0, 0, 0, 7, 0, 31, 8127, 63, 63, 3519, 63, 1215, 4031, 8191, 16383, 32767])) (.split 6 12 (.leaf [0, 0, 0, 2, 0, 0, 1, 6, 0, 3, 0, 6, 3, 2, 0, 0] [0, 1, 2, 4, 3, 5, 8, 10, 7, 9, 6, 11, 12, 13, 14, 15] [0, 0, 0, 7, 0, 31, 959, 63, 63, 447, 63, 1983, 4095, 8191, 16383, 32767]) (.leaf [0, 0, 0, 2, 0, 0, 1, 6, 0, 3, 0, 6, 3, 2, 0, 0] [0, 1, 2, 4, 3, 5, 8, 10, 7, 9, 11, 12, 6, 13, 14, 15] [0, 0, 0, 7, 0, 31, 8127, 63, 63, 447, 63, 1983, 4031, 8191, 16383, 32767]))) (.split 6 12 (.leaf [0, 0, 0, 2, 0, 0, 1, 6, 0, 3, 0, 6, 3, 2, 0, 0] [0, 1, 2, 4, 3, 5, 8, 10, 11, 7, 9, 6, 12, 13, 14, 15] [0, 0, 0, 7, 0, 31, 4031, 3135, 63, 3519, 63, 1087, 4095, 8191, 16383, 32767]) (.leaf [0, 0, 0, 2, 0, 0, 1, 6, 0, 3, 0, 6, 3, 2, 0, 0] [0, 1, 2, 4, 3, 5, 8, 10, 11, 7, 9, 12, 6, 13, 14, 15] [0, 0, 0, 7, 0, 31, 8127, 3135, 63, 3519, 63, 1087, 4031, 8191, 16383, 32767])))),
  (20, .split 0 3 (.split 7 3 (.split 1 8 (.split 8 3 (.leaf [1, 6, 0, 3, 0, 0, 0, 1, 6, 3, 2] [2, 4, 5, 6, 0, 7, 1, 8, 3, 9, 10] [0, 0, 0, 503, 0, 0, 48, 112, 242, 511, 1023]) (.leaf [1, 6, 0, 3, 0, 0, 0, 1, 6, 3, 2] [2, 4, 5, 6, 0, 7, 1, 3, 8, 9, 10] [0, 0, 0, 247, 0, 0, 48, 112, 255, 511, 1023])) (.leaf [1, 6, 0, 3, 0, 0, 0, 1, 6, 3, 2] [2, 4, 5, 6, 0, 7, 8, 1, 3, 9, 10] [0, 496, 0, 503, 0, 0, 48, 112, 240, 511, 1023])) (.leaf [1, 6, 0, 3, 0, 0, 0, 1, 6, 3, 2] [2, 4, 5, 6, 0, 1, 3, 7, 8, 9, 10] [0, 0, 0, 7, 0, 0, 48, 127, 255, 511, 1023])) (.split 7 3 (.split 1 8 (.split 8 3 (.split 0 9 (.leaf [1, 6, 0, 3, 0, 0, 0, 1, 6, 3, 2] [2, 4, 5, 6, 7, 1, 8, 3, 0, 9, 10] [510, 0, 0, 502, 0, 0, 48, 112, 242, 511, 1023]) (.leaf [1, 6, 0, 3, 0, 0, 0, 1, 6, 3, 2] [2, 4, 5, 6, 7, 1, 8, 3, 9, 0, 10] [1022, 0, 0, 502, 0, 0, 48, 112, 242, 510, 1023])) (.split 0 9 (.leaf [1, 6, 0, 3, 0, 0, 0, 1, 6, 3, 2] [2, 4, 5, 6, 7, 1, 3, 0, 8, 9, 10] [254, 0, 0, 246, 0, 0, 48, 112, 254, 511, 1023]) (.leaf [1, 6, 0, 3, 0, 0, 0, 1, 6, 3, 2] [2, 4, 5, 6, 7, 1, 3, 8, 9, 0, 10] [1022, 0, 0, 246, 0, 0, 48, 112, 254, 510, 1023]))) (.split 0 9 (.leaf [1, 6, 0, 3, 0, 0, 0, 1, 6, 3, 2] [2, 4, 5, 6, 7, 8, 1, 3, 0, 9, 10] [510, 496, 0, 502, 0, 0, 48, 112, 240, 511, 1023]) (.leaf [1, 6, 0, 3, 0, 0, 0, 1, 6, 3, 2] [2, 4, 5, 6, 7, 8, 1, 3, 9, 0, 10] [1022, 496, 0, 502, 0, 0, 48, 112, 240, 510, 1023]))) (.split 0 9 (.leaf [1, 6, 0, 3, 0, 0, 0, 1, 6, 3, 2] [2, 4, 5, 6, 1, 3, 0, 7, 8, 9, 10] [14, 0, 0, 6, 0, 0, 48, 126, 254, 511, 1023]) (.leaf [1, 6, 0, 3, 0, 0, 0, 1, 6, 3, 2] [2, 4, 5, 6, 1, 3, 7, 8, 9, 0, 10] [1022, 0, 0, 6, 0, 0, 48, 126, 254, 510, 1023]))))]
def G_vtl : List FuncId := [13, 14, 9, 15, 16, 11, 17, 18, 19, 20, 12]
theorem cok_vtl : codeOk Tryz.prog G_vtl pl_vtl (Tryz.f4.body.getD .skip) = true := by kernel_rfl
theorem run_vtl (vs : Array Value) (w : World) : (callFunc 4 vs).run C1.P w = .ok (.enter 4 vs) w := by kernel_rfl
set_option maxHeartbeats 4000000 in
theorem vtells_pure (labels : List Int) (edges : List Edg) (l : List Int) (v : Int) : Pure C1 4 [dIs labels, dEs edges, dIs l, .int .i64 v] (fun y => y = .bool true) := by
  have hll : (l.map dI).length = l.length := List.length_map _
  refine pure_of c1_ok (pl := pl_vtl) (G := G_vtl) Tryz.func4 rfl Tryz.ntmps4 run_vtl cok_vtl (by simp) ?_
  ((conv => whnf); repeat' ((first | refine odw ?_ | refine ify ?_ | refine ifn ?_ | refine i6 ?_ | refine ati ?_ | refine mst ?_ | refine rmd ?_ | refine ibo (fun _ => ?_) (fun _ => ?_)) <;> conv => whnf))
  refine call_eq rfl valive_pure ?_
  ((conv => whnf); repeat' ((first | refine odw ?_ | refine ify ?_ | refine ifn ?_ | refine i6 ?_ | refine ati ?_ | refine mst ?_ | refine rmd ?_ | refine ibo (fun _ => ?_) (fun _ => ?_)) <;> conv => whnf))
  refine call_eq rfl (made_pure labels edges) ?_
  rcases made_case labels edges with e | ⟨G, e, hG, hn, hm, hGe, _, hlen⟩
  · rw [e]
    ((conv => whnf); repeat' ((first | refine odw ?_ | refine ify ?_ | refine ifn ?_ | refine i6 ?_ | refine ati ?_ | refine mst ?_ | refine rmd ?_ | refine ibo (fun _ => ?_) (fun _ => ?_)) <;> conv => whnf))
    exact rfl
  rw [e]
  by_cases hs20 : 20 < l.length
  · ((conv => whnf); repeat' ((first | refine odw ?_ | refine ify ?_ | refine ifn ?_ | refine i6 ?_ | refine ati ?_ | refine mst ?_ | refine rmd ?_ | refine ibo (fun _ => ?_) (fun _ => ?_)) <;> conv => whnf))
    exact rfl
  have hl1 := list_pure G hG l (by omega)
  have hl2 := rlist_pure G l (by omega)
  rw [listY_eq] at hl1 hl2
  have hsm := same_told (listV G l)
  generalize listD (listV G l) = X at hl1 hl2 hsm
  generalize (listV G l).isSome = xb at hl1 hl2
  have hk1 := linked_pure G hG l
  have hk2 := rlinked_pure G l
  have hc1 := canon_pure G hG l
  have hc2 := rcanon_pure G hG l (by omega)
  have hmy := may_pure G hG l v
  have hc3 := rcanon_pure G hG (l ++ [v]) (by rw [List.length_append, List.length_singleton]; omega)
  rw [canon_snoc, dIs_more] at hc3
  have hnx1 := next_pure G hG l (by omega)
  have hnx2 := rnext_pure G hG l (by omega)
  have hgs := grow_mksl G hG l (by omega)
  have hNl := nextV_len hG (a := l) (by omega)
  unfold growV at hgs
  have hcf := fun x => rcanon_pure G hG (l ++ [x]) (by rw [List.length_append, List.length_singleton]; omega)
  simp only [canon_snoc, dIs_more] at hcf
  cases hc : canonV G l with
  | false =>
    rw [hc] at hc1 hc2 hmy hgs
    rw [if_neg (by decide)] at hgs
    have hs2 : Pure C1 9 [dIs [], .nils] (fun y => y = .bool true) := Sx.Pure.lax (.cons (.refl _) (.cons (.nils 1) .nil)) (same_yes [])
    generalize nextV G l = N at hnx1 hnx2 hNl
    have hNll : (N.map dI).length = N.length := List.length_map _
    have hsN := same_yes N
    cases hk : linkedV G l with
    | false =>
      rw [hk] at hk1 hk2
      (conv => whnf)
      (repeat' ((first | refine ord_ok (by (conv => whnf); (repeat' ((first | refine call_eq rfl hl1 ?_ | refine call_eq rfl hl2 ?_ | refine call_eq rfl hsm ?_ | refine call_eq rfl hk1 ?_ | refine call_eq rfl hk2 ?_ | refine call_eq rfl hc1 ?_ | refine call_eq rfl hc2 ?_ | refine call_eq rfl hmy ?_ | refine call_eqb tab rfl hc3 rfl ?_ | refine if_no (fun h => h Iff.rfl) ?_ | refine ify ?_ | refine ifn ?_ | refine i6 ?_ | refine ati ?_ | refine mst ?_ | refine rmd ?_ | refine ibo (fun _ => ?_) (fun _ => ?_)) <;> conv => whnf)); (all_goals (repeat' (first | exact trivial | exact rfl | refine And.intro ?_ ?_)))) ?_ | refine call_eq rfl hl1 ?_ | refine call_eq rfl hl2 ?_ | refine call_eq rfl hsm ?_ | refine call_eq rfl hk1 ?_ | refine call_eq rfl hk2 ?_ | refine call_eq rfl hc1 ?_ | refine call_eq rfl hc2 ?_ | refine call_eq rfl hmy ?_ | refine call_eqb tab rfl hc3 rfl ?_ | refine if_no (fun h => h Iff.rfl) ?_ | refine ify ?_ | refine ifn ?_ | refine i6 ?_ | refine ati ?_ | refine mst ?_ | refine rmd ?_ | refine ibo (fun _ => ?_) (fun _ => ?_)) <;> conv => whnf))
      exact rfl
    | true =>
      rw [hk] at hk1 hk2
      (conv => whnf)
      (repeat' ((first | refine ord_ok (by (conv => whnf); (repeat' ((first | refine call_eq rfl hl1 ?_ | refine call_eq rfl hl2 ?_ | refine call_eq rfl hsm ?_ | refine call_eq rfl hk1 ?_ | refine call_eq rfl hk2 ?_ | refine call_eq rfl hc1 ?_ | refine call_eq rfl hc2 ?_ | refine call_eq rfl hmy ?_ | refine call_eqb tab rfl hc3 rfl ?_ | refine if_no (fun h => h Iff.rfl) ?_ | refine call_eq rfl hnx2 ?_ | refine ify ?_ | refine ifn ?_ | refine i6 ?_ | refine ati ?_ | refine mst ?_ | refine rmd ?_ | refine ibo (fun _ => ?_) (fun _ => ?_)) <;> conv => whnf)); (all_goals (repeat' (first | exact trivial | exact rfl | refine And.intro ?_ ?_)))) ?_ | refine call_eq rfl hl1 ?_ | refine call_eq rfl hl2 ?_ | refine call_eq rfl hsm ?_ | refine call_eq rfl hk1 ?_ | refine call_eq rfl hk2 ?_ | refine call_eq rfl hc1 ?_ | refine call_eq rfl hc2 ?_ | refine call_eq rfl hmy ?_ | refine call_eqb tab rfl hc3 rfl ?_ | refine if_no (fun h => h Iff.rfl) ?_ | refine call_eq rfl hnx2 ?_ | refine ify ?_ | refine ifn ?_ | refine i6 ?_ | refine ati ?_ | refine mst ?_ | refine rmd ?_ | refine ibo (fun _ => ?_) (fun _ => ?_)) <;> conv => whnf))
      refine loop_lo (ι := Unit) (fun _ => True) (fun _ => [(19, .d (.int .i64 0)), (18, .d .nils), (17, .d (dIs N)), (16, .d (.bool false)), (9, .d (dG G)), (2, .d (dIs l))]) (fun _ => []) (fun _ => 0) () (fun _ => rfl) trivial (.refl _ _) ⟨rfl, rfl, rfl, rfl, rfl, rfl, trivial⟩ trivial ?_
      intro _ _
      refine sxCode_sound c1_ok (G := G_vtl) (pl := pl_vtl) _ _ _ _ (by kernel_rfl) ?_
      (conv => whnf)
      (repeat' ((first | refine ord_ok (by (conv => whnf); (repeat' ((first | refine call_eq rfl hnx1 ?_ | refine call_eq rfl hsN ?_ | refine ify ?_ | refine ifn ?_ | refine i6 ?_ | refine ati ?_ | refine mst ?_ | refine rmd ?_ | refine ibo (fun _ => ?_) (fun _ => ?_)) <;> conv => whnf)); (all_goals (repeat' (first | exact trivial | exact rfl | refine And.intro ?_ ?_)))) ?_ | refine call_eq rfl hnx1 ?_ | refine call_eq rfl hsN ?_ | refine ify ?_ | refine ifn ?_ | refine i6 ?_ | refine ati ?_ | refine mst ?_ | refine rmd ?_ | refine ibo (fun _ => ?_) (fun _ => ?_)) <;> conv => whnf))
      refine call_mksl 300 rfl rfl hgs ?_; rintro ds rfl
      (conv => whnf)
      (repeat' ((first | refine ord_ok (by (conv => whnf); (repeat' ((first | refine call_eqb tab rfl hs2 rfl ?_ | refine ify ?_ | refine ifn ?_ | refine i6 ?_ | refine ati ?_ | refine mst ?_ | refine rmd ?_ | refine ibo (fun _ => ?_) (fun _ => ?_)) <;> conv => whnf)); (all_goals (repeat' (first | exact trivial | exact rfl | refine And.intro ?_ ?_)))) ?_ | refine call_eqb tab rfl hs2 rfl ?_ | refine ify ?_ | refine ifn ?_ | refine i6 ?_ | refine ati ?_ | refine mst ?_ | refine rmd ?_ | refine ibo (fun _ => ?_) (fun _ => ?_)) <;> conv => whnf))
      exact rfl
  | true =>
    rw [hc] at hc1 hc2 hmy hgs hc3
    simp only [hc, Bool.true_and] at hcf
    rw [Bool.true_and] at hmy hc3
    rw [if_pos rfl] at hgs
    generalize fitsV G l v = fv at hmy hc3
    generalize hN : nextV G l = N at hnx1 hnx2 hNl hgs
    have hNll : (N.map dI).length = N.length := List.length_map _
    have hsN := same_yes N
    cases hk : linkedV G l with
    | false =>
      rw [hk] at hk1 hk2
      (conv => whnf)
      (repeat' ((first | refine ord_ok (by (conv => whnf); (repeat' ((first | refine call_eq rfl hl1 ?_ | refine call_eq rfl hl2 ?_ | refine call_eq rfl hsm ?_ | refine call_eq rfl hk1 ?_ | refine call_eq rfl hk2 ?_ | refine call_eq rfl hc1 ?_ | refine call_eq rfl hc2 ?_ | refine call_eq rfl hmy ?_ | refine call_eqb tab rfl hc3 rfl ?_ | refine if_no (fun h => h Iff.rfl) ?_ | refine ify ?_ | refine ifn ?_ | refine i6 ?_ | refine ati ?_ | refine mst ?_ | refine rmd ?_ | refine ibo (fun _ => ?_) (fun _ => ?_)) <;> conv => whnf)); (all_goals (repeat' (first | exact trivial | exact rfl | refine And.intro ?_ ?_)))) ?_ | refine call_eq rfl hl1 ?_ | refine call_eq rfl hl2 ?_ | refine call_eq rfl hsm ?_ | refine call_eq rfl hk1 ?_ | refine call_eq rfl hk2 ?_ | refine call_eq rfl hc1 ?_ | refine call_eq rfl hc2 ?_ | refine call_eq rfl hmy ?_ | refine call_eqb tab rfl hc3 rfl ?_ | refine if_no (fun h => h Iff.rfl) ?_ | refine ify ?_ | refine ifn ?_ | refine i6 ?_ | refine ati ?_ | refine mst ?_ | refine rmd ?_ | refine ibo (fun _ => ?_) (fun _ => ?_)) <;> conv => whnf))
      exact rfl
    | true =>
      rw [hk] at hk1 hk2
      (conv => whnf)
      (repeat' ((first | refine ord_ok (by (conv => whnf); (repeat' ((first | refine call_eq rfl hl1 ?_ | refine call_eq rfl hl2 ?_ | refine call_eq rfl hsm ?_ | refine call_eq rfl hk1 ?_ | refine call_eq rfl hk2 ?_ | refine call_eq rfl hc1 ?_ | refine call_eq rfl hc2 ?_ | refine call_eq rfl hmy ?_ | refine call_eqb tab rfl hc3 rfl ?_ | refine if_no (fun h => h Iff.rfl) ?_ | refine call_eq rfl hnx2 ?_ | refine ify ?_ | refine ifn ?_ | refine i6 ?_ | refine ati ?_ | refine mst ?_ | refine rmd ?_ | refine ibo (fun _ => ?_) (fun _ => ?_)) <;> conv => whnf)); (all_goals (repeat' (first | exact trivial | exact rfl | refine And.intro ?_ ?_)))) ?_ | refine call_eq rfl hl1 ?_ | refine call_eq rfl hl2 ?_ | refine call_eq rfl hsm ?_ | refine call_eq rfl hk1 ?_ | refine call_eq rfl hk2 ?_ | refine call_eq rfl hc1 ?_ | refine call_eq rfl hc2 ?_ | refine call_eq rfl hmy ?_ | refine call_eqb tab rfl hc3 rfl ?_ | refine if_no (fun h => h Iff.rfl) ?_ | refine call_eq rfl hnx2 ?_ | refine ify ?_ | refine ifn ?_ | refine i6 ?_ | refine ati ?_ | refine mst ?_ | refine rmd ?_ | refine ibo (fun _ => ?_) (fun _ => ?_)) <;> conv => whnf))
      refine loop_lo (ι := Nat) (fun i => i ≤ N.length) (fun i => [(19, .d (.int .i64 i)), (18, .own 300), (17, .d (dIs N)), (16, .d (.bool true)), (10, .own 10), (9, .d (dG G)), (2, .d (dIs l))]) (fun i => [(10, .cells 27 [.d (dIs G.labels), .d (dEs G.edges)]), (300, .slice 3 1 (((N.take i).filter (fitsV G l)).map dI))]) (fun i => N.length - i) 0 (fun _ => rfl) (Nat.zero_le _)
        (.own 18 300 3 1 rfl rfl (.refl _ _)) ⟨rfl, rfl, rfl, rfl, rfl, rfl, rfl, trivial⟩ ⟨rfl, rfl, trivial⟩ ?_
      intro i hi
      refine sxCode_sound c1_ok (G := G_vtl) (pl := pl_vtl) _ _ _ _ (by kernel_rfl) ?_
      have hfl := List.length_filter_le (fitsV G l) (N.take i)
      rw [List.length_take] at hfl
      by_cases hil : i < N.length
      · have hx := List.getElem?_eq_getElem hil
        generalize N[i] = x at hx
        have hxd : (N.map dI)[i]? = some (.int .i64 x) := by rw [List.getElem?_map, hx]; rfl
        have hcx := hcf x
        have hst : (N.take (i + 1)).filter (fitsV G l) = (N.take i).filter (fitsV G l) ++ (if fitsV G l x = true then [x] else []) := by
          rw [tk1 hx, List.filter_append]; congr 1; rw [List.filter_cons, List.filter_nil]
        cases hf : fitsV G l x with
        | true =>
          rw [hf] at hcx
          rw [hf, if_pos rfl] at hst
          have hfin : ((N.take i).filter (fitsV G l)).map dI ++ [.int .i64 x] = ((N.take (i + 1)).filter (fitsV G l)).map dI := by rw [hst, List.map_append]; rfl
          (conv => whnf)
          (repeat' ((first | refine ord_ok (by (conv => whnf); (repeat' ((first | refine at_da hxd rfl ?_ | refine call_eqb tab rfl hcx rfl ?_ | refine ify ?_ | refine ifn ?_ | refine i6 ?_ | refine ati ?_ | refine mst ?_ | refine rmd ?_ | refine ibo (fun _ => ?_) (fun _ => ?_)) <;> conv => whnf)); (all_goals (repeat' (first | exact trivial | exact rfl | refine And.intro ?_ ?_)))) ?_ | refine at_da hxd rfl ?_ | refine call_eqb tab rfl hcx rfl ?_ | refine ify ?_ | refine ifn ?_ | refine i6 ?_ | refine ati ?_ | refine mst ?_ | refine rmd ?_ | refine ibo (fun _ => ?_) (fun _ => ?_)) <;> conv => whnf))
          exact ⟨i + 1, _, _, hil, .refl _ _, ⟨rfl, rfl, rfl, rfl, rfl, rfl, rfl, trivial⟩, ⟨rfl, slice_is hfin, trivial⟩, by omega⟩
        | false =>
          rw [hf] at hcx
          rw [hf, if_neg (by decide), List.append_nil] at hst
          (conv => whnf)
          (repeat' ((first | refine ord_ok (by (conv => whnf); (repeat' ((first | refine at_da hxd rfl ?_ | refine call_eqb tab rfl hcx rfl ?_ | refine ify ?_ | refine ifn ?_ | refine i6 ?_ | refine ati ?_ | refine mst ?_ | refine rmd ?_ | refine ibo (fun _ => ?_) (fun _ => ?_)) <;> conv => whnf)); (all_goals (repeat' (first | exact trivial | exact rfl | refine And.intro ?_ ?_)))) ?_ | refine at_da hxd rfl ?_ | refine call_eqb tab rfl hcx rfl ?_ | refine ify ?_ | refine ifn ?_ | refine i6 ?_ | refine ati ?_ | refine mst ?_ | refine rmd ?_ | refine ibo (fun _ => ?_) (fun _ => ?_)) <;> conv => whnf))
          exact ⟨i + 1, _, _, hil, .refl _ _, ⟨rfl, rfl, rfl, rfl, rfl, rfl, rfl, trivial⟩, ⟨rfl, slice_is (by rw [hst]), trivial⟩, by omega⟩
      · have hii : N.take i = N := List.take_of_length_le (by omega)
        rw [hii]
        have hsW := same_yes (N.filter (fitsV G l))
        generalize N.filter (fitsV G l) = W at hgs hsW
        (conv => whnf)
        (repeat' ((first | refine ord_ok (by (conv => whnf); (repeat' ((first | refine call_eq rfl hnx1 ?_ | refine call_eq rfl hsN ?_ | refine ify ?_ | refine ifn ?_ | refine i6 ?_ | refine ati ?_ | refine mst ?_ | refine rmd ?_ | refine ibo (fun _ => ?_) (fun _ => ?_)) <;> conv => whnf)); (all_goals (repeat' (first | exact trivial | exact rfl | refine And.intro ?_ ?_)))) ?_ | refine call_eq rfl hnx1 ?_ | refine call_eq rfl hsN ?_ | refine ify ?_ | refine ifn ?_ | refine i6 ?_ | refine ati ?_ | refine mst ?_ | refine rmd ?_ | refine ibo (fun _ => ?_) (fun _ => ?_)) <;> conv => whnf))
        refine call_mksl 301 rfl rfl hgs ?_; rintro ds rfl
        (conv => whnf)
        (repeat' ((first | refine ord_ok (by (conv => whnf); (repeat' ((first | refine call_eqb tab rfl hsW rfl ?_ | refine ify ?_ | refine ifn ?_ | refine i6 ?_ | refine ati ?_ | refine mst ?_ | refine rmd ?_ | refine ibo (fun _ => ?_) (fun _ => ?_)) <;> conv => whnf)); (all_goals (repeat' (first | exact trivial | exact rfl | refine And.intro ?_ ?_)))) ?_ | refine call_eqb tab rfl hsW rfl ?_ | refine ify ?_ | refine ifn ?_ | refine i6 ?_ | refine ati ?_ | refine mst ?_ | refine rmd ?_ | refine ibo (fun _ => ?_) (fun _ => ?_)) <;> conv => whnf))
        exact rfl
end Go.Proofs.YtmkbgbnehokmmaaGreat
