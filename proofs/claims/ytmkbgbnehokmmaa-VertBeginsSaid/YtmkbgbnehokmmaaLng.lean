/- LinesVerts: the walk. -/
import Derived.Test.YtmkbgbnehokmmaaLnf
namespace Go.Gr
theorem endsOf_append (E : List Edg) (a b : List Int) : endsOf E (a ++ b) = endsOf E a ++ endsOf E b := by simp [endsOf, List.filterMap_append]
theorem endsOf_at {E : List Edg} {l : List Int} {i m : Nat} {e : Edg} (h : l[i]? = some (m : Int)) (he : E[m]? = some e) : (endsOf E l)[(endsOf E (l.take i)).length]? = some e := by
  obtain ⟨hi, hx⟩ := List.getElem?_eq_some_iff.1 h
  have e1 : l = l.take i ++ ([(m : Int)] ++ l.drop (i + 1)) := by
    rw [← hx, List.singleton_append, ← List.drop_eq_getElem_cons hi, List.take_append_drop]
  have e2 : endsOf E l = endsOf E (l.take i) ++ ([e] ++ endsOf E (l.drop (i + 1))) := by
    conv => lhs; rw [e1]
    rw [endsOf_append, endsOf_append]
    have := endsOf_in (l := []) he
    simp only [List.nil_append] at this
    rw [this]; rfl
  rw [e2, List.getElem?_append_right (Nat.le_refl _), Nat.sub_self]
  rfl
end Go.Gr
namespace Go.Proofs.Ytmkbgbnehokmmaa
open Go.Sx Go.RowKit Go.Reg Go.Gr

set_option maxRecDepth 100000
def pl_rverts : List (Nat × Plan) := [(5, .leaf [0, 0, 0, 1, 0, 0, 0, 0, 0, 1, 0, 1, 0, 0, 0] [0, 1, 2, 3, 4, 5, 6, 7, 8, 10, 9, 11, 12, 13, 14] [0, 0, 3, 7, 15, 31, 63, 63, 255, 511, 63, 1087, 3135, 8191, 16383]),
  (6, .leaf [0, 1, 0, 0, 0, 1, 0, 1, 6, 3] [0, 2, 3, 4, 1, 5, 6, 7, 8, 9] [0, 1, 0, 0, 12, 28, 63, 127, 0, 511])]
def G_rverts : List FuncId := []
theorem cok_rverts : codeOk Try.prog G_rverts pl_rverts (Try.f23.body.getD .skip) = true := by kernel_rfl
theorem run_rverts (vs : Array Value) (w : World) : (callFunc 23 vs).run C1.P w = .ok (.enter 23 vs) w := by kernel_rfl
theorem rverts_pure (labels : List Int) (S : List Edg) (l : List Int) (hb : l.length ≤ 2147483000) : Pure C1 23 [dM labels S, dIs l] (fun y => y = dIs (vertsOf (endsOf S l))) := by
  have hl : (l.map dI).length = l.length := List.length_map _
  have hS : (S.map dE).length = S.length := List.length_map _
  refine pure_of c1_ok (pl := pl_rverts) (G := G_rverts) Try.func23 rfl Try.ntmps23 run_rverts cok_rverts (by simp) ?_
  ((conv => whnf); repeat' ((first | refine odw ?_ | refine ify ?_ | refine ifn ?_ | refine i6 ?_ | refine ati ?_ | refine mst ?_ | refine rmd ?_ | refine ibo (fun _ => ?_) (fun _ => ?_)) <;> conv => whnf))
  refine loop_lo (ι := Nat) (fun i => i ≤ l.length) (fun i => [(6, .d (.int .i64 i)), (5, .own 300), (2, .own 2), (1, .d (dIs l))]) (fun i => [(2, .cells 27 [.d (dIs labels), .d (dEs S)]), (300, .slice 3 1 ((vertsOf (endsOf S (l.take i))).map dI))]) (fun i => l.length - i) 0 (fun _ => rfl) (Nat.zero_le _)
    (.own 5 300 3 1 rfl rfl (.refl _ _)) ⟨rfl, rfl, rfl, rfl, trivial⟩ ⟨rfl, rfl, trivial⟩ ?_
  intro i hi
  refine sxCode_sound c1_ok (G := G_rverts) (pl := pl_rverts) _ _ _ _ (by kernel_rfl) ?_
  by_cases hlt : i < l.length
  · have hx := List.getElem?_eq_getElem hlt
    generalize l[i] = x at hx
    have hxd : (l.map dI)[i]? = some (.int .i64 x) := by rw [List.getElem?_map, hx]; rfl
    have htk : l.take (i + 1) = l.take i ++ [x] := by rw [List.take_add_one, hx]; rfl
    have hel := endsOf_len S (l.take i)
    have hvl := vertsOf_len (endsOf S (l.take i))
    rw [List.length_take] at hel
    by_cases h : 0 ≤ x ∧ x < S.length
    · obtain ⟨m, rfl⟩ := Int.eq_ofNat_of_zero_le h.1
      have hy := List.getElem?_eq_getElem (show m < S.length by omega)
      have hen := endsOf_in (l := l.take i) hy
      rw [← htk] at hen
      generalize S[m] = z at hy hen
      obtain ⟨za, zb⟩ := z
      have hyd : (S.map dE)[m]? = some (.agg [.int .i64 za, .int .i64 zb]) := by rw [List.getElem?_map, hy]; rfl
      have hst : vertsOf (endsOf S (l.take (i + 1))) = addN (addN (vertsOf (endsOf S (l.take i))) za) zb := by rw [hen, vertsOf_snoc]
      generalize vertsOf (endsOf S (l.take i)) = out at hst hvl ⊢
      have hl1 := addN_len out za
      (conv => whnf)
      (repeat' ((first | refine ord_ok (by (conv => whnf); (repeat' ((first | refine at_da hxd rfl ?_ | refine at_da hyd rfl ?_ | refine call_eqb tab rfl (has06_pure out za) rfl ?_ | refine ify ?_ | refine ifn ?_ | refine i6 ?_ | refine ati ?_ | refine mst ?_ | refine rmd ?_ | refine ibo (fun _ => ?_) (fun _ => ?_)) <;> conv => whnf)); (all_goals (repeat' (first | exact trivial | exact rfl | refine And.intro ?_ ?_)))) ?_ | refine at_da hxd rfl ?_ | refine at_da hyd rfl ?_ | refine call_eqb tab rfl (has06_pure out za) rfl ?_ | refine ify ?_ | refine ifn ?_ | refine i6 ?_ | refine ati ?_ | refine mst ?_ | refine rmd ?_ | refine ibo (fun _ => ?_) (fun _ => ?_)) <;> conv => whnf))
      have tail : ∀ o : List Int, addN out za = o → True := fun _ _ => trivial
      by_cases i1 : za ∈ out
      · have e1 : addN out za = out := by unfold addN; rw [if_pos i1]
        rw [e1] at hst
        rw [decide_eq_true i1]
        (conv => whnf)
        (repeat' ((first | refine ord_ok (by (conv => whnf); (repeat' ((first | refine call_eqb tab rfl (has06_pure out zb) rfl ?_ | refine ify ?_ | refine ifn ?_ | refine i6 ?_ | refine ati ?_ | refine mst ?_ | refine rmd ?_ | refine ibo (fun _ => ?_) (fun _ => ?_)) <;> conv => whnf)); (all_goals (repeat' (first | exact trivial | exact rfl | refine And.intro ?_ ?_)))) ?_ | refine call_eqb tab rfl (has06_pure out zb) rfl ?_ | refine ify ?_ | refine ifn ?_ | refine i6 ?_ | refine ati ?_ | refine mst ?_ | refine rmd ?_ | refine ibo (fun _ => ?_) (fun _ => ?_)) <;> conv => whnf))
        by_cases i2 : zb ∈ out
        · have hr2 : out.map dI = (vertsOf (endsOf S (l.take (i + 1)))).map dI := by rw [hst]; unfold addN; rw [if_pos i2]
          rw [decide_eq_true i2]
          ((conv => whnf); repeat' ((first | refine odw ?_ | refine ify ?_ | refine ifn ?_ | refine i6 ?_ | refine ati ?_ | refine mst ?_ | refine rmd ?_ | refine ibo (fun _ => ?_) (fun _ => ?_)) <;> conv => whnf))
          exact ⟨i + 1, _, _, hlt, .refl _ _, ⟨rfl, rfl, rfl, rfl, trivial⟩, ⟨rfl, slice_is hr2, trivial⟩, by omega⟩
        · have hr2 : out.map dI ++ [.int .i64 zb] = (vertsOf (endsOf S (l.take (i + 1)))).map dI := by rw [hst]; unfold addN; rw [if_neg i2, List.map_append]; rfl
          rw [decide_eq_false i2]
          ((conv => whnf); repeat' ((first | refine odw ?_ | refine ify ?_ | refine ifn ?_ | refine i6 ?_ | refine ati ?_ | refine mst ?_ | refine rmd ?_ | refine ibo (fun _ => ?_) (fun _ => ?_)) <;> conv => whnf))
          exact ⟨i + 1, _, _, hlt, .refl _ _, ⟨rfl, rfl, rfl, rfl, trivial⟩, ⟨rfl, slice_is hr2, trivial⟩, by omega⟩
      · have e1 : addN out za = out ++ [za] := by unfold addN; rw [if_neg i1]
        have e1d : out.map dI ++ [.int .i64 za] = (out ++ [za]).map dI := by rw [List.map_append]; rfl
        rw [e1] at hst
        rw [decide_eq_false i1]
        ((conv => whnf); repeat' ((first | refine odw ?_ | refine ify ?_ | refine ifn ?_ | refine i6 ?_ | refine ati ?_ | refine mst ?_ | refine rmd ?_ | refine ibo (fun _ => ?_) (fun _ => ?_)) <;> conv => whnf))
        rw [e1d]
        have hol : (out ++ [za]).length = out.length + 1 := by simp
        generalize out ++ [za] = o at *
        refine call_eqb tab rfl (has06_pure o zb) rfl ?_
        by_cases i2 : zb ∈ o
        · have hr2 : o.map dI = (vertsOf (endsOf S (l.take (i + 1)))).map dI := by rw [hst]; unfold addN; rw [if_pos i2]
          rw [decide_eq_true i2]
          ((conv => whnf); repeat' ((first | refine odw ?_ | refine ify ?_ | refine ifn ?_ | refine i6 ?_ | refine ati ?_ | refine mst ?_ | refine rmd ?_ | refine ibo (fun _ => ?_) (fun _ => ?_)) <;> conv => whnf))
          exact ⟨i + 1, _, _, hlt, .refl _ _, ⟨rfl, rfl, rfl, rfl, trivial⟩, ⟨rfl, slice_is hr2, trivial⟩, by omega⟩
        · have hr2 : o.map dI ++ [.int .i64 zb] = (vertsOf (endsOf S (l.take (i + 1)))).map dI := by rw [hst]; unfold addN; rw [if_neg i2, List.map_append]; rfl
          rw [decide_eq_false i2]
          ((conv => whnf); repeat' ((first | refine odw ?_ | refine ify ?_ | refine ifn ?_ | refine i6 ?_ | refine ati ?_ | refine mst ?_ | refine rmd ?_ | refine ibo (fun _ => ?_) (fun _ => ?_)) <;> conv => whnf))
          exact ⟨i + 1, _, _, hlt, .refl _ _, ⟨rfl, rfl, rfl, rfl, trivial⟩, ⟨rfl, slice_is hr2, trivial⟩, by omega⟩
    · have hr2 : (vertsOf (endsOf S (l.take i))).map dI = (vertsOf (endsOf S (l.take (i + 1)))).map dI := by rw [htk, endsOf_out h]
      by_cases hx0 : x < 0
      · (conv => whnf)
        (repeat' ((first | refine ord_ok (by (conv => whnf); (repeat' ((first | refine at_da hxd rfl ?_ | refine ify ?_ | refine ifn ?_ | refine i6 ?_ | refine ati ?_ | refine mst ?_ | refine rmd ?_ | refine ibo (fun _ => ?_) (fun _ => ?_)) <;> conv => whnf)); (all_goals (repeat' (first | exact trivial | exact rfl | refine And.intro ?_ ?_)))) ?_ | refine at_da hxd rfl ?_ | refine ify ?_ | refine ifn ?_ | refine i6 ?_ | refine ati ?_ | refine mst ?_ | refine rmd ?_ | refine ibo (fun _ => ?_) (fun _ => ?_)) <;> conv => whnf))
        exact ⟨i + 1, _, _, hlt, .refl _ _, ⟨rfl, rfl, rfl, rfl, trivial⟩, ⟨rfl, slice_is hr2, trivial⟩, by omega⟩
      · (conv => whnf)
        (repeat' ((first | refine ord_ok (by (conv => whnf); (repeat' ((first | refine at_da hxd rfl ?_ | refine ify ?_ | refine ifn ?_ | refine i6 ?_ | refine ati ?_ | refine mst ?_ | refine rmd ?_ | refine ibo (fun _ => ?_) (fun _ => ?_)) <;> conv => whnf)); (all_goals (repeat' (first | exact trivial | exact rfl | refine And.intro ?_ ?_)))) ?_ | refine at_da hxd rfl ?_ | refine ify ?_ | refine ifn ?_ | refine i6 ?_ | refine ati ?_ | refine mst ?_ | refine rmd ?_ | refine ibo (fun _ => ?_) (fun _ => ?_)) <;> conv => whnf))
        exact ⟨i + 1, _, _, hlt, .refl _ _, ⟨rfl, rfl, rfl, rfl, trivial⟩, ⟨rfl, slice_is hr2, trivial⟩, by omega⟩
  · have hii : l.take i = l := List.take_of_length_le (by omega)
    rw [hii]
    ((conv => whnf); repeat' ((first | refine odw ?_ | refine ify ?_ | refine ifn ?_ | refine i6 ?_ | refine ati ?_ | refine mst ?_ | refine rmd ?_ | refine ibo (fun _ => ?_) (fun _ => ?_)) <;> conv => whnf))
    exact rfl
def pl_linesverts : List (Nat × Plan) := [(11, .leaf [0, 0, 0, 1, 0, 0, 0, 0, 0, 1, 0, 1, 0, 0, 0] [0, 1, 2, 3, 4, 5, 6, 7, 8, 10, 9, 11, 12, 13, 14] [0, 0, 3, 7, 15, 31, 63, 63, 255, 511, 63, 1087, 3135, 8191, 16383]),
  (12, .leaf [0, 0, 0, 0, 0, 0, 0, 0, 1, 0, 1, 0, 0, 0, 1, 0, 1, 3, 0] [0, 1, 2, 3, 4, 5, 6, 7, 9, 11, 12, 13, 8, 10, 14, 15, 16, 17, 18] [0, 0, 2, 7, 15, 31, 31, 127, 255, 31, 543, 31, 31, 6175, 14367, 32287, 65055, 131071, 262143]),
  (21, .leaf [0, 0, 0, 0, 0, 0, 0, 2, 1, 0, 2, 2, 0, 0, 0, 0, 2, 0, 2, 0, 0] [0, 1, 2, 3, 4, 5, 6, 9, 8, 7, 10, 11, 12, 13, 14, 15, 17, 16, 18, 19, 20] [0, 0, 2, 7, 15, 31, 31, 127, 31, 31, 1023, 2047, 4095, 8191, 16383, 16383, 65535, 16383, 262143, 524287, 1048575])]
def G_linesverts : List FuncId := [22, 23, 21, 24]
theorem cok_linesverts : codeOk Try.prog G_linesverts pl_linesverts (Try.f4.body.getD .skip) = true := by kernel_rfl
theorem run_linesverts (vs : Array Value) (w : World) : (callFunc 4 vs).run C1.P w = .ok (.enter 4 vs) w := by kernel_rfl
theorem same_yes (l : List Int) : Pure C1 21 [dIs l, dIs l] (fun y => y = .bool true) := by
  have := same_pure l l
  rwa [decide_eq_true rfl] at this
set_option maxHeartbeats 4000000 in
theorem linesverts_pure (labels : List Int) (edges : List Edg) (l : List Int) : Pure C1 4 [dIs labels, dEs edges, dIs l] (fun y => y = .bool true) := by
  have hl : (l.map dI).length = l.length := List.length_map _
  refine pure_of c1_ok (pl := pl_linesverts) (G := G_linesverts) Try.func4 rfl Try.ntmps4 run_linesverts cok_linesverts (by simp) ?_
  ((conv => whnf); repeat' ((first | refine odw ?_ | refine ify ?_ | refine ifn ?_ | refine i6 ?_ | refine ati ?_ | refine mst ?_ | refine rmd ?_ | refine ibo (fun _ => ?_) (fun _ => ?_)) <;> conv => whnf))
  refine call_eq rfl lalive_pure ?_
  ((conv => whnf); repeat' ((first | refine odw ?_ | refine ify ?_ | refine ifn ?_ | refine i6 ?_ | refine ati ?_ | refine mst ?_ | refine rmd ?_ | refine ibo (fun _ => ?_) (fun _ => ?_)) <;> conv => whnf))
  refine call_eq rfl (made_pure labels edges) ?_
  rcases made_case labels edges with e | ⟨G, e, hG, hn, hm, _, _, _⟩
  · rw [e]
    ((conv => whnf); repeat' ((first | refine odw ?_ | refine ify ?_ | refine ifn ?_ | refine i6 ?_ | refine ati ?_ | refine mst ?_ | refine rmd ?_ | refine ibo (fun _ => ?_) (fun _ => ?_)) <;> conv => whnf))
    exact rfl
  rw [e]
  by_cases hl20 : 20 < l.length
  · ((conv => whnf); repeat' ((first | refine odw ?_ | refine ify ?_ | refine ifn ?_ | refine i6 ?_ | refine ati ?_ | refine mst ?_ | refine rmd ?_ | refine ibo (fun _ => ?_) (fun _ => ?_)) <;> conv => whnf))
    exact rfl
  have hel : (G.edges.map dE).length = G.edges.length := List.length_map _
  have henl := endsOf_len G.edges l
  have hen2 : ((endsOf G.edges l).map dE).length = (endsOf G.edges l).length := List.length_map _
  ((conv => whnf); repeat' ((first | refine odw ?_ | refine ify ?_ | refine ifn ?_ | refine i6 ?_ | refine ati ?_ | refine mst ?_ | refine rmd ?_ | refine ibo (fun _ => ?_) (fun _ => ?_)) <;> conv => whnf))
  refine call_eq rfl (ends_pure G l (by omega)) ?_
  ((conv => whnf); repeat' ((first | refine odw ?_ | refine ify ?_ | refine ifn ?_ | refine i6 ?_ | refine ati ?_ | refine mst ?_ | refine rmd ?_ | refine ibo (fun _ => ?_) (fun _ => ?_)) <;> conv => whnf))
  refine loop_lo (ι := Nat) (fun i => i ≤ l.length) (fun i => [(12, .d (.int .i64 i)), (11, .d (.int .i64 (endsOf G.edges (l.take i)).length)), (10, .d (dEs (endsOf G.edges l))), (8, .own 8), (7, .d (dG G)), (2, .d (dIs l))]) (fun i => [(8, .cells 27 [.d (dIs G.labels), .d (dEs G.edges)])])
    (fun i => l.length - i) 0 (fun _ => rfl) (Nat.zero_le _) (.refl _ _) ⟨rfl, rfl, rfl, rfl, rfl, rfl, trivial⟩ ⟨rfl, trivial⟩ ?_
  intro i hi
  refine sxCode_sound c1_ok (G := G_linesverts) (pl := pl_linesverts) _ _ _ _ (by kernel_rfl) ?_
  by_cases hlt : i < l.length
  · have hx := List.getElem?_eq_getElem hlt
    generalize l[i] = x at hx
    have hxd : (l.map dI)[i]? = some (.int .i64 x) := by rw [List.getElem?_map, hx]; rfl
    have htk : l.take (i + 1) = l.take i ++ [x] := by rw [List.take_add_one, hx]; rfl
    have hli := endsOf_len G.edges (l.take i)
    rw [List.length_take] at hli
    by_cases h : 0 ≤ x ∧ x < G.edges.length
    · obtain ⟨m, rfl⟩ := Int.eq_ofNat_of_zero_le h.1
      have hy := List.getElem?_eq_getElem (show m < G.edges.length by omega)
      have hat := endsOf_at hx hy
      have hen := endsOf_in (l := l.take i) hy
      rw [← htk] at hen
      generalize G.edges[m] = z at hy hat hen
      obtain ⟨za, zb⟩ := z
      have hatl := (List.getElem?_eq_some_iff.1 hat).1
      have hyd : (G.edges.map dE)[m]? = some (.agg [.int .i64 za, .int .i64 zb]) := by rw [List.getElem?_map, hy]; rfl
      have hatd : ((endsOf G.edges l).map dE)[(endsOf G.edges (l.take i)).length]? = some (.agg [.int .i64 za, .int .i64 zb]) := by rw [List.getElem?_map, hat]; rfl
      have hnl : (endsOf G.edges (l.take (i + 1))).length = (endsOf G.edges (l.take i)).length + 1 := by rw [hen]; simp
      (conv => whnf)
      (repeat' ((first | refine ord_ok (by (conv => whnf); (repeat' ((first | refine at_da hxd rfl ?_ | refine at_da hyd rfl ?_ | refine at_da hatd rfl ?_ | refine ify ?_ | refine ifn ?_ | refine i6 ?_ | refine ati ?_ | refine mst ?_ | refine rmd ?_ | refine ibo (fun _ => ?_) (fun _ => ?_)) <;> conv => whnf)); (all_goals (repeat' (first | exact trivial | exact rfl | refine And.intro ?_ ?_)))) ?_ | refine at_da hxd rfl ?_ | refine at_da hyd rfl ?_ | refine at_da hatd rfl ?_ | refine ify ?_ | refine ifn ?_ | refine i6 ?_ | refine ati ?_ | refine mst ?_ | refine rmd ?_ | refine ibo (fun _ => ?_) (fun _ => ?_)) <;> conv => whnf))
      exact ⟨i + 1, _, _, hlt, .refl _ _, ⟨rfl, int_is (by omega), rfl, rfl, rfl, rfl, trivial⟩, ⟨rfl, trivial⟩, by omega⟩
    · have hnl : (endsOf G.edges (l.take (i + 1))).length = (endsOf G.edges (l.take i)).length := by rw [htk, endsOf_out h]
      by_cases hx0 : x < 0
      · (conv => whnf)
        (repeat' ((first | refine ord_ok (by (conv => whnf); (repeat' ((first | refine at_da hxd rfl ?_ | refine ify ?_ | refine ifn ?_ | refine i6 ?_ | refine ati ?_ | refine mst ?_ | refine rmd ?_ | refine ibo (fun _ => ?_) (fun _ => ?_)) <;> conv => whnf)); (all_goals (repeat' (first | exact trivial | exact rfl | refine And.intro ?_ ?_)))) ?_ | refine at_da hxd rfl ?_ | refine ify ?_ | refine ifn ?_ | refine i6 ?_ | refine ati ?_ | refine mst ?_ | refine rmd ?_ | refine ibo (fun _ => ?_) (fun _ => ?_)) <;> conv => whnf))
        exact ⟨i + 1, _, _, hlt, .refl _ _, ⟨rfl, int_is (by omega), rfl, rfl, rfl, rfl, trivial⟩, ⟨rfl, trivial⟩, by omega⟩
      · (conv => whnf)
        (repeat' ((first | refine ord_ok (by (conv => whnf); (repeat' ((first | refine at_da hxd rfl ?_ | refine ify ?_ | refine ifn ?_ | refine i6 ?_ | refine ati ?_ | refine mst ?_ | refine rmd ?_ | refine ibo (fun _ => ?_) (fun _ => ?_)) <;> conv => whnf)); (all_goals (repeat' (first | exact trivial | exact rfl | refine And.intro ?_ ?_)))) ?_ | refine at_da hxd rfl ?_ | refine ify ?_ | refine ifn ?_ | refine i6 ?_ | refine ati ?_ | refine mst ?_ | refine rmd ?_ | refine ibo (fun _ => ?_) (fun _ => ?_)) <;> conv => whnf))
        exact ⟨i + 1, _, _, hlt, .refl _ _, ⟨rfl, int_is (by omega), rfl, rfl, rfl, rfl, trivial⟩, ⟨rfl, trivial⟩, by omega⟩
  · have hii : l.take i = l := List.take_of_length_le (by omega)
    rw [hii]
    ((conv => whnf); repeat' ((first | refine odw ?_ | refine ify ?_ | refine ifn ?_ | refine i6 ?_ | refine ati ?_ | refine mst ?_ | refine rmd ?_ | refine ibo (fun _ => ?_) (fun _ => ?_)) <;> conv => whnf))
    refine loop_lo (ι := Nat) (fun k => k ≤ G.edges.length) (fun k => [(14, .d (.int .i64 k)), (13, .own 300), (11, .d (.int .i64 (endsOf G.edges l).length)), (10, .d (dEs (endsOf G.edges l))), (8, .own 8), (7, .d (dG G)), (2, .d (dIs l))]) (fun k => [(8, .cells 27 [.d (dIs G.labels), .d (dEs G.edges)]), (300, .slice 3 1 ((spanOf G.edges l k).map dI))])
      (fun k => G.edges.length - k) 0 (fun _ => rfl) (Nat.zero_le _) (.own 13 300 3 1 rfl rfl (.refl _ _)) ⟨rfl, rfl, rfl, rfl, rfl, rfl, rfl, trivial⟩ ⟨rfl, rfl, trivial⟩ ?_
    intro k hk
    refine sxCode_sound c1_ok (G := G_linesverts) (pl := pl_linesverts) _ _ _ _ (by kernel_rfl) ?_
    by_cases hlt : k < G.edges.length
    · have hy := List.getElem?_eq_getElem hlt
      have hst := spanOf_step (l := l) hy
      have hsl := spanOf_len G.edges l k
      generalize G.edges[k] = z at hy hst
      obtain ⟨za, zb⟩ := z
      have hyd : (G.edges.map dE)[k]? = some (.agg [.int .i64 za, .int .i64 zb]) := by rw [List.getElem?_map, hy]; rfl
      have h1 := has06_pure l za
      have h2 := has06_pure l zb
      by_cases i1 : za ∈ l
      · rw [decide_eq_true i1] at h1
        by_cases i2 : zb ∈ l
        · rw [decide_eq_true i2] at h2
          rw [if_pos (by simp [inB, i1, i2])] at hst
          have hfin : (spanOf G.edges l k).map dI ++ [.int .i64 (k : Int)] = (spanOf G.edges l (k + 1)).map dI := by rw [hst, List.map_append]; rfl
          (conv => whnf)
          (repeat' ((first | refine ord_ok (by (conv => whnf); (repeat' ((first | refine at_da hyd rfl ?_ | refine call_eq rfl h1 ?_ | refine call_eq rfl h2 ?_ | refine ify ?_ | refine ifn ?_ | refine i6 ?_ | refine ati ?_ | refine mst ?_ | refine rmd ?_ | refine ibo (fun _ => ?_) (fun _ => ?_)) <;> conv => whnf)); (all_goals (repeat' (first | exact trivial | exact rfl | refine And.intro ?_ ?_)))) ?_ | refine at_da hyd rfl ?_ | refine call_eq rfl h1 ?_ | refine call_eq rfl h2 ?_ | refine ify ?_ | refine ifn ?_ | refine i6 ?_ | refine ati ?_ | refine mst ?_ | refine rmd ?_ | refine ibo (fun _ => ?_) (fun _ => ?_)) <;> conv => whnf))
          exact ⟨k + 1, _, _, hlt, .refl _ _, ⟨rfl, rfl, rfl, rfl, rfl, rfl, rfl, trivial⟩, ⟨rfl, slice_is hfin, trivial⟩, by omega⟩
        · rw [decide_eq_false i2] at h2
          rw [if_neg (by simp [inB, i2]), List.append_nil] at hst
          (conv => whnf)
          (repeat' ((first | refine ord_ok (by (conv => whnf); (repeat' ((first | refine at_da hyd rfl ?_ | refine call_eq rfl h1 ?_ | refine call_eq rfl h2 ?_ | refine ify ?_ | refine ifn ?_ | refine i6 ?_ | refine ati ?_ | refine mst ?_ | refine rmd ?_ | refine ibo (fun _ => ?_) (fun _ => ?_)) <;> conv => whnf)); (all_goals (repeat' (first | exact trivial | exact rfl | refine And.intro ?_ ?_)))) ?_ | refine at_da hyd rfl ?_ | refine call_eq rfl h1 ?_ | refine call_eq rfl h2 ?_ | refine ify ?_ | refine ifn ?_ | refine i6 ?_ | refine ati ?_ | refine mst ?_ | refine rmd ?_ | refine ibo (fun _ => ?_) (fun _ => ?_)) <;> conv => whnf))
          exact ⟨k + 1, _, _, hlt, .refl _ _, ⟨rfl, rfl, rfl, rfl, rfl, rfl, rfl, trivial⟩, ⟨rfl, slice_is (by rw [hst]), trivial⟩, by omega⟩
      · rw [decide_eq_false i1] at h1
        rw [if_neg (by simp [inB, i1]), List.append_nil] at hst
        (conv => whnf)
        (repeat' ((first | refine ord_ok (by (conv => whnf); (repeat' ((first | refine at_da hyd rfl ?_ | refine call_eq rfl h1 ?_ | refine call_eq rfl h2 ?_ | refine ify ?_ | refine ifn ?_ | refine i6 ?_ | refine ati ?_ | refine mst ?_ | refine rmd ?_ | refine ibo (fun _ => ?_) (fun _ => ?_)) <;> conv => whnf)); (all_goals (repeat' (first | exact trivial | exact rfl | refine And.intro ?_ ?_)))) ?_ | refine at_da hyd rfl ?_ | refine call_eq rfl h1 ?_ | refine call_eq rfl h2 ?_ | refine ify ?_ | refine ifn ?_ | refine i6 ?_ | refine ati ?_ | refine mst ?_ | refine rmd ?_ | refine ibo (fun _ => ?_) (fun _ => ?_)) <;> conv => whnf))
        exact ⟨k + 1, _, _, hlt, .refl _ _, ⟨rfl, rfl, rfl, rfl, rfl, rfl, rfl, trivial⟩, ⟨rfl, slice_is (by rw [hst]), trivial⟩, by omega⟩
    · have hke : k = G.edges.length := by omega
      subst hke
      have v1 := verts_pure G l (by omega)
      have v2 := rverts_pure G.labels G.edges l (by omega)
      have v3 := span_pure G hG l
      have s1 := same_yes (vertsOf (endsOf G.edges l))
      have s2 := same_yes (spanOf G.edges l G.edges.length)
      (conv => whnf)
      (repeat' ((first | refine ord_ok (by (conv => whnf); (repeat' ((first | refine call_eq rfl v1 ?_ | refine call_eq rfl v2 ?_ | refine call_eq rfl v3 ?_ | refine call_eq rfl s1 ?_ | refine call_eqb tab rfl s2 rfl ?_ | refine ify ?_ | refine ifn ?_ | refine i6 ?_ | refine ati ?_ | refine mst ?_ | refine rmd ?_ | refine ibo (fun _ => ?_) (fun _ => ?_)) <;> conv => whnf)); (all_goals (repeat' (first | exact trivial | exact rfl | refine And.intro ?_ ?_)))) ?_ | refine call_eq rfl v1 ?_ | refine call_eq rfl v2 ?_ | refine call_eq rfl v3 ?_ | refine call_eq rfl s1 ?_ | refine call_eqb tab rfl s2 rfl ?_ | refine ify ?_ | refine ifn ?_ | refine i6 ?_ | refine ati ?_ | refine mst ?_ | refine rmd ?_ | refine ibo (fun _ => ?_) (fun _ => ?_)) <;> conv => whnf))
      exact rfl
end Go.Proofs.Ytmkbgbnehokmmaa
