/- Merged: Ptv. -/
import Derived.Test.YteigfapjiekdnaaGreatDoorKeae
section
/- pat.Compare. -/
namespace Go.Gr
/-- thing by thing, then by length -/
def cmpF {α : Type} (f : α → α → Int) : List α → List α → Int
  | [], [] => 0
  | [], _ :: _ => -1
  | _ :: _, [] => 1
  | x :: a, y :: b => if f x y = 0 then cmpF f a b else f x y
theorem cmpF_cons {α : Type} (f : α → α → Int) (x y : α) (a b : List α) : cmpF f (x :: a) (y :: b) = if f x y = 0 then cmpF f a b else f x y := rfl
/-- the first that is not 0 -/
def orF : List Int → Int
  | [] => 0
  | x :: l => if x = 0 then orF l else x
/-- which pattern comes ahead -/
def cmpP (p q : Pt) : Int := orF [cmpI p.labels.length q.labels.length, cmpF cmpI p.labels q.labels, cmpI p.edges.length q.edges.length, cmpF cmpE p.edges q.edges]
end Go.Gr
namespace Go.Proofs.YteigfapjiekdnaaGreatDoor
open Go.Sx Go.RowKit Go.Reg Go.Gr

set_option maxRecDepth 100000
def pl_slc : List (Nat × Plan) := []
def G_slc : List FuncId := [121]
theorem cok_slc : codeOk Tryz.prog G_slc pl_slc (Tryz.f122.body.getD .skip) = true := by kernel_rfl
theorem run_slc (vs : Array Value) (w : World) : (callFunc 122 vs).run C1.P w = .ok (.enter 122 vs) w := by kernel_rfl
set_option maxHeartbeats 4000000 in
theorem slcompare_pure (a b : List Int) (hm : a.length ≤ 9000000000000000000) (_hm2 : b.length ≤ 9000000000000000000) : Pure C1 122 [dIs a, dIs b] (fun y => y = .int .i64 (cmpF cmpI a b)) := by
  have hda : (a.map dI).length = a.length := List.length_map _
  have hdb : (b.map dI).length = b.length := List.length_map _
  refine pure_of c1_ok (pl := pl_slc) (G := G_slc) Tryz.func122 rfl Tryz.ntmps122 run_slc cok_slc (by simp) ?_
  ((conv => whnf); repeat' ((first | refine odw ?_ | refine ify ?_ | refine ifn ?_ | refine i6 ?_ | refine ati ?_ | refine mst ?_ | refine rmd ?_ | refine ibo (fun _ => ?_) (fun _ => ?_)) <;> conv => whnf))
  refine loop_lo (ι := Nat) (fun i => (i ≤ a.length ∧ i ≤ b.length) ∧ cmpF cmpI (a.drop i) (b.drop i) = cmpF cmpI a b) (fun i => [(11, .d (.int .i64 i)), (10, .d (.int .i64 (a.map dI).length)), (9, .d (dIs a)), (1, .d (dIs b)), (0, .d (dIs a))]) (fun _ => []) (fun i => a.length - i) 0 (fun _ => rfl) ⟨⟨Nat.zero_le _, Nat.zero_le _⟩, rfl⟩ (.refl _ _) ⟨rfl, rfl, rfl, rfl, rfl, trivial⟩ trivial ?_
  rintro i ⟨⟨hi, hi2⟩, hc⟩
  rw [← hc]
  refine sxCode_sound c1_ok (G := G_slc) (pl := pl_slc) _ _ _ _ (by kernel_rfl) ?_
  by_cases hil : i < a.length
  · have hx := List.getElem?_eq_getElem hil
    rw [List.drop_eq_getElem_cons hil] at hc ⊢
    generalize a[i] = x at hx hc
    have hxd : (a.map dI)[i]? = some (.int .i64 x) := by rw [List.getElem?_map, hx]; rfl
    by_cases hib : i < b.length
    · have hy := List.getElem?_eq_getElem hib
      rw [List.drop_eq_getElem_cons hib] at hc ⊢
      generalize b[i] = y at hy hc
      have hyd : (b.map dI)[i]? = some (.int .i64 y) := by rw [List.getElem?_map, hy]; rfl
      have hcp := compare_pure x y
      rw [cmpF_cons] at hc ⊢
      by_cases h0 : cmpI x y = 0
      · rw [if_pos h0] at hc ⊢
        rw [h0] at hcp
        (conv => whnf)
        (repeat' ((first | refine ord_ok (by (conv => whnf); (repeat' ((first | refine at_da hxd rfl ?_ | refine at_da hyd rfl ?_ | refine call_eq rfl hcp ?_ | refine ify ?_ | refine ifn ?_ | refine i6 ?_ | refine ati ?_ | refine mst ?_ | refine rmd ?_ | refine ibo (fun _ => ?_) (fun _ => ?_)) <;> conv => whnf)); (all_goals (repeat' (first | exact trivial | exact rfl | refine And.intro ?_ ?_)))) ?_ | refine at_da hxd rfl ?_ | refine at_da hyd rfl ?_ | refine call_eq rfl hcp ?_ | refine ify ?_ | refine ifn ?_ | refine i6 ?_ | refine ati ?_ | refine mst ?_ | refine rmd ?_ | refine ibo (fun _ => ?_) (fun _ => ?_)) <;> conv => whnf))
        exact ⟨i + 1, _, _, ⟨⟨by omega, by omega⟩, rfl⟩, .refl _ _, ⟨rfl, rfl, rfl, rfl, rfl, trivial⟩, trivial, by omega⟩
      · rw [if_neg h0]
        generalize cmpI x y = z at hcp h0
        (conv => whnf)
        (repeat' ((first | refine ord_ok (by (conv => whnf); (repeat' ((first | refine at_da hxd rfl ?_ | refine at_da hyd rfl ?_ | refine call_eq rfl hcp ?_ | refine ify ?_ | refine ifn ?_ | refine i6 ?_ | refine ati ?_ | refine mst ?_ | refine rmd ?_ | refine ibo (fun _ => ?_) (fun _ => ?_)) <;> conv => whnf)); (all_goals (repeat' (first | exact trivial | exact rfl | refine And.intro ?_ ?_)))) ?_ | refine at_da hxd rfl ?_ | refine at_da hyd rfl ?_ | refine call_eq rfl hcp ?_ | refine ify ?_ | refine ifn ?_ | refine i6 ?_ | refine ati ?_ | refine mst ?_ | refine rmd ?_ | refine ibo (fun _ => ?_) (fun _ => ?_)) <;> conv => whnf))
        exact rfl
    · have hbe : b.drop i = [] := List.drop_of_length_le (by omega)
      rw [hbe]
      unfold cmpF
      (conv => whnf)
      (repeat' ((first | refine ord_ok (by (conv => whnf); (repeat' ((first | refine at_da hxd rfl ?_ | refine ify ?_ | refine ifn ?_ | refine i6 ?_ | refine ati ?_ | refine mst ?_ | refine rmd ?_ | refine ibo (fun _ => ?_) (fun _ => ?_)) <;> conv => whnf)); (all_goals (repeat' (first | exact trivial | exact rfl | refine And.intro ?_ ?_)))) ?_ | refine at_da hxd rfl ?_ | refine ify ?_ | refine ifn ?_ | refine i6 ?_ | refine ati ?_ | refine mst ?_ | refine rmd ?_ | refine ibo (fun _ => ?_) (fun _ => ?_)) <;> conv => whnf))
      exact rfl
  · have hae : a.drop i = [] := List.drop_of_length_le (by omega)
    rw [hae]
    by_cases hib : i < b.length
    · rw [List.drop_eq_getElem_cons hib]
      unfold cmpF
      have hlt : a.length < b.length := by omega
      ((conv => whnf); repeat' ((first | refine odw ?_ | refine ify ?_ | refine ifn ?_ | refine i6 ?_ | refine ati ?_ | refine mst ?_ | refine rmd ?_ | refine ibo (fun _ => ?_) (fun _ => ?_)) <;> conv => whnf))
      exact rfl
    · have hbe : b.drop i = [] := List.drop_of_length_le (by omega)
      rw [hbe]
      unfold cmpF
      have hlt : ¬ a.length < b.length := by omega
      ((conv => whnf); repeat' ((first | refine odw ?_ | refine ify ?_ | refine ifn ?_ | refine i6 ?_ | refine ati ?_ | refine mst ?_ | refine rmd ?_ | refine ibo (fun _ => ?_) (fun _ => ?_)) <;> conv => whnf))
      exact rfl
def pl_slf : List (Nat × Plan) := []
def G_slf : List FuncId := []
theorem cok_slf : codeOk Tryz.prog G_slf pl_slf (Tryz.f123.body.getD .skip) = true := by kernel_rfl
theorem run_slf (vs : Array Value) (w : World) : (callFunc 123 vs).run C1.P w = .ok (.enter 123 vs) w := by kernel_rfl
set_option maxHeartbeats 4000000 in
theorem slcomparef_pure (a b : List Edg) (hm : a.length ≤ 9000000000000000000) (_hm2 : b.length ≤ 9000000000000000000) : Pure C1 123 [dEs a, dEs b, .func (.func 74) [] []] (fun y => y = .int .i64 (cmpF cmpE a b)) := by
  have hda : (a.map dE).length = a.length := List.length_map _
  have hdb : (b.map dE).length = b.length := List.length_map _
  refine pure_of c1_ok (pl := pl_slf) (G := G_slf) Tryz.func123 rfl Tryz.ntmps123 run_slf cok_slf (by simp) ?_
  ((conv => whnf); repeat' ((first | refine odw ?_ | refine ify ?_ | refine ifn ?_ | refine i6 ?_ | refine ati ?_ | refine mst ?_ | refine rmd ?_ | refine ibo (fun _ => ?_) (fun _ => ?_)) <;> conv => whnf))
  refine loop_lo (ι := Nat) (fun i => (i ≤ a.length ∧ i ≤ b.length) ∧ cmpF cmpE (a.drop i) (b.drop i) = cmpF cmpE a b) (fun i => [(13, .d (.int .i64 i)), (12, .d (.int .i64 (a.map dE).length)), (11, .d (dEs a)), (2, .d (.func (.func 74) [] [])), (1, .d (dEs b)), (0, .d (dEs a))]) (fun _ => []) (fun i => a.length - i) 0 (fun _ => rfl) ⟨⟨Nat.zero_le _, Nat.zero_le _⟩, rfl⟩ (.refl _ _) ⟨rfl, rfl, rfl, rfl, rfl, rfl, trivial⟩ trivial ?_
  rintro i ⟨⟨hi, hi2⟩, hc⟩
  rw [← hc]
  refine sxCode_sound c1_ok (G := G_slf) (pl := pl_slf) _ _ _ _ (by kernel_rfl) ?_
  by_cases hil : i < a.length
  · have hx := List.getElem?_eq_getElem hil
    rw [List.drop_eq_getElem_cons hil] at hc ⊢
    generalize a[i] = x at hx hc
    have hxd : (a.map dE)[i]? = some (.agg [.int .i64 x.a, .int .i64 x.b]) := by rw [List.getElem?_map, hx]; rfl
    by_cases hib : i < b.length
    · have hy := List.getElem?_eq_getElem hib
      rw [List.drop_eq_getElem_cons hib] at hc ⊢
      generalize b[i] = y at hy hc
      have hyd : (b.map dE)[i]? = some (.agg [.int .i64 y.a, .int .i64 y.b]) := by rw [List.getElem?_map, hy]; rfl
      have hcp := porder_pure x y
      rw [cmpF_cons] at hc ⊢
      by_cases h0 : cmpE x y = 0
      · rw [if_pos h0] at hc ⊢
        rw [h0] at hcp
        (conv => whnf)
        (repeat' ((first | refine ord_ok (by (conv => whnf); (repeat' ((first | refine at_da hxd rfl ?_ | refine at_da hyd rfl ?_ | refine call_eq rfl hcp ?_ | refine call_eqb tab rfl hcp rfl ?_ | refine ify ?_ | refine ifn ?_ | refine i6 ?_ | refine ati ?_ | refine mst ?_ | refine rmd ?_ | refine ibo (fun _ => ?_) (fun _ => ?_)) <;> conv => whnf)); (all_goals (repeat' (first | exact trivial | exact rfl | refine And.intro ?_ ?_)))) ?_ | refine at_da hxd rfl ?_ | refine at_da hyd rfl ?_ | refine call_eq rfl hcp ?_ | refine call_eqb tab rfl hcp rfl ?_ | refine ify ?_ | refine ifn ?_ | refine i6 ?_ | refine ati ?_ | refine mst ?_ | refine rmd ?_ | refine ibo (fun _ => ?_) (fun _ => ?_)) <;> conv => whnf))
        exact ⟨i + 1, _, _, ⟨⟨by omega, by omega⟩, rfl⟩, .refl _ _, ⟨rfl, rfl, rfl, rfl, rfl, rfl, trivial⟩, trivial, by omega⟩
      · rw [if_neg h0]
        generalize cmpE x y = z at hcp h0
        (conv => whnf)
        (repeat' ((first | refine ord_ok (by (conv => whnf); (repeat' ((first | refine at_da hxd rfl ?_ | refine at_da hyd rfl ?_ | refine call_eq rfl hcp ?_ | refine call_eqb tab rfl hcp rfl ?_ | refine ify ?_ | refine ifn ?_ | refine i6 ?_ | refine ati ?_ | refine mst ?_ | refine rmd ?_ | refine ibo (fun _ => ?_) (fun _ => ?_)) <;> conv => whnf)); (all_goals (repeat' (first | exact trivial | exact rfl | refine And.intro ?_ ?_)))) ?_ | refine at_da hxd rfl ?_ | refine at_da hyd rfl ?_ | refine call_eq rfl hcp ?_ | refine call_eqb tab rfl hcp rfl ?_ | refine ify ?_ | refine ifn ?_ | refine i6 ?_ | refine ati ?_ | refine mst ?_ | refine rmd ?_ | refine ibo (fun _ => ?_) (fun _ => ?_)) <;> conv => whnf))
        exact rfl
    · have hbe : b.drop i = [] := List.drop_of_length_le (by omega)
      rw [hbe]
      unfold cmpF
      (conv => whnf)
      (repeat' ((first | refine ord_ok (by (conv => whnf); (repeat' ((first | refine at_da hxd rfl ?_ | refine ify ?_ | refine ifn ?_ | refine i6 ?_ | refine ati ?_ | refine mst ?_ | refine rmd ?_ | refine ibo (fun _ => ?_) (fun _ => ?_)) <;> conv => whnf)); (all_goals (repeat' (first | exact trivial | exact rfl | refine And.intro ?_ ?_)))) ?_ | refine at_da hxd rfl ?_ | refine ify ?_ | refine ifn ?_ | refine i6 ?_ | refine ati ?_ | refine mst ?_ | refine rmd ?_ | refine ibo (fun _ => ?_) (fun _ => ?_)) <;> conv => whnf))
      exact rfl
  · have hae : a.drop i = [] := List.drop_of_length_le (by omega)
    rw [hae]
    by_cases hib : i < b.length
    · rw [List.drop_eq_getElem_cons hib]
      unfold cmpF
      have hlt : a.length < b.length := by omega
      ((conv => whnf); repeat' ((first | refine odw ?_ | refine ify ?_ | refine ifn ?_ | refine i6 ?_ | refine ati ?_ | refine mst ?_ | refine rmd ?_ | refine ibo (fun _ => ?_) (fun _ => ?_)) <;> conv => whnf))
      exact rfl
    · have hbe : b.drop i = [] := List.drop_of_length_le (by omega)
      rw [hbe]
      unfold cmpF
      have hlt : ¬ a.length < b.length := by omega
      ((conv => whnf); repeat' ((first | refine odw ?_ | refine ify ?_ | refine ifn ?_ | refine i6 ?_ | refine ati ?_ | refine mst ?_ | refine rmd ?_ | refine ibo (fun _ => ?_) (fun _ => ?_)) <;> conv => whnf))
      exact rfl
theorem orF_cons (x : Int) (l : List Int) : orF (x :: l) = if x = 0 then orF l else x := rfl
def pl_corl : List (Nat × Plan) := []
def G_corl : List FuncId := []
theorem cok_corl : codeOk Tryz.prog G_corl pl_corl (Tryz.f120.body.getD .skip) = true := by kernel_rfl
theorem run_corl (vs : Array Value) (w : World) : (callFunc 120 vs).run C1.P w = .ok (.enter 120 vs) w := by kernel_rfl
theorem orl_pure (l : List Int) (hm : l.length ≤ 100) : Pure C1 120 [dIs l] (fun y => y = .int .i64 (orF l)) := by
  have hdl : (l.map dI).length = l.length := List.length_map _
  refine pure_of c1_ok (pl := pl_corl) (G := G_corl) Tryz.func120 rfl Tryz.ntmps120 run_corl cok_corl (by simp) ?_
  ((conv => whnf); repeat' ((first | refine odw ?_ | refine ify ?_ | refine ifn ?_ | refine i6 ?_ | refine ati ?_ | refine mst ?_ | refine rmd ?_ | refine ibo (fun _ => ?_) (fun _ => ?_)) <;> conv => whnf))
  refine loop_lo (ι := Nat) (fun i => i ≤ l.length ∧ orF (l.drop i) = orF l) (fun i => [(8, .d (.int .i64 i)), (7, .d (.int .i64 (l.map dI).length)), (6, .d (dIs l)), (3, .d (.int .i64 0))]) (fun _ => []) (fun i => l.length - i) 0 (fun _ => rfl) ⟨Nat.zero_le _, rfl⟩ (.refl _ _) ⟨rfl, rfl, rfl, rfl, trivial⟩ trivial ?_
  rintro i ⟨hi, hc⟩
  rw [← hc]
  refine sxCode_sound c1_ok (G := G_corl) (pl := pl_corl) _ _ _ _ (by kernel_rfl) ?_
  by_cases hil : i < l.length
  · have hx := List.getElem?_eq_getElem hil
    rw [List.drop_eq_getElem_cons hil, orF_cons]
    generalize l[i] = x at hx
    have hxd : (l.map dI)[i]? = some (.int .i64 x) := by rw [List.getElem?_map, hx]; rfl
    by_cases h0 : x = 0
    · rw [if_pos h0]
      (conv => whnf)
      (repeat' ((first | refine ord_ok (by (conv => whnf); (repeat' ((first | refine at_da hxd rfl ?_ | refine ify ?_ | refine ifn ?_ | refine i6 ?_ | refine ati ?_ | refine mst ?_ | refine rmd ?_ | refine ibo (fun _ => ?_) (fun _ => ?_)) <;> conv => whnf)); (all_goals (repeat' (first | exact trivial | exact rfl | refine And.intro ?_ ?_)))) ?_ | refine at_da hxd rfl ?_ | refine ify ?_ | refine ifn ?_ | refine i6 ?_ | refine ati ?_ | refine mst ?_ | refine rmd ?_ | refine ibo (fun _ => ?_) (fun _ => ?_)) <;> conv => whnf))
      exact ⟨i + 1, _, _, ⟨by omega, rfl⟩, .refl _ _, ⟨rfl, rfl, rfl, rfl, trivial⟩, trivial, by omega⟩
    · rw [if_neg h0]
      (conv => whnf)
      (repeat' ((first | refine ord_ok (by (conv => whnf); (repeat' ((first | refine at_da hxd rfl ?_ | refine ify ?_ | refine ifn ?_ | refine i6 ?_ | refine ati ?_ | refine mst ?_ | refine rmd ?_ | refine ibo (fun _ => ?_) (fun _ => ?_)) <;> conv => whnf)); (all_goals (repeat' (first | exact trivial | exact rfl | refine And.intro ?_ ?_)))) ?_ | refine at_da hxd rfl ?_ | refine ify ?_ | refine ifn ?_ | refine i6 ?_ | refine ati ?_ | refine mst ?_ | refine rmd ?_ | refine ibo (fun _ => ?_) (fun _ => ?_)) <;> conv => whnf))
      exact rfl
  · rw [show l.drop i = [] from List.drop_of_length_le (by omega)]
    ((conv => whnf); repeat' ((first | refine odw ?_ | refine ify ?_ | refine ifn ?_ | refine i6 ?_ | refine ati ?_ | refine mst ?_ | refine rmd ?_ | refine ibo (fun _ => ?_) (fun _ => ?_)) <;> conv => whnf))
    exact rfl
def pl_ptcmp : List (Nat × Plan) := [(1, .leaf [0, 1, 0, 0, 1, 0, 2, 0, 1, 0, 1, 2, 0, 1, 0, 0, 1, 0, 2, 0, 1, 0, 1, 2, 6, 2, 0] [0, 3, 7, 9, 12, 15, 19, 21, 1, 2, 4, 5, 8, 10, 13, 14, 16, 17, 20, 22, 6, 11, 18, 23, 24, 25, 26] [0, 1, 3, 0, 8, 24, 63, 0, 128, 0, 512, 2047, 0, 4096, 12288, 0, 32768, 98304, 262143, 0, 524288, 0, 2097152, 8388607, 16777215, 33554431, 67108863])]
def G_ptcmp : List FuncId := [121, 122, 123, 120]
theorem cok_ptcmp : codeOk Tryz.prog G_ptcmp pl_ptcmp (Tryz.f62.body.getD .skip) = true := by kernel_rfl
theorem run_ptcmp (vs : Array Value) (w : World) : (callFunc 62 vs).run C1.P w = .ok (.enter 62 vs) w := by kernel_rfl
set_option maxHeartbeats 4000000 in
theorem ptcompare_pure (p q : Pt) (h1 : p.labels.length ≤ 9000000000000000000) (h2 : q.labels.length ≤ 9000000000000000000) (h3 : p.edges.length ≤ 9000000000000000000) (h4 : q.edges.length ≤ 9000000000000000000) :
    Pure C1 62 [dPt p, dPt q] (fun y => y = .int .i64 (cmpP p q)) := by
  have g1 : (p.labels.map dI).length = p.labels.length := List.length_map _
  have g2 : (q.labels.map dI).length = q.labels.length := List.length_map _
  have g3 : (p.edges.map dE).length = p.edges.length := List.length_map _
  have g4 : (q.edges.map dE).length = q.edges.length := List.length_map _
  have c1 := compare_pure (p.labels.map dI).length (q.labels.map dI).length
  have c2 := slcompare_pure p.labels q.labels h1 h2
  have c3 := compare_pure (p.edges.map dE).length (q.edges.map dE).length
  have c4 := slcomparef_pure p.edges q.edges h3 h4
  have co := orl_pure [cmpI (p.labels.map dI).length (q.labels.map dI).length, cmpF cmpI p.labels q.labels, cmpI (p.edges.map dE).length (q.edges.map dE).length, cmpF cmpE p.edges q.edges] (by simp)
  have e : orF [cmpI (p.labels.map dI).length (q.labels.map dI).length, cmpF cmpI p.labels q.labels, cmpI (p.edges.map dE).length (q.edges.map dE).length, cmpF cmpE p.edges q.edges] = cmpP p q := by unfold cmpP; rw [g1, g2, g3, g4]
  rw [e] at co
  refine pure_of c1_ok (pl := pl_ptcmp) (G := G_ptcmp) Tryz.func62 rfl Tryz.ntmps62 run_ptcmp cok_ptcmp (by simp) ?_
  (conv => whnf)
  (repeat' ((first | refine ord_ok (by (conv => whnf); (repeat' ((first | refine call_eqb tab rfl c1 rfl ?_ | refine call_eqb tab rfl c2 rfl ?_ | refine call_eqb tab rfl c3 rfl ?_ | refine call_eqb tab rfl c4 rfl ?_ | refine call_eqb tab rfl co rfl ?_ | refine ify ?_ | refine ifn ?_ | refine i6 ?_ | refine ati ?_ | refine mst ?_ | refine rmd ?_ | refine ibo (fun _ => ?_) (fun _ => ?_)) <;> conv => whnf)); (all_goals (repeat' (first | exact trivial | exact rfl | refine And.intro ?_ ?_)))) ?_ | refine call_eqb tab rfl c1 rfl ?_ | refine call_eqb tab rfl c2 rfl ?_ | refine call_eqb tab rfl c3 rfl ?_ | refine call_eqb tab rfl c4 rfl ?_ | refine call_eqb tab rfl co rfl ?_ | refine ify ?_ | refine ifn ?_ | refine i6 ?_ | refine ati ?_ | refine mst ?_ | refine rmd ?_ | refine ibo (fun _ => ?_) (fun _ => ?_)) <;> conv => whnf))
  exact rfl
end Go.Proofs.YteigfapjiekdnaaGreatDoor
end
