/- Merged: Lvw. -/
import Derived.Test.YtaadeobcnamgdaaGreatDoorZbbb
import Derived.Test.YtaadeobcnamgdaaGreatDoorZbbc
import Derived.Test.YtaadeobcnamgdaaGreatDoorZbaz
section
/- level: the walk: Words, Right, Pattern, passes. -/
namespace Go.Proofs.YtaadeobcnamgdaaGreatDoor
open Go.Sx Go.RowKit Go.Reg Go.Gr

set_option maxRecDepth 100000
def dJ (G : Gr) (e : Bool) (d : Int) (l : List Opp) : Da := .agg [dG G, .bool e, .int .i64 d, dOs l]
/-- a job that may be -/
structure JobOk (G : Gr) (e : Bool) (d : Int) (l : List Opp) : Prop where
  ok : G.Ok
  n : G.labels.length ≤ 7
  m : G.edges.length ≤ 30
  me : e = true → G.edges.length ≤ 8
  d : 1 ≤ d ∧ d ≤ 8
  l16 : l.length ≤ 16
  lok : ∀ o ∈ l, codeO o = 0
theorem jErr_of {n : Nat} {p : Pt} (hp : PtOk n p) (h8 : n ≤ 8) (hl : ∀ x ∈ p.labels, 0 ≤ x ∧ x ≤ 255) : pErr p = none := by
  unfold pErr
  have h1 : lErr p.labels = none := by
    refine lErr_no (by rw [hp.len]; omega) fun k y hk hy => ?_
    have := hl y (List.mem_of_getElem? hy)
    unfold badLabel
    simp; omega
  rw [h1]
  refine findSome_no fun i hi => ?_
  have hx := List.getElem?_eq_getElem hi
  have he := hp.edge _ (List.getElem_mem hi)
  generalize hE : p.edges[i] = e at hx he
  unfold eAt
  rw [hx]
  simp only
  rw [Option.map_eq_none_iff]
  unfold eBad
  rw [if_neg (by rw [hp.len]; simp; omega), if_neg (by omega)]
  by_cases h0 : i = 0
  · rw [if_pos h0]
  · rw [if_neg h0]
    have hj : i - 1 < p.edges.length := by omega
    rw [List.getElem?_eq_getElem hj]
    simp only
    rw [if_pos]
    have := List.pairwise_iff_getElem.1 hp.strict (i - 1) i hj hi (by omega)
    rwa [hE] at this
section
variable {G : Gr} {e : Bool} {d : Int} {l : List Opp}
def pl_lww : List (Nat × Plan) := []
def G_lww : List FuncId := [104, 105]
theorem cok_lww : codeOk Tryz.prog G_lww pl_lww (Tryz.f49.body.getD .skip) = true := by kernel_rfl
theorem run_lww (vs : Array Value) (w : World) : (callFunc 49 vs).run C1.P w = .ok (.enter 49 vs) w := by kernel_rfl
theorem words_pure (h : JobOk G e d l) : Pure C1 49 [dJ G e d l] (fun y => y = .tuple [dG (wordsG G e), .nili]) := by
  have hp := prights_pure l h.l16 h.lok
  have hlo := lof_pure G h.ok (by have := h.m; omega)
  rw [words_lof h.ok (by have := h.n; omega) h.m] at hlo
  have h1 := h.d.1
  have h2 := h.d.2
  refine pure_of c1_ok (pl := pl_lww) (G := G_lww) Tryz.func49 rfl Tryz.ntmps49 run_lww cok_lww (by simp) ?_
  cases e with
  | true =>
    (conv => whnf)
    (repeat' ((first | refine ord_ok (by (conv => whnf); (repeat' ((first | refine call_eq rfl hp ?_ | refine call_eq rfl hlo ?_ | refine ify ?_ | refine ifn ?_ | refine i6 ?_ | refine ati ?_ | refine mst ?_ | refine rmd ?_ | refine ibo (fun _ => ?_) (fun _ => ?_)) <;> conv => whnf)); (all_goals (repeat' (first | exact trivial | exact rfl | refine And.intro ?_ ?_)))) ?_ | refine call_eq rfl hp ?_ | refine call_eq rfl hlo ?_ | refine ify ?_ | refine ifn ?_ | refine i6 ?_ | refine ati ?_ | refine mst ?_ | refine rmd ?_ | refine ibo (fun _ => ?_) (fun _ => ?_)) <;> conv => whnf))
    exact rfl
  | false =>
    (conv => whnf)
    (repeat' ((first | refine ord_ok (by (conv => whnf); (repeat' ((first | refine call_eq rfl hp ?_ | refine call_eq rfl hlo ?_ | refine ify ?_ | refine ifn ?_ | refine i6 ?_ | refine ati ?_ | refine mst ?_ | refine rmd ?_ | refine ibo (fun _ => ?_) (fun _ => ?_)) <;> conv => whnf)); (all_goals (repeat' (first | exact trivial | exact rfl | refine And.intro ?_ ?_)))) ?_ | refine call_eq rfl hp ?_ | refine call_eq rfl hlo ?_ | refine ify ?_ | refine ifn ?_ | refine i6 ?_ | refine ati ?_ | refine mst ?_ | refine rmd ?_ | refine ibo (fun _ => ?_) (fun _ => ?_)) <;> conv => whnf))
    exact rfl
def pl_lwr : List (Nat × Plan) := []
def G_lwr : List FuncId := []
theorem cok_lwr : codeOk Tryz.prog G_lwr pl_lwr (Tryz.f13.body.getD .skip) = true := by kernel_rfl
theorem run_lwr (vs : Array Value) (w : World) : (callFunc 13 vs).run C1.P w = .ok (.enter 13 vs) w := by kernel_rfl
theorem lright_pure (h : JobOk G e d l) : Pure C1 13 [dJ G e d l] (fun y => y = .nili) := by
  have hw := words_pure h
  refine pure_of c1_ok (pl := pl_lwr) (G := G_lwr) Tryz.func13 rfl Tryz.ntmps13 run_lwr cok_lwr (by simp) ?_
  (conv => whnf)
  (repeat' ((first | refine ord_ok (by (conv => whnf); (repeat' ((first | refine call_eq rfl hw ?_ | refine ify ?_ | refine ifn ?_ | refine i6 ?_ | refine ati ?_ | refine mst ?_ | refine rmd ?_ | refine ibo (fun _ => ?_) (fun _ => ?_)) <;> conv => whnf)); (all_goals (repeat' (first | exact trivial | exact rfl | refine And.intro ?_ ?_)))) ?_ | refine call_eq rfl hw ?_ | refine ify ?_ | refine ifn ?_ | refine i6 ?_ | refine ati ?_ | refine mst ?_ | refine rmd ?_ | refine ibo (fun _ => ?_) (fun _ => ?_)) <;> conv => whnf))
  exact rfl
theorem jclone_pure (x : Int) (X : List Int) (hl : (x :: X).length ≤ 2000000000) : Pure C1 60 [dIs (x :: X)] (fun y => y = dIs (x :: X)) := by
  have hlm : ((x :: X).map dI).length = (x :: X).length := List.length_map _
  refine pure_of c1_ok (pl := pl_clone) (G := G_clone) Tryz.func60 rfl Tryz.ntmps60 run_clone cok_clone (by simp) ?_
  have hlm2 : (([] : List Da).length + ((x :: X).map dI).length) ≤ 4294967296 := by rw [hlm]; simp at hl ⊢; omega
  ((conv => whnf); repeat' ((first | refine odw ?_ | refine ify ?_ | refine ifn ?_ | refine i6 ?_ | refine ati ?_ | refine mst ?_ | refine rmd ?_ | refine ibo (fun _ => ?_) (fun _ => ?_)) <;> conv => whnf))
  all_goals first | exact rfl | (refine most_ok hlm2 ?_; ((conv => whnf); repeat' ((first | refine odw ?_ | refine ify ?_ | refine ifn ?_ | refine i6 ?_ | refine ati ?_ | refine mst ?_ | refine rmd ?_ | refine ibo (fun _ => ?_) (fun _ => ?_)) <;> conv => whnf)); exact rfl)
theorem jclone_ne {X : List Int} (h0 : X ≠ []) (hl : X.length ≤ 1000) : Pure C1 60 [dIs X] (fun y => y = dIs X) := by
  cases X with
  | nil => exact absurd rfl h0
  | cons x X => exact jclone_pure x X (by omega)
/-- a list's pattern -/
def patJ (G : Gr) (e : Bool) (x : List Int) : Da := if e = true then edgeQ G x else if 8 < x.length then .tuple [dP0, .nils, dF 6 0 listS] else if linkedV G x = false then .tuple [dP0, .nils, dF 2 0 listS] else .tuple [dPt (vertP G x), dIs x, .nili]
def pl_lwp : List (Nat × Plan) := [(9, .split 0 2 (.leaf [1, 0, 3, 3, 0, 0] [1, 0, 2, 3, 4, 5] [0, 0, 3, 7, 15, 31]) (.leaf [1, 0, 3, 3, 0, 0] [1, 2, 0, 3, 4, 5] [6, 0, 2, 7, 15, 31]))]
def G_lwp : List FuncId := [13, 58, 59]
theorem cok_lwp : codeOk Tryz.prog G_lwp pl_lwp (Tryz.f22.body.getD .skip) = true := by kernel_rfl
theorem run_lwp (vs : Array Value) (w : World) : (callFunc 22 vs).run C1.P w = .ok (.enter 22 vs) w := by kernel_rfl
theorem lpattern_pure (h : JobOk G e d l) (X : List Int) (h0 : X ≠ []) (hx : X.length ≤ 1000) : Pure C1 22 [dJ G e d l, dIs X] (fun z => z = patJ G e X) := by
  have hr := lright_pure h
  have hcl := jclone_ne h0 hx
  have hq := qedge_pure G h.ok X hx
  have hv := qvertG_pure G h.ok X (by omega)
  refine pure_of c1_ok (pl := pl_lwp) (G := G_lwp) Tryz.func22 rfl Tryz.ntmps22 run_lwp cok_lwp (by simp) ?_
  cases e with
  | true =>
    unfold patJ
    rw [if_pos rfl]
    unfold edgeQ at hq ⊢
    by_cases h1 : linkedV (lnGr G) X = false
    · rw [if_pos h1] at hq ⊢
      (conv => whnf)
      (repeat' ((first | refine ord_ok (by (conv => whnf); (repeat' ((first | refine call_eqb tab rfl hr rfl ?_ | refine call_eq rfl hq ?_ | refine ify ?_ | refine ifn ?_ | refine i6 ?_ | refine ati ?_ | refine mst ?_ | refine rmd ?_ | refine ibo (fun _ => ?_) (fun _ => ?_)) <;> conv => whnf)); (all_goals (repeat' (first | exact trivial | exact rfl | refine And.intro ?_ ?_)))) ?_ | refine call_eqb tab rfl hr rfl ?_ | refine call_eq rfl hq ?_ | refine ify ?_ | refine ifn ?_ | refine i6 ?_ | refine ati ?_ | refine mst ?_ | refine rmd ?_ | refine ibo (fun _ => ?_) (fun _ => ?_)) <;> conv => whnf))
      exact rfl
    · rw [if_neg h1] at hq ⊢
      by_cases h2 : 8 < (vertsOf (endsOf G.edges X)).length
      · rw [if_pos h2] at hq ⊢
        (conv => whnf)
        (repeat' ((first | refine ord_ok (by (conv => whnf); (repeat' ((first | refine call_eqb tab rfl hr rfl ?_ | refine call_eq rfl hq ?_ | refine ify ?_ | refine ifn ?_ | refine i6 ?_ | refine ati ?_ | refine mst ?_ | refine rmd ?_ | refine ibo (fun _ => ?_) (fun _ => ?_)) <;> conv => whnf)); (all_goals (repeat' (first | exact trivial | exact rfl | refine And.intro ?_ ?_)))) ?_ | refine call_eqb tab rfl hr rfl ?_ | refine call_eq rfl hq ?_ | refine ify ?_ | refine ifn ?_ | refine i6 ?_ | refine ati ?_ | refine mst ?_ | refine rmd ?_ | refine ibo (fun _ => ?_) (fun _ => ?_)) <;> conv => whnf))
        exact rfl
      · rw [if_neg h2] at hq ⊢
        (conv => whnf)
        (repeat' ((first | refine ord_ok (by (conv => whnf); (repeat' ((first | refine call_eqb tab rfl hr rfl ?_ | refine call_eq rfl hq ?_ | refine ify ?_ | refine ifn ?_ | refine i6 ?_ | refine ati ?_ | refine mst ?_ | refine rmd ?_ | refine ibo (fun _ => ?_) (fun _ => ?_)) <;> conv => whnf)); (all_goals (repeat' (first | exact trivial | exact rfl | refine And.intro ?_ ?_)))) ?_ | refine call_eqb tab rfl hr rfl ?_ | refine call_eq rfl hq ?_ | refine ify ?_ | refine ifn ?_ | refine i6 ?_ | refine ati ?_ | refine mst ?_ | refine rmd ?_ | refine ibo (fun _ => ?_) (fun _ => ?_)) <;> conv => whnf))
        exact rfl
  | false =>
    unfold patJ
    rw [if_neg (by decide)]
    by_cases h1 : 8 < X.length
    · rw [if_pos h1] at hv ⊢
      (conv => whnf)
      (repeat' ((first | refine ord_ok (by (conv => whnf); (repeat' ((first | refine call_eqb tab rfl hr rfl ?_ | refine call_eq rfl hv ?_ | refine ify ?_ | refine ifn ?_ | refine i6 ?_ | refine ati ?_ | refine mst ?_ | refine rmd ?_ | refine ibo (fun _ => ?_) (fun _ => ?_)) <;> conv => whnf)); (all_goals (repeat' (first | exact trivial | exact rfl | refine And.intro ?_ ?_)))) ?_ | refine call_eqb tab rfl hr rfl ?_ | refine call_eq rfl hv ?_ | refine ify ?_ | refine ifn ?_ | refine i6 ?_ | refine ati ?_ | refine mst ?_ | refine rmd ?_ | refine ibo (fun _ => ?_) (fun _ => ?_)) <;> conv => whnf))
      exact rfl
    · rw [if_neg h1] at hv ⊢
      by_cases h2 : linkedV G X = false
      · rw [if_pos h2] at hv ⊢
        (conv => whnf)
        (repeat' ((first | refine ord_ok (by (conv => whnf); (repeat' ((first | refine call_eqb tab rfl hr rfl ?_ | refine call_eq rfl hv ?_ | refine ify ?_ | refine ifn ?_ | refine i6 ?_ | refine ati ?_ | refine mst ?_ | refine rmd ?_ | refine ibo (fun _ => ?_) (fun _ => ?_)) <;> conv => whnf)); (all_goals (repeat' (first | exact trivial | exact rfl | refine And.intro ?_ ?_)))) ?_ | refine call_eqb tab rfl hr rfl ?_ | refine call_eq rfl hv ?_ | refine ify ?_ | refine ifn ?_ | refine i6 ?_ | refine ati ?_ | refine mst ?_ | refine rmd ?_ | refine ibo (fun _ => ?_) (fun _ => ?_)) <;> conv => whnf))
        exact rfl
      · rw [if_neg h2] at hv ⊢
        (conv => whnf)
        (repeat' ((first | refine ord_ok (by (conv => whnf); (repeat' ((first | refine call_eqb tab rfl hr rfl ?_ | refine call_eq rfl hv ?_ | refine call_eq rfl hcl ?_ | refine ify ?_ | refine ifn ?_ | refine i6 ?_ | refine ati ?_ | refine mst ?_ | refine rmd ?_ | refine ibo (fun _ => ?_) (fun _ => ?_)) <;> conv => whnf)); (all_goals (repeat' (first | exact trivial | exact rfl | refine And.intro ?_ ?_)))) ?_ | refine call_eqb tab rfl hr rfl ?_ | refine call_eq rfl hv ?_ | refine call_eq rfl hcl ?_ | refine ify ?_ | refine ifn ?_ | refine i6 ?_ | refine ati ?_ | refine mst ?_ | refine rmd ?_ | refine ibo (fun _ => ?_) (fun _ => ?_)) <;> conv => whnf))
        exact rfl
theorem small_len (h : JobOk G e d l) : (wordsG G e).labels.length ≤ 8 := by
  rw [words_len]
  split
  · exact h.me (by assumption)
  · have := h.n; omega
theorem jp_err (hG : G.Ok) {E : List Edg} {V : List Int} (h8 : V.length ≤ 8) (hr : ∀ x ∈ V, 0 ≤ x ∧ x < (G.labels.length : Int)) : pErr ⟨V.map (labelV G), madeE E V⟩ = none := by
  refine jErr_of (n := V.length) ⟨List.length_map _, fun e he => ?_, rowsF_strict _ _ _⟩ h8 fun x hx => ?_
  · obtain ⟨j, x, hj, hx, hjx, _, rfl⟩ := mem_rowsF.1 he
    simp only; omega
  · obtain ⟨y, hy, rfl⟩ := List.mem_map.1 hx
    exact labelV_ok hG (hr y hy)
theorem jedge_err (hG : G.Ok) {X : List Int} (h8 : (vertsOf (endsOf G.edges X)).length ≤ 8) : pErr (edgeP G X) = none := by
  refine jp_err hG h8 fun x hx => ?_
  obtain ⟨e, he, hxe⟩ := ((vertsOf_spec _).2 x).1 hx
  have := hG.edge e (ends_mem e he)
  omega
theorem jvert_err (hG : G.Ok) {X : List Int} (h8 : X.length ≤ 8) (hl : linkedV G X = true) : pErr (vertP G X) = none := jp_err hG h8 (link_range hl)
def pl_lws : List (Nat × Plan) := []
def G_lws : List FuncId := [22, 112]
theorem cok_lws : codeOk Tryz.prog G_lws pl_lws (Tryz.f57.body.getD .skip) = true := by kernel_rfl
theorem run_lws (vs : Array Value) (w : World) : (callFunc 57 vs).run C1.P w = .ok (.enter 57 vs) w := by kernel_rfl
theorem passes_pure (h : JobOk G e d l) (X : List Int) (h0 : X ≠ []) (hx : X.length ≤ 1000) : Pure C1 57 [dJ G e d l, dIs X] (fun z => z = .bool (psJ G e l X)) := by
  have hp := lpattern_pure h X h0 hx
  refine pure_of c1_ok (pl := pl_lws) (G := G_lws) Tryz.func57 rfl Tryz.ntmps57 run_lws cok_lws (by simp) ?_
  cases e with
  | true =>
    unfold patJ at hp
    rw [if_pos rfl] at hp
    unfold edgeQ at hp
    unfold psJ
    rw [show wordsG G true = lnGr G from rfl, if_pos rfl]
    by_cases h1 : linkedV (lnGr G) X = false
    · rw [if_pos h1] at hp
      rw [h1]
      (conv => whnf)
      (repeat' ((first | refine ord_ok (by (conv => whnf); (repeat' ((first | refine call_eq rfl hp ?_ | refine ify ?_ | refine ifn ?_ | refine i6 ?_ | refine ati ?_ | refine mst ?_ | refine rmd ?_ | refine ibo (fun _ => ?_) (fun _ => ?_)) <;> conv => whnf)); (all_goals (repeat' (first | exact trivial | exact rfl | refine And.intro ?_ ?_)))) ?_ | refine call_eq rfl hp ?_ | refine ify ?_ | refine ifn ?_ | refine i6 ?_ | refine ati ?_ | refine mst ?_ | refine rmd ?_ | refine ibo (fun _ => ?_) (fun _ => ?_)) <;> conv => whnf))
      exact rfl
    · rw [if_neg h1] at hp
      rw [Bool.not_eq_false] at h1
      rw [h1]
      by_cases h2 : 8 < (vertsOf (endsOf G.edges X)).length
      · rw [if_pos h2] at hp
        rw [decide_eq_false (by omega)]
        (conv => whnf)
        (repeat' ((first | refine ord_ok (by (conv => whnf); (repeat' ((first | refine call_eq rfl hp ?_ | refine ify ?_ | refine ifn ?_ | refine i6 ?_ | refine ati ?_ | refine mst ?_ | refine rmd ?_ | refine ibo (fun _ => ?_) (fun _ => ?_)) <;> conv => whnf)); (all_goals (repeat' (first | exact trivial | exact rfl | refine And.intro ?_ ?_)))) ?_ | refine call_eq rfl hp ?_ | refine ify ?_ | refine ifn ?_ | refine i6 ?_ | refine ati ?_ | refine mst ?_ | refine rmd ?_ | refine ibo (fun _ => ?_) (fun _ => ?_)) <;> conv => whnf))
        exact rfl
      · rw [if_neg h2] at hp
        rw [decide_eq_true (by omega)]
        have he := jedge_err (X := X) h.ok (by omega)
        have hk := keeps_pure l (edgeP G X) h.l16 h.lok he
        unfold keepsG
        rw [he]
        (conv => whnf)
        (repeat' ((first | refine ord_ok (by (conv => whnf); (repeat' ((first | refine call_eq rfl hp ?_ | refine call_eqb tab rfl hk rfl ?_ | refine ify ?_ | refine ifn ?_ | refine i6 ?_ | refine ati ?_ | refine mst ?_ | refine rmd ?_ | refine ibo (fun _ => ?_) (fun _ => ?_)) <;> conv => whnf)); (all_goals (repeat' (first | exact trivial | exact rfl | refine And.intro ?_ ?_)))) ?_ | refine call_eq rfl hp ?_ | refine call_eqb tab rfl hk rfl ?_ | refine ify ?_ | refine ifn ?_ | refine i6 ?_ | refine ati ?_ | refine mst ?_ | refine rmd ?_ | refine ibo (fun _ => ?_) (fun _ => ?_)) <;> conv => whnf))
        exact congrArg Da.bool (by simp)
  | false =>
    unfold patJ at hp
    rw [if_neg (by decide)] at hp
    unfold psJ
    rw [show wordsG G false = G from rfl, if_neg (by decide)]
    by_cases h2 : 8 < X.length
    · rw [if_pos h2] at hp
      rw [decide_eq_false (show ¬ X.length ≤ 8 by omega), Bool.false_and, Bool.and_false]
      (conv => whnf)
      (repeat' ((first | refine ord_ok (by (conv => whnf); (repeat' ((first | refine call_eq rfl hp ?_ | refine ify ?_ | refine ifn ?_ | refine i6 ?_ | refine ati ?_ | refine mst ?_ | refine rmd ?_ | refine ibo (fun _ => ?_) (fun _ => ?_)) <;> conv => whnf)); (all_goals (repeat' (first | exact trivial | exact rfl | refine And.intro ?_ ?_)))) ?_ | refine call_eq rfl hp ?_ | refine ify ?_ | refine ifn ?_ | refine i6 ?_ | refine ati ?_ | refine mst ?_ | refine rmd ?_ | refine ibo (fun _ => ?_) (fun _ => ?_)) <;> conv => whnf))
      exact rfl
    · rw [if_neg h2] at hp
      by_cases h1 : linkedV G X = false
      · rw [if_pos h1] at hp
        rw [h1]
        (conv => whnf)
        (repeat' ((first | refine ord_ok (by (conv => whnf); (repeat' ((first | refine call_eq rfl hp ?_ | refine ify ?_ | refine ifn ?_ | refine i6 ?_ | refine ati ?_ | refine mst ?_ | refine rmd ?_ | refine ibo (fun _ => ?_) (fun _ => ?_)) <;> conv => whnf)); (all_goals (repeat' (first | exact trivial | exact rfl | refine And.intro ?_ ?_)))) ?_ | refine call_eq rfl hp ?_ | refine ify ?_ | refine ifn ?_ | refine i6 ?_ | refine ati ?_ | refine mst ?_ | refine rmd ?_ | refine ibo (fun _ => ?_) (fun _ => ?_)) <;> conv => whnf))
        exact rfl
      · rw [if_neg h1] at hp
        rw [Bool.not_eq_false] at h1
        rw [h1, decide_eq_true (show X.length ≤ 8 by omega)]
        have he := jvert_err h.ok (by omega) h1
        have hk := keeps_pure l (vertP G X) h.l16 h.lok he
        unfold keepsG
        rw [he]
        (conv => whnf)
        (repeat' ((first | refine ord_ok (by (conv => whnf); (repeat' ((first | refine call_eq rfl hp ?_ | refine call_eqb tab rfl hk rfl ?_ | refine ify ?_ | refine ifn ?_ | refine i6 ?_ | refine ati ?_ | refine mst ?_ | refine rmd ?_ | refine ibo (fun _ => ?_) (fun _ => ?_)) <;> conv => whnf)); (all_goals (repeat' (first | exact trivial | exact rfl | refine And.intro ?_ ?_)))) ?_ | refine call_eq rfl hp ?_ | refine call_eqb tab rfl hk rfl ?_ | refine ify ?_ | refine ifn ?_ | refine i6 ?_ | refine ati ?_ | refine mst ?_ | refine rmd ?_ | refine ibo (fun _ => ?_) (fun _ => ?_)) <;> conv => whnf))
        exact congrArg Da.bool (by simp)
def pl_lwk : List (Nat × Plan) := []
def G_lwk : List FuncId := [57]
theorem cok_lwk : codeOk Tryz.prog G_lwk pl_lwk (Tryz.f124.body.getD .skip) = true := by kernel_rfl
theorem run_lwk (vs : Array Value) (w : World) : (callFunc 124 vs).run C1.P w = .ok (.enter 124 vs) w := by kernel_rfl
theorem kept1_pure (h : JobOk G e d l) (X : List Int) (h0 : X ≠ []) (hx : X.length ≤ 1000) : Pure C1 124 [dIs X, .ref (dJ G e d l)] (fun z => z = .bool (!psJ G e l X)) := by
  have hp := passes_pure h X h0 hx
  refine pure_of c1_ok (pl := pl_lwk) (G := G_lwk) Tryz.func124 rfl Tryz.ntmps124 run_lwk cok_lwk (by simp) ?_
  (conv => whnf)
  (repeat' ((first | refine ord_ok (by (conv => whnf); (repeat' ((first | refine call_eqb tab rfl hp rfl ?_ | refine ify ?_ | refine ifn ?_ | refine i6 ?_ | refine ati ?_ | refine mst ?_ | refine rmd ?_ | refine ibo (fun _ => ?_) (fun _ => ?_)) <;> conv => whnf)); (all_goals (repeat' (first | exact trivial | exact rfl | refine And.intro ?_ ?_)))) ?_ | refine call_eqb tab rfl hp rfl ?_ | refine ify ?_ | refine ifn ?_ | refine i6 ?_ | refine ati ?_ | refine mst ?_ | refine rmd ?_ | refine ibo (fun _ => ?_) (fun _ => ?_)) <;> conv => whnf))
  exact rfl
end
end Go.Proofs.YtaadeobcnamgdaaGreatDoor
end
