/- Merged: Pmk. -/
import Derived.Test.YteigfapjiekdnaaGreatDoorKeaf
import Derived.Test.YteigfapjiekdnaaGreatDoorKeax
import Derived.Test.YteigfapjiekdnaaGreatDoorKeap
section
/- pat: Make of one edge. quick: labels, Vert. -/
namespace Go.Gr
/-- pairs of places, the greater first, of which f is told -/
def colF (f : Nat → Nat → Bool) (i k : Nat) : List Edg := ((List.range k).filter fun x => f x i).map fun x : Nat => ⟨(x : Int), (i : Int)⟩
def colsF (f : Nat → Nat → Bool) (n : Nat) : List Edg := (List.range n).flatMap fun i => colF f i i
theorem colF_step (f : Nat → Nat → Bool) (i k : Nat) : colF f i (k + 1) = colF f i k ++ if f k i then [⟨(k : Int), (i : Int)⟩] else [] := by
  unfold colF
  rw [List.range_succ, List.filter_append, List.map_append]
  congr 1
  by_cases hf : f k i <;> simp [hf]
theorem colsF_step (f : Nat → Nat → Bool) (n : Nat) : colsF f (n + 1) = colsF f n ++ colF f n n := by simp [colsF, List.range_succ]
theorem colF_len (f : Nat → Nat → Bool) (i k : Nat) : (colF f i k).length ≤ k := by
  unfold colF
  rw [List.length_map]
  exact Nat.le_trans (List.length_filter_le _ _) (by simp)
theorem colsF_len (f : Nat → Nat → Bool) : ∀ n, (colsF f n).length ≤ n * n
  | 0 => by simp [colsF]
  | n + 1 => by
    have h1 := colsF_len f n
    have h2 := colF_len f n n
    rw [colsF_step, List.length_append, Nat.mul_add, Nat.add_mul]; omega
/-- are two of a list's vertices beside each other? -/
def adjF (E : List Edg) (l : List Int) (k i : Nat) : Bool := decide (turn ⟨(l[k]?).getD 0, (l[i]?).getD 0⟩ ∈ E)
end Go.Gr
namespace Go.Proofs.YteigfapjiekdnaaGreatDoor
open Go.Sx Go.RowKit Go.Reg Go.Gr

set_option maxRecDepth 100000
def listS : ByteArray := ⟨#[108, 105, 115, 116]⟩
def dP0 : Da := .agg [.nils, .nils]
def pl_sin0 : List (Nat × Plan) := [(11, .leaf [0, 0, 0, 0, 0, 0, 0, 0, 3] [0, 1, 2, 3, 4, 5, 6, 7, 8] [0, 0, 0, 6, 15, 0, 0, 96, 255]),
  (15, .leaf [0, 0, 0, 0, 0, 0, 0, 0, 3] [0, 1, 2, 3, 4, 5, 6, 7, 8] [0, 0, 0, 6, 15, 0, 0, 96, 255])]
def G_sin0 : List FuncId := []
theorem cok_sin0 : codeOk Tryz.prog G_sin0 pl_sin0 (Tryz.f139.body.getD .skip) = true := by kernel_rfl
theorem run_sin0 (vs : Array Value) (w : World) : (callFunc 139 vs).run C1.P w = .ok (.enter 139 vs) w := by kernel_rfl
theorem insert0_pure (e : Edg) : Pure C1 139 [.nils, .int .i64 0, .list 2 [dE e]] (fun y => y = .list 2 [dE e]) := by
  have hlen : ([dE e] : List Da).length = 1 := rfl
  refine pure_of c1_ok (pl := pl_sin0) (G := G_sin0) Tryz.func139 rfl Tryz.ntmps139 run_sin0 cok_sin0 (by simp) ?_
  ((conv => whnf); repeat' ((first | refine odw ?_ | refine ify ?_ | refine ifn ?_ | refine i6 ?_ | refine ati ?_ | refine mst ?_ | refine rmd ?_ | refine ibo (fun _ => ?_) (fun _ => ?_)) <;> conv => whnf))
  refine ⟨rfl, ?_⟩
  ((conv => whnf); repeat' ((first | refine odw ?_ | refine ify ?_ | refine ifn ?_ | refine i6 ?_ | refine ati ?_ | refine mst ?_ | refine rmd ?_ | refine ibo (fun _ => ?_) (fun _ => ?_)) <;> conv => whnf))
  exact rfl
def pl_pmk : List (Nat × Plan) := [(8, .leaf [0, 1, 1, 2, 2, 0, 0, 0, 0, 0] [0, 1, 2, 3, 4, 5, 6, 7, 8, 9] [0, 1, 0, 4, 15, 31, 63, 63, 127, 511]),
  (13, .leaf [0, 1, 0, 1, 2, 6, 2, 0, 3] [0, 2, 1, 3, 4, 5, 6, 7, 8] [0, 1, 0, 0, 8, 24, 63, 127, 255])]
def G_pmk : List FuncId := [69, 138, 73, 139]
theorem cok_pmk : codeOk Tryz.prog G_pmk pl_pmk (Tryz.f96.body.getD .skip) = true := by kernel_rfl
theorem run_pmk (vs : Array Value) (w : World) : (callFunc 96 vs).run C1.P w = .ok (.enter 96 vs) w := by kernel_rfl
set_option maxHeartbeats 4000000 in
theorem pmake1_pure (l : List Int) (hl : lErr l = none) (e : Edg) (h1 : 0 ≤ e.a) (h2 : e.a < e.b) (h3 : e.b < l.length) : Pure C1 96 [dIs l, .list 2 [dE e]] (fun y => y = .tuple [dPt ⟨l, [e]⟩, .nili]) := by
  have hdl : (l.map dI).length = l.length := List.length_map _
  have h8 := (lErr_none hl).1
  have hlb := plabels_pure l (by omega)
  rw [show labelsY l = .nili by unfold labelsY; rw [hl]] at hlb
  have hte : turn e = e := turn_lt (by omega)
  have htu := pturned_pure e
  rw [hte] at htu
  have hbs : Pure C1 138 [.nils, dE e, .func (.func 74) [] []] (fun y => y = .tuple [.int .i64 0, .bool false]) := Sx.Pure.lax (.cons (.nils 2) (.cons (.refl _) (.cons (.refl _) .nil))) (bsearchO_pure _ porder_pure [] List.Pairwise.nil (by simp) e)
  have hwi := within_pure e l.length
  rw [decide_eq_true (by omega), ← hdl] at hwi
  have hin := insert0_pure e
  have hed : ([dE e] : List Da)[0]? = some (.agg [.int .i64 e.a, .int .i64 e.b]) := rfl
  refine pure_of c1_ok (pl := pl_pmk) (G := G_pmk) Tryz.func96 rfl Tryz.ntmps96 run_pmk cok_pmk (by simp) ?_
  (conv => whnf)
  (repeat' ((first | refine ord_ok (by (conv => whnf); (repeat' ((first | refine call_eq rfl hlb ?_ | refine ify ?_ | refine ifn ?_ | refine i6 ?_ | refine ati ?_ | refine mst ?_ | refine rmd ?_ | refine ibo (fun _ => ?_) (fun _ => ?_)) <;> conv => whnf)); (all_goals (repeat' (first | exact trivial | exact rfl | refine And.intro ?_ ?_)))) ?_ | refine call_eq rfl hlb ?_ | refine ify ?_ | refine ifn ?_ | refine i6 ?_ | refine ati ?_ | refine mst ?_ | refine rmd ?_ | refine ibo (fun _ => ?_) (fun _ => ?_)) <;> conv => whnf))
  refine call_mksl 19 rfl rfl (clone_sl l (by omega)) ?_
  rintro ds rfl
  ((conv => whnf); repeat' ((first | refine odw ?_ | refine ify ?_ | refine ifn ?_ | refine i6 ?_ | refine ati ?_ | refine mst ?_ | refine rmd ?_ | refine ibo (fun _ => ?_) (fun _ => ?_)) <;> conv => whnf))
  refine loop_lo (ι := Bool) (fun _ => True) (fun b => [(23, .d (.int .i64 (if b then 1 else 0))), (22, .d (.int .i64 1)), (21, .d (.list 2 [dE e])), (7, .own 7), (4, .own 4), (0, .d (dIs l))]) (fun b => [(4, .cells 38 [.d .nils, .d .nils]), (7, .cells 38 [.d (dIs l), .d (if b then .list 2 [dE e] else .nils)])]) (fun b => if b then 0 else 1) false (fun b => by cases b <;> rfl) trivial (.frz 19 rfl (.refl _ _)) ⟨rfl, rfl, rfl, rfl, rfl, rfl, trivial⟩ ⟨rfl, rfl, trivial⟩ ?_
  intro b _
  cases b with
  | false =>
    show CodeSem C1 _ _ _ [(23, .d (.int .i64 0)), (22, .d (.int .i64 1)), (21, .d (.list 2 [dE e])), (7, .own 7), (4, .own 4), (0, .d (dIs l))] [(4, .cells 38 [.d .nils, .d .nils]), (7, .cells 38 [.d (dIs l), .d .nils])]
    refine sxCode_sound c1_ok (G := G_pmk) (pl := pl_pmk) _ _ _ _ (by kernel_rfl) ?_
    (conv => whnf)
    (repeat' ((first | refine ord_ok (by (conv => whnf); (repeat' ((first | refine at_da hed rfl ?_ | refine call_eq rfl htu ?_ | refine call_eq rfl hbs ?_ | refine call_eq rfl hwi ?_ | refine call_frz 62 rfl ?_ | refine call_eq rfl hin ?_ | refine ify ?_ | refine ifn ?_ | refine i6 ?_ | refine ati ?_ | refine mst ?_ | refine rmd ?_ | refine ibo (fun _ => ?_) (fun _ => ?_)) <;> conv => whnf)); (all_goals (repeat' (first | exact trivial | exact rfl | refine And.intro ?_ ?_)))) ?_ | refine at_da hed rfl ?_ | refine call_eq rfl htu ?_ | refine call_eq rfl hbs ?_ | refine call_eq rfl hwi ?_ | refine call_frz 62 rfl ?_ | refine call_eq rfl hin ?_ | refine ify ?_ | refine ifn ?_ | refine i6 ?_ | refine ati ?_ | refine mst ?_ | refine rmd ?_ | refine ibo (fun _ => ?_) (fun _ => ?_)) <;> conv => whnf))
    exact ⟨true, _, _, trivial, .refl _ _, ⟨rfl, rfl, rfl, rfl, rfl, rfl, trivial⟩, ⟨rfl, rfl, trivial⟩, Nat.zero_lt_one⟩
  | true =>
    show CodeSem C1 _ _ _ [(23, .d (.int .i64 1)), (22, .d (.int .i64 1)), (21, .d (.list 2 [dE e])), (7, .own 7), (4, .own 4), (0, .d (dIs l))] [(4, .cells 38 [.d .nils, .d .nils]), (7, .cells 38 [.d (dIs l), .d (.list 2 [dE e])])]
    refine sxCode_sound c1_ok (G := G_pmk) (pl := pl_pmk) _ _ _ _ (by kernel_rfl) ?_
    ((conv => whnf); repeat' ((first | refine odw ?_ | refine ify ?_ | refine ifn ?_ | refine i6 ?_ | refine ati ?_ | refine mst ?_ | refine rmd ?_ | refine ibo (fun _ => ?_) (fun _ => ?_)) <;> conv => whnf))
    exact rfl
def pl_qlb : List (Nat × Plan) := []
def G_qlb : List FuncId := [13]
theorem cok_qlb : codeOk Tryz.prog G_qlb pl_qlb (Tryz.f97.body.getD .skip) = true := by kernel_rfl
theorem run_qlb (vs : Array Value) (w : World) : (callFunc 97 vs).run C1.P w = .ok (.enter 97 vs) w := by kernel_rfl
theorem qlabels_pure (G : Gr) (l : List Int) (hl : l.length ≤ 100000) : Pure C1 97 [dG G, dIs l] (fun y => y = dIs (l.map (labelV G))) := by
  have hdl : (l.map dI).length = l.length := List.length_map _
  refine pure_of c1_ok (pl := pl_qlb) (G := G_qlb) Tryz.func97 rfl Tryz.ntmps97 run_qlb cok_qlb (by simp) ?_
  ((conv => whnf); repeat' ((first | refine odw ?_ | refine ify ?_ | refine ifn ?_ | refine i6 ?_ | refine ati ?_ | refine mst ?_ | refine rmd ?_ | refine ibo (fun _ => ?_) (fun _ => ?_)) <;> conv => whnf))
  refine loop_lo (ι := Nat) (fun i => i ≤ l.length) (fun i => [(10, .d (.int .i64 i)), (9, .d (.int .i64 l.length)), (8, .d (dIs l)), (5, .own 300), (0, .d (dG G))]) (fun i => [(300, .slice 3 1 (((l.take i).map (labelV G)).map dI))]) (fun i => l.length - i) 0 (fun _ => rfl) (Nat.zero_le _) (.own 5 300 3 1 rfl rfl (.refl _ _)) ⟨rfl, by rw [← hdl]; rfl, rfl, rfl, rfl, trivial⟩ ⟨rfl, trivial⟩ ?_
  intro i hi
  refine sxCode_sound c1_ok (G := G_qlb) (pl := pl_qlb) _ _ _ _ (by kernel_rfl) ?_
  by_cases hil : i < l.length
  · have hx := List.getElem?_eq_getElem hil
    generalize l[i] = x at hx
    have hxd : (l.map dI)[i]? = some (.int .i64 x) := by rw [List.getElem?_map, hx]; rfl
    have hlb := label_pure G x
    have hll : (((l.take i).map (labelV G)).map dI).length = i := by simp only [List.length_map, List.length_take]; omega
    (conv => whnf)
    (repeat' ((first | refine ord_ok (by (conv => whnf); (repeat' ((first | refine at_da hxd rfl ?_ | refine call_eqb tab rfl hlb rfl ?_ | refine ify ?_ | refine ifn ?_ | refine i6 ?_ | refine ati ?_ | refine mst ?_ | refine rmd ?_ | refine ibo (fun _ => ?_) (fun _ => ?_)) <;> conv => whnf)); (all_goals (repeat' (first | exact trivial | exact rfl | refine And.intro ?_ ?_)))) ?_ | refine at_da hxd rfl ?_ | refine call_eqb tab rfl hlb rfl ?_ | refine ify ?_ | refine ifn ?_ | refine i6 ?_ | refine ati ?_ | refine mst ?_ | refine rmd ?_ | refine ibo (fun _ => ?_) (fun _ => ?_)) <;> conv => whnf))
    refine ⟨i + 1, _, _, by omega, .refl _ _, ⟨rfl, rfl, rfl, rfl, rfl, trivial⟩, ⟨slice_is ?_, trivial⟩, by omega⟩
    rw [List.take_add_one, hx]; simp [dI]
  · have e : l.take i = l := List.take_of_length_le (by omega)
    rw [e]
    ((conv => whnf); repeat' ((first | refine odw ?_ | refine ify ?_ | refine ifn ?_ | refine i6 ?_ | refine ati ?_ | refine mst ?_ | refine rmd ?_ | refine ibo (fun _ => ?_) (fun _ => ?_)) <;> conv => whnf))
    exact rfl
def pl_qvt : List (Nat × Plan) := []
def G_qvt : List FuncId := [94, 95, 97, 96]
theorem cok_qvt : codeOk Tryz.prog G_qvt pl_qvt (Tryz.f40.body.getD .skip) = true := by kernel_rfl
theorem run_qvt (vs : Array Value) (w : World) : (callFunc 40 vs).run C1.P w = .ok (.enter 40 vs) w := by kernel_rfl
set_option maxHeartbeats 4000000 in
theorem qvert_pure (G : Gr) (hG : G.Ok) (l : List Int) (q : Pt) (hmk : l.length ≤ 8 → linkedV G l = true → Pure C1 96 [dIs (l.map (labelV G)), dEs (colsF (adjF G.edges l) l.length)] (fun y => y = .tuple [dPt q, .nili])) (hm : l.length ≤ 9000000000000000000) :
    Pure C1 40 [dG G, dIs l] (fun y => y = if 8 < l.length then .tuple [dP0, dF 6 0 listS] else if linkedV G l = false then .tuple [dP0, dF 2 0 listS] else .tuple [dPt q, .nili]) := by
  have hdl : (l.map dI).length = l.length := List.length_map _
  have hlk := linked_pure G hG l
  refine pure_of c1_ok (pl := pl_qvt) (G := G_qvt) Tryz.func40 rfl Tryz.ntmps40 run_qvt cok_qvt (by simp) ?_
  by_cases h8 : 8 < l.length
  · rw [if_pos h8]
    (conv => whnf)
    (repeat' ((first | refine ord_ok (by (conv => whnf); (repeat' ((first | refine call_eq rfl (fnew_pure 6 0 listS) ?_ | refine ify ?_ | refine ifn ?_ | refine i6 ?_ | refine ati ?_ | refine mst ?_ | refine rmd ?_ | refine ibo (fun _ => ?_) (fun _ => ?_)) <;> conv => whnf)); (all_goals (repeat' (first | exact trivial | exact rfl | refine And.intro ?_ ?_)))) ?_ | refine call_eq rfl (fnew_pure 6 0 listS) ?_ | refine ify ?_ | refine ifn ?_ | refine i6 ?_ | refine ati ?_ | refine mst ?_ | refine rmd ?_ | refine ibo (fun _ => ?_) (fun _ => ?_)) <;> conv => whnf))
    exact rfl
  rw [if_neg h8]
  cases hl : linkedV G l with
  | false =>
    rw [hl] at hlk
    rw [if_pos rfl]
    (conv => whnf)
    (repeat' ((first | refine ord_ok (by (conv => whnf); (repeat' ((first | refine call_eq rfl hlk ?_ | refine call_eq rfl (fnew_pure 2 0 listS) ?_ | refine ify ?_ | refine ifn ?_ | refine i6 ?_ | refine ati ?_ | refine mst ?_ | refine rmd ?_ | refine ibo (fun _ => ?_) (fun _ => ?_)) <;> conv => whnf)); (all_goals (repeat' (first | exact trivial | exact rfl | refine And.intro ?_ ?_)))) ?_ | refine call_eq rfl hlk ?_ | refine call_eq rfl (fnew_pure 2 0 listS) ?_ | refine ify ?_ | refine ifn ?_ | refine i6 ?_ | refine ati ?_ | refine mst ?_ | refine rmd ?_ | refine ibo (fun _ => ?_) (fun _ => ?_)) <;> conv => whnf))
    exact rfl
  | true =>
    rw [hl] at hlk
    rw [if_neg (by decide)]
    have hmk := hmk (by omega) hl
    have hql := qlabels_pure G l (by omega)
    have hcl := colsF_len (adjF G.edges l)
    have hsq : l.length * l.length ≤ 8 * 8 := Nat.mul_le_mul (by omega) (by omega)
    (conv => whnf)
    (repeat' ((first | refine ord_ok (by (conv => whnf); (repeat' ((first | refine call_eq rfl hlk ?_ | refine ify ?_ | refine ifn ?_ | refine i6 ?_ | refine ati ?_ | refine mst ?_ | refine rmd ?_ | refine ibo (fun _ => ?_) (fun _ => ?_)) <;> conv => whnf)); (all_goals (repeat' (first | exact trivial | exact rfl | refine And.intro ?_ ?_)))) ?_ | refine call_eq rfl hlk ?_ | refine ify ?_ | refine ifn ?_ | refine i6 ?_ | refine ati ?_ | refine mst ?_ | refine rmd ?_ | refine ibo (fun _ => ?_) (fun _ => ?_)) <;> conv => whnf))
    refine loop_lo (ι := Nat) (fun i => i ≤ l.length) (fun i => [(26, .d (.int .i64 i)), (25, .d (.int .i64 l.length)), (24, .d (dIs l)), (6, .own 300), (4, .own 4), (1, .d (dIs l)), (0, .d (dG G))]) (fun i => [(4, .cells 38 [.d .nils, .d .nils]), (300, .slice 40 2 ((colsF (adjF G.edges l) i).map dE))]) (fun i => l.length - i) 0 (fun _ => rfl) (Nat.zero_le _) (.own 6 300 40 2 rfl rfl (.refl _ _)) ⟨rfl, by rw [← hdl]; rfl, rfl, rfl, rfl, rfl, rfl, trivial⟩ ⟨rfl, rfl, trivial⟩ ?_
    intro i hi
    refine sxCode_sound c1_ok (G := G_qvt) (pl := pl_qvt) _ _ _ _ (by kernel_rfl) ?_
    by_cases hil : i < l.length
    · have hx := List.getElem?_eq_getElem hil
      have hadj : ∀ k u, l[k]? = some u → adjF G.edges l k i = decide (turn ⟨u, l[i]⟩ ∈ G.edges) := fun k u hk => by unfold adjF; rw [hk, hx]; rfl
      generalize l[i] = x at hx hadj
      have hxd : (l.map dI)[i]? = some (.int .i64 x) := by rw [List.getElem?_map, hx]; rfl
      have hsub : (l.map dI).take i = (l.take i).map dI := by rw [List.map_take]
      have htl : ((l.map dI).take i).length = i := by rw [List.length_take]; omega
      have hci := hcl i
      have hii : i * i ≤ 8 * 8 := Nat.mul_le_mul (by omega) (by omega)
      (conv => whnf)
      (repeat' ((first | refine ord_ok (by (conv => whnf); (repeat' ((first | refine at_da hxd rfl ?_ | refine hi_is rfl (show i ≤ (l.map dI).length by omega) ?_ | refine ify ?_ | refine ifn ?_ | refine i6 ?_ | refine ati ?_ | refine mst ?_ | refine rmd ?_ | refine ibo (fun _ => ?_) (fun _ => ?_)) <;> conv => whnf)); (all_goals (repeat' (first | exact trivial | exact rfl | refine And.intro ?_ ?_)))) ?_ | refine at_da hxd rfl ?_ | refine hi_is rfl (show i ≤ (l.map dI).length by omega) ?_ | refine ify ?_ | refine ifn ?_ | refine i6 ?_ | refine ati ?_ | refine mst ?_ | refine rmd ?_ | refine ibo (fun _ => ?_) (fun _ => ?_)) <;> conv => whnf))
      refine loop_lo (ι := Nat) (fun k => k ≤ i) (fun k => [(35, .d (.int .i64 k)), (34, .d (.int .i64 i)), (33, .d (.list 1 ((l.map dI).take i))), (26, .d (.int .i64 i)), (25, .d (.int .i64 l.length)), (24, .d (dIs l)), (8, .d (.int .i64 x)), (7, .d (.int .i64 i)), (6, .own 300), (4, .own 4), (1, .d (dIs l)), (0, .d (dG G))]) (fun k => [(4, .cells 38 [.d .nils, .d .nils]), (300, .slice 40 2 ((colsF (adjF G.edges l) i ++ colF (adjF G.edges l) i k).map dE))]) (fun k => i - k) 0 (fun _ => rfl) (Nat.zero_le _) (.refl _ _) ⟨rfl, int_is (by rw [htl]), rfl, rfl, rfl, rfl, rfl, rfl, rfl, rfl, rfl, rfl, trivial⟩ ⟨rfl, by rw [show colF (adjF G.edges l) i 0 = [] from rfl, List.append_nil]; rfl, trivial⟩ ?_
      intro k hk
      refine sxCode_sound c1_ok (G := G_qvt) (pl := pl_qvt) _ _ _ _ (by kernel_rfl) ?_
      by_cases hki : k < i
      · have hy := List.getElem?_eq_getElem (l := l) (i := k) (by omega)
        generalize l[k]'(by omega) = u at hy
        have hyd : ((l.map dI).take i)[k]? = some (.int .i64 u) := by rw [List.getElem?_take, if_pos hki, List.getElem?_map, hy]; rfl
        have hh := hasE_pure G hG u x
        have hst := colF_step (adjF G.edges l) i k
        rw [hadj k u hy] at hst
        have hkl := colF_len (adjF G.edges l) i k
        have hol : ((colsF (adjF G.edges l) i ++ colF (adjF G.edges l) i k).map dE).length ≤ 1000 := by rw [List.length_map, List.length_append]; omega
        by_cases hd : turn ⟨u, x⟩ ∈ G.edges
        · rw [decide_eq_true hd] at hh hst
          rw [if_pos rfl] at hst
          (conv => whnf)
          (repeat' ((first | refine ord_ok (by (conv => whnf); (repeat' ((first | refine at_da hyd rfl ?_ | refine call_eqb tab rfl hh rfl ?_ | refine ify ?_ | refine ifn ?_ | refine i6 ?_ | refine ati ?_ | refine mst ?_ | refine rmd ?_ | refine ibo (fun _ => ?_) (fun _ => ?_)) <;> conv => whnf)); (all_goals (repeat' (first | exact trivial | exact rfl | refine And.intro ?_ ?_)))) ?_ | refine at_da hyd rfl ?_ | refine call_eqb tab rfl hh rfl ?_ | refine ify ?_ | refine ifn ?_ | refine i6 ?_ | refine ati ?_ | refine mst ?_ | refine rmd ?_ | refine ibo (fun _ => ?_) (fun _ => ?_)) <;> conv => whnf))
          refine ⟨k + 1, _, _, by omega, .refl _ _, ⟨rfl, rfl, rfl, rfl, rfl, rfl, rfl, rfl, rfl, rfl, rfl, rfl, trivial⟩, ⟨rfl, slice_is ?_, trivial⟩, by omega⟩
          rw [hst]; simp [dE]
        · rw [decide_eq_false hd] at hh hst
          rw [if_neg (by decide), List.append_nil] at hst
          (conv => whnf)
          (repeat' ((first | refine ord_ok (by (conv => whnf); (repeat' ((first | refine at_da hyd rfl ?_ | refine call_eqb tab rfl hh rfl ?_ | refine ify ?_ | refine ifn ?_ | refine i6 ?_ | refine ati ?_ | refine mst ?_ | refine rmd ?_ | refine ibo (fun _ => ?_) (fun _ => ?_)) <;> conv => whnf)); (all_goals (repeat' (first | exact trivial | exact rfl | refine And.intro ?_ ?_)))) ?_ | refine at_da hyd rfl ?_ | refine call_eqb tab rfl hh rfl ?_ | refine ify ?_ | refine ifn ?_ | refine i6 ?_ | refine ati ?_ | refine mst ?_ | refine rmd ?_ | refine ibo (fun _ => ?_) (fun _ => ?_)) <;> conv => whnf))
          exact ⟨k + 1, _, _, by omega, .refl _ _, ⟨rfl, rfl, rfl, rfl, rfl, rfl, rfl, rfl, rfl, rfl, rfl, rfl, trivial⟩, ⟨rfl, slice_is (by rw [hst]), trivial⟩, by omega⟩
      · have hke : k = i := by omega
        subst hke
        ((conv => whnf); repeat' ((first | refine odw ?_ | refine ify ?_ | refine ifn ?_ | refine i6 ?_ | refine ati ?_ | refine mst ?_ | refine rmd ?_ | refine ibo (fun _ => ?_) (fun _ => ?_)) <;> conv => whnf))
        exact ⟨k + 1, _, _, by omega, .refl _ _, ⟨rfl, rfl, rfl, rfl, rfl, rfl, rfl, trivial⟩, ⟨rfl, slice_is (by rw [colsF_step]), trivial⟩, by omega⟩
    · have hie : i = l.length := by omega
      subst hie
      (conv => whnf)
      (repeat' ((first | refine ord_ok (by (conv => whnf); (repeat' ((first | refine call_frz 300 rfl ?_ | refine call_eq rfl hql ?_ | refine call_eq rfl hmk ?_ | refine ify ?_ | refine ifn ?_ | refine i6 ?_ | refine ati ?_ | refine mst ?_ | refine rmd ?_ | refine ibo (fun _ => ?_) (fun _ => ?_)) <;> conv => whnf)); (all_goals (repeat' (first | exact trivial | exact rfl | refine And.intro ?_ ?_)))) ?_ | refine call_frz 300 rfl ?_ | refine call_eq rfl hql ?_ | refine call_eq rfl hmk ?_ | refine ify ?_ | refine ifn ?_ | refine i6 ?_ | refine ati ?_ | refine mst ?_ | refine rmd ?_ | refine ibo (fun _ => ?_) (fun _ => ?_)) <;> conv => whnf))
      exact rfl
end Go.Proofs.YteigfapjiekdnaaGreatDoor
end
