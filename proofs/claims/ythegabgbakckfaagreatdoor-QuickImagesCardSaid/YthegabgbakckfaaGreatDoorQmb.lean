/- Merged: Pmk Ptx Qdx Qii Qij. -/
import Derived.Test.YthegabgbakckfaaGreatDoorQma
import Derived.Test.YthegabgbakckfaaGreatDoorVla
import Derived.Test.YthegabgbakckfaaGreatDoorLst
import Derived.Test.YthegabgbakckfaaGreatDoorGvr
import Derived.Lib.Join
import Derived.Test.YthegabgbakckfaaGreatDoorArg
import Derived.Test.YthegabgbakckfaaGreatDoorCards
import Derived.Test.YthegabgbakckfaaGreatDoorTie
import Derived.WalkKit
import Derived.ProofKit
import Derived.OpenShut
import Derived.ChangeMaps5
import Derived.ChangeSame
import Derived.SizedLaws
import Derived.Deep.DeepHandedRow
import Derived.Lib.LaidTab
import Derived.LaidHandle
import Derived.Carry
import Derived.Stop.LaidErr
import Derived.Test.YthegabgbakckfaaGreatDoorFsu
section
/- pat: Make of one edge. quick: labels, Vert. -/
namespace Go.Gr
/-- pairs of places, the greater first, of which f is told -/
def colF (f : Nat → Nat → Bool) (i k : Nat) : List Edg := ((List.range k).filter fun x => f x i).map fun x : Nat => ⟨(x : Int), (i : Int)⟩
def colsF (f : Nat → Nat → Bool) (n : Nat) : List Edg := (List.range n).flatMap fun i => colF f i i
theorem colF_step (f : Nat → Nat → Bool) (i k : Nat) : colF f i (k + 1) = colF f i k ++ if f k i then [⟨(k : Int), (i : Int)⟩] else [] := by
  unfold colF
  rw [List.range_succ, List.filter_append, List.map_append]
  congr 1
  by_cases hf : f k i <;> simp [hf]
theorem colsF_step (f : Nat → Nat → Bool) (n : Nat) : colsF f (n + 1) = colsF f n ++ colF f n n := by simp [colsF, List.range_succ]
theorem colF_len (f : Nat → Nat → Bool) (i k : Nat) : (colF f i k).length ≤ k := by
  unfold colF
  rw [List.length_map]
  exact Nat.le_trans (List.length_filter_le _ _) (by simp)
theorem colsF_len (f : Nat → Nat → Bool) : ∀ n, (colsF f n).length ≤ n * n
  | 0 => by simp [colsF]
  | n + 1 => by
    have h1 := colsF_len f n
    have h2 := colF_len f n n
    rw [colsF_step, List.length_append, Nat.mul_add, Nat.add_mul]; omega
/-- are two of a list's vertices beside each other? -/
def adjF (E : List Edg) (l : List Int) (k i : Nat) : Bool := decide (turn ⟨(l[k]?).getD 0, (l[i]?).getD 0⟩ ∈ E)
end Go.Gr
namespace Go.Proofs.YthegabgbakckfaaGreatDoor
open Go.Sx Go.RowKit Go.Reg Go.Gr

set_option maxRecDepth 100000
def listS : ByteArray := ⟨#[108, 105, 115, 116]⟩
def dP0 : Da := .agg [.nils, .nils]
def pl_sin0 : List (Nat × Plan) := [(11, .leaf [0, 0, 0, 0, 0, 0, 0, 0, 3] [0, 1, 2, 3, 4, 5, 6, 7, 8] [0, 0, 0, 6, 15, 0, 0, 96, 255]),
  (15, .leaf [0, 0, 0, 0, 0, 0, 0, 0, 3] [0, 1, 2, 3, 4, 5, 6, 7, 8] [0, 0, 0, 6, 15, 0, 0, 96, 255])]
def G_sin0 : List FuncId := []
theorem cok_sin0 : codeOk Tryz.prog G_sin0 pl_sin0 (Tryz.f140.body.getD .skip) = true := by kernel_rfl
theorem run_sin0 (vs : Array Value) (w : World) : (callFunc 140 vs).run C1.P w = .ok (.enter 140 vs) w := by kernel_rfl
theorem insert0_pure (e : Edg) : Pure C1 140 [.nils, .int .i64 0, .list 2 [dE e]] (fun y => y = .list 2 [dE e]) := by
  have hlen : ([dE e] : List Da).length = 1 := rfl
  refine pure_of c1_ok (pl := pl_sin0) (G := G_sin0) Tryz.func140 rfl Tryz.ntmps140 run_sin0 cok_sin0 (by simp) ?_
  ((conv => whnf); repeat' ((first | refine odw ?_ | refine ify ?_ | refine ifn ?_ | refine i6 ?_ | refine ati ?_ | refine mst ?_ | refine rmd ?_ | refine ibo (fun _ => ?_) (fun _ => ?_)) <;> conv => whnf))
  refine ⟨rfl, ?_⟩
  ((conv => whnf); repeat' ((first | refine odw ?_ | refine ify ?_ | refine ifn ?_ | refine i6 ?_ | refine ati ?_ | refine mst ?_ | refine rmd ?_ | refine ibo (fun _ => ?_) (fun _ => ?_)) <;> conv => whnf))
  exact rfl
def pl_pmk : List (Nat × Plan) := [(8, .leaf [0, 1, 1, 2, 2, 0, 0, 0, 0, 0] [0, 1, 2, 3, 4, 5, 6, 7, 8, 9] [0, 1, 0, 4, 15, 31, 63, 63, 127, 511]),
  (13, .leaf [0, 1, 0, 1, 2, 6, 2, 0, 3] [0, 2, 1, 3, 4, 5, 6, 7, 8] [0, 1, 0, 0, 8, 24, 63, 127, 255])]
def G_pmk : List FuncId := [74, 139, 108, 140]
theorem cok_pmk : codeOk Tryz.prog G_pmk pl_pmk (Tryz.f84.body.getD .skip) = true := by kernel_rfl
theorem run_pmk (vs : Array Value) (w : World) : (callFunc 84 vs).run C1.P w = .ok (.enter 84 vs) w := by kernel_rfl
set_option maxHeartbeats 4000000 in
theorem pmake1_pure (l : List Int) (hl : lErr l = none) (e : Edg) (h1 : 0 ≤ e.a) (h2 : e.a < e.b) (h3 : e.b < l.length) : Pure C1 84 [dIs l, .list 2 [dE e]] (fun y => y = .tuple [dPt ⟨l, [e]⟩, .nili]) := by
  have hdl : (l.map dI).length = l.length := List.length_map _
  have h8 := (lErr_none hl).1
  have hlb := plabels_pure l (by omega)
  rw [show labelsY l = .nili by unfold labelsY; rw [hl]] at hlb
  have hte : turn e = e := turn_lt (by omega)
  have htu := pturned_pure e
  rw [hte] at htu
  have hbs : Pure C1 139 [.nils, dE e, .func (.func 76) [] []] (fun y => y = .tuple [.int .i64 0, .bool false]) := Sx.Pure.lax (.cons (.nils 2) (.cons (.refl _) (.cons (.refl _) .nil))) (bsearchO_pure _ porder_pure [] List.Pairwise.nil (by simp) e)
  have hwi := within_pure e l.length
  rw [decide_eq_true (by omega), ← hdl] at hwi
  have hin := insert0_pure e
  have hed : ([dE e] : List Da)[0]? = some (.agg [.int .i64 e.a, .int .i64 e.b]) := rfl
  refine pure_of c1_ok (pl := pl_pmk) (G := G_pmk) Tryz.func84 rfl Tryz.ntmps84 run_pmk cok_pmk (by simp) ?_
  (conv => whnf)
  (repeat' ((first | refine ord_ok (by (conv => whnf); (repeat' ((first | refine call_eq rfl hlb ?_ | refine ify ?_ | refine ifn ?_ | refine i6 ?_ | refine ati ?_ | refine mst ?_ | refine rmd ?_ | refine ibo (fun _ => ?_) (fun _ => ?_)) <;> conv => whnf)); (all_goals (repeat' (first | exact trivial | exact rfl | refine And.intro ?_ ?_)))) ?_ | refine call_eq rfl hlb ?_ | refine ify ?_ | refine ifn ?_ | refine i6 ?_ | refine ati ?_ | refine mst ?_ | refine rmd ?_ | refine ibo (fun _ => ?_) (fun _ => ?_)) <;> conv => whnf))
  refine call_mksl 19 rfl rfl (clone_sl l (by omega)) ?_
  rintro ds rfl
  ((conv => whnf); repeat' ((first | refine odw ?_ | refine ify ?_ | refine ifn ?_ | refine i6 ?_ | refine ati ?_ | refine mst ?_ | refine rmd ?_ | refine ibo (fun _ => ?_) (fun _ => ?_)) <;> conv => whnf))
  refine loop_lo (ι := Bool) (fun _ => True) (fun b => [(23, .d (.int .i64 (if b then 1 else 0))), (22, .d (.int .i64 1)), (21, .d (.list 2 [dE e])), (7, .own 7), (4, .own 4), (0, .d (dIs l))]) (fun b => [(4, .cells 35 [.d .nils, .d .nils]), (7, .cells 35 [.d (dIs l), .d (if b then .list 2 [dE e] else .nils)])]) (fun b => if b then 0 else 1) false (fun b => by cases b <;> rfl) trivial (.frz 19 rfl (.refl _ _)) ⟨rfl, rfl, rfl, rfl, rfl, rfl, trivial⟩ ⟨rfl, rfl, trivial⟩ ?_
  intro b _
  cases b with
  | false =>
    show CodeSem C1 _ _ _ [(23, .d (.int .i64 0)), (22, .d (.int .i64 1)), (21, .d (.list 2 [dE e])), (7, .own 7), (4, .own 4), (0, .d (dIs l))] [(4, .cells 35 [.d .nils, .d .nils]), (7, .cells 35 [.d (dIs l), .d .nils])]
    refine sxCode_sound c1_ok (G := G_pmk) (pl := pl_pmk) _ _ _ _ (by kernel_rfl) ?_
    (conv => whnf)
    (repeat' ((first | refine ord_ok (by (conv => whnf); (repeat' ((first | refine at_da hed rfl ?_ | refine call_eq rfl htu ?_ | refine call_eq rfl hbs ?_ | refine call_eq rfl hwi ?_ | refine call_frz 62 rfl ?_ | refine call_eq rfl hin ?_ | refine ify ?_ | refine ifn ?_ | refine i6 ?_ | refine ati ?_ | refine mst ?_ | refine rmd ?_ | refine ibo (fun _ => ?_) (fun _ => ?_)) <;> conv => whnf)); (all_goals (repeat' (first | exact trivial | exact rfl | refine And.intro ?_ ?_)))) ?_ | refine at_da hed rfl ?_ | refine call_eq rfl htu ?_ | refine call_eq rfl hbs ?_ | refine call_eq rfl hwi ?_ | refine call_frz 62 rfl ?_ | refine call_eq rfl hin ?_ | refine ify ?_ | refine ifn ?_ | refine i6 ?_ | refine ati ?_ | refine mst ?_ | refine rmd ?_ | refine ibo (fun _ => ?_) (fun _ => ?_)) <;> conv => whnf))
    exact ⟨true, _, _, trivial, .refl _ _, ⟨rfl, rfl, rfl, rfl, rfl, rfl, trivial⟩, ⟨rfl, rfl, trivial⟩, Nat.zero_lt_one⟩
  | true =>
    show CodeSem C1 _ _ _ [(23, .d (.int .i64 1)), (22, .d (.int .i64 1)), (21, .d (.list 2 [dE e])), (7, .own 7), (4, .own 4), (0, .d (dIs l))] [(4, .cells 35 [.d .nils, .d .nils]), (7, .cells 35 [.d (dIs l), .d (.list 2 [dE e])])]
    refine sxCode_sound c1_ok (G := G_pmk) (pl := pl_pmk) _ _ _ _ (by kernel_rfl) ?_
    ((conv => whnf); repeat' ((first | refine odw ?_ | refine ify ?_ | refine ifn ?_ | refine i6 ?_ | refine ati ?_ | refine mst ?_ | refine rmd ?_ | refine ibo (fun _ => ?_) (fun _ => ?_)) <;> conv => whnf))
    exact rfl
def pl_qlb : List (Nat × Plan) := []
def G_qlb : List FuncId := [51]
theorem cok_qlb : codeOk Tryz.prog G_qlb pl_qlb (Tryz.f85.body.getD .skip) = true := by kernel_rfl
theorem run_qlb (vs : Array Value) (w : World) : (callFunc 85 vs).run C1.P w = .ok (.enter 85 vs) w := by kernel_rfl
theorem qlabels_pure (G : Gr) (l : List Int) (hl : l.length ≤ 100000) : Pure C1 85 [dG G, dIs l] (fun y => y = dIs (l.map (labelV G))) := by
  have hdl : (l.map dI).length = l.length := List.length_map _
  refine pure_of c1_ok (pl := pl_qlb) (G := G_qlb) Tryz.func85 rfl Tryz.ntmps85 run_qlb cok_qlb (by simp) ?_
  ((conv => whnf); repeat' ((first | refine odw ?_ | refine ify ?_ | refine ifn ?_ | refine i6 ?_ | refine ati ?_ | refine mst ?_ | refine rmd ?_ | refine ibo (fun _ => ?_) (fun _ => ?_)) <;> conv => whnf))
  refine loop_lo (ι := Nat) (fun i => i ≤ l.length) (fun i => [(10, .d (.int .i64 i)), (9, .d (.int .i64 l.length)), (8, .d (dIs l)), (5, .own 300), (0, .d (dG G))]) (fun i => [(300, .slice 3 1 (((l.take i).map (labelV G)).map dI))]) (fun i => l.length - i) 0 (fun _ => rfl) (Nat.zero_le _) (.own 5 300 3 1 rfl rfl (.refl _ _)) ⟨rfl, by rw [← hdl]; rfl, rfl, rfl, rfl, trivial⟩ ⟨rfl, trivial⟩ ?_
  intro i hi
  refine sxCode_sound c1_ok (G := G_qlb) (pl := pl_qlb) _ _ _ _ (by kernel_rfl) ?_
  by_cases hil : i < l.length
  · have hx := List.getElem?_eq_getElem hil
    generalize l[i] = x at hx
    have hxd : (l.map dI)[i]? = some (.int .i64 x) := by rw [List.getElem?_map, hx]; rfl
    have hlb := label_pure G x
    have hll : (((l.take i).map (labelV G)).map dI).length = i := by simp only [List.length_map, List.length_take]; omega
    (conv => whnf)
    (repeat' ((first | refine ord_ok (by (conv => whnf); (repeat' ((first | refine at_da hxd rfl ?_ | refine call_eqb tab rfl hlb rfl ?_ | refine ify ?_ | refine ifn ?_ | refine i6 ?_ | refine ati ?_ | refine mst ?_ | refine rmd ?_ | refine ibo (fun _ => ?_) (fun _ => ?_)) <;> conv => whnf)); (all_goals (repeat' (first | exact trivial | exact rfl | refine And.intro ?_ ?_)))) ?_ | refine at_da hxd rfl ?_ | refine call_eqb tab rfl hlb rfl ?_ | refine ify ?_ | refine ifn ?_ | refine i6 ?_ | refine ati ?_ | refine mst ?_ | refine rmd ?_ | refine ibo (fun _ => ?_) (fun _ => ?_)) <;> conv => whnf))
    refine ⟨i + 1, _, _, by omega, .refl _ _, ⟨rfl, rfl, rfl, rfl, rfl, trivial⟩, ⟨slice_is ?_, trivial⟩, by omega⟩
    rw [List.take_add_one, hx]; simp [dI]
  · have e : l.take i = l := List.take_of_length_le (by omega)
    rw [e]
    ((conv => whnf); repeat' ((first | refine odw ?_ | refine ify ?_ | refine ifn ?_ | refine i6 ?_ | refine ati ?_ | refine mst ?_ | refine rmd ?_ | refine ibo (fun _ => ?_) (fun _ => ?_)) <;> conv => whnf))
    exact rfl
def pl_qvt : List (Nat × Plan) := []
def G_qvt : List FuncId := [82, 83, 85, 84]
theorem cok_qvt : codeOk Tryz.prog G_qvt pl_qvt (Tryz.f29.body.getD .skip) = true := by kernel_rfl
theorem run_qvt (vs : Array Value) (w : World) : (callFunc 29 vs).run C1.P w = .ok (.enter 29 vs) w := by kernel_rfl
set_option maxHeartbeats 4000000 in
theorem qvert_pure (G : Gr) (hG : G.Ok) (l : List Int) (q : Pt) (hmk : l.length ≤ 8 → linkedV G l = true → Pure C1 84 [dIs (l.map (labelV G)), dEs (colsF (adjF G.edges l) l.length)] (fun y => y = .tuple [dPt q, .nili])) (hm : l.length ≤ 9000000000000000000) :
    Pure C1 29 [dG G, dIs l] (fun y => y = if 8 < l.length then .tuple [dP0, dF 6 0 listS] else if linkedV G l = false then .tuple [dP0, dF 2 0 listS] else .tuple [dPt q, .nili]) := by
  have hdl : (l.map dI).length = l.length := List.length_map _
  have hlk := linked_pure G hG l
  refine pure_of c1_ok (pl := pl_qvt) (G := G_qvt) Tryz.func29 rfl Tryz.ntmps29 run_qvt cok_qvt (by simp) ?_
  by_cases h8 : 8 < l.length
  · rw [if_pos h8]
    (conv => whnf)
    (repeat' ((first | refine ord_ok (by (conv => whnf); (repeat' ((first | refine call_eq rfl (fnew_pure 6 0 listS) ?_ | refine ify ?_ | refine ifn ?_ | refine i6 ?_ | refine ati ?_ | refine mst ?_ | refine rmd ?_ | refine ibo (fun _ => ?_) (fun _ => ?_)) <;> conv => whnf)); (all_goals (repeat' (first | exact trivial | exact rfl | refine And.intro ?_ ?_)))) ?_ | refine call_eq rfl (fnew_pure 6 0 listS) ?_ | refine ify ?_ | refine ifn ?_ | refine i6 ?_ | refine ati ?_ | refine mst ?_ | refine rmd ?_ | refine ibo (fun _ => ?_) (fun _ => ?_)) <;> conv => whnf))
    exact rfl
  rw [if_neg h8]
  cases hl : linkedV G l with
  | false =>
    rw [hl] at hlk
    rw [if_pos rfl]
    (conv => whnf)
    (repeat' ((first | refine ord_ok (by (conv => whnf); (repeat' ((first | refine call_eq rfl hlk ?_ | refine call_eq rfl (fnew_pure 2 0 listS) ?_ | refine ify ?_ | refine ifn ?_ | refine i6 ?_ | refine ati ?_ | refine mst ?_ | refine rmd ?_ | refine ibo (fun _ => ?_) (fun _ => ?_)) <;> conv => whnf)); (all_goals (repeat' (first | exact trivial | exact rfl | refine And.intro ?_ ?_)))) ?_ | refine call_eq rfl hlk ?_ | refine call_eq rfl (fnew_pure 2 0 listS) ?_ | refine ify ?_ | refine ifn ?_ | refine i6 ?_ | refine ati ?_ | refine mst ?_ | refine rmd ?_ | refine ibo (fun _ => ?_) (fun _ => ?_)) <;> conv => whnf))
    exact rfl
  | true =>
    rw [hl] at hlk
    rw [if_neg (by decide)]
    have hmk := hmk (by omega) hl
    have hql := qlabels_pure G l (by omega)
    have hcl := colsF_len (adjF G.edges l)
    have hsq : l.length * l.length ≤ 8 * 8 := Nat.mul_le_mul (by omega) (by omega)
    (conv => whnf)
    (repeat' ((first | refine ord_ok (by (conv => whnf); (repeat' ((first | refine call_eq rfl hlk ?_ | refine ify ?_ | refine ifn ?_ | refine i6 ?_ | refine ati ?_ | refine mst ?_ | refine rmd ?_ | refine ibo (fun _ => ?_) (fun _ => ?_)) <;> conv => whnf)); (all_goals (repeat' (first | exact trivial | exact rfl | refine And.intro ?_ ?_)))) ?_ | refine call_eq rfl hlk ?_ | refine ify ?_ | refine ifn ?_ | refine i6 ?_ | refine ati ?_ | refine mst ?_ | refine rmd ?_ | refine ibo (fun _ => ?_) (fun _ => ?_)) <;> conv => whnf))
    refine loop_lo (ι := Nat) (fun i => i ≤ l.length) (fun i => [(26, .d (.int .i64 i)), (25, .d (.int .i64 l.length)), (24, .d (dIs l)), (6, .own 300), (4, .own 4), (1, .d (dIs l)), (0, .d (dG G))]) (fun i => [(4, .cells 35 [.d .nils, .d .nils]), (300, .slice 77 2 ((colsF (adjF G.edges l) i).map dE))]) (fun i => l.length - i) 0 (fun _ => rfl) (Nat.zero_le _) (.own 6 300 77 2 rfl rfl (.refl _ _)) ⟨rfl, by rw [← hdl]; rfl, rfl, rfl, rfl, rfl, rfl, trivial⟩ ⟨rfl, rfl, trivial⟩ ?_
    intro i hi
    refine sxCode_sound c1_ok (G := G_qvt) (pl := pl_qvt) _ _ _ _ (by kernel_rfl) ?_
    by_cases hil : i < l.length
    · have hx := List.getElem?_eq_getElem hil
      have hadj : ∀ k u, l[k]? = some u → adjF G.edges l k i = decide (turn ⟨u, l[i]⟩ ∈ G.edges) := fun k u hk => by unfold adjF; rw [hk, hx]; rfl
      generalize l[i] = x at hx hadj
      have hxd : (l.map dI)[i]? = some (.int .i64 x) := by rw [List.getElem?_map, hx]; rfl
      have hsub : (l.map dI).take i = (l.take i).map dI := by rw [List.map_take]
      have htl : ((l.map dI).take i).length = i := by rw [List.length_take]; omega
      have hci := hcl i
      have hii : i * i ≤ 8 * 8 := Nat.mul_le_mul (by omega) (by omega)
      (conv => whnf)
      (repeat' ((first | refine ord_ok (by (conv => whnf); (repeat' ((first | refine at_da hxd rfl ?_ | refine hi_is rfl (show i ≤ (l.map dI).length by omega) ?_ | refine ify ?_ | refine ifn ?_ | refine i6 ?_ | refine ati ?_ | refine mst ?_ | refine rmd ?_ | refine ibo (fun _ => ?_) (fun _ => ?_)) <;> conv => whnf)); (all_goals (repeat' (first | exact trivial | exact rfl | refine And.intro ?_ ?_)))) ?_ | refine at_da hxd rfl ?_ | refine hi_is rfl (show i ≤ (l.map dI).length by omega) ?_ | refine ify ?_ | refine ifn ?_ | refine i6 ?_ | refine ati ?_ | refine mst ?_ | refine rmd ?_ | refine ibo (fun _ => ?_) (fun _ => ?_)) <;> conv => whnf))
      refine loop_lo (ι := Nat) (fun k => k ≤ i) (fun k => [(35, .d (.int .i64 k)), (34, .d (.int .i64 i)), (33, .d (.list 1 ((l.map dI).take i))), (26, .d (.int .i64 i)), (25, .d (.int .i64 l.length)), (24, .d (dIs l)), (8, .d (.int .i64 x)), (7, .d (.int .i64 i)), (6, .own 300), (4, .own 4), (1, .d (dIs l)), (0, .d (dG G))]) (fun k => [(4, .cells 35 [.d .nils, .d .nils]), (300, .slice 77 2 ((colsF (adjF G.edges l) i ++ colF (adjF G.edges l) i k).map dE))]) (fun k => i - k) 0 (fun _ => rfl) (Nat.zero_le _) (.refl _ _) ⟨rfl, int_is (by rw [htl]), rfl, rfl, rfl, rfl, rfl, rfl, rfl, rfl, rfl, rfl, trivial⟩ ⟨rfl, by rw [show colF (adjF G.edges l) i 0 = [] from rfl, List.append_nil]; rfl, trivial⟩ ?_
      intro k hk
      refine sxCode_sound c1_ok (G := G_qvt) (pl := pl_qvt) _ _ _ _ (by kernel_rfl) ?_
      by_cases hki : k < i
      · have hy := List.getElem?_eq_getElem (l := l) (i := k) (by omega)
        generalize l[k]'(by omega) = u at hy
        have hyd : ((l.map dI).take i)[k]? = some (.int .i64 u) := by rw [List.getElem?_take, if_pos hki, List.getElem?_map, hy]; rfl
        have hh := hasE_pure G hG u x
        have hst := colF_step (adjF G.edges l) i k
        rw [hadj k u hy] at hst
        have hkl := colF_len (adjF G.edges l) i k
        have hol : ((colsF (adjF G.edges l) i ++ colF (adjF G.edges l) i k).map dE).length ≤ 1000 := by rw [List.length_map, List.length_append]; omega
        by_cases hd : turn ⟨u, x⟩ ∈ G.edges
        · rw [decide_eq_true hd] at hh hst
          rw [if_pos rfl] at hst
          (conv => whnf)
          (repeat' ((first | refine ord_ok (by (conv => whnf); (repeat' ((first | refine at_da hyd rfl ?_ | refine call_eqb tab rfl hh rfl ?_ | refine ify ?_ | refine ifn ?_ | refine i6 ?_ | refine ati ?_ | refine mst ?_ | refine rmd ?_ | refine ibo (fun _ => ?_) (fun _ => ?_)) <;> conv => whnf)); (all_goals (repeat' (first | exact trivial | exact rfl | refine And.intro ?_ ?_)))) ?_ | refine at_da hyd rfl ?_ | refine call_eqb tab rfl hh rfl ?_ | refine ify ?_ | refine ifn ?_ | refine i6 ?_ | refine ati ?_ | refine mst ?_ | refine rmd ?_ | refine ibo (fun _ => ?_) (fun _ => ?_)) <;> conv => whnf))
          refine ⟨k + 1, _, _, by omega, .refl _ _, ⟨rfl, rfl, rfl, rfl, rfl, rfl, rfl, rfl, rfl, rfl, rfl, rfl, trivial⟩, ⟨rfl, slice_is ?_, trivial⟩, by omega⟩
          rw [hst]; simp [dE]
        · rw [decide_eq_false hd] at hh hst
          rw [if_neg (by decide), List.append_nil] at hst
          (conv => whnf)
          (repeat' ((first | refine ord_ok (by (conv => whnf); (repeat' ((first | refine at_da hyd rfl ?_ | refine call_eqb tab rfl hh rfl ?_ | refine ify ?_ | refine ifn ?_ | refine i6 ?_ | refine ati ?_ | refine mst ?_ | refine rmd ?_ | refine ibo (fun _ => ?_) (fun _ => ?_)) <;> conv => whnf)); (all_goals (repeat' (first | exact trivial | exact rfl | refine And.intro ?_ ?_)))) ?_ | refine at_da hyd rfl ?_ | refine call_eqb tab rfl hh rfl ?_ | refine ify ?_ | refine ifn ?_ | refine i6 ?_ | refine ati ?_ | refine mst ?_ | refine rmd ?_ | refine ibo (fun _ => ?_) (fun _ => ?_)) <;> conv => whnf))
          exact ⟨k + 1, _, _, by omega, .refl _ _, ⟨rfl, rfl, rfl, rfl, rfl, rfl, rfl, rfl, rfl, rfl, rfl, rfl, trivial⟩, ⟨rfl, slice_is (by rw [hst]), trivial⟩, by omega⟩
      · have hke : k = i := by omega
        subst hke
        ((conv => whnf); repeat' ((first | refine odw ?_ | refine ify ?_ | refine ifn ?_ | refine i6 ?_ | refine ati ?_ | refine mst ?_ | refine rmd ?_ | refine ibo (fun _ => ?_) (fun _ => ?_)) <;> conv => whnf))
        exact ⟨k + 1, _, _, by omega, .refl _ _, ⟨rfl, rfl, rfl, rfl, rfl, rfl, rfl, trivial⟩, ⟨rfl, slice_is (by rw [colsF_step]), trivial⟩, by omega⟩
    · have hie : i = l.length := by omega
      subst hie
      (conv => whnf)
      (repeat' ((first | refine ord_ok (by (conv => whnf); (repeat' ((first | refine call_frz 300 rfl ?_ | refine call_eq rfl hql ?_ | refine call_eq rfl hmk ?_ | refine ify ?_ | refine ifn ?_ | refine i6 ?_ | refine ati ?_ | refine mst ?_ | refine rmd ?_ | refine ibo (fun _ => ?_) (fun _ => ?_)) <;> conv => whnf)); (all_goals (repeat' (first | exact trivial | exact rfl | refine And.intro ?_ ?_)))) ?_ | refine call_frz 300 rfl ?_ | refine call_eq rfl hql ?_ | refine call_eq rfl hmk ?_ | refine ify ?_ | refine ifn ?_ | refine i6 ?_ | refine ati ?_ | refine mst ?_ | refine rmd ?_ | refine ibo (fun _ => ?_) (fun _ => ?_)) <;> conv => whnf))
      exact rfl
end Go.Proofs.YthegabgbakckfaaGreatDoor
end

section
/- strconv.Itoa, strings.Join, told for the engine (the table of powers is known). pat: Text. -/
namespace Go.Gr
open Go
theorem itoa_nat (n : Nat) : Lib.itoa n = Lib.decDigits n := by
  unfold Lib.itoa
  rw [if_neg (by omega)]; simp
theorem itoa_len {n : Int} (h0 : 0 ≤ n) (h1 : n ≤ 999999) : (Lib.itoa n).length ≤ 6 := by
  obtain ⟨k, rfl⟩ := Int.eq_ofNat_of_zero_le h0
  rw [itoa_nat]
  exact dd_len6 k (by omega)
theorem join_two (x y : List UInt8) (r : List (List UInt8)) (sep : List UInt8) : Lib.join (x :: y :: r) sep = x ++ (sep ++ Lib.join (y :: r) sep) := by
  simp [Lib.join, List.intercalate]
theorem join_len {m : Nat} (sep : List UInt8) : ∀ xs : List (List UInt8), (∀ x ∈ xs, x.length ≤ m) → (Lib.join xs sep).length ≤ xs.length * (m + sep.length)
  | [], _ => by rw [Lib.join_nil]; simp
  | [x], h => by
    have := h x (.head _)
    rw [Lib.join_one, List.length_singleton]; omega
  | x :: y :: r, h => by
    have h1 := join_len sep (y :: r) (fun z hz => h z (.tail _ hz))
    have h2 := h x (.head _)
    rw [join_two, List.length_append, List.length_append, List.length_cons, Nat.add_mul, Nat.one_mul]; omega
/-- an edge's text -/
def edgB (e : Edg) : List UInt8 := Lib.itoa e.a ++ 45 :: Lib.itoa e.b
/-- a pattern's text -/
def patB (p : Pt) : List UInt8 := Lib.join (p.labels.map Lib.itoa) [44] ++ 124 :: Lib.join (p.edges.map edgB) [44]
end Go.Gr
namespace Go.Proofs.YthegabgbakckfaaGreatDoor
open Go.Sx Go.RowKit Go.Reg Go.Gr Go.Shelf

set_option maxRecDepth 100000
theorem joinX : Builder.Extra Tryz.prog Tryz.joinL_ren where
  sizeBuilder := by kernel_rfl
  liesBuilder := by kernel_rfl
  t5 := Tryz.underlying5
  a5 := by intro w; kernel_rfl
  z5 := by intro w; kernel_rfl
  v5 := by intro w; kernel_rfl
  infoByte := by kernel_rfl
  cellsByte := by kernel_rfl
  sizeByte := by kernel_rfl
  neB5 := by decide
/-- with the table of powers -/
noncomputable def C3 : Cx := ⟨Tryz.prog, C1.Γ ++ [(1, .agg (Lib.pow10Tab.map (Da.int .u64)))]⟩
theorem memTab3 : (1, Da.agg (Lib.pow10Tab.map (Da.int .u64))) ∈ C3.Γ := List.mem_append_right _ (.head _)
theorem c3_ok : C3.Ok tab := ⟨c1_ok.tab, c1_ok.mixed⟩
theorem Pure.up3 {f : FuncId} {xs : List Da} {Q : Da → Prop} (h : Sx.Pure C1 f xs Q) : Sx.Pure C3 f xs Q := fun O w vs h1 h2 h3 => h O w vs h1 (fun g hg => h2 g (List.mem_append_left _ hg)) h3
theorem itoa3_pure (n : Int) (h0 : -9223372036854775808 ≤ n) (h1 : n ≤ 9223372036854775807) : Sx.Pure C3 117 [.int .i64 n] (fun y => y = .str (bs (Lib.itoa n))) := by
  intro O w us hO hg hr
  obtain ⟨v, vs, rfl, h3, h2⟩ := reps_inv hr
  obtain rfl := reps_inv0 h2
  obtain rfl := rep_int h3
  refine ⟨by kernel_rfl, (Any.strconv_Itoa Tryz.itoaL n h0 h1 w (tab_of hg memTab3 (by kernel_rfl))).mono ?_⟩
  rintro e w' ⟨rfl, k, os, rfl⟩
  refine ⟨_, _, rfl, rfl, ⟨[_], by simp only [RepC]; rfl, rfl⟩, ⟨rfl, rfl, rfl, by rw [Go.Sort.size_grow]; exact Nat.le_add_right _ _, fun b hb _ => Go.Sort.heap_grow_old (w.drewN k) os hb⟩⟩
def strD (x : List UInt8) : Da := .str (bs x)
theorem strs_css {O : List Nat} {w : World} : ∀ {xs : List (List UInt8)} {css : List (List Value)}, RepCss O w (xs.map strD) css → css = xs.map fun x => [Value.string (bs x)]
  | [], css, h => by simpa only [List.map_nil, RepCss] using h
  | x :: xs, css, h => by
    simp only [List.map_cons, RepCss, strD, RepC] at h
    obtain ⟨c1, c2, rfl, rfl, h⟩ := h
    rw [strs_css h]; rfl
theorem strs_flat (xs : List (List UInt8)) : (xs.map fun x => [Value.string (bs x)]).flatten = xs.map fun x => Value.string (bs x) := by
  induction xs with
  | nil => rfl
  | cons x xs ih => simp only [List.map_cons, List.flatten_cons, ih]; rfl
theorem join_pure (C : Cx) (hC : C.P = Tryz.prog) (xs : List (List UInt8)) (sep : List UInt8) (hN : xs.length ≤ 1000000) (hlen : (Lib.join xs sep).length ≤ 140737488355328) : Sx.Pure C 118 [.list 1 (xs.map strD), .str (bs sep)] (fun y => y = .str (bs (Lib.join xs sep))) := by
  intro O w us hO hg hr
  obtain ⟨v, vs, rfl, h3, h2⟩ := reps_inv hr
  obtain ⟨v2, vs2, rfl, h4, h5⟩ := reps_inv h2
  obtain rfl := reps_inv0 h5
  obtain rfl := rep_str h4
  obtain ⟨cs, r, rfl⟩ := h3
  simp only [RepC] at r
  obtain ⟨a, c, css, rfl, hc, _, hcs, _, hcell⟩ := r
  have hb : ∀ w' : World, Below w.heap.size w w' → Tch [] w w' := fun w' h => ⟨h.os, h.tape, h.output, h.size, fun b hb _ => h.block b hb⟩
  obtain rfl := strs_css hcs
  rw [List.length_map] at hc
  rw [hC]
  refine ⟨by kernel_rfl, ?_⟩
  show Calls Tryz.prog 118 #[.slice a (xs.map strD).length c, .string (bs sep)] w _
  rw [List.length_map]
  cases xs with
  | nil =>
    refine (Any.strings_Join_none Tryz.joinL joinX a c (bs sep) w).mono ?_
    rintro e w' ⟨rfl, rfl⟩
    exact ⟨_, _, rfl, rfl, ⟨[_], by simp only [RepC]; rfl, rfl⟩, Tch.refl _ _⟩
  | cons x xs =>
    obtain ⟨b, o, rfl, _, hbl, hcl⟩ := hcell.resolve_left (by simp)
    rw [strs_flat] at hcl
    have hmap : ((x :: xs).map bs).map (·.data.toList) = x :: xs := by
      rw [List.map_map]
      have : ((fun y : ByteArray => y.data.toList) ∘ bs) = id := by funext z; simp [bs]
      rw [this, List.map_id]
    have := Any.strings_Join Tryz.joinL joinX b o c ((x :: xs).map bs) (bs sep) w (fun j y hy => by
      refine hcl j (.string y) ?_
      rw [List.getElem?_map] at hy ⊢
      obtain ⟨z, hz, rfl⟩ := Option.map_eq_some_iff.1 hy
      rw [hz]; rfl) hbl (by rw [List.length_map]; omega) (by rw [List.length_map]; exact hc) (by rw [hmap]; exact hlen)
    rw [hmap, List.length_map] at this
    refine this.mono ?_
    rintro e w' ⟨rfl, h⟩
    exact ⟨_, _, rfl, rfl, ⟨[_], by simp only [RepC]; rfl, rfl⟩, hb _ h⟩
def pl_ptx : List (Nat × Plan) := [(10, .leaf [0, 0, 1, 2, 0, 0, 1, 2, 0, 6, 3, 0] [0, 1, 5, 2, 6, 3, 4, 7, 8, 9, 10, 11] [0, 0, 2, 6, 14, 0, 32, 110, 254, 510, 1023, 2047])]
def G_ptx : List FuncId := [117, 118]
theorem cok_ptx : codeOk Tryz.prog G_ptx pl_ptx (Tryz.f56.body.getD .skip) = true := by kernel_rfl
theorem run_ptx (vs : Array Value) (w : World) : (callFunc 56 vs).run C1.P w = .ok (.enter 56 vs) w := by kernel_rfl
set_option maxHeartbeats 4000000 in
theorem ptext_pure (p : Pt) (hl : p.labels.length ≤ 1000) (hll : ∀ x ∈ p.labels, 0 ≤ x ∧ x ≤ 999999) (he : p.edges.length ≤ 1000) (hee : ∀ e ∈ p.edges, (0 ≤ e.a ∧ e.a ≤ 999999) ∧ 0 ≤ e.b ∧ e.b ≤ 999999) : Sx.Pure C3 56 [dPt p] (fun y => y = .str (bs (patB p))) := by
  have hdl : (p.labels.map dI).length = p.labels.length := List.length_map _
  have hde : (p.edges.map dE).length = p.edges.length := List.length_map _
  refine pure_of c3_ok (pl := pl_ptx) (G := G_ptx) Tryz.func56 rfl Tryz.ntmps56 run_ptx cok_ptx (by simp) ?_
  ((conv => whnf); repeat' ((first | refine odw ?_ | refine ify ?_ | refine ifn ?_ | refine i6 ?_ | refine ati ?_ | refine mst ?_ | refine rmd ?_ | refine ibo (fun _ => ?_) (fun _ => ?_)) <;> conv => whnf))
  refine loop_lo (ι := Nat) (fun i => i ≤ p.labels.length) (fun i => [(12, .d (.int .i64 i)), (11, .d (.int .i64 p.labels.length)), (10, .d (dIs p.labels)), (4, .d .nils), (3, .own 300), (1, .own 1)]) (fun i => [(1, .cells 35 [.d (dIs p.labels), .d (dEs p.edges)]), (300, .slice 9 1 (((p.labels.take i).map Lib.itoa).map strD))]) (fun i => p.labels.length - i) 0 (fun _ => rfl) (Nat.zero_le _) (.own 3 300 9 1 rfl rfl (.refl _ _)) ⟨rfl, by rw [← hdl]; rfl, rfl, rfl, rfl, rfl, trivial⟩ ⟨rfl, rfl, trivial⟩ ?_
  intro i hi
  refine sxCode_sound c3_ok (G := G_ptx) (pl := pl_ptx) _ _ _ _ (by kernel_rfl) ?_
  by_cases hil : i < p.labels.length
  · have hx := List.getElem?_eq_getElem hil
    have hxb := hll _ (List.getElem_mem hil)
    generalize p.labels[i] = x at hx hxb
    have hxd : (p.labels.map dI)[i]? = some (.int .i64 x) := by rw [List.getElem?_map, hx]; rfl
    have hit := itoa3_pure x (by omega) (by omega)
    have hlen : (((p.labels.take i).map Lib.itoa).map strD).length = i := by simp only [List.length_map, List.length_take]; omega
    (conv => whnf)
    (repeat' ((first | refine ord_ok (by (conv => whnf); (repeat' ((first | refine at_da hxd rfl ?_ | refine call_eqb tab rfl hit rfl ?_ | refine ify ?_ | refine ifn ?_ | refine i6 ?_ | refine ati ?_ | refine mst ?_ | refine rmd ?_ | refine ibo (fun _ => ?_) (fun _ => ?_)) <;> conv => whnf)); (all_goals (repeat' (first | exact trivial | exact rfl | refine And.intro ?_ ?_)))) ?_ | refine at_da hxd rfl ?_ | refine call_eqb tab rfl hit rfl ?_ | refine ify ?_ | refine ifn ?_ | refine i6 ?_ | refine ati ?_ | refine mst ?_ | refine rmd ?_ | refine ibo (fun _ => ?_) (fun _ => ?_)) <;> conv => whnf))
    refine ⟨i + 1, _, _, by omega, .refl _ _, ⟨rfl, rfl, rfl, rfl, rfl, rfl, trivial⟩, ⟨rfl, slice_is ?_, trivial⟩, by omega⟩
    rw [List.take_add_one, hx]; simp [strD]
  · have e : p.labels.take i = p.labels := List.take_of_length_le (by omega)
    rw [e]
    ((conv => whnf); repeat' ((first | refine odw ?_ | refine ify ?_ | refine ifn ?_ | refine i6 ?_ | refine ati ?_ | refine mst ?_ | refine rmd ?_ | refine ibo (fun _ => ?_) (fun _ => ?_)) <;> conv => whnf))
    refine loop_lo (ι := Nat) (fun i => i ≤ p.edges.length) (fun i => [(25, .d (.int .i64 i)), (24, .d (.int .i64 p.edges.length)), (23, .d (dEs p.edges)), (4, .own 301), (3, .own 300), (1, .own 1)]) (fun i => [(1, .cells 35 [.d (dIs p.labels), .d (dEs p.edges)]), (300, .slice 9 1 ((p.labels.map Lib.itoa).map strD)), (301, .slice 9 1 (((p.edges.take i).map edgB).map strD))]) (fun i => p.edges.length - i) 0 (fun _ => rfl) (Nat.zero_le _) (.own 4 301 9 1 rfl rfl (.refl _ _)) ⟨rfl, by rw [← hde]; rfl, rfl, rfl, rfl, rfl, trivial⟩ ⟨rfl, rfl, rfl, trivial⟩ ?_
    intro j hj
    refine sxCode_sound c3_ok (G := G_ptx) (pl := pl_ptx) _ _ _ _ (by kernel_rfl) ?_
    by_cases hjl : j < p.edges.length
    · have hx := List.getElem?_eq_getElem hjl
      have hxb := hee _ (List.getElem_mem hjl)
      generalize p.edges[j] = e at hx hxb
      have hxd : (p.edges.map dE)[j]? = some (.agg [.int .i64 e.a, .int .i64 e.b]) := by rw [List.getElem?_map, hx]; rfl
      have hia := itoa3_pure e.a (by omega) (by omega)
      have hib := itoa3_pure e.b (by omega) (by omega)
      have la := itoa_len hxb.1.1 hxb.1.2
      have lb := itoa_len hxb.2.1 hxb.2.2
      have za := bs_size (Lib.itoa e.a)
      have zb := bs_size (Lib.itoa e.b)
      have zc : (bs (Lib.itoa e.a) ++ bs [45]).size = (Lib.itoa e.a).length + 1 := by rw [bs_cat, bs_size]; simp
      have hlen : (((p.edges.take j).map edgB).map strD).length = j := by simp only [List.length_map, List.length_take]; omega
      (conv => whnf)
      (repeat' ((first | refine ord_ok (by (conv => whnf); (repeat' ((first | refine at_da hxd rfl ?_ | refine call_eqb tab rfl hia rfl ?_ | refine call_eqb tab rfl hib rfl ?_ | refine cat_ok (a := bs (Lib.itoa e.a)) (b := bs [45]) (by rw [za]; simp [bs_size]; omega) ?_ | refine cat_ok (a := bs (Lib.itoa e.a) ++ bs [45]) (b := bs (Lib.itoa e.b)) (by omega) ?_ | refine ify ?_ | refine ifn ?_ | refine i6 ?_ | refine ati ?_ | refine mst ?_ | refine rmd ?_ | refine ibo (fun _ => ?_) (fun _ => ?_)) <;> conv => whnf)); (all_goals (repeat' (first | exact trivial | exact rfl | refine And.intro ?_ ?_)))) ?_ | refine at_da hxd rfl ?_ | refine call_eqb tab rfl hia rfl ?_ | refine call_eqb tab rfl hib rfl ?_ | refine cat_ok (a := bs (Lib.itoa e.a)) (b := bs [45]) (by rw [za]; simp [bs_size]; omega) ?_ | refine cat_ok (a := bs (Lib.itoa e.a) ++ bs [45]) (b := bs (Lib.itoa e.b)) (by omega) ?_ | refine ify ?_ | refine ifn ?_ | refine i6 ?_ | refine ati ?_ | refine mst ?_ | refine rmd ?_ | refine ibo (fun _ => ?_) (fun _ => ?_)) <;> conv => whnf))
      refine ⟨j + 1, _, _, by omega, .refl _ _, ⟨rfl, rfl, rfl, rfl, rfl, rfl, trivial⟩, ⟨rfl, rfl, slice_is ?_, trivial⟩, by omega⟩
      have hs : strD (edgB e) = .str ((bs (Lib.itoa e.a) ++ bs [45]) ++ bs (Lib.itoa e.b)) := by unfold strD edgB; rw [bs_cat, bs_cat]; simp
      rw [List.take_add_one, hx, List.map_append, List.map_append]
      show _ = _ ++ [strD (edgB e)]
      rw [hs]; rfl
    · have e : p.edges.take j = p.edges := List.take_of_length_le (by omega)
      rw [e]
      have l1 := join_len (m := 6) [44] (p.labels.map Lib.itoa) (fun x hx => by
        obtain ⟨y, hy, rfl⟩ := List.mem_map.1 hx
        exact itoa_len (hll y hy).1 (hll y hy).2)
      have l2 := join_len (m := 13) [44] (p.edges.map edgB) (fun x hx => by
        obtain ⟨y, hy, rfl⟩ := List.mem_map.1 hx
        have := hee y hy
        have h1 := itoa_len this.1.1 this.1.2
        have h2 := itoa_len this.2.1 this.2.2
        unfold edgB
        rw [List.length_append, List.length_cons]; omega)
      rw [List.length_map, List.length_singleton] at l1 l2
      have j1 := join_pure C3 rfl (p.labels.map Lib.itoa) [44] (by rw [List.length_map]; omega) (by omega)
      have j2 := join_pure C3 rfl (p.edges.map edgB) [44] (by rw [List.length_map]; omega) (by omega)
      have z1 := bs_size (Lib.join (p.labels.map Lib.itoa) [44])
      have z2 := bs_size (Lib.join (p.edges.map edgB) [44])
      have z3 : (bs (Lib.join (p.labels.map Lib.itoa) [44]) ++ bs [124]).size = (Lib.join (p.labels.map Lib.itoa) [44]).length + 1 := by rw [bs_cat, bs_size]; simp
      (conv => whnf)
      (repeat' ((first | refine ord_ok (by (conv => whnf); (repeat' ((first | refine call_frz 300 rfl ?_ | refine call_frz 301 rfl ?_ | refine call_eq rfl j1 ?_ | refine call_eq rfl j2 ?_ | refine cat_ok (a := bs (Lib.join (p.labels.map Lib.itoa) [44])) (b := bs [124]) (by rw [z1]; simp [bs_size]; omega) ?_ | refine cat_ok (a := bs (Lib.join (p.labels.map Lib.itoa) [44]) ++ bs [124]) (b := bs (Lib.join (p.edges.map edgB) [44])) (by omega) ?_ | refine ify ?_ | refine ifn ?_ | refine i6 ?_ | refine ati ?_ | refine mst ?_ | refine rmd ?_ | refine ibo (fun _ => ?_) (fun _ => ?_)) <;> conv => whnf)); (all_goals (repeat' (first | exact trivial | exact rfl | refine And.intro ?_ ?_)))) ?_ | refine call_frz 300 rfl ?_ | refine call_frz 301 rfl ?_ | refine call_eq rfl j1 ?_ | refine call_eq rfl j2 ?_ | refine cat_ok (a := bs (Lib.join (p.labels.map Lib.itoa) [44])) (b := bs [124]) (by rw [z1]; simp [bs_size]; omega) ?_ | refine cat_ok (a := bs (Lib.join (p.labels.map Lib.itoa) [44]) ++ bs [124]) (b := bs (Lib.join (p.edges.map edgB) [44])) (by omega) ?_ | refine ify ?_ | refine ifn ?_ | refine i6 ?_ | refine ati ?_ | refine mst ?_ | refine rmd ?_ | refine ibo (fun _ => ?_) (fun _ => ?_)) <;> conv => whnf))
      show Da.plain (.str ((bs _ ++ bs [124]) ++ bs _)) = _
      unfold patB
      rw [bs_cat, bs_cat]
      simp [Da.plain]
end Go.Proofs.YthegabgbakckfaaGreatDoor
end

section
/- What the rows give (quick): the variables, the arguments' elements, a world for the witness. -/
namespace Go.Reg
open Go Go.RowKit Go.Deep Go.WideShapes
section
variable {α H : Type}
theorem argSl_shape {P : Program} {k : Nat} {enc : α → List Value} {e' : TypeId × Value → H} {w : World} {base : Nat} {spare : Nat → Bool} {held : Bool} {t e : TypeId} {v : Value} {d : DataW H} {ps : List MemPlace} (Q : α → Prop)
    (ht : P.underlying t = some (.slice e)) (hc : P.cellsOf e = k) (hk : 0 < k) (he : ∀ x, (enc x).length = k)
    (hel : ∀ n cs y, DataW.trod e' P w base spare held n e cs = some y → ∃ x, cs = enc x ∧ Q x)
    (hsh : ∃ a n c, v = .slice a n c) (h : DataW.Trod e' P w base spare held t v d ps) : ∃ l, ArgSl k enc w v l ∧ ∀ x ∈ l, Q x := by
  obtain ⟨a0, len0, cap0, rfl⟩ := hsh
  obtain ⟨fuel, hf⟩ := h
  rcases open_slice ht hf with ⟨h1, _⟩ | ⟨a, len, cap, m, n, D, Pl, h1, hb, hl, hm, hmm, _, hx⟩
  · simp [Value.cells] at h1
    obtain ⟨rfl, rfl, rfl⟩ := h1
    exact ⟨[], ⟨none, 0, rfl, by simp, fun i x hi => by simp at hi⟩, by simp⟩
  · simp [Value.cells] at h1
    obtain ⟨rfl, rfl, rfl⟩ := h1
    have hlm : len0 ≤ m := by rw [hmm]; split <;> omega
    obtain ⟨l, hll, hq⟩ := list_of (Q := fun i x => Q x ∧ w.cells? base (a.add (i * k)) k = some (enc x)) (n := len0) (fun i hi => by
      obtain ⟨cs', h1, h2⟩ := hx i (by omega)
      obtain ⟨x, rfl, hQ⟩ := hel _ _ _ h2
      rw [hc] at h1
      exact ⟨x, hQ, h1⟩)
    refine ⟨l, ⟨some a, cap0, by rw [hll], by omega, fun i x hi => ?_⟩, fun x hx => ?_⟩
    · have h2 := (hq i x hi).2
      obtain ⟨_, _, hcell⟩ := World.cells?_some h2
      have h0 := hcell 0 hk
      obtain ⟨b, o, sp⟩ := a
      have hi0 : 0 < l.length := by have := (List.getElem?_eq_some_iff.1 hi).1; omega
      have hz := (hq 0 l[0] (by simp [hi0])).2
      obtain ⟨_, _, hcell0⟩ := World.cells?_some hz
      have hsp : sp = none := by
        have h00 := hcell0 0 hk
        rw [Nat.zero_mul, add_add] at h00
        have hsome : (w.cell? ⟨b, o, sp⟩).isSome = true := by
          simp only [Addr.add, Nat.add_zero, if_true] at h00
          rw [h00]
          simp [he, hk]
        cases sp with
        | none => rfl
        | some s =>
          exfalso
          unfold World.cell? at hsome
          simp at hsome
          split at hsome <;> simp at hsome
      subst hsp
      refine ⟨b, o, rfl, fun j u hj => ?_⟩
      have hjk : j < k := by have := (List.getElem?_eq_some_iff.1 hj).1; rw [he] at this; exact this
      have := hcell j hjk
      rw [add_add, hj] at this
      by_cases hz : i * k + j = 0
      · rw [hz] at this
        simp only [Addr.add, if_true] at this
        rw [show o + i * k + j = o by omega]
        exact this
      · simp only [Addr.add, hz, if_false] at this
        rw [show o + i * k + j = o + (i * k + j) by omega]
        exact this
    · obtain ⟨i, hi⟩ := List.getElem?_of_mem hx
      exact (hq i x hi).1
/-- a slice's shape, by its cells -/
theorem trod_slice_shape {P : Program} {e' : TypeId × Value → H} {w : World} {base : Nat} {spare : Nat → Bool} {held : Bool} {t e : TypeId} {fuel : Nat} {cs : List Value} {y : DataW H × List MemPlace} (ht : P.underlying t = some (.slice e)) (h : DataW.trod e' P w base spare held fuel t cs = some y) : ∃ a n c, cs = [.slice a n c] ∧ n ≤ c ∧ c ≤ maxLen := by
  rcases open_slice ht h with ⟨h1, _⟩ | ⟨a, len, cap, m, k, D, Pl, h1, _, h2, h3, _, _, _⟩
  · exact ⟨none, 0, 0, h1, Nat.le_refl _, by unfold maxLen; omega⟩
  · exact ⟨some a, len, cap, h1, h2, h3⟩
end
end Go.Reg
namespace Go.Proofs.YthegabgbakckfaaGreatDoor
open Go.ChangeShapes Go.WideShapes Go.ChangeAt Go.RowKit Go.Reg Go.Gr Go.Sx Go.ChangeMaps

theorem own : ownKnob Tryz.prog.godebug = none := by kernel_rfl
theorem laidOut : laidOutB Tryz.prog = true := by kernel_rfl
theorem gEt : Tryz.prog.globalNamed "errors.errorType" = some 0 := by kernel_rfl
theorem gRt : (Tryz.prog.cutTypes.find? (·.1 == "internal/reflectlite.rtype")).map (·.2) = some 238 := by kernel_rfl
theorem oneRow : ((List.range Tryz.prog.types.size).filter fun t => Tryz.prog.rowNamed t [101, 114, 114, 111, 114]) = [45] := by kernel_rfl
/-- all that is laid -/
abbrev laidAll : List (String × DataW Unit) := Rows.quickImagesRow.laid
abbrev laidThree : List (String × DataW Unit) := [("math/bits.deBruijn32tab", Rows.laid_math_bits_deBruijn32tab), ("math/bits.deBruijn64tab", Rows.laid_math_bits_deBruijn64tab), ("internal/strconv.uint64pow10", Rows.laid_internal_strconv_uint64pow10)]
theorem laid_parts {W : World} (h : laidMetH Tryz.prog laidAll W) : laidMet Tryz.prog laidThree W ∧ handlesMet Tryz.prog [("errors.errorType", Rows.laid_errors_errorType)] W := h

theorem var_exact {P : Program} {w : World} {name : String} {g : Nat} {cs : Array Value} (h : w.var? P name = some cs) (hg : P.globalNamed name = some g) : ∃ t fr, w.heap[g]? = some (.cells cs t fr) := by
  unfold World.var? at h
  rw [hg, Option.bind_some] at h
  cases hh : w.heap[g]? with
  | none => rw [hh] at h; cases h
  | some o =>
    rw [hh] at h
    cases o with
    | cells cs' t fr => simp only [Option.some.injEq] at h; subst h; exact ⟨t, fr, rfl⟩
    | _ => cases h
theorem errV_of_laid {W : World} (h : laidMetH Tryz.prog laidAll W) : ∃ t fr, W.heap[0]? = some (.cells #[.iface 238 (.agg #[.pointer (some ⟨5, 45, none⟩)])] t fr) := by
  obtain ⟨name, u, ty, e1, e2, e3, e4, e5⟩ := (laid_parts h).2 _ (List.mem_singleton.2 rfl)
  have en : name = [101, 114, 114, 111, 114] := (Option.some.inj e1).symm
  subst en
  obtain rfl := Option.some.inj (gRt.symm.trans e2)
  have hm : ty ∈ (List.range Tryz.prog.types.size).filter fun t => Tryz.prog.rowNamed t [101, 114, 114, 111, 114] := List.mem_filter.2 ⟨List.mem_range.2 e3, e4⟩
  rw [oneRow] at hm
  obtain rfl := List.mem_singleton.1 hm
  have hh : typeHandle Tryz.prog 45 = .pointer (some ⟨5, 45, none⟩) := by kernel_rfl
  rw [hh] at e5
  exact var_exact e5 gEt
theorem grep_of {W : World} {g : Nat} {cs : Array Value} {t : TypeId} {fr : Nat × Nat} {d : Da} (h : W.heap[g]? = some (.cells cs t fr)) (hr : Sx.RepC [] W d cs.toList) (hs : cs.size = Sx.gsz d) : Sx.GRep [] W (g, d) := by
  refine ⟨⟨[_], ?_, rfl⟩, by simp, cs, t, fr, h, hs⟩
  simp only [Sx.RepC]
  refine ⟨g, 0, cs.toList, rfl, by simp, (Array.getElem?_eq_some_iff.1 h).1, hr, fun j u hj => ?_⟩
  rw [Lib.cell_of_heap h, Nat.zero_add]
  simpa using hj
theorem tabV_of_laid {W : World} (h : laidMetH Tryz.prog laidAll W) : ∃ t fr, W.heap[1]? = some (.cells (Lib.pow10Tab.map fun z => Value.int .u64 z).toArray t fr) := by
  have h1 := laidMet.tail (laidMet.tail (laid_parts h).1)
  have h2 : laidMet Tryz.prog (("internal/strconv.uint64pow10", Lib.tabData .u64 Lib.pow10Tab) :: []) W := h1
  have h3 := Lib.tabIs_of_head (g := 1) (by kernel_rfl) (t := 263) (e := 209) (n := 20) (by kernel_rfl) Tryz.underlying263 Tryz.underlying209 (by kernel_rfl) (by kernel_rfl) h2
  exact var_exact h3 (by kernel_rfl)
theorem ints_rep (O : List Nat) (W : World) (k : IntKind) : ∀ l : List Int, Sx.RepCs O W (l.map (Da.int k)) (l.map fun z => Value.int k z)
  | [] => by simp [Sx.RepCs]
  | x :: l => by
    simp only [List.map_cons, Sx.RepCs, Sx.RepC]
    exact ⟨[_], _, rfl, rfl, ints_rep O W k l⟩
/-- the variables, as the walk knows them -/
theorem globs_of {W : World} (h : laidMetH Tryz.prog laidAll W) : Sx.Glob C3 [] W := by
  obtain ⟨t1, f1, e1⟩ := errV_of_laid h
  obtain ⟨t5, f5, e5⟩ := tabV_of_laid h
  intro g hg
  rcases List.mem_append.1 hg with hg | hg
  · rw [List.mem_singleton.1 hg]
    exact grep_of e1 (by simp only [Sx.RepC]) rfl
  · rw [List.mem_singleton.1 hg]
    exact grep_of e5 (by simp only [Sx.RepC]; exact ints_rep _ _ _ _) (by simp [Sx.gsz])

def eI : Sx.Enc Int := ⟨fun n => [.int .i64 n], dI, 1, fun _ => rfl, fun n u hu => by simp at hu; rw [hu]; rfl, fun O w n => by simp [dI, Sx.RepC]⟩
def eE : Sx.Enc Edg := ⟨fun e => [.int .i64 e.a, .int .i64 e.b], dE, 2, fun _ => rfl, fun n u hu => by simp at hu; rcases hu with rfl | rfl <;> rfl, fun O w n => by simp [dE, Sx.RepC, Sx.RepCs]⟩
set_option maxRecDepth 100000 in
theorem int_el {H : Type} {e' : TypeId × Value → H} {w : World} {base : Nat} {spare : Nat → Bool} {held : Bool} (n : Nat) (cs : List Value) (y : DataW H × List MemPlace)
    (h : DataW.trod e' Tryz.prog w base spare held n 3 cs = some y) : ∃ x : Int, cs = eI.enc x ∧ True := by
  obtain ⟨m, h0, _⟩ := DataW.trod_int Tryz.underlying3 h
  exact ⟨m, h0, trivial⟩
set_option maxRecDepth 100000 in
theorem edge_el {H : Type} {e' : TypeId × Value → H} {w : World} {base : Nat} {spare : Nat → Bool} {held : Bool} (n : Nat) (cs : List Value) (y : DataW H × List MemPlace)
    (h : DataW.trod e' Tryz.prog w base spare held n 94 cs = some y) : ∃ x : Edg, cs = eE.enc x ∧ True := by
  obtain ⟨xs, k, _, _, hcl, hxl, hf⟩ := DataW.trod_struct Tryz.underlying94 h
  have cl : cs.length = 2 := hcl.trans (by kernel_rfl)
  match cs, cl with
  | [c0, c1], _ =>
    have hx4 : xs.length = 2 := hxl
    match xs, hx4 with
    | [y0, y1], _ =>
      have k3 : Tryz.prog.cellsOf 3 = 1 := by kernel_rfl
      have g0 := hf 0 _ rfl
      have g1 := hf 1 _ rfl
      simp [k3] at g0 g1
      obtain ⟨n0, h0, _⟩ := DataW.trod_int Tryz.underlying3 g0
      obtain ⟨n1, h1, _⟩ := DataW.trod_int Tryz.underlying3 g1
      simp at h0 h1
      subst h0; subst h1
      exact ⟨⟨n0, n1⟩, rfl, trivial⟩
theorem rep_bool {O : List Nat} {w : World} {v : Value} {b : Bool} (h : Sx.Rep O w (.bool b) v) : v = .bool b := by obtain ⟨cs, r, rfl⟩ := h; simp only [Sx.RepC] at r; subst r; rfl
set_option maxRecDepth 100000 in
/-- a pattern that came in -/
theorem open_pat {H : Type} {e' : TypeId × Value → H} {w : World} {held : Bool} {spare : Nat → Bool} {r : Reach} {b0 : Nat} {v : Value} {d : DataW H} {ps : List MemPlace} (hval : Value.okWide Tryz.prog w r b0 25 v) (h : DataW.Trod e' Tryz.prog w 0 spare held 25 v d ps) : ∃ p : Pt, Sx.Rep [] w (dPt p) v := by
  obtain ⟨cs, rfl, hsz⟩ := okWide_struct Tryz.underlying25 hval
  obtain ⟨fuel, hf⟩ := h
  obtain ⟨xs, k, _, _, hcl, hxl, hfl⟩ := DataW.trod_struct Tryz.underlying25 hf
  have hcs : (Value.agg cs).cells.toList = cs.toList := rfl
  rw [hcs] at hcl hfl
  have cl : cs.toList.length = 2 := hcl.trans (by kernel_rfl)
  match hl : cs.toList, cl with
  | [c0, c1], _ =>
    rw [hl] at hfl
    have hx2 : xs.length = 2 := hxl
    match xs, hx2 with
    | [y0, y1], _ =>
      have k1 : Tryz.prog.cellsOf 22 = 1 := by kernel_rfl
      have k2 : Tryz.prog.cellsOf 23 = 1 := by kernel_rfl
      have g0 := hfl 0 _ rfl
      have g1 := hfl 1 _ rfl
      simp [k1, k2] at g0 g1
      obtain ⟨a0, n0, m0, e0, h00, h01⟩ := trod_slice_shape Tryz.underlying22 g0
      obtain ⟨a1, n1, m1, e1, h10, h11⟩ := trod_slice_shape Tryz.underlying23 g1
      simp only [List.cons.injEq, and_true] at e0 e1
      subst e0 e1
      obtain ⟨l, r0, _⟩ := argSl_shape (enc := eI.enc) (fun _ => True) Tryz.underlying22 (k := 1) (by kernel_rfl) (by decide) (fun _ => rfl) int_el ⟨_, _, _, rfl⟩ (⟨k, g0⟩ : DataW.Trod e' Tryz.prog w 0 spare held 22 (.slice a0 n0 m0) y0.1 y0.2)
      obtain ⟨E, r1, _⟩ := argSl_shape (enc := eE.enc) (fun _ => True) Tryz.underlying23 (k := 2) (by kernel_rfl) (by decide) (fun _ => rfl) edge_el ⟨_, _, _, rfl⟩ (⟨k, g1⟩ : DataW.Trod e' Tryz.prog w 0 spare held 23 (.slice a1 n1 m1) y1.1 y1.2)
      obtain ⟨s0, p0, q0⟩ := eI.rep_arg (by decide) r0 (fun a n c e => by cases e; exact ⟨h00, h01⟩)
      obtain ⟨s1, p1, q1⟩ := eE.rep_arg (by decide) r1 (fun a n c e => by cases e; exact ⟨h10, h11⟩)
      refine ⟨⟨l, E⟩, [.slice a0 n0 m0, .slice a1 n1 m1], ?_, ?_⟩
      · simp only [dPt, Sx.RepC, Sx.RepCs]
        have z0 : s0 = [.slice a0 n0 m0] := by
          have p0' := p0
          simp only [Sx.RepC] at p0'
          obtain ⟨_, _, _, rfl, _⟩ := p0'
          rw [q0]; rfl
        have z1 : s1 = [.slice a1 n1 m1] := by
          have p1' := p1
          simp only [Sx.RepC] at p1'
          obtain ⟨_, _, _, rfl, _⟩ := p1'
          rw [q1]; rfl
        subst z0 z1
        exact ⟨_, _, rfl, p0, _, _, rfl, p1, rfl⟩
      · show Value.agg cs = .agg _
        congr 1
        apply Array.toList_inj.1
        rw [hl]
/-- what a laid table's cells are -/
def valsOf : DataW Unit → Array Value
  | .agg ds => (ds.map fun | .lit (.int k n) => Value.int k n | _ => undef).toArray
  | _ => #[]
def setCells (cs : Array Value) : Obj → Obj
  | .cells _ t frozen => .cells cs t frozen
  | o => o
/-- A WORLD FOR THE WITNESS: the settled one, the variables' cells laid. -/
noncomputable def laidWorld (os : Os) : World :=
  let w0 := World.holding Tryz.prog os ⟨#[], #[], []⟩
  { w0 with heap := (((w0.heap.modify 0 (setCells #[.iface 238 (.agg #[.pointer (some ⟨5, 45, none⟩)])])).modify 1 (setCells (valsOf Rows.laid_internal_strconv_uint64pow10))).modify 3 (setCells (valsOf Rows.laid_math_bits_deBruijn32tab))).modify 4 (setCells (valsOf Rows.laid_math_bits_deBruijn64tab)) }
theorem laidWorld_met (os : Os) (args : Array Value) : laidMetH Tryz.prog laidAll ((laidWorld os).forCall (fun _ _ => 0) ⟨#[], args, []⟩).memory :=
  laidMetH_of_parts (laidMet_of_run' 8 (by kernel_rfl) (by kernel_rfl)) (by kernel_rfl)
end Go.Proofs.YthegabgbakckfaaGreatDoor
end

section
/- law12: alive, QuickImages: the walks. -/
namespace Go.Proofs.YthegabgbakckfaaGreatDoor
open Go.Sx Go.RowKit Go.Reg Go.Gr

set_option maxRecDepth 100000
def qxE : List Edg := [⟨0, 2⟩, ⟨1, 2⟩, ⟨0, 1⟩]
def qxG : Gr := ⟨[0, 0, 0], [⟨0, 1⟩, ⟨0, 2⟩, ⟨1, 2⟩]⟩
theorem qx_canon : canon qxE = qxG.edges := (canon_eq (by decide) (by decide) (by decide)).symm
theorem qx_made : madeY [0, 0, 0] qxE = .tuple [dG qxG, dM qxG.labels qxG.edges, .bool true] := by
  have h : madeG [0, 0, 0] qxE = some qxG := by
    unfold madeG
    rw [if_pos (by decide), show newErr [0, 0, 0] qxE = none by decide, qx_canon]; rfl
  unfold madeY
  rw [h]
theorem qx_ok : qxG.Ok := by
  have h : madeG [0, 0, 0] qxE = some qxG := by
    unfold madeG
    rw [if_pos (by decide), show newErr [0, 0, 0] qxE = none by decide, qx_canon]; rfl
  exact (madeG_some h).2.1
theorem qx_text : patB ⟨[0, 0], [⟨0, 1⟩]⟩ = [48, 44, 48, 124, 48, 45, 49] := by
  have h0 : Lib.itoa 0 = [48] := by rw [show (0 : Int) = ((0 : Nat) : Int) from rfl, itoa_nat, Lib.decDigits_one (by omega)]; rfl
  have h1 : Lib.itoa 1 = [49] := by rw [show (1 : Int) = ((1 : Nat) : Int) from rfl, itoa_nat, Lib.decDigits_one (by omega)]; rfl
  unfold patB edgB
  simp only [List.map_cons, List.map_nil, h0, h1]
  rfl
def pl_qal : List (Nat × Plan) := []
def G_qal : List FuncId := [14, 29, 56, 30]
theorem cok_qal : codeOk Tryz.prog G_qal pl_qal (Tryz.f13.body.getD .skip) = true := by kernel_rfl
theorem run_qal (vs : Array Value) (w : World) : (callFunc 13 vs).run C1.P w = .ok (.enter 13 vs) w := by kernel_rfl
set_option maxHeartbeats 4000000 in
theorem qalive_pure : Sx.Pure C3 13 [] (fun y => y = .bool true) := by
  have hmd := Pure.up3 (made_pure [0, 0, 0] qxE)
  rw [qx_made] at hmd
  have hv1 := Pure.up3 (qvert_pure qxG qx_ok [2, 0] ⟨[0, 0], [⟨0, 1⟩]⟩ (fun _ _ => by
    have := pmake1_pure [0, 0] (by decide) ⟨0, 1⟩ (by decide) (by decide) (by decide)
    rw [show ([2, 0] : List Int).map (labelV qxG) = [0, 0] by decide, show colsF (adjF qxG.edges ([2, 0] : List Int)) ([2, 0] : List Int).length = [⟨0, 1⟩] by decide]
    exact this) (by decide))
  rw [if_neg (by decide), if_neg (by decide)] at hv1
  have hv2 := Pure.up3 (qvert_pure qxG qx_ok [0, 0] ⟨[], []⟩ (fun _ h => by exact absurd h (by decide)) (by decide))
  rw [if_neg (by decide), if_pos (by decide)] at hv2
  have htx := ptext_pure ⟨[0, 0], [⟨0, 1⟩]⟩ (by decide) (by decide) (by decide) (by decide)
  rw [qx_text] at htx
  have hc := Pure.up3 (code_pure 2 0 listS)
  refine pure_of c3_ok (pl := pl_qal) (G := G_qal) Tryz.func13 rfl Tryz.ntmps13 run_qal cok_qal (by simp) ?_
  (conv => whnf)
  (repeat' ((first | refine ord_ok (by (conv => whnf); (repeat' ((first | refine call_frz 9 rfl ?_ | refine call_frz 13 rfl ?_ | refine call_eq (xs := [dIs [0, 0, 0], dEs qxE]) rfl hmd ?_ | refine call_frz 20 rfl ?_ | refine call_eq (xs := [dG qxG, dIs [2, 0]]) rfl hv1 ?_ | refine call_frz 26 rfl ?_ | refine call_eq (xs := [dG qxG, dIs [0, 0]]) rfl hv2 ?_ | refine call_eq rfl htx ?_ | refine call_eq rfl hc ?_ | refine ify ?_ | refine ifn ?_ | refine i6 ?_ | refine ati ?_ | refine mst ?_ | refine rmd ?_ | refine ibo (fun _ => ?_) (fun _ => ?_)) <;> conv => whnf)); (all_goals (repeat' (first | exact trivial | exact rfl | refine And.intro ?_ ?_)))) ?_ | refine call_frz 9 rfl ?_ | refine call_frz 13 rfl ?_ | refine call_eq (xs := [dIs [0, 0, 0], dEs qxE]) rfl hmd ?_ | refine call_frz 20 rfl ?_ | refine call_eq (xs := [dG qxG, dIs [2, 0]]) rfl hv1 ?_ | refine call_frz 26 rfl ?_ | refine call_eq (xs := [dG qxG, dIs [0, 0]]) rfl hv2 ?_ | refine call_eq rfl htx ?_ | refine call_eq rfl hc ?_ | refine ify ?_ | refine ifn ?_ | refine i6 ?_ | refine ati ?_ | refine mst ?_ | refine rmd ?_ | refine ibo (fun _ => ?_) (fun _ => ?_)) <;> conv => whnf))
  exact rfl
theorem pErr_code {p : Pt} {c : Int} {i : Nat} (h : pErr p = some (c, i)) : c ≠ 0 := by
  unfold pErr at h
  split at h
  · rename_i x hl
    cases h
    unfold lErr at hl
    split at hl
    · simp at hl; omega
    · obtain ⟨l1, k, l2, _, h2, _⟩ := List.findSome?_eq_some_iff.1 hl
      split at h2 <;> simp at h2
      omega
  · unfold eErr at h
    obtain ⟨l1, k, l2, _, h2, _⟩ := List.findSome?_eq_some_iff.1 h
    unfold eAt at h2
    split at h2
    · cases h2
    · obtain ⟨d, h3, h4⟩ := Option.map_eq_some_iff.1 h2
      cases h4
      unfold eBad at h3
      repeat' split at h3
      all_goals (cases h3 <;> decide)
def pl_qli : List (Nat × Plan) := [(16, .leaf [0, 0, 0, 1, 0, 0, 0, 1, 2, 0] [0, 1, 2, 4, 5, 6, 3, 7, 8, 9] [0, 0, 3, 7, 0, 0, 48, 112, 255, 511])]
def G_qli : List FuncId := [14, 16, 15, 17, 18, 19]
theorem cok_qli : codeOk Tryz.prog G_qli pl_qli (Tryz.f3.body.getD .skip) = true := by kernel_rfl
theorem run_qli (vs : Array Value) (w : World) : (callFunc 3 vs).run C1.P w = .ok (.enter 3 vs) w := by kernel_rfl
set_option maxHeartbeats 4000000 in
theorem qlimages_pure (labels : List Int) (edges : List Edg) (p : Pt) (whole : Bool) : Sx.Pure C3 3 [dIs labels, dEs edges, dPt p, .bool whole] (fun y => y = .bool true) := by
  have hdl : (labels.map dI).length = labels.length := List.length_map _
  have hdp : (p.labels.map dI).length = p.labels.length := List.length_map _
  have hde : (p.edges.map dE).length = p.edges.length := List.length_map _
  have hal := qalive_pure
  have hmd := Pure.up3 (made_pure labels edges)
  refine pure_of c3_ok (pl := pl_qli) (G := G_qli) Tryz.func3 rfl Tryz.ntmps3 run_qli cok_qli (by simp) ?_
  rcases made_case labels edges with e | ⟨G, e, hG, hn, hm, hGe, _, hlen⟩
  · rw [e] at hmd
    (conv => whnf)
    (repeat' ((first | refine ord_ok (by (conv => whnf); (repeat' ((first | refine call_eq rfl hal ?_ | refine call_eq rfl hmd ?_ | refine ify ?_ | refine ifn ?_ | refine i6 ?_ | refine ati ?_ | refine mst ?_ | refine rmd ?_ | refine ibo (fun _ => ?_) (fun _ => ?_)) <;> conv => whnf)); (all_goals (repeat' (first | exact trivial | exact rfl | refine And.intro ?_ ?_)))) ?_ | refine call_eq rfl hal ?_ | refine call_eq rfl hmd ?_ | refine ify ?_ | refine ifn ?_ | refine i6 ?_ | refine ati ?_ | refine mst ?_ | refine rmd ?_ | refine ibo (fun _ => ?_) (fun _ => ?_)) <;> conv => whnf))
    exact rfl
  rw [e] at hmd
  by_cases h7 : 7 < labels.length
  · (conv => whnf)
    (repeat' ((first | refine ord_ok (by (conv => whnf); (repeat' ((first | refine call_eq rfl hal ?_ | refine call_eq rfl hmd ?_ | refine ify ?_ | refine ifn ?_ | refine i6 ?_ | refine ati ?_ | refine mst ?_ | refine rmd ?_ | refine ibo (fun _ => ?_) (fun _ => ?_)) <;> conv => whnf)); (all_goals (repeat' (first | exact trivial | exact rfl | refine And.intro ?_ ?_)))) ?_ | refine call_eq rfl hal ?_ | refine call_eq rfl hmd ?_ | refine ify ?_ | refine ifn ?_ | refine i6 ?_ | refine ati ?_ | refine mst ?_ | refine rmd ?_ | refine ibo (fun _ => ?_) (fun _ => ?_)) <;> conv => whnf))
    exact rfl
  by_cases h4 : 4 < p.labels.length
  · (conv => whnf)
    (repeat' ((first | refine ord_ok (by (conv => whnf); (repeat' ((first | refine call_eq rfl hal ?_ | refine call_eq rfl hmd ?_ | refine ify ?_ | refine ifn ?_ | refine i6 ?_ | refine ati ?_ | refine mst ?_ | refine rmd ?_ | refine ibo (fun _ => ?_) (fun _ => ?_)) <;> conv => whnf)); (all_goals (repeat' (first | exact trivial | exact rfl | refine And.intro ?_ ?_)))) ?_ | refine call_eq rfl hal ?_ | refine call_eq rfl hmd ?_ | refine ify ?_ | refine ifn ?_ | refine i6 ?_ | refine ati ?_ | refine mst ?_ | refine rmd ?_ | refine ibo (fun _ => ?_) (fun _ => ?_)) <;> conv => whnf))
    exact rfl
  by_cases h20 : 20 < p.edges.length
  · (conv => whnf)
    (repeat' ((first | refine ord_ok (by (conv => whnf); (repeat' ((first | refine call_eq rfl hal ?_ | refine call_eq rfl hmd ?_ | refine ify ?_ | refine ifn ?_ | refine i6 ?_ | refine ati ?_ | refine mst ?_ | refine rmd ?_ | refine ibo (fun _ => ?_) (fun _ => ?_)) <;> conv => whnf)); (all_goals (repeat' (first | exact trivial | exact rfl | refine And.intro ?_ ?_)))) ?_ | refine call_eq rfl hal ?_ | refine call_eq rfl hmd ?_ | refine ify ?_ | refine ifn ?_ | refine i6 ?_ | refine ati ?_ | refine mst ?_ | refine rmd ?_ | refine ibo (fun _ => ?_) (fun _ => ?_)) <;> conv => whnf))
    exact rfl
  have hof := Pure.up3 (lawpt_pure p (by omega))
  have him := Pure.up3 (qimages_pure G hG p whole (by omega) (by omega) (by omega))
  have hri := Pure.up3 (rright_pure p (by omega) (by omega))
  rcases Decidable.em (¬ (pErr p = none ∧ p.labels.length ≠ 0)) with hok | hok
  · have ei : imagesY G p whole = .nils := by unfold imagesY; rw [if_neg (fun h => hok ⟨h.1, fun h0 => h.2 (List.eq_nil_of_length_eq_zero h0)⟩)]
    rw [ei] at him
    cases hp : pErr p with
    | some x =>
      obtain ⟨c, i⟩ := x
      have hc := pErr_code hp
      rw [hp] at hri
      (conv => whnf)
      (repeat' ((first | refine ord_ok (by (conv => whnf); (repeat' ((first | refine call_eq rfl hal ?_ | refine call_eq rfl hmd ?_ | refine call_eq rfl hof ?_ | refine call_eq rfl him ?_ | refine call_eq rfl hri ?_ | refine ify ?_ | refine ifn ?_ | refine i6 ?_ | refine ati ?_ | refine mst ?_ | refine rmd ?_ | refine ibo (fun _ => ?_) (fun _ => ?_)) <;> conv => whnf)); (all_goals (repeat' (first | exact trivial | exact rfl | refine And.intro ?_ ?_)))) ?_ | refine call_eq rfl hal ?_ | refine call_eq rfl hmd ?_ | refine call_eq rfl hof ?_ | refine call_eq rfl him ?_ | refine call_eq rfl hri ?_ | refine ify ?_ | refine ifn ?_ | refine i6 ?_ | refine ati ?_ | refine mst ?_ | refine rmd ?_ | refine ibo (fun _ => ?_) (fun _ => ?_)) <;> conv => whnf))
      exact rfl
    | none =>
      have h0 : p.labels.length = 0 := Decidable.byContradiction fun h => hok ⟨hp, h⟩
      rw [hp] at hri
      (conv => whnf)
      (repeat' ((first | refine ord_ok (by (conv => whnf); (repeat' ((first | refine call_eq rfl hal ?_ | refine call_eq rfl hmd ?_ | refine call_eq rfl hof ?_ | refine call_eq rfl him ?_ | refine call_eq rfl hri ?_ | refine ify ?_ | refine ifn ?_ | refine i6 ?_ | refine ati ?_ | refine mst ?_ | refine rmd ?_ | refine ibo (fun _ => ?_) (fun _ => ?_)) <;> conv => whnf)); (all_goals (repeat' (first | exact trivial | exact rfl | refine And.intro ?_ ?_)))) ?_ | refine call_eq rfl hal ?_ | refine call_eq rfl hmd ?_ | refine call_eq rfl hof ?_ | refine call_eq rfl him ?_ | refine call_eq rfl hri ?_ | refine ify ?_ | refine ifn ?_ | refine i6 ?_ | refine ati ?_ | refine mst ?_ | refine rmd ?_ | refine ibo (fun _ => ?_) (fun _ => ?_)) <;> conv => whnf))
      exact rfl
  obtain ⟨hp, h0'⟩ := Decidable.not_not.1 hok
  have h0 : p.labels ≠ [] := fun h => h0' (by rw [h]; rfl)
  have hpl : 0 < p.labels.length := List.length_pos_iff.2 h0
  have ei : imagesY G p whole = dLL (imgs G.labels.length (okI G p whole) p.labels.length []) := by unfold imagesY; rw [if_pos ⟨hp, h0⟩]
  rw [ei, images_same hG hp] at him
  rw [hp] at hri
  have hrm := Pure.up3 (rimages_pure G p whole (by omega) (by omega) (by omega) hpl (by omega))
  have hcnt := iterL_count G.labels.length p.labels.length
  have hpow := pow_le8 (n := G.labels.length) (k := p.labels.length) (by omega) (by omega)
  have hfl := List.length_filter_le (okL G p whole) (iterL G.labels.length p.labels.length [[]])
  generalize (iterL G.labels.length p.labels.length [[]]).filter (okL G p whole) = X at him hrm hfl
  have hdX : (X.map dIs).length = X.length := List.length_map _
  (conv => whnf)
  (repeat' ((first | refine ord_ok (by (conv => whnf); (repeat' ((first | refine call_eq rfl hal ?_ | refine call_eq rfl hmd ?_ | refine call_eq rfl hof ?_ | refine call_eq rfl him ?_ | refine call_eq rfl hri ?_ | refine call_eq rfl hrm ?_ | refine ify ?_ | refine ifn ?_ | refine i6 ?_ | refine ati ?_ | refine mst ?_ | refine rmd ?_ | refine ibo (fun _ => ?_) (fun _ => ?_)) <;> conv => whnf)); (all_goals (repeat' (first | exact trivial | exact rfl | refine And.intro ?_ ?_)))) ?_ | refine call_eq rfl hal ?_ | refine call_eq rfl hmd ?_ | refine call_eq rfl hof ?_ | refine call_eq rfl him ?_ | refine call_eq rfl hri ?_ | refine call_eq rfl hrm ?_ | refine ify ?_ | refine ifn ?_ | refine i6 ?_ | refine ati ?_ | refine mst ?_ | refine rmd ?_ | refine ibo (fun _ => ?_) (fun _ => ?_)) <;> conv => whnf))
  refine loop_lo (ι := Nat) (fun i => i ≤ X.length) (fun i => [(16, .d (.int .i64 i)), (15, .d (dLL X)), (12, .d (dLL X))]) (fun i => []) (fun i => X.length - i) 0 (fun _ => rfl) (Nat.zero_le _) (.refl _ _) ⟨rfl, rfl, rfl, trivial⟩ trivial ?_
  intro i hi
  refine sxCode_sound c3_ok (G := G_qli) (pl := pl_qli) _ _ _ _ (by kernel_rfl) ?_
  by_cases hil : i < X.length
  · have hx := List.getElem?_eq_getElem hil
    generalize X[i] = L at hx
    have hxd : (X.map dIs)[i]? = some (dIs L) := by rw [List.getElem?_map, hx]; rfl
    have hsm := Pure.up3 (same_pure L L)
    rw [decide_eq_true rfl] at hsm
    (conv => whnf)
    (repeat' ((first | refine ord_ok (by (conv => whnf); (repeat' ((first | refine at_da hxd rfl ?_ | refine call_eq rfl hsm ?_ | refine ify ?_ | refine ifn ?_ | refine i6 ?_ | refine ati ?_ | refine mst ?_ | refine rmd ?_ | refine ibo (fun _ => ?_) (fun _ => ?_)) <;> conv => whnf)); (all_goals (repeat' (first | exact trivial | exact rfl | refine And.intro ?_ ?_)))) ?_ | refine at_da hxd rfl ?_ | refine call_eq rfl hsm ?_ | refine ify ?_ | refine ifn ?_ | refine i6 ?_ | refine ati ?_ | refine mst ?_ | refine rmd ?_ | refine ibo (fun _ => ?_) (fun _ => ?_)) <;> conv => whnf))
    exact ⟨i + 1, _, _, by omega, .refl _ _, ⟨rfl, rfl, rfl, trivial⟩, trivial, by omega⟩
  · ((conv => whnf); repeat' ((first | refine odw ?_ | refine ify ?_ | refine ifn ?_ | refine i6 ?_ | refine ati ?_ | refine mst ?_ | refine rmd ?_ | refine ibo (fun _ => ?_) (fun _ => ?_)) <;> conv => whnf))
    exact rfl
end Go.Proofs.YthegabgbakckfaaGreatDoor
end

section
/- fretworklaw12.QuickImages returns true and leaves its input as it was, whatever the input. Provided that the listed variables hold what the text lays in them (the row lists them). The walk: qlimages_pure. -/
namespace Go.Proofs.YthegabgbakckfaaGreatDoor
open Go.ChangeShapes Go.WideShapes Go.ChangeAt Go.RowKit Go.Reg Go.Gr Go.ChangeMaps

set_option maxRecDepth 100000 in
theorem contractQuickImages (H : Type) (enc : TypeId × Value → H) (W : World) (base : Nat) (args : Array Value) (ds gs : List (DataW H)) (before : List MemPlace)
    (hval : ∀ (j : Nat) t v, Tryz.f3.params[j]? = some t → args[j]? = some v → Value.okWide Tryz.prog W .any base t v)
    (hW : DataW.Whole enc Tryz.prog Tryz.f3.params.toList Rows.quickImagesSpec.vars false W args.toList ds gs before) (hsz0 : (DataW.weightsEach Tryz.prog (Tryz.f3.params.toList ++ (OpenSpec.ofChange Rows.quickImagesSpec).bare.plain.varTypes Tryz.prog) (ds ++ gs)).all (· ≤ reachBytes) = true) (hL : laidMetH Tryz.prog Rows.quickImagesRow.laid W) (hsh : W.ShapedOpen Tryz.prog) :
    Calls Tryz.prog 3 args W fun e W' => ∃ v, e = .returned v ∧ Rows.quickImagesSpec.post enc Tryz.prog Tryz.f3 false true false false W args v W' := by
  have hsz := hsz0
  clear hsz0
  have hW' := hW
  obtain ⟨p, q, hA0, hV, rfl, hfz, hnd⟩ := hW
  have hA : DataW.TrodAll enc Tryz.prog W 0 (fun _ => true) true Tryz.f3.params.toList args.toList ds p := hA0
  rw [Tryz.params3] at hA hval hsz
  obtain ⟨v0, v1, v2, v3, d0, d1, d2, d3, p0, p1, p2, p3, rfl, rfl, rfl, h0, h1, h2, h3⟩ := trodAll_four hA
  obtain ⟨rfl, rfl⟩ := trodVars_none hV
  have c0 := Sx.cap_of Tryz.underlying22 (hval 0 _ _ rfl rfl) h0
  obtain ⟨x0, a0, _⟩ := argSl_of (enc := eI.enc) (fun _ => True) Tryz.underlying22 (k := 1) (by kernel_rfl) (by decide) (fun _ => rfl) int_el (hval 0 _ _ rfl rfl) h0
  have c1 := Sx.cap_of Tryz.underlying23 (hval 1 _ _ rfl rfl) h1
  obtain ⟨x1, a1, _⟩ := argSl_of (enc := eE.enc) (fun _ => True) Tryz.underlying23 (k := 2) (by kernel_rfl) (by decide) (fun _ => rfl) edge_el (hval 1 _ _ rfl rfl) h1
  obtain ⟨x2, r2⟩ := open_pat (hval 2 _ _ rfl rfl) h2
  obtain ⟨x3, rfl, rfl, rfl⟩ := open_bool Tryz.underlying4 (hval 3 _ _ rfl rfl) h3
  have hg := globs_of (show laidMetH Tryz.prog laidAll W from hL)
  have l0 : ∀ x ∈ p0, x.block < W.heap.size := fun x hx => by have := hW'.lt x (by simp [hx]); simpa using this
  have l1 : ∀ x ∈ p1, x.block < W.heap.size := fun x hx => by have := hW'.lt x (by simp [hx]); simpa using this
  have l2 : ∀ x ∈ p2, x.block < W.heap.size := fun x hx => by have := hW'.lt x (by simp [hx]); simpa using this
  refine ((qlimages_pure x0 x1 x2 x3).calls hg (Sx.reps_cons (eI.rep_arg (by decide) a0 c0) (Sx.reps_cons (eE.rep_arg (by decide) a1 c1) (Sx.reps_cons r2 (Sx.reps_cons (Sx.rep_of_bool x3) Sx.reps_nil))))).mono fun e W' ⟨u, y, he, hy, hr, ht⟩ => ?_
  subst hy
  obtain rfl := rep_bool hr
  subst he
  refine ⟨_, rfl, _, _, _, [], p0 ++ (p1 ++ (p2 ++ [])), [], hW', ?_, ?_, ?_, ?_, fun h => by cases h⟩
  · exact trodAll_mk1 (shut_bool Tryz.underlying4 true)
  · exact trodAll_mk4 (Below.trod laidOut (by kernel_rfl) (of_decide_eq_true (by kernel_rfl)) h0 ht.below l0) (Below.trod laidOut (by kernel_rfl) (of_decide_eq_true (by kernel_rfl)) h1 ht.below l1) (Below.trod laidOut (by kernel_rfl) (of_decide_eq_true (by kernel_rfl)) h2 ht.below l2) (shut_bool Tryz.underlying4 x3)
  · rfl
  · refine ⟨ht.os, ht.output, fun i hi => ?_⟩
    rw [ht.blk i hi (by simp)]
    have hsome : ∃ o, W.heap[i]? = some o := ⟨_, Array.getElem?_eq_getElem hi⟩
    obtain ⟨o, ho⟩ := hsome
    rw [ho]
    cases o <;> simp

theorem readsQuickImages (os : Os) {H : Type} (enc : TypeId × Value → H) : ∃ places, DataW.whole enc Tryz.prog ((laidWorld os).forCall (fun _ _ => 0) ⟨#[], #[.slice none 0 0, .slice none 0 0, .agg #[.slice none 0 0, .slice none 0 0], .bool false], []⟩).memory Tryz.f3.params.toList Rows.quickImagesSpec.vars false #[.slice none 0 0, .slice none 0 0, .agg #[.slice none 0 0, .slice none 0 0], .bool false].toList 8 = some ([.nil, .nil, .agg [.nil, .nil], .lit (.bool false)], [], places) :=
  ⟨[], by kernel_rfl⟩

set_option maxRecDepth 100000 in
theorem liftedQuickImages (os : Os) (started : os.Started) (H : Type) (enc : TypeId × Value → H) (F : Stop.Interp) :
    ReturnsInHanded {} Tryz.checked os 3 .any ((OpenSpec.ofChange Rows.quickImagesSpec).preRow enc Tryz.prog Tryz.f3 Rows.quickImagesRow.domain false Rows.quickImagesRow.laid) (((OpenSpec.ofChange Rows.quickImagesSpec).at F).post enc Tryz.prog Tryz.f3 false true false false) := by
  obtain ⟨places, hx⟩ := readsQuickImages os enc
  refine returnsInHanded_of_row (C := Tryz.checked) (s := OpenSpec.ofChange Rows.quickImagesSpec) own started (by kernel_rfl) Tryz.func3
    (witness_row_at (enc := enc) (C := Tryz.checked) false (laidWorld os) #[.slice none 0 0, .slice none 0 0, .agg #[.slice none 0 0, .slice none 0 0], .bool false] rfl (by kernel_rfl) (by kernel_rfl) (by kernel_rfl)
      (OpenSpec.preRow_of_cond 8 hx (by kernel_rfl) (fun k hk => by cases hk) (by kernel_rfl) (laidWorld_met os _))) ?_
  intro W base args ds gs before hval hW _ _ hsz hL hsh _
  exact contractQuickImages H enc W base args ds gs before hval hW hsz hL hsh

theorem saidQuickImages : Rows.QuickImagesSaid :=
  OpenClaim.holds_of_cond 3 Tryz.f3 rfl rfl rfl rfl rfl rfl rfl ⟨rfl, rfl, rfl, rfl, rfl⟩ rfl rfl rfl rfl rfl (by kernel_rfl) Tryz.func3 (by kernel_rfl)
    (of_decide_eq_true (by kernel_rfl)) (by unfold Func.isWrapper; first | (rw [if_pos (by decide +kernel)]; kernel_rfl) | (rw [if_neg (by decide +kernel)]; exact ⟨rfl, rfl⟩))
    (fun os started H enc _ F => by rw [OpenClaim.pre_eq_preRow]; exact liftedQuickImages os started H enc F)

theorem plainQuickImages (f : FuncId) (fn : Func) (hf : Tryz.pinned.checked.prog.funcNamed "fretwork/fretworklaw12.QuickImages" = some f) (hfn : Tryz.pinned.checked.prog.funcs[f]? = some fn) :
    true = Tryz.pinned.checked.prog.looks [] ∧ ∀ (j : Nat) t, fn.params[j]? = some t → Tryz.pinned.checked.prog.wantsStandIn t = false := by
  obtain rfl : f = 3 := Option.some.inj ((show Tryz.prog.funcNamed "fretwork/fretworklaw12.QuickImages" = some 3 by kernel_rfl).symm.trans hf) |>.symm
  obtain rfl : fn = Tryz.f3 := (Option.some.inj (Tryz.func3.symm.trans hfn)).symm
  refine ⟨by kernel_rfl, fun j t ht => ?_⟩
  rw [Tryz.params3] at ht
  have hm := Array.mem_of_getElem? ht
  simp at hm
  rcases hm with rfl | rfl | rfl | rfl
  · exact (show Tryz.prog.wantsStandIn 22 = false by kernel_rfl)
  · exact (show Tryz.prog.wantsStandIn 23 = false by kernel_rfl)
  · exact (show Tryz.prog.wantsStandIn 25 = false by kernel_rfl)
  · exact (show Tryz.prog.wantsStandIn 4 = false by kernel_rfl)

theorem cardQuickImages : Rows.QuickImagesCardSaid :=
  Claim7.holds_tied_plain_at .later [] _ _ _ _ saidQuickImages (fun _ h => by cases h) (by kernel_rfl) (fun _ h => by cases h) quickImages_row_tie rfl ⟨rfl, rfl⟩ (by kernel_rfl) rfl plainQuickImages (by kernel_rfl)
#print axioms cardQuickImages
end Go.Proofs.YthegabgbakckfaaGreatDoor
end
