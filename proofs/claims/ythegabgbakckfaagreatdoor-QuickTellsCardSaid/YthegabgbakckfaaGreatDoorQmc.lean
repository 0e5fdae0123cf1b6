/- Merged: Pmk Ptx Qdx Qii Ins Pmg Lnp Lnm Lng Qtp Qta Qtb Qtl Qtc Qtd. -/
import Derived.Test.YthegabgbakckfaaGreatDoorQma
import Derived.Test.YthegabgbakckfaaGreatDoorVla
import Derived.Test.YthegabgbakckfaaGreatDoorLst
import Derived.Test.YthegabgbakckfaaGreatDoorGvr
import Derived.Lib.Join
import Derived.Test.YthegabgbakckfaaGreatDoorArg
import Derived.Test.YthegabgbakckfaaGreatDoorCards
import Derived.Test.YthegabgbakckfaaGreatDoorTie
import Derived.WalkKit
import Derived.ProofKit
import Derived.OpenShut
import Derived.ChangeMaps5
import Derived.ChangeSame
import Derived.SizedLaws
import Derived.Deep.DeepHandedRow
import Derived.Lib.LaidTab
import Derived.LaidHandle
import Derived.Carry
import Derived.Stop.LaidErr
import Derived.Test.YthegabgbakckfaaGreatDoorFsu
import Derived.Test.YthegabgbakckfaaGreatDoorGrc
import Derived.Test.YthegabgbakckfaaGreatDoorSli
import Derived.Test.YthegabgbakckfaaGreatDoorSxu
import Derived.Shelf.Spec.SlicesInsert
import Derived.Lib.AppendZerosOnto
import Derived.Laws.CopyRow
import Derived.Test.YthegabgbakckfaaGreatDoorLna
import Derived.Test.YthegabgbakckfaaGreatDoorLnf
import Derived.Test.YthegabgbakckfaaGreatDoorRfa
import Derived.Test.YthegabgbakckfaaGreatDoorLnb
section
/- pat: Make of one edge. quick: labels, Vert. -/
namespace Go.Gr
/-- pairs of places, the greater first, of which f is told -/
def colF (f : Nat → Nat → Bool) (i k : Nat) : List Edg := ((List.range k).filter fun x => f x i).map fun x : Nat => ⟨(x : Int), (i : Int)⟩
def colsF (f : Nat → Nat → Bool) (n : Nat) : List Edg := (List.range n).flatMap fun i => colF f i i
theorem colF_step (f : Nat → Nat → Bool) (i k : Nat) : colF f i (k + 1) = colF f i k ++ if f k i then [⟨(k : Int), (i : Int)⟩] else [] := by
  unfold colF
  rw [List.range_succ, List.filter_append, List.map_append]
  congr 1
  by_cases hf : f k i <;> simp [hf]
theorem colsF_step (f : Nat → Nat → Bool) (n : Nat) : colsF f (n + 1) = colsF f n ++ colF f n n := by simp [colsF, List.range_succ]
theorem colF_len (f : Nat → Nat → Bool) (i k : Nat) : (colF f i k).length ≤ k := by
  unfold colF
  rw [List.length_map]
  exact Nat.le_trans (List.length_filter_le _ _) (by simp)
theorem colsF_len (f : Nat → Nat → Bool) : ∀ n, (colsF f n).length ≤ n * n
  | 0 => by simp [colsF]
  | n + 1 => by
    have h1 := colsF_len f n
    have h2 := colF_len f n n
    rw [colsF_step, List.length_append, Nat.mul_add, Nat.add_mul]; omega
/-- are two of a list's vertices beside each other? -/
def adjF (E : List Edg) (l : List Int) (k i : Nat) : Bool := decide (turn ⟨(l[k]?).getD 0, (l[i]?).getD 0⟩ ∈ E)
end Go.Gr
namespace Go.Proofs.YthegabgbakckfaaGreatDoor
open Go.Sx Go.RowKit Go.Reg Go.Gr

set_option maxRecDepth 100000
def listS : ByteArray := ⟨#[108, 105, 115, 116]⟩
def dP0 : Da := .agg [.nils, .nils]
def pl_sin0 : List (Nat × Plan) := [(11, .leaf [0, 0, 0, 0, 0, 0, 0, 0, 3] [0, 1, 2, 3, 4, 5, 6, 7, 8] [0, 0, 0, 6, 15, 0, 0, 96, 255]),
  (15, .leaf [0, 0, 0, 0, 0, 0, 0, 0, 3] [0, 1, 2, 3, 4, 5, 6, 7, 8] [0, 0, 0, 6, 15, 0, 0, 96, 255])]
def G_sin0 : List FuncId := []
theorem cok_sin0 : codeOk Tryz.prog G_sin0 pl_sin0 (Tryz.f140.body.getD .skip) = true := by kernel_rfl
theorem run_sin0 (vs : Array Value) (w : World) : (callFunc 140 vs).run C1.P w = .ok (.enter 140 vs) w := by kernel_rfl
theorem insert0_pure (e : Edg) : Pure C1 140 [.nils, .int .i64 0, .list 2 [dE e]] (fun y => y = .list 2 [dE e]) := by
  have hlen : ([dE e] : List Da).length = 1 := rfl
  refine pure_of c1_ok (pl := pl_sin0) (G := G_sin0) Tryz.func140 rfl Tryz.ntmps140 run_sin0 cok_sin0 (by simp) ?_
  ((conv => whnf); repeat' ((first | refine odw ?_ | refine ify ?_ | refine ifn ?_ | refine i6 ?_ | refine ati ?_ | refine mst ?_ | refine rmd ?_ | refine ibo (fun _ => ?_) (fun _ => ?_)) <;> conv => whnf))
  refine ⟨rfl, ?_⟩
  ((conv => whnf); repeat' ((first | refine odw ?_ | refine ify ?_ | refine ifn ?_ | refine i6 ?_ | refine ati ?_ | refine mst ?_ | refine rmd ?_ | refine ibo (fun _ => ?_) (fun _ => ?_)) <;> conv => whnf))
  exact rfl
def pl_pmk : List (Nat × Plan) := [(8, .leaf [0, 1, 1, 2, 2, 0, 0, 0, 0, 0] [0, 1, 2, 3, 4, 5, 6, 7, 8, 9] [0, 1, 0, 4, 15, 31, 63, 63, 127, 511]),
  (13, .leaf [0, 1, 0, 1, 2, 6, 2, 0, 3] [0, 2, 1, 3, 4, 5, 6, 7, 8] [0, 1, 0, 0, 8, 24, 63, 127, 255])]
def G_pmk : List FuncId := [74, 139, 108, 140]
theorem cok_pmk : codeOk Tryz.prog G_pmk pl_pmk (Tryz.f84.body.getD .skip) = true := by kernel_rfl
theorem run_pmk (vs : Array Value) (w : World) : (callFunc 84 vs).run C1.P w = .ok (.enter 84 vs) w := by kernel_rfl
set_option maxHeartbeats 4000000 in
theorem pmake1_pure (l : List Int) (hl : lErr l = none) (e : Edg) (h1 : 0 ≤ e.a) (h2 : e.a < e.b) (h3 : e.b < l.length) : Pure C1 84 [dIs l, .list 2 [dE e]] (fun y => y = .tuple [dPt ⟨l, [e]⟩, .nili]) := by
  have hdl : (l.map dI).length = l.length := List.length_map _
  have h8 := (lErr_none hl).1
  have hlb := plabels_pure l (by omega)
  rw [show labelsY l = .nili by unfold labelsY; rw [hl]] at hlb
  have hte : turn e = e := turn_lt (by omega)
  have htu := pturned_pure e
  rw [hte] at htu
  have hbs : Pure C1 139 [.nils, dE e, .func (.func 76) [] []] (fun y => y = .tuple [.int .i64 0, .bool false]) := Sx.Pure.lax (.cons (.nils 2) (.cons (.refl _) (.cons (.refl _) .nil))) (bsearchO_pure _ porder_pure [] List.Pairwise.nil (by simp) e)
  have hwi := within_pure e l.length
  rw [decide_eq_true (by omega), ← hdl] at hwi
  have hin := insert0_pure e
  have hed : ([dE e] : List Da)[0]? = some (.agg [.int .i64 e.a, .int .i64 e.b]) := rfl
  refine pure_of c1_ok (pl := pl_pmk) (G := G_pmk) Tryz.func84 rfl Tryz.ntmps84 run_pmk cok_pmk (by simp) ?_
  (conv => whnf)
  (repeat' ((first | refine ord_ok (by (conv => whnf); (repeat' ((first | refine call_eq rfl hlb ?_ | refine ify ?_ | refine ifn ?_ | refine i6 ?_ | refine ati ?_ | refine mst ?_ | refine rmd ?_ | refine ibo (fun _ => ?_) (fun _ => ?_)) <;> conv => whnf)); (all_goals (repeat' (first | exact trivial | exact rfl | refine And.intro ?_ ?_)))) ?_ | refine call_eq rfl hlb ?_ | refine ify ?_ | refine ifn ?_ | refine i6 ?_ | refine ati ?_ | refine mst ?_ | refine rmd ?_ | refine ibo (fun _ => ?_) (fun _ => ?_)) <;> conv => whnf))
  refine call_mksl 19 rfl rfl (clone_sl l (by omega)) ?_
  rintro ds rfl
  ((conv => whnf); repeat' ((first | refine odw ?_ | refine ify ?_ | refine ifn ?_ | refine i6 ?_ | refine ati ?_ | refine mst ?_ | refine rmd ?_ | refine ibo (fun _ => ?_) (fun _ => ?_)) <;> conv => whnf))
  refine loop_lo (ι := Bool) (fun _ => True) (fun b => [(23, .d (.int .i64 (if b then 1 else 0))), (22, .d (.int .i64 1)), (21, .d (.list 2 [dE e])), (7, .own 7), (4, .own 4), (0, .d (dIs l))]) (fun b => [(4, .cells 35 [.d .nils, .d .nils]), (7, .cells 35 [.d (dIs l), .d (if b then .list 2 [dE e] else .nils)])]) (fun b => if b then 0 else 1) false (fun b => by cases b <;> rfl) trivial (.frz 19 rfl (.refl _ _)) ⟨rfl, rfl, rfl, rfl, rfl, rfl, trivial⟩ ⟨rfl, rfl, trivial⟩ ?_
  intro b _
  cases b with
  | false =>
    show CodeSem C1 _ _ _ [(23, .d (.int .i64 0)), (22, .d (.int .i64 1)), (21, .d (.list 2 [dE e])), (7, .own 7), (4, .own 4), (0, .d (dIs l))] [(4, .cells 35 [.d .nils, .d .nils]), (7, .cells 35 [.d (dIs l), .d .nils])]
    refine sxCode_sound c1_ok (G := G_pmk) (pl := pl_pmk) _ _ _ _ (by kernel_rfl) ?_
    (conv => whnf)
    (repeat' ((first | refine ord_ok (by (conv => whnf); (repeat' ((first | refine at_da hed rfl ?_ | refine call_eq rfl htu ?_ | refine call_eq rfl hbs ?_ | refine call_eq rfl hwi ?_ | refine call_frz 62 rfl ?_ | refine call_eq rfl hin ?_ | refine ify ?_ | refine ifn ?_ | refine i6 ?_ | refine ati ?_ | refine mst ?_ | refine rmd ?_ | refine ibo (fun _ => ?_) (fun _ => ?_)) <;> conv => whnf)); (all_goals (repeat' (first | exact trivial | exact rfl | refine And.intro ?_ ?_)))) ?_ | refine at_da hed rfl ?_ | refine call_eq rfl htu ?_ | refine call_eq rfl hbs ?_ | refine call_eq rfl hwi ?_ | refine call_frz 62 rfl ?_ | refine call_eq rfl hin ?_ | refine ify ?_ | refine ifn ?_ | refine i6 ?_ | refine ati ?_ | refine mst ?_ | refine rmd ?_ | refine ibo (fun _ => ?_) (fun _ => ?_)) <;> conv => whnf))
    exact ⟨true, _, _, trivial, .refl _ _, ⟨rfl, rfl, rfl, rfl, rfl, rfl, trivial⟩, ⟨rfl, rfl, trivial⟩, Nat.zero_lt_one⟩
  | true =>
    show CodeSem C1 _ _ _ [(23, .d (.int .i64 1)), (22, .d (.int .i64 1)), (21, .d (.list 2 [dE e])), (7, .own 7), (4, .own 4), (0, .d (dIs l))] [(4, .cells 35 [.d .nils, .d .nils]), (7, .cells 35 [.d (dIs l), .d (.list 2 [dE e])])]
    refine sxCode_sound c1_ok (G := G_pmk) (pl := pl_pmk) _ _ _ _ (by kernel_rfl) ?_
    ((conv => whnf); repeat' ((first | refine odw ?_ | refine ify ?_ | refine ifn ?_ | refine i6 ?_ | refine ati ?_ | refine mst ?_ | refine rmd ?_ | refine ibo (fun _ => ?_) (fun _ => ?_)) <;> conv => whnf))
    exact rfl
def pl_qlb : List (Nat × Plan) := []
def G_qlb : List FuncId := [51]
theorem cok_qlb : codeOk Tryz.prog G_qlb pl_qlb (Tryz.f85.body.getD .skip) = true := by kernel_rfl
theorem run_qlb (vs : Array Value) (w : World) : (callFunc 85 vs).run C1.P w = .ok (.enter 85 vs) w := by kernel_rfl
theorem qlabels_pure (G : Gr) (l : List Int) (hl : l.length ≤ 100000) : Pure C1 85 [dG G, dIs l] (fun y => y = dIs (l.map (labelV G))) := by
  have hdl : (l.map dI).length = l.length := List.length_map _
  refine pure_of c1_ok (pl := pl_qlb) (G := G_qlb) Tryz.func85 rfl Tryz.ntmps85 run_qlb cok_qlb (by simp) ?_
  ((conv => whnf); repeat' ((first | refine odw ?_ | refine ify ?_ | refine ifn ?_ | refine i6 ?_ | refine ati ?_ | refine mst ?_ | refine rmd ?_ | refine ibo (fun _ => ?_) (fun _ => ?_)) <;> conv => whnf))
  refine loop_lo (ι := Nat) (fun i => i ≤ l.length) (fun i => [(10, .d (.int .i64 i)), (9, .d (.int .i64 l.length)), (8, .d (dIs l)), (5, .own 300), (0, .d (dG G))]) (fun i => [(300, .slice 3 1 (((l.take i).map (labelV G)).map dI))]) (fun i => l.length - i) 0 (fun _ => rfl) (Nat.zero_le _) (.own 5 300 3 1 rfl rfl (.refl _ _)) ⟨rfl, by rw [← hdl]; rfl, rfl, rfl, rfl, trivial⟩ ⟨rfl, trivial⟩ ?_
  intro i hi
  refine sxCode_sound c1_ok (G := G_qlb) (pl := pl_qlb) _ _ _ _ (by kernel_rfl) ?_
  by_cases hil : i < l.length
  · have hx := List.getElem?_eq_getElem hil
    generalize l[i] = x at hx
    have hxd : (l.map dI)[i]? = some (.int .i64 x) := by rw [List.getElem?_map, hx]; rfl
    have hlb := label_pure G x
    have hll : (((l.take i).map (labelV G)).map dI).length = i := by simp only [List.length_map, List.length_take]; omega
    (conv => whnf)
    (repeat' ((first | refine ord_ok (by (conv => whnf); (repeat' ((first | refine at_da hxd rfl ?_ | refine call_eqb tab rfl hlb rfl ?_ | refine ify ?_ | refine ifn ?_ | refine i6 ?_ | refine ati ?_ | refine mst ?_ | refine rmd ?_ | refine ibo (fun _ => ?_) (fun _ => ?_)) <;> conv => whnf)); (all_goals (repeat' (first | exact trivial | exact rfl | refine And.intro ?_ ?_)))) ?_ | refine at_da hxd rfl ?_ | refine call_eqb tab rfl hlb rfl ?_ | refine ify ?_ | refine ifn ?_ | refine i6 ?_ | refine ati ?_ | refine mst ?_ | refine rmd ?_ | refine ibo (fun _ => ?_) (fun _ => ?_)) <;> conv => whnf))
    refine ⟨i + 1, _, _, by omega, .refl _ _, ⟨rfl, rfl, rfl, rfl, rfl, trivial⟩, ⟨slice_is ?_, trivial⟩, by omega⟩
    rw [List.take_add_one, hx]; simp [dI]
  · have e : l.take i = l := List.take_of_length_le (by omega)
    rw [e]
    ((conv => whnf); repeat' ((first | refine odw ?_ | refine ify ?_ | refine ifn ?_ | refine i6 ?_ | refine ati ?_ | refine mst ?_ | refine rmd ?_ | refine ibo (fun _ => ?_) (fun _ => ?_)) <;> conv => whnf))
    exact rfl
def pl_qvt : List (Nat × Plan) := []
def G_qvt : List FuncId := [82, 83, 85, 84]
theorem cok_qvt : codeOk Tryz.prog G_qvt pl_qvt (Tryz.f29.body.getD .skip) = true := by kernel_rfl
theorem run_qvt (vs : Array Value) (w : World) : (callFunc 29 vs).run C1.P w = .ok (.enter 29 vs) w := by kernel_rfl
set_option maxHeartbeats 4000000 in
theorem qvert_pure (G : Gr) (hG : G.Ok) (l : List Int) (q : Pt) (hmk : l.length ≤ 8 → linkedV G l = true → Pure C1 84 [dIs (l.map (labelV G)), dEs (colsF (adjF G.edges l) l.length)] (fun y => y = .tuple [dPt q, .nili])) (hm : l.length ≤ 9000000000000000000) :
    Pure C1 29 [dG G, dIs l] (fun y => y = if 8 < l.length then .tuple [dP0, dF 6 0 listS] else if linkedV G l = false then .tuple [dP0, dF 2 0 listS] else .tuple [dPt q, .nili]) := by
  have hdl : (l.map dI).length = l.length := List.length_map _
  have hlk := linked_pure G hG l
  refine pure_of c1_ok (pl := pl_qvt) (G := G_qvt) Tryz.func29 rfl Tryz.ntmps29 run_qvt cok_qvt (by simp) ?_
  by_cases h8 : 8 < l.length
  · rw [if_pos h8]
    (conv => whnf)
    (repeat' ((first | refine ord_ok (by (conv => whnf); (repeat' ((first | refine call_eq rfl (fnew_pure 6 0 listS) ?_ | refine ify ?_ | refine ifn ?_ | refine i6 ?_ | refine ati ?_ | refine mst ?_ | refine rmd ?_ | refine ibo (fun _ => ?_) (fun _ => ?_)) <;> conv => whnf)); (all_goals (repeat' (first | exact trivial | exact rfl | refine And.intro ?_ ?_)))) ?_ | refine call_eq rfl (fnew_pure 6 0 listS) ?_ | refine ify ?_ | refine ifn ?_ | refine i6 ?_ | refine ati ?_ | refine mst ?_ | refine rmd ?_ | refine ibo (fun _ => ?_) (fun _ => ?_)) <;> conv => whnf))
    exact rfl
  rw [if_neg h8]
  cases hl : linkedV G l with
  | false =>
    rw [hl] at hlk
    rw [if_pos rfl]
    (conv => whnf)
    (repeat' ((first | refine ord_ok (by (conv => whnf); (repeat' ((first | refine call_eq rfl hlk ?_ | refine call_eq rfl (fnew_pure 2 0 listS) ?_ | refine ify ?_ | refine ifn ?_ | refine i6 ?_ | refine ati ?_ | refine mst ?_ | refine rmd ?_ | refine ibo (fun _ => ?_) (fun _ => ?_)) <;> conv => whnf)); (all_goals (repeat' (first | exact trivial | exact rfl | refine And.intro ?_ ?_)))) ?_ | refine call_eq rfl hlk ?_ | refine call_eq rfl (fnew_pure 2 0 listS) ?_ | refine ify ?_ | refine ifn ?_ | refine i6 ?_ | refine ati ?_ | refine mst ?_ | refine rmd ?_ | refine ibo (fun _ => ?_) (fun _ => ?_)) <;> conv => whnf))
    exact rfl
  | true =>
    rw [hl] at hlk
    rw [if_neg (by decide)]
    have hmk := hmk (by omega) hl
    have hql := qlabels_pure G l (by omega)
    have hcl := colsF_len (adjF G.edges l)
    have hsq : l.length * l.length ≤ 8 * 8 := Nat.mul_le_mul (by omega) (by omega)
    (conv => whnf)
    (repeat' ((first | refine ord_ok (by (conv => whnf); (repeat' ((first | refine call_eq rfl hlk ?_ | refine ify ?_ | refine ifn ?_ | refine i6 ?_ | refine ati ?_ | refine mst ?_ | refine rmd ?_ | refine ibo (fun _ => ?_) (fun _ => ?_)) <;> conv => whnf)); (all_goals (repeat' (first | exact trivial | exact rfl | refine And.intro ?_ ?_)))) ?_ | refine call_eq rfl hlk ?_ | refine ify ?_ | refine ifn ?_ | refine i6 ?_ | refine ati ?_ | refine mst ?_ | refine rmd ?_ | refine ibo (fun _ => ?_) (fun _ => ?_)) <;> conv => whnf))
    refine loop_lo (ι := Nat) (fun i => i ≤ l.length) (fun i => [(26, .d (.int .i64 i)), (25, .d (.int .i64 l.length)), (24, .d (dIs l)), (6, .own 300), (4, .own 4), (1, .d (dIs l)), (0, .d (dG G))]) (fun i => [(4, .cells 35 [.d .nils, .d .nils]), (300, .slice 77 2 ((colsF (adjF G.edges l) i).map dE))]) (fun i => l.length - i) 0 (fun _ => rfl) (Nat.zero_le _) (.own 6 300 77 2 rfl rfl (.refl _ _)) ⟨rfl, by rw [← hdl]; rfl, rfl, rfl, rfl, rfl, rfl, trivial⟩ ⟨rfl, rfl, trivial⟩ ?_
    intro i hi
    refine sxCode_sound c1_ok (G := G_qvt) (pl := pl_qvt) _ _ _ _ (by kernel_rfl) ?_
    by_cases hil : i < l.length
    · have hx := List.getElem?_eq_getElem hil
      have hadj : ∀ k u, l[k]? = some u → adjF G.edges l k i = decide (turn ⟨u, l[i]⟩ ∈ G.edges) := fun k u hk => by unfold adjF; rw [hk, hx]; rfl
      generalize l[i] = x at hx hadj
      have hxd : (l.map dI)[i]? = some (.int .i64 x) := by rw [List.getElem?_map, hx]; rfl
      have hsub : (l.map dI).take i = (l.take i).map dI := by rw [List.map_take]
      have htl : ((l.map dI).take i).length = i := by rw [List.length_take]; omega
      have hci := hcl i
      have hii : i * i ≤ 8 * 8 := Nat.mul_le_mul (by omega) (by omega)
      (conv => whnf)
      (repeat' ((first | refine ord_ok (by (conv => whnf); (repeat' ((first | refine at_da hxd rfl ?_ | refine hi_is rfl (show i ≤ (l.map dI).length by omega) ?_ | refine ify ?_ | refine ifn ?_ | refine i6 ?_ | refine ati ?_ | refine mst ?_ | refine rmd ?_ | refine ibo (fun _ => ?_) (fun _ => ?_)) <;> conv => whnf)); (all_goals (repeat' (first | exact trivial | exact rfl | refine And.intro ?_ ?_)))) ?_ | refine at_da hxd rfl ?_ | refine hi_is rfl (show i ≤ (l.map dI).length by omega) ?_ | refine ify ?_ | refine ifn ?_ | refine i6 ?_ | refine ati ?_ | refine mst ?_ | refine rmd ?_ | refine ibo (fun _ => ?_) (fun _ => ?_)) <;> conv => whnf))
      refine loop_lo (ι := Nat) (fun k => k ≤ i) (fun k => [(35, .d (.int .i64 k)), (34, .d (.int .i64 i)), (33, .d (.list 1 ((l.map dI).take i))), (26, .d (.int .i64 i)), (25, .d (.int .i64 l.length)), (24, .d (dIs l)), (8, .d (.int .i64 x)), (7, .d (.int .i64 i)), (6, .own 300), (4, .own 4), (1, .d (dIs l)), (0, .d (dG G))]) (fun k => [(4, .cells 35 [.d .nils, .d .nils]), (300, .slice 77 2 ((colsF (adjF G.edges l) i ++ colF (adjF G.edges l) i k).map dE))]) (fun k => i - k) 0 (fun _ => rfl) (Nat.zero_le _) (.refl _ _) ⟨rfl, int_is (by rw [htl]), rfl, rfl, rfl, rfl, rfl, rfl, rfl, rfl, rfl, rfl, trivial⟩ ⟨rfl, by rw [show colF (adjF G.edges l) i 0 = [] from rfl, List.append_nil]; rfl, trivial⟩ ?_
      intro k hk
      refine sxCode_sound c1_ok (G := G_qvt) (pl := pl_qvt) _ _ _ _ (by kernel_rfl) ?_
      by_cases hki : k < i
      · have hy := List.getElem?_eq_getElem (l := l) (i := k) (by omega)
        generalize l[k]'(by omega) = u at hy
        have hyd : ((l.map dI).take i)[k]? = some (.int .i64 u) := by rw [List.getElem?_take, if_pos hki, List.getElem?_map, hy]; rfl
        have hh := hasE_pure G hG u x
        have hst := colF_step (adjF G.edges l) i k
        rw [hadj k u hy] at hst
        have hkl := colF_len (adjF G.edges l) i k
        have hol : ((colsF (adjF G.edges l) i ++ colF (adjF G.edges l) i k).map dE).length ≤ 1000 := by rw [List.length_map, List.length_append]; omega
        by_cases hd : turn ⟨u, x⟩ ∈ G.edges
        · rw [decide_eq_true hd] at hh hst
          rw [if_pos rfl] at hst
          (conv => whnf)
          (repeat' ((first | refine ord_ok (by (conv => whnf); (repeat' ((first | refine at_da hyd rfl ?_ | refine call_eqb tab rfl hh rfl ?_ | refine ify ?_ | refine ifn ?_ | refine i6 ?_ | refine ati ?_ | refine mst ?_ | refine rmd ?_ | refine ibo (fun _ => ?_) (fun _ => ?_)) <;> conv => whnf)); (all_goals (repeat' (first | exact trivial | exact rfl | refine And.intro ?_ ?_)))) ?_ | refine at_da hyd rfl ?_ | refine call_eqb tab rfl hh rfl ?_ | refine ify ?_ | refine ifn ?_ | refine i6 ?_ | refine ati ?_ | refine mst ?_ | refine rmd ?_ | refine ibo (fun _ => ?_) (fun _ => ?_)) <;> conv => whnf))
          refine ⟨k + 1, _, _, by omega, .refl _ _, ⟨rfl, rfl, rfl, rfl, rfl, rfl, rfl, rfl, rfl, rfl, rfl, rfl, trivial⟩, ⟨rfl, slice_is ?_, trivial⟩, by omega⟩
          rw [hst]; simp [dE]
        · rw [decide_eq_false hd] at hh hst
          rw [if_neg (by decide), List.append_nil] at hst
          (conv => whnf)
          (repeat' ((first | refine ord_ok (by (conv => whnf); (repeat' ((first | refine at_da hyd rfl ?_ | refine call_eqb tab rfl hh rfl ?_ | refine ify ?_ | refine ifn ?_ | refine i6 ?_ | refine ati ?_ | refine mst ?_ | refine rmd ?_ | refine ibo (fun _ => ?_) (fun _ => ?_)) <;> conv => whnf)); (all_goals (repeat' (first | exact trivial | exact rfl | refine And.intro ?_ ?_)))) ?_ | refine at_da hyd rfl ?_ | refine call_eqb tab rfl hh rfl ?_ | refine ify ?_ | refine ifn ?_ | refine i6 ?_ | refine ati ?_ | refine mst ?_ | refine rmd ?_ | refine ibo (fun _ => ?_) (fun _ => ?_)) <;> conv => whnf))
          exact ⟨k + 1, _, _, by omega, .refl _ _, ⟨rfl, rfl, rfl, rfl, rfl, rfl, rfl, rfl, rfl, rfl, rfl, rfl, trivial⟩, ⟨rfl, slice_is (by rw [hst]), trivial⟩, by omega⟩
      · have hke : k = i := by omega
        subst hke
        ((conv => whnf); repeat' ((first | refine odw ?_ | refine ify ?_ | refine ifn ?_ | refine i6 ?_ | refine ati ?_ | refine mst ?_ | refine rmd ?_ | refine ibo (fun _ => ?_) (fun _ => ?_)) <;> conv => whnf))
        exact ⟨k + 1, _, _, by omega, .refl _ _, ⟨rfl, rfl, rfl, rfl, rfl, rfl, rfl, trivial⟩, ⟨rfl, slice_is (by rw [colsF_step]), trivial⟩, by omega⟩
    · have hie : i = l.length := by omega
      subst hie
      (conv => whnf)
      (repeat' ((first | refine ord_ok (by (conv => whnf); (repeat' ((first | refine call_frz 300 rfl ?_ | refine call_eq rfl hql ?_ | refine call_eq rfl hmk ?_ | refine ify ?_ | refine ifn ?_ | refine i6 ?_ | refine ati ?_ | refine mst ?_ | refine rmd ?_ | refine ibo (fun _ => ?_) (fun _ => ?_)) <;> conv => whnf)); (all_goals (repeat' (first | exact trivial | exact rfl | refine And.intro ?_ ?_)))) ?_ | refine call_frz 300 rfl ?_ | refine call_eq rfl hql ?_ | refine call_eq rfl hmk ?_ | refine ify ?_ | refine ifn ?_ | refine i6 ?_ | refine ati ?_ | refine mst ?_ | refine rmd ?_ | refine ibo (fun _ => ?_) (fun _ => ?_)) <;> conv => whnf))
      exact rfl
end Go.Proofs.YthegabgbakckfaaGreatDoor
end

section
/- strconv.Itoa, strings.Join, told for the engine (the table of powers is known). pat: Text. -/
namespace Go.Gr
open Go
theorem itoa_nat (n : Nat) : Lib.itoa n = Lib.decDigits n := by
  unfold Lib.itoa
  rw [if_neg (by omega)]; simp
theorem itoa_len {n : Int} (h0 : 0 ≤ n) (h1 : n ≤ 999999) : (Lib.itoa n).length ≤ 6 := by
  obtain ⟨k, rfl⟩ := Int.eq_ofNat_of_zero_le h0
  rw [itoa_nat]
  exact dd_len6 k (by omega)
theorem join_two (x y : List UInt8) (r : List (List UInt8)) (sep : List UInt8) : Lib.join (x :: y :: r) sep = x ++ (sep ++ Lib.join (y :: r) sep) := by
  simp [Lib.join, List.intercalate]
theorem join_len {m : Nat} (sep : List UInt8) : ∀ xs : List (List UInt8), (∀ x ∈ xs, x.length ≤ m) → (Lib.join xs sep).length ≤ xs.length * (m + sep.length)
  | [], _ => by rw [Lib.join_nil]; simp
  | [x], h => by
    have := h x (.head _)
    rw [Lib.join_one, List.length_singleton]; omega
  | x :: y :: r, h => by
    have h1 := join_len sep (y :: r) (fun z hz => h z (.tail _ hz))
    have h2 := h x (.head _)
    rw [join_two, List.length_append, List.length_append, List.length_cons, Nat.add_mul, Nat.one_mul]; omega
/-- an edge's text -/
def edgB (e : Edg) : List UInt8 := Lib.itoa e.a ++ 45 :: Lib.itoa e.b
/-- a pattern's text -/
def patB (p : Pt) : List UInt8 := Lib.join (p.labels.map Lib.itoa) [44] ++ 124 :: Lib.join (p.edges.map edgB) [44]
end Go.Gr
namespace Go.Proofs.YthegabgbakckfaaGreatDoor
open Go.Sx Go.RowKit Go.Reg Go.Gr Go.Shelf

set_option maxRecDepth 100000
theorem joinX : Builder.Extra Tryz.prog Tryz.joinL_ren where
  sizeBuilder := by kernel_rfl
  liesBuilder := by kernel_rfl
  t5 := Tryz.underlying5
  a5 := by intro w; kernel_rfl
  z5 := by intro w; kernel_rfl
  v5 := by intro w; kernel_rfl
  infoByte := by kernel_rfl
  cellsByte := by kernel_rfl
  sizeByte := by kernel_rfl
  neB5 := by decide
/-- with the table of powers -/
noncomputable def C3 : Cx := ⟨Tryz.prog, C1.Γ ++ [(1, .agg (Lib.pow10Tab.map (Da.int .u64)))]⟩
theorem memTab3 : (1, Da.agg (Lib.pow10Tab.map (Da.int .u64))) ∈ C3.Γ := List.mem_append_right _ (.head _)
theorem c3_ok : C3.Ok tab := ⟨c1_ok.tab, c1_ok.mixed⟩
theorem Pure.up3 {f : FuncId} {xs : List Da} {Q : Da → Prop} (h : Sx.Pure C1 f xs Q) : Sx.Pure C3 f xs Q := fun O w vs h1 h2 h3 => h O w vs h1 (fun g hg => h2 g (List.mem_append_left _ hg)) h3
theorem itoa3_pure (n : Int) (h0 : -9223372036854775808 ≤ n) (h1 : n ≤ 9223372036854775807) : Sx.Pure C3 117 [.int .i64 n] (fun y => y = .str (bs (Lib.itoa n))) := by
  intro O w us hO hg hr
  obtain ⟨v, vs, rfl, h3, h2⟩ := reps_inv hr
  obtain rfl := reps_inv0 h2
  obtain rfl := rep_int h3
  refine ⟨by kernel_rfl, (Any.strconv_Itoa Tryz.itoaL n h0 h1 w (tab_of hg memTab3 (by kernel_rfl))).mono ?_⟩
  rintro e w' ⟨rfl, k, os, rfl⟩
  refine ⟨_, _, rfl, rfl, ⟨[_], by simp only [RepC]; rfl, rfl⟩, ⟨rfl, rfl, rfl, by rw [Go.Sort.size_grow]; exact Nat.le_add_right _ _, fun b hb _ => Go.Sort.heap_grow_old (w.drewN k) os hb⟩⟩
def strD (x : List UInt8) : Da := .str (bs x)
theorem strs_css {O : List Nat} {w : World} : ∀ {xs : List (List UInt8)} {css : List (List Value)}, RepCss O w (xs.map strD) css → css = xs.map fun x => [Value.string (bs x)]
  | [], css, h => by simpa only [List.map_nil, RepCss] using h
  | x :: xs, css, h => by
    simp only [List.map_cons, RepCss, strD, RepC] at h
    obtain ⟨c1, c2, rfl, rfl, h⟩ := h
    rw [strs_css h]; rfl
theorem strs_flat (xs : List (List UInt8)) : (xs.map fun x => [Value.string (bs x)]).flatten = xs.map fun x => Value.string (bs x) := by
  induction xs with
  | nil => rfl
  | cons x xs ih => simp only [List.map_cons, List.flatten_cons, ih]; rfl
theorem join_pure (C : Cx) (hC : C.P = Tryz.prog) (xs : List (List UInt8)) (sep : List UInt8) (hN : xs.length ≤ 1000000) (hlen : (Lib.join xs sep).length ≤ 140737488355328) : Sx.Pure C 118 [.list 1 (xs.map strD), .str (bs sep)] (fun y => y = .str (bs (Lib.join xs sep))) := by
  intro O w us hO hg hr
  obtain ⟨v, vs, rfl, h3, h2⟩ := reps_inv hr
  obtain ⟨v2, vs2, rfl, h4, h5⟩ := reps_inv h2
  obtain rfl := reps_inv0 h5
  obtain rfl := rep_str h4
  obtain ⟨cs, r, rfl⟩ := h3
  simp only [RepC] at r
  obtain ⟨a, c, css, rfl, hc, _, hcs, _, hcell⟩ := r
  have hb : ∀ w' : World, Below w.heap.size w w' → Tch [] w w' := fun w' h => ⟨h.os, h.tape, h.output, h.size, fun b hb _ => h.block b hb⟩
  obtain rfl := strs_css hcs
  rw [List.length_map] at hc
  rw [hC]
  refine ⟨by kernel_rfl, ?_⟩
  show Calls Tryz.prog 118 #[.slice a (xs.map strD).length c, .string (bs sep)] w _
  rw [List.length_map]
  cases xs with
  | nil =>
    refine (Any.strings_Join_none Tryz.joinL joinX a c (bs sep) w).mono ?_
    rintro e w' ⟨rfl, rfl⟩
    exact ⟨_, _, rfl, rfl, ⟨[_], by simp only [RepC]; rfl, rfl⟩, Tch.refl _ _⟩
  | cons x xs =>
    obtain ⟨b, o, rfl, _, hbl, hcl⟩ := hcell.resolve_left (by simp)
    rw [strs_flat] at hcl
    have hmap : ((x :: xs).map bs).map (·.data.toList) = x :: xs := by
      rw [List.map_map]
      have : ((fun y : ByteArray => y.data.toList) ∘ bs) = id := by funext z; simp [bs]
      rw [this, List.map_id]
    have := Any.strings_Join Tryz.joinL joinX b o c ((x :: xs).map bs) (bs sep) w (fun j y hy => by
      refine hcl j (.string y) ?_
      rw [List.getElem?_map] at hy ⊢
      obtain ⟨z, hz, rfl⟩ := Option.map_eq_some_iff.1 hy
      rw [hz]; rfl) hbl (by rw [List.length_map]; omega) (by rw [List.length_map]; exact hc) (by rw [hmap]; exact hlen)
    rw [hmap, List.length_map] at this
    refine this.mono ?_
    rintro e w' ⟨rfl, h⟩
    exact ⟨_, _, rfl, rfl, ⟨[_], by simp only [RepC]; rfl, rfl⟩, hb _ h⟩
def pl_ptx : List (Nat × Plan) := [(10, .leaf [0, 0, 1, 2, 0, 0, 1, 2, 0, 6, 3, 0] [0, 1, 5, 2, 6, 3, 4, 7, 8, 9, 10, 11] [0, 0, 2, 6, 14, 0, 32, 110, 254, 510, 1023, 2047])]
def G_ptx : List FuncId := [117, 118]
theorem cok_ptx : codeOk Tryz.prog G_ptx pl_ptx (Tryz.f56.body.getD .skip) = true := by kernel_rfl
theorem run_ptx (vs : Array Value) (w : World) : (callFunc 56 vs).run C1.P w = .ok (.enter 56 vs) w := by kernel_rfl
set_option maxHeartbeats 4000000 in
theorem ptext_pure (p : Pt) (hl : p.labels.length ≤ 1000) (hll : ∀ x ∈ p.labels, 0 ≤ x ∧ x ≤ 999999) (he : p.edges.length ≤ 1000) (hee : ∀ e ∈ p.edges, (0 ≤ e.a ∧ e.a ≤ 999999) ∧ 0 ≤ e.b ∧ e.b ≤ 999999) : Sx.Pure C3 56 [dPt p] (fun y => y = .str (bs (patB p))) := by
  have hdl : (p.labels.map dI).length = p.labels.length := List.length_map _
  have hde : (p.edges.map dE).length = p.edges.length := List.length_map _
  refine pure_of c3_ok (pl := pl_ptx) (G := G_ptx) Tryz.func56 rfl Tryz.ntmps56 run_ptx cok_ptx (by simp) ?_
  ((conv => whnf); repeat' ((first | refine odw ?_ | refine ify ?_ | refine ifn ?_ | refine i6 ?_ | refine ati ?_ | refine mst ?_ | refine rmd ?_ | refine ibo (fun _ => ?_) (fun _ => ?_)) <;> conv => whnf))
  refine loop_lo (ι := Nat) (fun i => i ≤ p.labels.length) (fun i => [(12, .d (.int .i64 i)), (11, .d (.int .i64 p.labels.length)), (10, .d (dIs p.labels)), (4, .d .nils), (3, .own 300), (1, .own 1)]) (fun i => [(1, .cells 35 [.d (dIs p.labels), .d (dEs p.edges)]), (300, .slice 9 1 (((p.labels.take i).map Lib.itoa).map strD))]) (fun i => p.labels.length - i) 0 (fun _ => rfl) (Nat.zero_le _) (.own 3 300 9 1 rfl rfl (.refl _ _)) ⟨rfl, by rw [← hdl]; rfl, rfl, rfl, rfl, rfl, trivial⟩ ⟨rfl, rfl, trivial⟩ ?_
  intro i hi
  refine sxCode_sound c3_ok (G := G_ptx) (pl := pl_ptx) _ _ _ _ (by kernel_rfl) ?_
  by_cases hil : i < p.labels.length
  · have hx := List.getElem?_eq_getElem hil
    have hxb := hll _ (List.getElem_mem hil)
    generalize p.labels[i] = x at hx hxb
    have hxd : (p.labels.map dI)[i]? = some (.int .i64 x) := by rw [List.getElem?_map, hx]; rfl
    have hit := itoa3_pure x (by omega) (by omega)
    have hlen : (((p.labels.take i).map Lib.itoa).map strD).length = i := by simp only [List.length_map, List.length_take]; omega
    (conv => whnf)
    (repeat' ((first | refine ord_ok (by (conv => whnf); (repeat' ((first | refine at_da hxd rfl ?_ | refine call_eqb tab rfl hit rfl ?_ | refine ify ?_ | refine ifn ?_ | refine i6 ?_ | refine ati ?_ | refine mst ?_ | refine rmd ?_ | refine ibo (fun _ => ?_) (fun _ => ?_)) <;> conv => whnf)); (all_goals (repeat' (first | exact trivial | exact rfl | refine And.intro ?_ ?_)))) ?_ | refine at_da hxd rfl ?_ | refine call_eqb tab rfl hit rfl ?_ | refine ify ?_ | refine ifn ?_ | refine i6 ?_ | refine ati ?_ | refine mst ?_ | refine rmd ?_ | refine ibo (fun _ => ?_) (fun _ => ?_)) <;> conv => whnf))
    refine ⟨i + 1, _, _, by omega, .refl _ _, ⟨rfl, rfl, rfl, rfl, rfl, rfl, trivial⟩, ⟨rfl, slice_is ?_, trivial⟩, by omega⟩
    rw [List.take_add_one, hx]; simp [strD]
  · have e : p.labels.take i = p.labels := List.take_of_length_le (by omega)
    rw [e]
    ((conv => whnf); repeat' ((first | refine odw ?_ | refine ify ?_ | refine ifn ?_ | refine i6 ?_ | refine ati ?_ | refine mst ?_ | refine rmd ?_ | refine ibo (fun _ => ?_) (fun _ => ?_)) <;> conv => whnf))
    refine loop_lo (ι := Nat) (fun i => i ≤ p.edges.length) (fun i => [(25, .d (.int .i64 i)), (24, .d (.int .i64 p.edges.length)), (23, .d (dEs p.edges)), (4, .own 301), (3, .own 300), (1, .own 1)]) (fun i => [(1, .cells 35 [.d (dIs p.labels), .d (dEs p.edges)]), (300, .slice 9 1 ((p.labels.map Lib.itoa).map strD)), (301, .slice 9 1 (((p.edges.take i).map edgB).map strD))]) (fun i => p.edges.length - i) 0 (fun _ => rfl) (Nat.zero_le _) (.own 4 301 9 1 rfl rfl (.refl _ _)) ⟨rfl, by rw [← hde]; rfl, rfl, rfl, rfl, rfl, trivial⟩ ⟨rfl, rfl, rfl, trivial⟩ ?_
    intro j hj
    refine sxCode_sound c3_ok (G := G_ptx) (pl := pl_ptx) _ _ _ _ (by kernel_rfl) ?_
    by_cases hjl : j < p.edges.length
    · have hx := List.getElem?_eq_getElem hjl
      have hxb := hee _ (List.getElem_mem hjl)
      generalize p.edges[j] = e at hx hxb
      have hxd : (p.edges.map dE)[j]? = some (.agg [.int .i64 e.a, .int .i64 e.b]) := by rw [List.getElem?_map, hx]; rfl
      have hia := itoa3_pure e.a (by omega) (by omega)
      have hib := itoa3_pure e.b (by omega) (by omega)
      have la := itoa_len hxb.1.1 hxb.1.2
      have lb := itoa_len hxb.2.1 hxb.2.2
      have za := bs_size (Lib.itoa e.a)
      have zb := bs_size (Lib.itoa e.b)
      have zc : (bs (Lib.itoa e.a) ++ bs [45]).size = (Lib.itoa e.a).length + 1 := by rw [bs_cat, bs_size]; simp
      have hlen : (((p.edges.take j).map edgB).map strD).length = j := by simp only [List.length_map, List.length_take]; omega
      (conv => whnf)
      (repeat' ((first | refine ord_ok (by (conv => whnf); (repeat' ((first | refine at_da hxd rfl ?_ | refine call_eqb tab rfl hia rfl ?_ | refine call_eqb tab rfl hib rfl ?_ | refine cat_ok (a := bs (Lib.itoa e.a)) (b := bs [45]) (by rw [za]; simp [bs_size]; omega) ?_ | refine cat_ok (a := bs (Lib.itoa e.a) ++ bs [45]) (b := bs (Lib.itoa e.b)) (by omega) ?_ | refine ify ?_ | refine ifn ?_ | refine i6 ?_ | refine ati ?_ | refine mst ?_ | refine rmd ?_ | refine ibo (fun _ => ?_) (fun _ => ?_)) <;> conv => whnf)); (all_goals (repeat' (first | exact trivial | exact rfl | refine And.intro ?_ ?_)))) ?_ | refine at_da hxd rfl ?_ | refine call_eqb tab rfl hia rfl ?_ | refine call_eqb tab rfl hib rfl ?_ | refine cat_ok (a := bs (Lib.itoa e.a)) (b := bs [45]) (by rw [za]; simp [bs_size]; omega) ?_ | refine cat_ok (a := bs (Lib.itoa e.a) ++ bs [45]) (b := bs (Lib.itoa e.b)) (by omega) ?_ | refine ify ?_ | refine ifn ?_ | refine i6 ?_ | refine ati ?_ | refine mst ?_ | refine rmd ?_ | refine ibo (fun _ => ?_) (fun _ => ?_)) <;> conv => whnf))
      refine ⟨j + 1, _, _, by omega, .refl _ _, ⟨rfl, rfl, rfl, rfl, rfl, rfl, trivial⟩, ⟨rfl, rfl, slice_is ?_, trivial⟩, by omega⟩
      have hs : strD (edgB e) = .str ((bs (Lib.itoa e.a) ++ bs [45]) ++ bs (Lib.itoa e.b)) := by unfold strD edgB; rw [bs_cat, bs_cat]; simp
      rw [List.take_add_one, hx, List.map_append, List.map_append]
      show _ = _ ++ [strD (edgB e)]
      rw [hs]; rfl
    · have e : p.edges.take j = p.edges := List.take_of_length_le (by omega)
      rw [e]
      have l1 := join_len (m := 6) [44] (p.labels.map Lib.itoa) (fun x hx => by
        obtain ⟨y, hy, rfl⟩ := List.mem_map.1 hx
        exact itoa_len (hll y hy).1 (hll y hy).2)
      have l2 := join_len (m := 13) [44] (p.edges.map edgB) (fun x hx => by
        obtain ⟨y, hy, rfl⟩ := List.mem_map.1 hx
        have := hee y hy
        have h1 := itoa_len this.1.1 this.1.2
        have h2 := itoa_len this.2.1 this.2.2
        unfold edgB
        rw [List.length_append, List.length_cons]; omega)
      rw [List.length_map, List.length_singleton] at l1 l2
      have j1 := join_pure C3 rfl (p.labels.map Lib.itoa) [44] (by rw [List.length_map]; omega) (by omega)
      have j2 := join_pure C3 rfl (p.edges.map edgB) [44] (by rw [List.length_map]; omega) (by omega)
      have z1 := bs_size (Lib.join (p.labels.map Lib.itoa) [44])
      have z2 := bs_size (Lib.join (p.edges.map edgB) [44])
      have z3 : (bs (Lib.join (p.labels.map Lib.itoa) [44]) ++ bs [124]).size = (Lib.join (p.labels.map Lib.itoa) [44]).length + 1 := by rw [bs_cat, bs_size]; simp
      (conv => whnf)
      (repeat' ((first | refine ord_ok (by (conv => whnf); (repeat' ((first | refine call_frz 300 rfl ?_ | refine call_frz 301 rfl ?_ | refine call_eq rfl j1 ?_ | refine call_eq rfl j2 ?_ | refine cat_ok (a := bs (Lib.join (p.labels.map Lib.itoa) [44])) (b := bs [124]) (by rw [z1]; simp [bs_size]; omega) ?_ | refine cat_ok (a := bs (Lib.join (p.labels.map Lib.itoa) [44]) ++ bs [124]) (b := bs (Lib.join (p.edges.map edgB) [44])) (by omega) ?_ | refine ify ?_ | refine ifn ?_ | refine i6 ?_ | refine ati ?_ | refine mst ?_ | refine rmd ?_ | refine ibo (fun _ => ?_) (fun _ => ?_)) <;> conv => whnf)); (all_goals (repeat' (first | exact trivial | exact rfl | refine And.intro ?_ ?_)))) ?_ | refine call_frz 300 rfl ?_ | refine call_frz 301 rfl ?_ | refine call_eq rfl j1 ?_ | refine call_eq rfl j2 ?_ | refine cat_ok (a := bs (Lib.join (p.labels.map Lib.itoa) [44])) (b := bs [124]) (by rw [z1]; simp [bs_size]; omega) ?_ | refine cat_ok (a := bs (Lib.join (p.labels.map Lib.itoa) [44]) ++ bs [124]) (b := bs (Lib.join (p.edges.map edgB) [44])) (by omega) ?_ | refine ify ?_ | refine ifn ?_ | refine i6 ?_ | refine ati ?_ | refine mst ?_ | refine rmd ?_ | refine ibo (fun _ => ?_) (fun _ => ?_)) <;> conv => whnf))
      show Da.plain (.str ((bs _ ++ bs [124]) ++ bs _)) = _
      unfold patB
      rw [bs_cat, bs_cat]
      simp [Da.plain]
end Go.Proofs.YthegabgbakckfaaGreatDoor
end

section
/- What the rows give (quick): the variables, the arguments' elements, a world for the witness. -/
namespace Go.Reg
open Go Go.RowKit Go.Deep Go.WideShapes
section
variable {α H : Type}
theorem argSl_shape {P : Program} {k : Nat} {enc : α → List Value} {e' : TypeId × Value → H} {w : World} {base : Nat} {spare : Nat → Bool} {held : Bool} {t e : TypeId} {v : Value} {d : DataW H} {ps : List MemPlace} (Q : α → Prop)
    (ht : P.underlying t = some (.slice e)) (hc : P.cellsOf e = k) (hk : 0 < k) (he : ∀ x, (enc x).length = k)
    (hel : ∀ n cs y, DataW.trod e' P w base spare held n e cs = some y → ∃ x, cs = enc x ∧ Q x)
    (hsh : ∃ a n c, v = .slice a n c) (h : DataW.Trod e' P w base spare held t v d ps) : ∃ l, ArgSl k enc w v l ∧ ∀ x ∈ l, Q x := by
  obtain ⟨a0, len0, cap0, rfl⟩ := hsh
  obtain ⟨fuel, hf⟩ := h
  rcases open_slice ht hf with ⟨h1, _⟩ | ⟨a, len, cap, m, n, D, Pl, h1, hb, hl, hm, hmm, _, hx⟩
  · simp [Value.cells] at h1
    obtain ⟨rfl, rfl, rfl⟩ := h1
    exact ⟨[], ⟨none, 0, rfl, by simp, fun i x hi => by simp at hi⟩, by simp⟩
  · simp [Value.cells] at h1
    obtain ⟨rfl, rfl, rfl⟩ := h1
    have hlm : len0 ≤ m := by rw [hmm]; split <;> omega
    obtain ⟨l, hll, hq⟩ := list_of (Q := fun i x => Q x ∧ w.cells? base (a.add (i * k)) k = some (enc x)) (n := len0) (fun i hi => by
      obtain ⟨cs', h1, h2⟩ := hx i (by omega)
      obtain ⟨x, rfl, hQ⟩ := hel _ _ _ h2
      rw [hc] at h1
      exact ⟨x, hQ, h1⟩)
    refine ⟨l, ⟨some a, cap0, by rw [hll], by omega, fun i x hi => ?_⟩, fun x hx => ?_⟩
    · have h2 := (hq i x hi).2
      obtain ⟨_, _, hcell⟩ := World.cells?_some h2
      have h0 := hcell 0 hk
      obtain ⟨b, o, sp⟩ := a
      have hi0 : 0 < l.length := by have := (List.getElem?_eq_some_iff.1 hi).1; omega
      have hz := (hq 0 l[0] (by simp [hi0])).2
      obtain ⟨_, _, hcell0⟩ := World.cells?_some hz
      have hsp : sp = none := by
        have h00 := hcell0 0 hk
        rw [Nat.zero_mul, add_add] at h00
        have hsome : (w.cell? ⟨b, o, sp⟩).isSome = true := by
          simp only [Addr.add, Nat.add_zero, if_true] at h00
          rw [h00]
          simp [he, hk]
        cases sp with
        | none => rfl
        | some s =>
          exfalso
          unfold World.cell? at hsome
          simp at hsome
          split at hsome <;> simp at hsome
      subst hsp
      refine ⟨b, o, rfl, fun j u hj => ?_⟩
      have hjk : j < k := by have := (List.getElem?_eq_some_iff.1 hj).1; rw [he] at this; exact this
      have := hcell j hjk
      rw [add_add, hj] at this
      by_cases hz : i * k + j = 0
      · rw [hz] at this
        simp only [Addr.add, if_true] at this
        rw [show o + i * k + j = o by omega]
        exact this
      · simp only [Addr.add, hz, if_false] at this
        rw [show o + i * k + j = o + (i * k + j) by omega]
        exact this
    · obtain ⟨i, hi⟩ := List.getElem?_of_mem hx
      exact (hq i x hi).1
/-- a slice's shape, by its cells -/
theorem trod_slice_shape {P : Program} {e' : TypeId × Value → H} {w : World} {base : Nat} {spare : Nat → Bool} {held : Bool} {t e : TypeId} {fuel : Nat} {cs : List Value} {y : DataW H × List MemPlace} (ht : P.underlying t = some (.slice e)) (h : DataW.trod e' P w base spare held fuel t cs = some y) : ∃ a n c, cs = [.slice a n c] ∧ n ≤ c ∧ c ≤ maxLen := by
  rcases open_slice ht h with ⟨h1, _⟩ | ⟨a, len, cap, m, k, D, Pl, h1, _, h2, h3, _, _, _⟩
  · exact ⟨none, 0, 0, h1, Nat.le_refl _, by unfold maxLen; omega⟩
  · exact ⟨some a, len, cap, h1, h2, h3⟩
end
end Go.Reg
namespace Go.Proofs.YthegabgbakckfaaGreatDoor
open Go.ChangeShapes Go.WideShapes Go.ChangeAt Go.RowKit Go.Reg Go.Gr Go.Sx Go.ChangeMaps

theorem own : ownKnob Tryz.prog.godebug = none := by kernel_rfl
theorem laidOut : laidOutB Tryz.prog = true := by kernel_rfl
theorem gEt : Tryz.prog.globalNamed "errors.errorType" = some 0 := by kernel_rfl
theorem gRt : (Tryz.prog.cutTypes.find? (·.1 == "internal/reflectlite.rtype")).map (·.2) = some 238 := by kernel_rfl
theorem oneRow : ((List.range Tryz.prog.types.size).filter fun t => Tryz.prog.rowNamed t [101, 114, 114, 111, 114]) = [45] := by kernel_rfl
/-- all that is laid -/
abbrev laidAll : List (String × DataW Unit) := Rows.quickImagesRow.laid
abbrev laidThree : List (String × DataW Unit) := [("math/bits.deBruijn32tab", Rows.laid_math_bits_deBruijn32tab), ("math/bits.deBruijn64tab", Rows.laid_math_bits_deBruijn64tab), ("internal/strconv.uint64pow10", Rows.laid_internal_strconv_uint64pow10)]
theorem laid_parts {W : World} (h : laidMetH Tryz.prog laidAll W) : laidMet Tryz.prog laidThree W ∧ handlesMet Tryz.prog [("errors.errorType", Rows.laid_errors_errorType)] W := h

theorem var_exact {P : Program} {w : World} {name : String} {g : Nat} {cs : Array Value} (h : w.var? P name = some cs) (hg : P.globalNamed name = some g) : ∃ t fr, w.heap[g]? = some (.cells cs t fr) := by
  unfold World.var? at h
  rw [hg, Option.bind_some] at h
  cases hh : w.heap[g]? with
  | none => rw [hh] at h; cases h
  | some o =>
    rw [hh] at h
    cases o with
    | cells cs' t fr => simp only [Option.some.injEq] at h; subst h; exact ⟨t, fr, rfl⟩
    | _ => cases h
theorem errV_of_laid {W : World} (h : laidMetH Tryz.prog laidAll W) : ∃ t fr, W.heap[0]? = some (.cells #[.iface 238 (.agg #[.pointer (some ⟨5, 45, none⟩)])] t fr) := by
  obtain ⟨name, u, ty, e1, e2, e3, e4, e5⟩ := (laid_parts h).2 _ (List.mem_singleton.2 rfl)
  have en : name = [101, 114, 114, 111, 114] := (Option.some.inj e1).symm
  subst en
  obtain rfl := Option.some.inj (gRt.symm.trans e2)
  have hm : ty ∈ (List.range Tryz.prog.types.size).filter fun t => Tryz.prog.rowNamed t [101, 114, 114, 111, 114] := List.mem_filter.2 ⟨List.mem_range.2 e3, e4⟩
  rw [oneRow] at hm
  obtain rfl := List.mem_singleton.1 hm
  have hh : typeHandle Tryz.prog 45 = .pointer (some ⟨5, 45, none⟩) := by kernel_rfl
  rw [hh] at e5
  exact var_exact e5 gEt
theorem grep_of {W : World} {g : Nat} {cs : Array Value} {t : TypeId} {fr : Nat × Nat} {d : Da} (h : W.heap[g]? = some (.cells cs t fr)) (hr : Sx.RepC [] W d cs.toList) (hs : cs.size = Sx.gsz d) : Sx.GRep [] W (g, d) := by
  refine ⟨⟨[_], ?_, rfl⟩, by simp, cs, t, fr, h, hs⟩
  simp only [Sx.RepC]
  refine ⟨g, 0, cs.toList, rfl, by simp, (Array.getElem?_eq_some_iff.1 h).1, hr, fun j u hj => ?_⟩
  rw [Lib.cell_of_heap h, Nat.zero_add]
  simpa using hj
theorem tabV_of_laid {W : World} (h : laidMetH Tryz.prog laidAll W) : ∃ t fr, W.heap[1]? = some (.cells (Lib.pow10Tab.map fun z => Value.int .u64 z).toArray t fr) := by
  have h1 := laidMet.tail (laidMet.tail (laid_parts h).1)
  have h2 : laidMet Tryz.prog (("internal/strconv.uint64pow10", Lib.tabData .u64 Lib.pow10Tab) :: []) W := h1
  have h3 := Lib.tabIs_of_head (g := 1) (by kernel_rfl) (t := 263) (e := 209) (n := 20) (by kernel_rfl) Tryz.underlying263 Tryz.underlying209 (by kernel_rfl) (by kernel_rfl) h2
  exact var_exact h3 (by kernel_rfl)
theorem ints_rep (O : List Nat) (W : World) (k : IntKind) : ∀ l : List Int, Sx.RepCs O W (l.map (Da.int k)) (l.map fun z => Value.int k z)
  | [] => by simp [Sx.RepCs]
  | x :: l => by
    simp only [List.map_cons, Sx.RepCs, Sx.RepC]
    exact ⟨[_], _, rfl, rfl, ints_rep O W k l⟩
/-- the variables, as the walk knows them -/
theorem globs_of {W : World} (h : laidMetH Tryz.prog laidAll W) : Sx.Glob C3 [] W := by
  obtain ⟨t1, f1, e1⟩ := errV_of_laid h
  obtain ⟨t5, f5, e5⟩ := tabV_of_laid h
  intro g hg
  rcases List.mem_append.1 hg with hg | hg
  · rw [List.mem_singleton.1 hg]
    exact grep_of e1 (by simp only [Sx.RepC]) rfl
  · rw [List.mem_singleton.1 hg]
    exact grep_of e5 (by simp only [Sx.RepC]; exact ints_rep _ _ _ _) (by simp [Sx.gsz])

def eI : Sx.Enc Int := ⟨fun n => [.int .i64 n], dI, 1, fun _ => rfl, fun n u hu => by simp at hu; rw [hu]; rfl, fun O w n => by simp [dI, Sx.RepC]⟩
def eE : Sx.Enc Edg := ⟨fun e => [.int .i64 e.a, .int .i64 e.b], dE, 2, fun _ => rfl, fun n u hu => by simp at hu; rcases hu with rfl | rfl <;> rfl, fun O w n => by simp [dE, Sx.RepC, Sx.RepCs]⟩
set_option maxRecDepth 100000 in
theorem int_el {H : Type} {e' : TypeId × Value → H} {w : World} {base : Nat} {spare : Nat → Bool} {held : Bool} (n : Nat) (cs : List Value) (y : DataW H × List MemPlace)
    (h : DataW.trod e' Tryz.prog w base spare held n 3 cs = some y) : ∃ x : Int, cs = eI.enc x ∧ True := by
  obtain ⟨m, h0, _⟩ := DataW.trod_int Tryz.underlying3 h
  exact ⟨m, h0, trivial⟩
set_option maxRecDepth 100000 in
theorem edge_el {H : Type} {e' : TypeId × Value → H} {w : World} {base : Nat} {spare : Nat → Bool} {held : Bool} (n : Nat) (cs : List Value) (y : DataW H × List MemPlace)
    (h : DataW.trod e' Tryz.prog w base spare held n 94 cs = some y) : ∃ x : Edg, cs = eE.enc x ∧ True := by
  obtain ⟨xs, k, _, _, hcl, hxl, hf⟩ := DataW.trod_struct Tryz.underlying94 h
  have cl : cs.length = 2 := hcl.trans (by kernel_rfl)
  match cs, cl with
  | [c0, c1], _ =>
    have hx4 : xs.length = 2 := hxl
    match xs, hx4 with
    | [y0, y1], _ =>
      have k3 : Tryz.prog.cellsOf 3 = 1 := by kernel_rfl
      have g0 := hf 0 _ rfl
      have g1 := hf 1 _ rfl
      simp [k3] at g0 g1
      obtain ⟨n0, h0, _⟩ := DataW.trod_int Tryz.underlying3 g0
      obtain ⟨n1, h1, _⟩ := DataW.trod_int Tryz.underlying3 g1
      simp at h0 h1
      subst h0; subst h1
      exact ⟨⟨n0, n1⟩, rfl, trivial⟩
theorem rep_bool {O : List Nat} {w : World} {v : Value} {b : Bool} (h : Sx.Rep O w (.bool b) v) : v = .bool b := by obtain ⟨cs, r, rfl⟩ := h; simp only [Sx.RepC] at r; subst r; rfl
set_option maxRecDepth 100000 in
/-- a pattern that came in -/
theorem open_pat {H : Type} {e' : TypeId × Value → H} {w : World} {held : Bool} {spare : Nat → Bool} {r : Reach} {b0 : Nat} {v : Value} {d : DataW H} {ps : List MemPlace} (hval : Value.okWide Tryz.prog w r b0 25 v) (h : DataW.Trod e' Tryz.prog w 0 spare held 25 v d ps) : ∃ p : Pt, Sx.Rep [] w (dPt p) v := by
  obtain ⟨cs, rfl, hsz⟩ := okWide_struct Tryz.underlying25 hval
  obtain ⟨fuel, hf⟩ := h
  obtain ⟨xs, k, _, _, hcl, hxl, hfl⟩ := DataW.trod_struct Tryz.underlying25 hf
  have hcs : (Value.agg cs).cells.toList = cs.toList := rfl
  rw [hcs] at hcl hfl
  have cl : cs.toList.length = 2 := hcl.trans (by kernel_rfl)
  match hl : cs.toList, cl with
  | [c0, c1], _ =>
    rw [hl] at hfl
    have hx2 : xs.length = 2 := hxl
    match xs, hx2 with
    | [y0, y1], _ =>
      have k1 : Tryz.prog.cellsOf 22 = 1 := by kernel_rfl
      have k2 : Tryz.prog.cellsOf 23 = 1 := by kernel_rfl
      have g0 := hfl 0 _ rfl
      have g1 := hfl 1 _ rfl
      simp [k1, k2] at g0 g1
      obtain ⟨a0, n0, m0, e0, h00, h01⟩ := trod_slice_shape Tryz.underlying22 g0
      obtain ⟨a1, n1, m1, e1, h10, h11⟩ := trod_slice_shape Tryz.underlying23 g1
      simp only [List.cons.injEq, and_true] at e0 e1
      subst e0 e1
      obtain ⟨l, r0, _⟩ := argSl_shape (enc := eI.enc) (fun _ => True) Tryz.underlying22 (k := 1) (by kernel_rfl) (by decide) (fun _ => rfl) int_el ⟨_, _, _, rfl⟩ (⟨k, g0⟩ : DataW.Trod e' Tryz.prog w 0 spare held 22 (.slice a0 n0 m0) y0.1 y0.2)
      obtain ⟨E, r1, _⟩ := argSl_shape (enc := eE.enc) (fun _ => True) Tryz.underlying23 (k := 2) (by kernel_rfl) (by decide) (fun _ => rfl) edge_el ⟨_, _, _, rfl⟩ (⟨k, g1⟩ : DataW.Trod e' Tryz.prog w 0 spare held 23 (.slice a1 n1 m1) y1.1 y1.2)
      obtain ⟨s0, p0, q0⟩ := eI.rep_arg (by decide) r0 (fun a n c e => by cases e; exact ⟨h00, h01⟩)
      obtain ⟨s1, p1, q1⟩ := eE.rep_arg (by decide) r1 (fun a n c e => by cases e; exact ⟨h10, h11⟩)
      refine ⟨⟨l, E⟩, [.slice a0 n0 m0, .slice a1 n1 m1], ?_, ?_⟩
      · simp only [dPt, Sx.RepC, Sx.RepCs]
        have z0 : s0 = [.slice a0 n0 m0] := by
          have p0' := p0
          simp only [Sx.RepC] at p0'
          obtain ⟨_, _, _, rfl, _⟩ := p0'
          rw [q0]; rfl
        have z1 : s1 = [.slice a1 n1 m1] := by
          have p1' := p1
          simp only [Sx.RepC] at p1'
          obtain ⟨_, _, _, rfl, _⟩ := p1'
          rw [q1]; rfl
        subst z0 z1
        exact ⟨_, _, rfl, p0, _, _, rfl, p1, rfl⟩
      · show Value.agg cs = .agg _
        congr 1
        apply Array.toList_inj.1
        rw [hl]
/-- what a laid table's cells are -/
def valsOf : DataW Unit → Array Value
  | .agg ds => (ds.map fun | .lit (.int k n) => Value.int k n | _ => undef).toArray
  | _ => #[]
def setCells (cs : Array Value) : Obj → Obj
  | .cells _ t frozen => .cells cs t frozen
  | o => o
/-- A WORLD FOR THE WITNESS: the settled one, the variables' cells laid. -/
noncomputable def laidWorld (os : Os) : World :=
  let w0 := World.holding Tryz.prog os ⟨#[], #[], []⟩
  { w0 with heap := (((w0.heap.modify 0 (setCells #[.iface 238 (.agg #[.pointer (some ⟨5, 45, none⟩)])])).modify 1 (setCells (valsOf Rows.laid_internal_strconv_uint64pow10))).modify 3 (setCells (valsOf Rows.laid_math_bits_deBruijn32tab))).modify 4 (setCells (valsOf Rows.laid_math_bits_deBruijn64tab)) }
theorem laidWorld_met (os : Os) (args : Array Value) : laidMetH Tryz.prog laidAll ((laidWorld os).forCall (fun _ _ => 0) ⟨#[], args, []⟩).memory :=
  laidMetH_of_parts (laidMet_of_run' 8 (by kernel_rfl) (by kernel_rfl)) (by kernel_rfl)
end Go.Proofs.YthegabgbakckfaaGreatDoor
end

section
/- law12: alive, QuickImages: the walks. -/
namespace Go.Proofs.YthegabgbakckfaaGreatDoor
open Go.Sx Go.RowKit Go.Reg Go.Gr

set_option maxRecDepth 100000
def qxE : List Edg := [⟨0, 2⟩, ⟨1, 2⟩, ⟨0, 1⟩]
def qxG : Gr := ⟨[0, 0, 0], [⟨0, 1⟩, ⟨0, 2⟩, ⟨1, 2⟩]⟩
theorem qx_canon : canon qxE = qxG.edges := (canon_eq (by decide) (by decide) (by decide)).symm
theorem qx_made : madeY [0, 0, 0] qxE = .tuple [dG qxG, dM qxG.labels qxG.edges, .bool true] := by
  have h : madeG [0, 0, 0] qxE = some qxG := by
    unfold madeG
    rw [if_pos (by decide), show newErr [0, 0, 0] qxE = none by decide, qx_canon]; rfl
  unfold madeY
  rw [h]
theorem qx_ok : qxG.Ok := by
  have h : madeG [0, 0, 0] qxE = some qxG := by
    unfold madeG
    rw [if_pos (by decide), show newErr [0, 0, 0] qxE = none by decide, qx_canon]; rfl
  exact (madeG_some h).2.1
theorem qx_text : patB ⟨[0, 0], [⟨0, 1⟩]⟩ = [48, 44, 48, 124, 48, 45, 49] := by
  have h0 : Lib.itoa 0 = [48] := by rw [show (0 : Int) = ((0 : Nat) : Int) from rfl, itoa_nat, Lib.decDigits_one (by omega)]; rfl
  have h1 : Lib.itoa 1 = [49] := by rw [show (1 : Int) = ((1 : Nat) : Int) from rfl, itoa_nat, Lib.decDigits_one (by omega)]; rfl
  unfold patB edgB
  simp only [List.map_cons, List.map_nil, h0, h1]
  rfl
def pl_qal : List (Nat × Plan) := []
def G_qal : List FuncId := [14, 29, 56, 30]
theorem cok_qal : codeOk Tryz.prog G_qal pl_qal (Tryz.f13.body.getD .skip) = true := by kernel_rfl
theorem run_qal (vs : Array Value) (w : World) : (callFunc 13 vs).run C1.P w = .ok (.enter 13 vs) w := by kernel_rfl
set_option maxHeartbeats 4000000 in
theorem qalive_pure : Sx.Pure C3 13 [] (fun y => y = .bool true) := by
  have hmd := Pure.up3 (made_pure [0, 0, 0] qxE)
  rw [qx_made] at hmd
  have hv1 := Pure.up3 (qvert_pure qxG qx_ok [2, 0] ⟨[0, 0], [⟨0, 1⟩]⟩ (fun _ _ => by
    have := pmake1_pure [0, 0] (by decide) ⟨0, 1⟩ (by decide) (by decide) (by decide)
    rw [show ([2, 0] : List Int).map (labelV qxG) = [0, 0] by decide, show colsF (adjF qxG.edges ([2, 0] : List Int)) ([2, 0] : List Int).length = [⟨0, 1⟩] by decide]
    exact this) (by decide))
  rw [if_neg (by decide), if_neg (by decide)] at hv1
  have hv2 := Pure.up3 (qvert_pure qxG qx_ok [0, 0] ⟨[], []⟩ (fun _ h => by exact absurd h (by decide)) (by decide))
  rw [if_neg (by decide), if_pos (by decide)] at hv2
  have htx := ptext_pure ⟨[0, 0], [⟨0, 1⟩]⟩ (by decide) (by decide) (by decide) (by decide)
  rw [qx_text] at htx
  have hc := Pure.up3 (code_pure 2 0 listS)
  refine pure_of c3_ok (pl := pl_qal) (G := G_qal) Tryz.func13 rfl Tryz.ntmps13 run_qal cok_qal (by simp) ?_
  (conv => whnf)
  (repeat' ((first | refine ord_ok (by (conv => whnf); (repeat' ((first | refine call_frz 9 rfl ?_ | refine call_frz 13 rfl ?_ | refine call_eq (xs := [dIs [0, 0, 0], dEs qxE]) rfl hmd ?_ | refine call_frz 20 rfl ?_ | refine call_eq (xs := [dG qxG, dIs [2, 0]]) rfl hv1 ?_ | refine call_frz 26 rfl ?_ | refine call_eq (xs := [dG qxG, dIs [0, 0]]) rfl hv2 ?_ | refine call_eq rfl htx ?_ | refine call_eq rfl hc ?_ | refine ify ?_ | refine ifn ?_ | refine i6 ?_ | refine ati ?_ | refine mst ?_ | refine rmd ?_ | refine ibo (fun _ => ?_) (fun _ => ?_)) <;> conv => whnf)); (all_goals (repeat' (first | exact trivial | exact rfl | refine And.intro ?_ ?_)))) ?_ | refine call_frz 9 rfl ?_ | refine call_frz 13 rfl ?_ | refine call_eq (xs := [dIs [0, 0, 0], dEs qxE]) rfl hmd ?_ | refine call_frz 20 rfl ?_ | refine call_eq (xs := [dG qxG, dIs [2, 0]]) rfl hv1 ?_ | refine call_frz 26 rfl ?_ | refine call_eq (xs := [dG qxG, dIs [0, 0]]) rfl hv2 ?_ | refine call_eq rfl htx ?_ | refine call_eq rfl hc ?_ | refine ify ?_ | refine ifn ?_ | refine i6 ?_ | refine ati ?_ | refine mst ?_ | refine rmd ?_ | refine ibo (fun _ => ?_) (fun _ => ?_)) <;> conv => whnf))
  exact rfl
theorem pErr_code {p : Pt} {c : Int} {i : Nat} (h : pErr p = some (c, i)) : c ≠ 0 := by
  unfold pErr at h
  split at h
  · rename_i x hl
    cases h
    unfold lErr at hl
    split at hl
    · simp at hl; omega
    · obtain ⟨l1, k, l2, _, h2, _⟩ := List.findSome?_eq_some_iff.1 hl
      split at h2 <;> simp at h2
      omega
  · unfold eErr at h
    obtain ⟨l1, k, l2, _, h2, _⟩ := List.findSome?_eq_some_iff.1 h
    unfold eAt at h2
    split at h2
    · cases h2
    · obtain ⟨d, h3, h4⟩ := Option.map_eq_some_iff.1 h2
      cases h4
      unfold eBad at h3
      repeat' split at h3
      all_goals (cases h3 <;> decide)
def pl_qli : List (Nat × Plan) := [(16, .leaf [0, 0, 0, 1, 0, 0, 0, 1, 2, 0] [0, 1, 2, 4, 5, 6, 3, 7, 8, 9] [0, 0, 3, 7, 0, 0, 48, 112, 255, 511])]
def G_qli : List FuncId := [14, 16, 15, 17, 18, 19]
theorem cok_qli : codeOk Tryz.prog G_qli pl_qli (Tryz.f3.body.getD .skip) = true := by kernel_rfl
theorem run_qli (vs : Array Value) (w : World) : (callFunc 3 vs).run C1.P w = .ok (.enter 3 vs) w := by kernel_rfl
set_option maxHeartbeats 4000000 in
theorem qlimages_pure (labels : List Int) (edges : List Edg) (p : Pt) (whole : Bool) : Sx.Pure C3 3 [dIs labels, dEs edges, dPt p, .bool whole] (fun y => y = .bool true) := by
  have hdl : (labels.map dI).length = labels.length := List.length_map _
  have hdp : (p.labels.map dI).length = p.labels.length := List.length_map _
  have hde : (p.edges.map dE).length = p.edges.length := List.length_map _
  have hal := qalive_pure
  have hmd := Pure.up3 (made_pure labels edges)
  refine pure_of c3_ok (pl := pl_qli) (G := G_qli) Tryz.func3 rfl Tryz.ntmps3 run_qli cok_qli (by simp) ?_
  rcases made_case labels edges with e | ⟨G, e, hG, hn, hm, hGe, _, hlen⟩
  · rw [e] at hmd
    (conv => whnf)
    (repeat' ((first | refine ord_ok (by (conv => whnf); (repeat' ((first | refine call_eq rfl hal ?_ | refine call_eq rfl hmd ?_ | refine ify ?_ | refine ifn ?_ | refine i6 ?_ | refine ati ?_ | refine mst ?_ | refine rmd ?_ | refine ibo (fun _ => ?_) (fun _ => ?_)) <;> conv => whnf)); (all_goals (repeat' (first | exact trivial | exact rfl | refine And.intro ?_ ?_)))) ?_ | refine call_eq rfl hal ?_ | refine call_eq rfl hmd ?_ | refine ify ?_ | refine ifn ?_ | refine i6 ?_ | refine ati ?_ | refine mst ?_ | refine rmd ?_ | refine ibo (fun _ => ?_) (fun _ => ?_)) <;> conv => whnf))
    exact rfl
  rw [e] at hmd
  by_cases h7 : 7 < labels.length
  · (conv => whnf)
    (repeat' ((first | refine ord_ok (by (conv => whnf); (repeat' ((first | refine call_eq rfl hal ?_ | refine call_eq rfl hmd ?_ | refine ify ?_ | refine ifn ?_ | refine i6 ?_ | refine ati ?_ | refine mst ?_ | refine rmd ?_ | refine ibo (fun _ => ?_) (fun _ => ?_)) <;> conv => whnf)); (all_goals (repeat' (first | exact trivial | exact rfl | refine And.intro ?_ ?_)))) ?_ | refine call_eq rfl hal ?_ | refine call_eq rfl hmd ?_ | refine ify ?_ | refine ifn ?_ | refine i6 ?_ | refine ati ?_ | refine mst ?_ | refine rmd ?_ | refine ibo (fun _ => ?_) (fun _ => ?_)) <;> conv => whnf))
    exact rfl
  by_cases h4 : 4 < p.labels.length
  · (conv => whnf)
    (repeat' ((first | refine ord_ok (by (conv => whnf); (repeat' ((first | refine call_eq rfl hal ?_ | refine call_eq rfl hmd ?_ | refine ify ?_ | refine ifn ?_ | refine i6 ?_ | refine ati ?_ | refine mst ?_ | refine rmd ?_ | refine ibo (fun _ => ?_) (fun _ => ?_)) <;> conv => whnf)); (all_goals (repeat' (first | exact trivial | exact rfl | refine And.intro ?_ ?_)))) ?_ | refine call_eq rfl hal ?_ | refine call_eq rfl hmd ?_ | refine ify ?_ | refine ifn ?_ | refine i6 ?_ | refine ati ?_ | refine mst ?_ | refine rmd ?_ | refine ibo (fun _ => ?_) (fun _ => ?_)) <;> conv => whnf))
    exact rfl
  by_cases h20 : 20 < p.edges.length
  · (conv => whnf)
    (repeat' ((first | refine ord_ok (by (conv => whnf); (repeat' ((first | refine call_eq rfl hal ?_ | refine call_eq rfl hmd ?_ | refine ify ?_ | refine ifn ?_ | refine i6 ?_ | refine ati ?_ | refine mst ?_ | refine rmd ?_ | refine ibo (fun _ => ?_) (fun _ => ?_)) <;> conv => whnf)); (all_goals (repeat' (first | exact trivial | exact rfl | refine And.intro ?_ ?_)))) ?_ | refine call_eq rfl hal ?_ | refine call_eq rfl hmd ?_ | refine ify ?_ | refine ifn ?_ | refine i6 ?_ | refine ati ?_ | refine mst ?_ | refine rmd ?_ | refine ibo (fun _ => ?_) (fun _ => ?_)) <;> conv => whnf))
    exact rfl
  have hof := Pure.up3 (lawpt_pure p (by omega))
  have him := Pure.up3 (qimages_pure G hG p whole (by omega) (by omega) (by omega))
  have hri := Pure.up3 (rright_pure p (by omega) (by omega))
  rcases Decidable.em (¬ (pErr p = none ∧ p.labels.length ≠ 0)) with hok | hok
  · have ei : imagesY G p whole = .nils := by unfold imagesY; rw [if_neg (fun h => hok ⟨h.1, fun h0 => h.2 (List.eq_nil_of_length_eq_zero h0)⟩)]
    rw [ei] at him
    cases hp : pErr p with
    | some x =>
      obtain ⟨c, i⟩ := x
      have hc := pErr_code hp
      rw [hp] at hri
      (conv => whnf)
      (repeat' ((first | refine ord_ok (by (conv => whnf); (repeat' ((first | refine call_eq rfl hal ?_ | refine call_eq rfl hmd ?_ | refine call_eq rfl hof ?_ | refine call_eq rfl him ?_ | refine call_eq rfl hri ?_ | refine ify ?_ | refine ifn ?_ | refine i6 ?_ | refine ati ?_ | refine mst ?_ | refine rmd ?_ | refine ibo (fun _ => ?_) (fun _ => ?_)) <;> conv => whnf)); (all_goals (repeat' (first | exact trivial | exact rfl | refine And.intro ?_ ?_)))) ?_ | refine call_eq rfl hal ?_ | refine call_eq rfl hmd ?_ | refine call_eq rfl hof ?_ | refine call_eq rfl him ?_ | refine call_eq rfl hri ?_ | refine ify ?_ | refine ifn ?_ | refine i6 ?_ | refine ati ?_ | refine mst ?_ | refine rmd ?_ | refine ibo (fun _ => ?_) (fun _ => ?_)) <;> conv => whnf))
      exact rfl
    | none =>
      have h0 : p.labels.length = 0 := Decidable.byContradiction fun h => hok ⟨hp, h⟩
      rw [hp] at hri
      (conv => whnf)
      (repeat' ((first | refine ord_ok (by (conv => whnf); (repeat' ((first | refine call_eq rfl hal ?_ | refine call_eq rfl hmd ?_ | refine call_eq rfl hof ?_ | refine call_eq rfl him ?_ | refine call_eq rfl hri ?_ | refine ify ?_ | refine ifn ?_ | refine i6 ?_ | refine ati ?_ | refine mst ?_ | refine rmd ?_ | refine ibo (fun _ => ?_) (fun _ => ?_)) <;> conv => whnf)); (all_goals (repeat' (first | exact trivial | exact rfl | refine And.intro ?_ ?_)))) ?_ | refine call_eq rfl hal ?_ | refine call_eq rfl hmd ?_ | refine call_eq rfl hof ?_ | refine call_eq rfl him ?_ | refine call_eq rfl hri ?_ | refine ify ?_ | refine ifn ?_ | refine i6 ?_ | refine ati ?_ | refine mst ?_ | refine rmd ?_ | refine ibo (fun _ => ?_) (fun _ => ?_)) <;> conv => whnf))
      exact rfl
  obtain ⟨hp, h0'⟩ := Decidable.not_not.1 hok
  have h0 : p.labels ≠ [] := fun h => h0' (by rw [h]; rfl)
  have hpl : 0 < p.labels.length := List.length_pos_iff.2 h0
  have ei : imagesY G p whole = dLL (imgs G.labels.length (okI G p whole) p.labels.length []) := by unfold imagesY; rw [if_pos ⟨hp, h0⟩]
  rw [ei, images_same hG hp] at him
  rw [hp] at hri
  have hrm := Pure.up3 (rimages_pure G p whole (by omega) (by omega) (by omega) hpl (by omega))
  have hcnt := iterL_count G.labels.length p.labels.length
  have hpow := pow_le8 (n := G.labels.length) (k := p.labels.length) (by omega) (by omega)
  have hfl := List.length_filter_le (okL G p whole) (iterL G.labels.length p.labels.length [[]])
  generalize (iterL G.labels.length p.labels.length [[]]).filter (okL G p whole) = X at him hrm hfl
  have hdX : (X.map dIs).length = X.length := List.length_map _
  (conv => whnf)
  (repeat' ((first | refine ord_ok (by (conv => whnf); (repeat' ((first | refine call_eq rfl hal ?_ | refine call_eq rfl hmd ?_ | refine call_eq rfl hof ?_ | refine call_eq rfl him ?_ | refine call_eq rfl hri ?_ | refine call_eq rfl hrm ?_ | refine ify ?_ | refine ifn ?_ | refine i6 ?_ | refine ati ?_ | refine mst ?_ | refine rmd ?_ | refine ibo (fun _ => ?_) (fun _ => ?_)) <;> conv => whnf)); (all_goals (repeat' (first | exact trivial | exact rfl | refine And.intro ?_ ?_)))) ?_ | refine call_eq rfl hal ?_ | refine call_eq rfl hmd ?_ | refine call_eq rfl hof ?_ | refine call_eq rfl him ?_ | refine call_eq rfl hri ?_ | refine call_eq rfl hrm ?_ | refine ify ?_ | refine ifn ?_ | refine i6 ?_ | refine ati ?_ | refine mst ?_ | refine rmd ?_ | refine ibo (fun _ => ?_) (fun _ => ?_)) <;> conv => whnf))
  refine loop_lo (ι := Nat) (fun i => i ≤ X.length) (fun i => [(16, .d (.int .i64 i)), (15, .d (dLL X)), (12, .d (dLL X))]) (fun i => []) (fun i => X.length - i) 0 (fun _ => rfl) (Nat.zero_le _) (.refl _ _) ⟨rfl, rfl, rfl, trivial⟩ trivial ?_
  intro i hi
  refine sxCode_sound c3_ok (G := G_qli) (pl := pl_qli) _ _ _ _ (by kernel_rfl) ?_
  by_cases hil : i < X.length
  · have hx := List.getElem?_eq_getElem hil
    generalize X[i] = L at hx
    have hxd : (X.map dIs)[i]? = some (dIs L) := by rw [List.getElem?_map, hx]; rfl
    have hsm := Pure.up3 (same_pure L L)
    rw [decide_eq_true rfl] at hsm
    (conv => whnf)
    (repeat' ((first | refine ord_ok (by (conv => whnf); (repeat' ((first | refine at_da hxd rfl ?_ | refine call_eq rfl hsm ?_ | refine ify ?_ | refine ifn ?_ | refine i6 ?_ | refine ati ?_ | refine mst ?_ | refine rmd ?_ | refine ibo (fun _ => ?_) (fun _ => ?_)) <;> conv => whnf)); (all_goals (repeat' (first | exact trivial | exact rfl | refine And.intro ?_ ?_)))) ?_ | refine at_da hxd rfl ?_ | refine call_eq rfl hsm ?_ | refine ify ?_ | refine ifn ?_ | refine i6 ?_ | refine ati ?_ | refine mst ?_ | refine rmd ?_ | refine ibo (fun _ => ?_) (fun _ => ?_)) <;> conv => whnf))
    exact ⟨i + 1, _, _, by omega, .refl _ _, ⟨rfl, rfl, rfl, trivial⟩, trivial, by omega⟩
  · ((conv => whnf); repeat' ((first | refine odw ?_ | refine ify ?_ | refine ifn ?_ | refine i6 ?_ | refine ati ?_ | refine mst ?_ | refine rmd ?_ | refine ibo (fun _ => ?_) (fun _ => ?_)) <;> conv => whnf))
    exact rfl
end Go.Proofs.YthegabgbakckfaaGreatDoor
end

section
/- slices.Insert at edges: a call that eats an owned slice and hands one back. -/
namespace Go.Reg
open Go Go.RowKit
section
variable {P : Program} {α : Type}
theorem run_copy_rowK (w : World) (dT sT ty elem : TypeId) (k : Nat) (g o dLen dCap : Nat) (a : Addr) (sLen sCap : Nat) (cur : Array Value) (t : TypeId) (cs : List Value)
    (hu : P.underlying dT = some (.slice elem)) (hs : (P.info? elem).map (·.size) = some k)
    (hg : w.heap[g]? = some (.cells cur t (0, 0))) (hn : cs.length = Nat.min sLen dLen * k)
    (hsrc : ∀ j v, cs[j]? = some v → w.cell? (a.add j) = some v) (hfit : o + cs.length ≤ cur.size) (h1 : ∀ v ∈ cs, v.oneCell' = true) :
    (Builtin.copy_ #[dT, sT] ty #[.slice (some ⟨g, o, none⟩) dLen dCap, .slice (some a) sLen sCap]).run P w =
      .ok (goInt (Nat.min sLen dLen)) (w.setRow g (cur.toList.take o ++ cs ++ cur.toList.drop (o + cs.length)).toArray) := by
  have hl := run_loadCells_list (P := P) w a cs hsrc
  have hst := run_storeCells_at P g o t cs 0 cur w hg (by simpa using hfit) h1
  cases hq : P.info? elem with
  | none => simp [hq] at hs
  | some i =>
    have hi : i.size = k := by simpa [hq] using hs
    simp [Builtin.copy_, run_underlying hu, Builtin.lenOf, Builtin.firstCells, sizeOf, typeInfo, hq, hi, ← hn, hl, hst]
/-- memory that came in, and an owned row -/
theorem run_overlaps_own (w : World) (tS tR e : TypeId) (ht : P.underlying tS = some (.slice e)) (size : Nat) (hz : ∀ w, (Go.sizeOf e).run P w = .ok size w)
    (a b : Addr) (la ca lb cb : Nat) (hne : a.block ≠ b.block) {cA cB : Array Value} {tA tB : TypeId} {frA : Nat × Nat} (ha : w.heap[a.block]? = some (.cells cA tA frA)) (hb : w.heap[b.block]? = some (.cells cB tB (0, 0))) (hA : cA.size ≠ 0) (hB : cB.size ≠ 0) :
    (Extern.SlicesOverlaps.overlaps #[tS, tS] #[tR] #[.slice (some a) la ca, .slice (some b) lb cb]).run P w = .ok (.bool false) w := by
  have hnb : (a.block != b.block) = true := by simpa using hne
  have hnb' : (a.block == b.block) = false := by simpa using hne
  have hsa : w.shape? a.block = some (tA, cA.size) := by simp [World.shape?, ha]
  have hsb : w.shape? b.block = some (tB, cB.size) := by simp [World.shape?, hb]
  have hfb : w.frozen? b = false := by simp [World.frozen?, hb]
  have hfb2 : w.frozen? { block := b.block, off := cB.size } = false := by simp [World.frozen?, hb]
  generalize hka : cA.size = kA at *
  generalize hkb : cB.size = kB at *
  cases kA with
  | zero => exact absurd rfl hA
  | succ kA =>
    cases kB with
    | zero => exact absurd rfl hB
    | succ kB =>
      change Sem.run P (α := Value) (do
        let some t := (#[tS, tS] : Array TypeId)[0]? | stuck "slices.overlaps: no parameter types"
        let .slice elem ← underlying t | stuck "slices.overlaps: slice type expected"
        let size ← sizeOf elem
        match (some a : Option Addr), (some b : Option Addr) with
        | some a, some b =>
          if la = 0 ∨ lb = 0 ∨ size = 0 then pure (Value.bool false)
          else if a.block != b.block && (← frozen a) && (← frozen b) then unsupported .addressObserved
          else do
            if a.block != b.block then do
              noView a; noView b
              if ← mayBeOne a b then return Value.bool ((← choose (.extern "sameAddr.stringBytes" 2)) == 1)
            pure (Value.bool (a.block == b.block && a.off < b.off + lb * size && b.off < a.off + la * size))
        | _, _ => pure (Value.bool false)) w = _
      by_cases h0 : la = 0 ∨ lb = 0 ∨ size = 0
      · simp [run_underlying ht, hz, h0]
      · cases hfa : w.frozen? a <;> cases hfe : w.frozen? { block := a.block, off := kA + 1 } <;>
          simp [run_underlying ht, hz, h0, hnb, hnb', frozen, noView, viewAt, mayBeOne, stringish, shape, Sem.run, hsa, hsb, hfb, hfb2, hfa, hfe]
theorem run_append_slA {E k : Nat} {enc : α → List Value} (he : ∀ x, (enc x).length = k) (h1 : ∀ x, ∀ u ∈ enc x, u.oneCell' = true) {t : TypeId} {bytes : Nat} (ht : P.underlying t = some (.slice E)) (hinfo : (P.info? E).map (fun i => (i.zero.map (·.cells.size), i.size, i.bytes)) = some (some k, k, bytes)) (hkb : (decide (0 < k) && decide (bytes ≤ 1000)) = true)
    {w : World} {v : Value} {l : List α} (h : Sl E k enc w v l) (hlen : l.length ≤ 4294967296) (x : α) {a : Addr} {c : Nat} (hnews : ∀ j u, (enc x)[j]? = some u → w.cell? (a.add j) = some u) (ty : TypeId) :
    ∃ v' w', (Builtin.append_ #[t, t] ty #[v, .slice (some a) 1 c]).run P w = .ok v' w' ∧ Sl E k enc w' v' (l ++ [x]) ∧ Tch v.ownBlock.toList w w' ∧ (v'.ownBlock = v.ownBlock ∨ v'.ownBlock = some w.heap.size) := by
  obtain ⟨i, z, hi, hz, hsize, hby, hzs⟩ : ∃ i z, P.info? E = some i ∧ i.zero = some z ∧ i.size = k ∧ i.bytes = bytes ∧ z.cells.size = k := by
    cases hP : P.info? E with
    | none => rw [hP] at hinfo; cases hinfo
    | some i =>
      rw [hP] at hinfo
      simp only [Option.map_some, Option.some.injEq, Prod.mk.injEq, Option.map_eq_some_iff] at hinfo
      obtain ⟨⟨z, hz, h1⟩, h2, h3⟩ := hinfo
      exact ⟨i, z, rfl, hz, h2, h3, h1⟩
  simp only [Bool.and_eq_true, decide_eq_true_eq] at hkb
  obtain ⟨hk, hb0⟩ := hkb
  have hl1 : (enc x).length = 1 * k := by rw [he]; omega
  have hfit : (l.length + 1) * bytes ≤ 4294967297 * 1000 := Nat.mul_le_mul (by omega) hb0
  obtain ⟨v', w', hr, ho, hg, _⟩ := run_append_own (P := P) w 0 t ty E i z k bytes ht hi hz hsize hby hzs hk v l.length (l.flatMap enc) h a 1 c (enc x) hl1 hnews (h1 x) (by simp only [maxLen]; omega) (by omega) (Nat.zero_le _)
  refine ⟨v', w', hr, ?_, ⟨hg.os, hg.tape, hg.output, hg.size, fun j hj hn => hg.block j hj (fun e => hn (by rw [← e]; simp))⟩, ?_⟩
  · unfold Sl; simpa using ho
  · subst hsize
    subst hby
    rcases h.2 with ⟨rfl, hn⟩ | ⟨g, cap, cur, rfl, _, hcur, hnc, hcm, hcs, htake⟩
    · have hx' := run_append_nil (P := P) w t ty E i z ht hi hz a 1 c (enc x) hl1 hnews (by omega) (by omega) (by omega)
      rw [hx'] at hr
      simp at hr
      exact .inr (by rw [← hr.1]; rfl)
    · by_cases hroom : l.length + 1 ≤ cap
      · have hfit2 : l.length * i.size + (enc x).length ≤ cur.size := by rw [hl1, hcs, ← Nat.add_mul]; exact Nat.mul_le_mul_right _ hroom
        have hx' := run_append_room (P := P) w t ty E i ht hi g l.length cap cur hcur a 1 c (enc x) hl1 hnews (h1 x) hroom hfit2
        rw [hx'] at hr
        simp at hr
        exact .inl (by rw [← hr.1]; rfl)
      · have holds : ∀ j u, (l.flatMap enc)[j]? = some u → w.cell? ((⟨g, 0, none⟩ : Addr).add j) = some u := World.ownsRow.cells h (g := g) rfl
        have hx' := run_append_grow (P := P) w t ty E i z ht hi hz ⟨g, 0, none⟩ l.length cap (l.flatMap enc) h.1 holds a 1 c (enc x) hl1 hnews (by omega) (by omega) (growslice_fits (by omega) (by omega))
        rw [hx'] at hr
        simp at hr
        exact .inr (by rw [← hr.1]; rfl)
end
end Go.Reg
namespace Go.Proofs.YthegabgbakckfaaGreatDoor
open Go.Sx Go.RowKit Go.Reg Go.Gr
theorem insMixed : Tryz.prog.follows .mixedOrders = true := by kernel_rfl
def encEI (e : Edg) : List Value := [.int .i64 e.a, .int .i64 e.b]
theorem encEI_len (e : Edg) : (encEI e).length = 2 := rfl
theorem encEI_one (e : Edg) : ∀ u ∈ encEI e, u.oneCell' = true := by
  intro u hu; simp [encEI] at hu; rcases hu with rfl | rfl <;> rfl
theorem zeroEdgeI : (Tryz.prog.info? 77).map (fun i => (i.zero, i.size, i.bytes)) = some (some (.agg #[.int .i64 0, .int .i64 0]), 2, 16) := by kernel_rfl
theorem zeroEdgeI2 : (Tryz.prog.info? 77).map (fun i => (i.zero.map (·.cells.size), i.size, i.bytes)) = some (some 2, 2, 16) := by kernel_rfl
theorem flatEI_len (l : List Edg) : (l.flatMap encEI).length = l.length * 2 := by
  induction l with
  | nil => rfl
  | cons x l ih => simp [ih, encEI]; omega
theorem flatEI_take (l : List Edg) (i : Nat) : (l.take i).flatMap encEI = (l.flatMap encEI).take (i * 2) := by
  induction l generalizing i with
  | nil => simp
  | cons x l ih =>
    cases i with
    | zero => simp
    | succ i =>
      simp only [List.take_succ_cons, List.flatMap_cons, ih]
      rw [List.take_append, encEI_len, show (i + 1) * 2 - 2 = i * 2 from by omega, List.take_of_length_le (l := encEI x) (by rw [encEI_len]; omega)]
theorem flatEI_drop (l : List Edg) (i : Nat) : (l.drop i).flatMap encEI = (l.flatMap encEI).drop (i * 2) := by
  induction l generalizing i with
  | nil => simp
  | cons x l ih =>
    cases i with
    | zero => simp
    | succ i =>
      simp only [List.drop_succ_cons, List.flatMap_cons, ih]
      rw [List.drop_append, encEI_len, show (i + 1) * 2 - 2 = i * 2 from by omega, List.drop_of_length_le (l := encEI x) (by rw [encEI_len]; omega), List.nil_append]
/-- what an Insert owes -/
def InsPost (l : List Edg) (w : World) (v : Value) (e : Ending) (w' : World) : Prop :=
  ∃ v', e = .returned v' ∧ Sl 77 2 encEI w' v' l ∧ Tch v.ownBlock.toList w w' ∧ ∀ b ∈ v'.ownBlock.toList, b ∈ v.ownBlock.toList ∨ w.heap.size ≤ b
set_option maxRecDepth 100000 in
set_option maxHeartbeats 1000000 in
theorem insert_end (v : Value) (l : List Edg) (e : Edg) (w : World) (h : Sl 77 2 encEI w v l) (hl : l.length ≤ 4294967296) (vb vo vc : Nat) (hv : ∀ j u, (encEI e)[j]? = some u → w.cell? ⟨vb, vo + j, none⟩ = some u) :
    Calls Tryz.prog 140 #[v, .int .i64 l.length, .slice (some ⟨vb, vo, none⟩) 1 vc] w (InsPost (l ++ [e]) w v) := by
  have mixed := insMixed
  obtain ⟨v', w', hr, ho, ht, hb⟩ := run_append_slA (P := Tryz.prog) encEI_len encEI_one Tryz.underlying33 zeroEdgeI2 (by decide) h hl e (a := ⟨vb, vo, none⟩) (c := vc) (fun j u hu => by rw [Addr.add_lit]; exact hv j u hu) 33
  have HR := hid hr
  have HF : InsPost (l ++ [e]) w v (.returned v') w' := ⟨_, rfl, ho, ht, fun b hbm => by
    rcases hb with hb | hb
    · rw [hb] at hbm; exact .inl hbm
    · rw [hb] at hbm; simp at hbm; subst hbm; exact .inr (Nat.le_refl _)⟩
  rcases h.shape with ⟨rfl, rfl⟩ | ⟨g, cap, rfl, hc⟩
  · clear h hv hr ho ht hb
    go_enter Tryz.func140, Tryz.ntmps140
    go_wp2_with (first | (at_builtin; refine wpList_plain rfl (fun K hK => ?_); refine wp_append rfl rfl rfl HR.out ?_; go_simp))
    go_ret
    exact HF
  · clear h hv hr ho ht hb
    generalize l.length = n at *
    have hnc : ¬ (cap < n) := by omega
    go_enter Tryz.func140, Tryz.ntmps140
    go_wp2_with (first | (at_builtin; refine wpList_plain rfl (fun K hK => ?_); refine wp_append rfl rfl rfl HR.out ?_; go_simp))
    all_goals (go_ret; exact HF)
theorem insTch (w : World) (g : Nat) (cs : Array Value) : Tch [g] w (w.setRow g cs) := ⟨rfl, rfl, rfl, by simp [World.setRow], fun k _ hn => setRow_other w g k cs (by simpa using hn)⟩
theorem take_midI {α : Type} (L A M : List α) (a m : Nat) (hA : A.length = a) (hL : L.take a = A) (hLl : a + M.length ≤ L.length) (hm : m = a + M.length) : (L.take a ++ M ++ L.drop (a + M.length)).take m = A ++ M := by
  subst hm
  rw [hL, List.take_append_of_le_length (by simp; omega), List.take_of_length_le (by simp; omega)]
theorem mid_lenI {α : Type} (L M : List α) (a : Nat) (h : a + M.length ≤ L.length) : (L.take a ++ M ++ L.drop (a + M.length)).length = L.length := by simp; omega
set_option maxRecDepth 100000 in
set_option maxHeartbeats 2000000 in
theorem insert_grow (g n i : Nat) (cur : Array Value) (l : List Edg) (e : Edg) (w : World) (hg : w.heap[g]? = some (.cells cur 77 (0, 0))) (htake : cur.toList.take (n * 2) = l.flatMap encEI) (hln : l.length = n) (hi : i < n) (hl : n ≤ 4294967296)
    (vb vo vc : Nat) (hv : ∀ j u, (encEI e)[j]? = some u → w.cell? ⟨vb, vo + j, none⟩ = some u) :
    Calls Tryz.prog 140 #[.slice (some ⟨g, 0, none⟩) n n, .int .i64 i, .slice (some ⟨vb, vo, none⟩) 1 vc] w (InsPost (l.take i ++ e :: l.drop i) w (.slice (some ⟨g, 0, none⟩) n n)) := by
  have mixed := insMixed
  obtain ⟨i0, hin, hz0, hz1, hz2⟩ := info_parts zeroEdgeI
  have hfl : (l.flatMap encEI).length = n * 2 := by rw [flatEI_len, hln]
  have hgl := (Array.getElem?_eq_some_iff.1 hg).1
  have hcells : ∀ j u, (l.flatMap encEI)[j]? = some u → w.cell? ⟨g, j, none⟩ = some u := fun j u hu => by
    rw [← htake, List.getElem?_take] at hu
    split at hu
    · simp only [World.cell?, hg]; simpa using hu
    · cases hu
  have hlt : ((l.take i).flatMap encEI).length = i * 2 := by rw [flatEI_len, List.length_take, hln]; omega
  have hld : ((l.drop i).flatMap encEI).length = (n - i) * 2 := by rw [flatEI_len, List.length_drop, hln]
  have hold : (Builtin.firstCells i0.size i (.slice (some ⟨g, 0, none⟩) i n)).run Tryz.prog w.drew = .ok ((l.take i).flatMap encEI).toArray w.drew := by
    rw [hz1]
    refine run_firstCells_some w.drew 2 i ⟨g, 0, none⟩ i n _ hlt (fun j u hj => ?_)
    rw [flatEI_take, List.getElem?_take] at hj
    rw [Addr.add_lit, Nat.zero_add]
    split at hj
    · exact hcells j u hj
    · cases hj
  have hin1 : i + (n + 1 - i) = n + 1 := by omega
  have hrz := Lib.run_append_grow_zeros (P := Tryz.prog) w 33 3 33 77 i0 _ .i64 .i64 Tryz.underlying33 Tryz.underlying3 hin hz0 (some ⟨g, 0, none⟩) i n _ hold (n + 1 - i) (by omega) (by omega) (by omega) (by omega) (by rw [hz2]; omega) (by rw [hin1, hz2]; exact growslice_fits (by omega) (by omega))
  rw [hin1] at hrz
  have hGn : n + 1 ≤ grownCap w (n + 1) n 77 := grownCap_ge w _ _ _
  have hGm : grownCap w (n + 1) n 77 ≤ maxLen := grownCap_le_maxLen w (n + 1) n _ (by unfold maxLen; omega)
  generalize grownCap w (n + 1) n 77 = G at *
  obtain ⟨ROW, hROW⟩ : ∃ R, R = ((l.take i).flatMap encEI).toArray ++ Builtin.zeroCells (Value.agg #[.int .i64 0, .int .i64 0]).cells (n + 1 - i) ++ Builtin.zeroCells (Value.agg #[.int .i64 0, .int .i64 0]).cells (G - (n + 1)) := ⟨_, rfl⟩
  rw [← hROW] at hrz
  have hR0 : ROW.size = G * 2 := by
    rw [hROW]
    simp only [Array.size_append, List.size_toArray, hlt, Builtin.zeroCells, Array.size_map, Array.size_range, Value.cells]
    simp only [List.size_toArray, List.length_cons, List.length_nil]
    omega
  have hR1 : ROW.toList.take (i * 2) = (l.take i).flatMap encEI := by
    rw [hROW]
    simp only [Array.toList_append]
    rw [List.append_assoc, List.take_append_of_le_length (by rw [hlt]; omega), List.take_of_length_le (by rw [hlt]; omega)]
  have hN : g ≠ w.heap.size := by omega
  obtain ⟨W1, hW1⟩ : ∃ W, W = w.drew.alloc (.cells ROW 77) := ⟨_, rfl⟩
  rw [← hW1] at hrz
  have hg1 : W1.heap[w.heap.size]? = some (.cells ROW 77 (0, 0)) := by rw [hW1]; show (w.drew.heap.push _)[w.drew.heap.size]? = _; exact Array.getElem?_push_size
  have hT1 : Tch [] w W1 := by rw [hW1]; exact (Tch.drew w []).trans0 (Tch.alloc _ _ _)
  obtain ⟨R2, hR2⟩ : ∃ R, R = (ROW.toList.take (i * 2) ++ encEI e ++ ROW.toList.drop (i * 2 + (encEI e).length)).toArray := ⟨_, rfl⟩
  have hs2 : R2.size = G * 2 := by rw [hR2, List.size_toArray, mid_lenI _ _ _ (by simp [hR0, encEI]; omega)]; simpa using hR0
  have ht2 : R2.toList.take ((i + 1) * 2) = (l.take i).flatMap encEI ++ encEI e := by
    rw [hR2]; exact take_midI _ _ _ _ _ hlt hR1 (by simp [hR0, encEI]; omega) (by simp [encEI]; omega)
  have hA : ∀ ty o dl dc, o = i * 2 → Nat.min 1 dl = 1 → (Builtin.copy_ #[33, 33] ty #[.slice (some ⟨w.heap.size, o, none⟩) dl dc, .slice (some ⟨vb, vo, none⟩) 1 vc]).run Tryz.prog W1 = .ok (goInt 1) (W1.setRow w.heap.size R2) := fun ty o dl dc ho hm => by
    have := run_copy_rowK (P := Tryz.prog) W1 33 33 ty 77 2 w.heap.size (i * 2) dl dc ⟨vb, vo, none⟩ 1 vc ROW _ (encEI e) Tryz.underlying33 (by rw [hin]; simp [hz1]) hg1 (by rw [hm]; rfl) (fun j u hj => by rw [Addr.add_lit]; exact hT1.cell (hv j u hj) (by simp)) (by rw [hR0]; simp [encEI]; omega) (encEI_one e)
    rw [hm, ← hR2] at this
    rw [ho]; exact this
  have hg2 := setRow_heap W1 w.heap.size ROW R2 _ (0, 0) hg1
  have hT2 : Tch [] w (W1.setRow w.heap.size R2) := hT1.trans (insTch W1 w.heap.size R2) (by simp) (fun x hx => .inr (by simp at hx; omega))
  generalize W1.setRow w.heap.size R2 = W2 at hA hg2 hT2
  obtain ⟨R3, hR3⟩ : ∃ R, R = (R2.toList.take ((i + 1) * 2) ++ (l.drop i).flatMap encEI ++ R2.toList.drop ((i + 1) * 2 + ((l.drop i).flatMap encEI).length)).toArray := ⟨_, rfl⟩
  have hs3 : R3.size = G * 2 := by rw [hR3, List.size_toArray, mid_lenI _ _ _ (by simp only [Array.length_toList, hs2, hld]; omega)]; simpa using hs2
  have ht3 : R3.toList.take ((n + 1) * 2) = (l.take i ++ e :: l.drop i).flatMap encEI := by
    rw [List.flatMap_append, List.flatMap_cons, ← List.append_assoc, hR3]
    exact take_midI _ _ _ _ _ (by rw [List.length_append, hlt]; simp [encEI]; omega) ht2 (by simp only [Array.length_toList, hs2, hld]; omega) (by rw [hld]; omega)
  have hB : ∀ W, Tch [] W2 W → ∀ ty o dl dc so sl sc, o = (i + 1) * 2 → so = i * 2 → Nat.min sl dl = n - i → (Builtin.copy_ #[33, 33] ty #[.slice (some ⟨w.heap.size, o, none⟩) dl dc, .slice (some ⟨g, so, none⟩) sl sc]).run Tryz.prog W = .ok (goInt (n - i : Nat)) (W.setRow w.heap.size R3) := fun W hW ty o dl dc so sl sc ho hso hm => by
    have hgW : W.heap[w.heap.size]? = some (.cells R2 77 (0, 0)) := by rw [hW.blk _ (Array.getElem?_eq_some_iff.1 hg2).1 (by simp)]; exact hg2
    have := run_copy_rowK (P := Tryz.prog) W 33 33 ty 77 2 w.heap.size ((i + 1) * 2) dl dc ⟨g, i * 2, none⟩ sl sc R2 _ ((l.drop i).flatMap encEI) Tryz.underlying33 (by rw [hin]; simp [hz1]) hgW (by rw [hm, hld])
      (fun j u hj => by rw [Addr.add_lit]; rw [flatEI_drop, List.getElem?_drop] at hj; exact (hT2.trans0 hW).cell (hcells _ u hj) (by simp)) (by rw [hs2, hld]; omega) (fun u hu => by obtain ⟨x, _, hx⟩ := List.mem_flatMap.1 hu; exact encEI_one x u hx)
    rw [hm, ← hR3] at this
    rw [ho, hso]; exact this
  have hF : ∀ W, Tch [] W2 W → InsPost (l.take i ++ e :: l.drop i) w (.slice (some ⟨g, 0, none⟩) n n) (.returned (.slice (some ⟨w.heap.size, 0, none⟩) (n + 1) G)) (W.setRow w.heap.size R3) := fun W hW => by
    have hgW : W.heap[w.heap.size]? = some (.cells R2 77 (0, 0)) := by rw [hW.blk _ (Array.getElem?_eq_some_iff.1 hg2).1 (by simp)]; exact hg2
    have hll : (l.take i ++ e :: l.drop i).length = n + 1 := by simp [hln]; omega
    refine ⟨_, rfl, ?_, ((hT2.trans0 hW).trans (insTch W w.heap.size R3) (by simp) (fun x hx => .inr (by simp at hx; omega))), fun b hb => .inr (by simp [Value.ownBlock] at hb; omega)⟩
    unfold Sl
    rw [hll]
    exact ⟨by rw [flatEI_len, hll], .inr ⟨_, G, R3, rfl, Nat.zero_le _, setRow_heap W _ R2 R3 _ (0, 0) hgW, hGn, hGm, hs3, ht3⟩⟩
  have hwi : ∀ z : Int, z = ((n + 1 - i : Nat) : Int) → (Builtin.append_ #[33, 3] 33 #[.slice (some ⟨g, 0, none⟩) i n, .int .i64 z]).run Tryz.prog w = .ok (.slice (some ⟨w.heap.size, 0, none⟩) (n + 1) G) W1 := fun z hz => by rw [hz]; exact hrz
  have HZ := hid hwi
  have HA := hid hA
  have HB := hid hB
  have HF := hid hF
  have h1 : ¬ ((i : Int) = (n : Int)) := by omega
  have h2 : (n : Int) < (n : Int) + 1 := by omega
  have h3 : i ≤ n := by omega
  have h5 : ¬ (n = i) := by omega
  have h6 : ¬ (G = i) := by omega
  have h7 : ¬ (G = i + 1) := by omega
  have h8 : i ≤ n + 1 := by omega
  have h9 : (i : Int) ≤ (n : Int) := by omega
  have h10 : (i : Int) ≤ (n : Int) + 1 := by omega
  clear hg htake hln hv hin hz0 hz1 hz2 hfl hcells hlt hld hold hrz hROW hR0 hR1 hW1 hg1 hT1 hR2 hs2 ht2 hg2 hT2 hR3 hs3 ht3 hA hB hF hwi
  go_enter Tryz.func140, Tryz.ntmps140
  go_wp2_with (first | (at_builtin; refine wpList_plain rfl (fun K hK => ?_); refine wp_append rfl rfl rfl (HZ.out _ (by omega)) ?_; go_simp) | (refine wpList_copy_runI _ rfl _ _ 33 33 rfl _ _ rfl rfl (HA.out _ _ _ _ (by omega) (by simp only [Nat.min_def]; split <;> omega)) ?_; go_simp))
  refine wp_region_g [] [0, 0, 0, 0, 0, 0, 0, 0, 3] [0, 1, 2, 3, 4, 5, 6, 7, 8] [0, 0, 0, 6, 15, 0, 0, 96, 255] insMixed (by kernel_rfl) ?_
  intro w1 hT
  have HT := hid hT
  clear hT
  go_wp2_with (first | (refine wpT_pure rfl rfl rfl rfl (fun _ _ => ?_)))
  refine wpT_one rfl rfl rfl (fun K hK => ?_)
  refine wp_copy_runI _ _ _ 33 33 rfl _ _ rfl rfl (HB.out w1 HT.out _ _ _ _ _ _ _ (by omega) (by omega) (by simp only [Nat.min_def]; split <;> omega)) ?_
  have HFF := hid (HF.out w1 HT.out)
  go_simp
  go_wp2_with (first | (refine wpT_pure rfl rfl rfl rfl (fun _ _ => ?_)) | refine wpT_nil ?_)
  go_ret
  exact HFF.out
set_option maxRecDepth 100000 in
set_option maxHeartbeats 2000000 in
theorem insert_shift (g n i cap : Nat) (cur : Array Value) (l : List Edg) (e : Edg) (w : World) (hg : w.heap[g]? = some (.cells cur 77 (0, 0))) (hcs : cur.size = cap * 2) (htake : cur.toList.take (n * 2) = l.flatMap encEI) (hln : l.length = n) (hi : i < n) (hl : n ≤ 4294967296) (hroom : n + 1 ≤ cap) (hcm : cap ≤ maxLen)
    (vb vo vc : Nat) (hvb : vb ≠ g) (hv : ∀ j u, (encEI e)[j]? = some u → w.cell? ⟨vb, vo + j, none⟩ = some u) :
    Calls Tryz.prog 140 #[.slice (some ⟨g, 0, none⟩) n cap, .int .i64 i, .slice (some ⟨vb, vo, none⟩) 1 vc] w (InsPost (l.take i ++ e :: l.drop i) w (.slice (some ⟨g, 0, none⟩) n cap)) := by
  have mixed := insMixed
  obtain ⟨i0, hin, hz0, hz1, hz2⟩ := info_parts zeroEdgeI
  have hfl : (l.flatMap encEI).length = n * 2 := by rw [flatEI_len, hln]
  have hgl := (Array.getElem?_eq_some_iff.1 hg).1
  have hcells : ∀ j u, (l.flatMap encEI)[j]? = some u → w.cell? ⟨g, j, none⟩ = some u := fun j u hu => by
    rw [← htake, List.getElem?_take] at hu
    split at hu
    · simp only [World.cell?, hg]; simpa using hu
    · cases hu
  have hlt : ((l.take i).flatMap encEI).length = i * 2 := by rw [flatEI_len, List.length_take, hln]; omega
  have hld : ((l.drop i).flatMap encEI).length = (n - i) * 2 := by rw [flatEI_len, List.length_drop, hln]
  have hT1 : ∀ W, Tch [] w W → W.heap[g]? = some (.cells cur 77 (0, 0)) := fun W hW => by rw [hW.blk _ hgl (by simp)]; exact hg
  obtain ⟨R2, hR2⟩ : ∃ R, R = (cur.toList.take ((i + 1) * 2) ++ (l.drop i).flatMap encEI ++ cur.toList.drop ((i + 1) * 2 + ((l.drop i).flatMap encEI).length)).toArray := ⟨_, rfl⟩
  have hs2 : R2.size = cap * 2 := by rw [hR2, List.size_toArray, mid_lenI _ _ _ (by simp only [Array.length_toList, hcs, hld]; omega)]; simpa using hcs
  have ht2 : R2.toList.take (i * 2) = (l.take i).flatMap encEI := by
    rw [hR2, flatEI_take, ← htake]
    simp only [List.append_assoc]
    rw [List.take_append_of_le_length (by simp [hcs]; omega), List.take_take, List.take_take]
    congr 1; omega
  have hd2 : R2.toList.drop (i * 2 + (encEI e).length) = (l.drop i).flatMap encEI ++ cur.toList.drop ((i + 1) * 2 + ((l.drop i).flatMap encEI).length) := by
    rw [hR2]
    simp only [List.append_assoc]
    rw [List.drop_append_of_le_length (by simp [hcs, encEI]; omega), List.drop_of_length_le (by simp [hcs, encEI]; omega), List.nil_append]
  obtain ⟨R3, hR3⟩ : ∃ R, R = (R2.toList.take (i * 2) ++ encEI e ++ R2.toList.drop (i * 2 + (encEI e).length)).toArray := ⟨_, rfl⟩
  have hs3 : R3.size = cap * 2 := by rw [hR3, List.size_toArray, mid_lenI _ _ _ (by simp only [Array.length_toList, hs2]; simp [encEI]; omega)]; simpa using hs2
  have ht3 : R3.toList.take ((n + 1) * 2) = (l.take i ++ e :: l.drop i).flatMap encEI := by
    rw [List.flatMap_append, List.flatMap_cons, hR3, hd2, ht2]
    simp only [← List.append_assoc]
    rw [List.take_append_of_le_length (by simp only [List.length_append, hlt, hld]; simp [encEI]; omega), List.take_of_length_le (by simp only [List.length_append, hlt, hld]; simp [encEI]; omega)]
  have hB : ∀ W, Tch [] w W → ∀ ty o dl dc so sl sc, o = (i + 1) * 2 → so = i * 2 → Nat.min sl dl = n - i → (Builtin.copy_ #[33, 33] ty #[.slice (some ⟨g, o, none⟩) dl dc, .slice (some ⟨g, so, none⟩) sl sc]).run Tryz.prog W = .ok (goInt (n - i : Nat)) (W.setRow g R2) := fun W hW ty o dl dc so sl sc ho hso hm => by
    have := run_copy_rowK (P := Tryz.prog) W 33 33 ty 77 2 g ((i + 1) * 2) dl dc ⟨g, i * 2, none⟩ sl sc cur _ ((l.drop i).flatMap encEI) Tryz.underlying33 (by rw [hin]; simp [hz1]) (hT1 W hW) (by rw [hm, hld])
      (fun j u hj => by rw [Addr.add_lit]; rw [flatEI_drop, List.getElem?_drop] at hj; exact hW.cell (hcells _ u hj) (by simp)) (by rw [hcs, hld]; omega) (fun u hu => by obtain ⟨x, _, hx⟩ := List.mem_flatMap.1 hu; exact encEI_one x u hx)
    rw [hm, ← hR2] at this
    rw [ho, hso]; exact this
  have hA : ∀ W, Tch [] w W → ∀ ty o dl dc, o = i * 2 → Nat.min 1 dl = 1 → (Builtin.copy_ #[33, 33] ty #[.slice (some ⟨g, o, none⟩) dl dc, .slice (some ⟨vb, vo, none⟩) 1 vc]).run Tryz.prog (W.setRow g R2) = .ok (goInt 1) ((W.setRow g R2).setRow g R3) := fun W hW ty o dl dc ho hm => by
    have := run_copy_rowK (P := Tryz.prog) (W.setRow g R2) 33 33 ty 77 2 g (i * 2) dl dc ⟨vb, vo, none⟩ 1 vc R2 _ (encEI e) Tryz.underlying33 (by rw [hin]; simp [hz1]) (setRow_heap W g cur R2 _ (0, 0) (hT1 W hW)) (by rw [hm]; rfl) (fun j u hj => by rw [Addr.add_lit]; exact (hW.ahead0 (insTch W g R2)).cell (hv j u hj) (by simpa using hvb)) (by rw [hs2]; simp [encEI]; omega) (encEI_one e)
    rw [hm, ← hR3] at this
    rw [ho]; exact this
  have hF : ∀ W, Tch [] w W → InsPost (l.take i ++ e :: l.drop i) w (.slice (some ⟨g, 0, none⟩) n cap) (.returned (.slice (some ⟨g, 0, none⟩) (n + 1) cap)) ((W.setRow g R2).setRow g R3) := fun W hW => by
    have hll : (l.take i ++ e :: l.drop i).length = n + 1 := by simp [hln]; omega
    refine ⟨_, rfl, ?_, (hW.ahead0 (insTch W g R2)).trans0 (insTch _ g R3), fun b hb => .inl hb⟩
    unfold Sl
    rw [hll]
    exact ⟨by rw [flatEI_len, hll], .inr ⟨_, cap, R3, rfl, Nat.zero_le _, setRow_heap _ _ R2 R3 _ (0, 0) (setRow_heap W g cur R2 _ (0, 0) (hT1 W hW)), hroom, hcm, hs3, ht3⟩⟩
  have hov : ∀ lb cb, (callFunc 167 #[.slice (some ⟨vb, vo, none⟩) 1 vc, .slice (some ⟨g, (i + 1) * 2, none⟩) lb cb]).run Tryz.prog w = .ok (.value (.bool false)) w := fun lb cb => by
    have hc0 := hv 0 _ rfl
    unfold World.cell? at hc0
    have hsome : ∃ cA tA frA, w.heap[vb]? = some (.cells cA tA frA) ∧ cA.size ≠ 0 := by
      cases hh : w.heap[vb]? with
      | none => simp [hh] at hc0
      | some o =>
        cases o with
        | cells c t fr =>
          refine ⟨c, t, fr, rfl, fun h0 => ?_⟩
          simp only [hh] at hc0
          simp at hc0
          have := (Array.getElem?_eq_some_iff.1 hc0).1
          omega
        | _ => simp [hh] at hc0
    obtain ⟨cA, tA, frA, ha, hA0⟩ := hsome
    rw [run_callFunc_extern Tryz.func167 (by kernel_rfl) (by kernel_rfl) (by kernel_rfl) (e := Extern.SlicesOverlaps.overlaps #[33, 33] #[4]) (by kernel_rfl),
      run_overlaps_own w 33 4 77 Tryz.underlying33 2 (fun w => by kernel_rfl) ⟨vb, vo, none⟩ ⟨g, (i + 1) * 2, none⟩ 1 vc lb cb hvb ha hg hA0 (by omega)]
    rfl
  have HA := hid hA
  have HB := hid hB
  have HF := hid hF
  have h1 : ¬ ((i : Int) = (n : Int)) := by omega
  have h2 : ¬ ((cap : Int) < (n : Int) + 1) := by omega
  have h3 : i ≤ n := by omega
  have h5 : ¬ (cap = i) := by omega
  have h7 : ¬ (cap = i + 1) := by omega
  have h8 : i ≤ n + 1 := by omega
  have h9 : (i : Int) ≤ (n : Int) := by omega
  have h10 : (i : Int) ≤ (n : Int) + 1 := by omega
  have hcm' : cap ≤ 9223372036854775807 := by unfold maxLen at hcm; omega
  clear hg hcs htake hln hv hin hz0 hz1 hz2 hfl hcells hlt hld hT1 hR2 hs2 ht2 hd2 hR3 hs3 ht3 hA hB hF hcm
  go_enter Tryz.func140, Tryz.ntmps140
  go_wp2_with (simp only [hov])
  refine wp_region_g [] [0, 0, 0, 0, 0, 0, 0, 0, 3] [0, 1, 2, 3, 4, 5, 6, 7, 8] [0, 0, 0, 6, 15, 0, 0, 96, 255] insMixed (by kernel_rfl) ?_
  intro w1 hT
  have HT := hid hT
  clear hT
  go_wp2_with (first | (refine wpT_pure rfl rfl rfl rfl (fun _ _ => ?_)))
  refine wpT_one rfl rfl rfl (fun K hK => ?_)
  refine wp_copy_runI _ _ _ 33 33 rfl _ _ rfl rfl (HB.out w1 HT.out _ _ _ _ _ _ _ (by omega) (by omega) (by simp only [Nat.min_def]; split <;> omega)) ?_
  have HFF := hid (HF.out w1 HT.out)
  have HAA := hid (HA.out w1 HT.out)
  go_simp
  go_wp2_with (first | (refine wpT_pure rfl rfl rfl rfl (fun _ _ => ?_)) | refine wpT_nil ?_ | (refine wpList_copy_runI _ rfl _ _ 33 33 rfl _ _ rfl rfl (HAA.out _ _ _ _ (by omega) (by simp only [Nat.min_def]; split <;> omega)) ?_))
  go_ret
  exact HFF.out
theorem insert_ok (v : Value) (l : List Edg) (e : Edg) (i : Nat) (hi : i ≤ l.length) (w : World) (h : Sl 77 2 encEI w v l) (hl : l.length ≤ 4294967296) (vb vo vc : Nat) (hvb : vb ∉ v.ownBlock.toList) (hv : ∀ j u, (encEI e)[j]? = some u → w.cell? ⟨vb, vo + j, none⟩ = some u) :
    Calls Tryz.prog 140 #[v, .int .i64 i, .slice (some ⟨vb, vo, none⟩) 1 vc] w (InsPost (l.take i ++ e :: l.drop i) w v) := by
  by_cases hin : i = l.length
  · subst hin
    rw [List.take_length, List.drop_length]
    exact insert_end v l e w h hl vb vo vc hv
  · rcases h.2 with ⟨rfl, hl0⟩ | ⟨g, cap, cur, rfl, _, hg, hnc, hcm, hcs, htake⟩
    · omega
    · by_cases hroom : l.length + 1 ≤ cap
      · exact insert_shift g l.length i cap cur l e w hg hcs htake rfl (by omega) hl hroom hcm vb vo vc (by simpa [Value.ownBlock] using hvb) hv
      · have hc : cap = l.length := by omega
        subst hc
        exact insert_grow g l.length i cur l e w hg htake rfl (by omega) hl vb vo vc hv
end Go.Proofs.YthegabgbakckfaaGreatDoor
end

section
/- pat.Make of any right edges: each is put where it belongs. -/
namespace Go.Gr
/-- an edge put where it belongs -/
def insE (E : List Edg) (x : Edg) : List Edg := E.take (ltsB E x) ++ x :: E.drop (ltsB E x)
def accE (E : List Edg) (i : Nat) : List Edg := ((E.take i).map turn).foldl insE []
theorem lts_split {E : List Edg} (h : Strict E) (x : Edg) : (∀ y ∈ E.take (ltsB E x), cmpE y x < 0) ∧ ∀ y ∈ E.drop (ltsB E x), ¬ cmpE y x < 0 := by
  induction E with
  | nil => simp
  | cons z E ih =>
    obtain ⟨h1, h2⟩ := List.pairwise_cons.1 h
    by_cases hz : cmpE z x < 0
    · have e : ltsB (z :: E) x = ltsB E x + 1 := by unfold ltsB; rw [List.countP_cons_of_pos (by simp [hz])]
      rw [e, List.take_succ_cons, List.drop_succ_cons]
      obtain ⟨i1, i2⟩ := ih h2
      refine ⟨fun y hy => ?_, i2⟩
      rcases List.mem_cons.1 hy with rfl | hy
      · exact hz
      · exact i1 y hy
    · have hall : ∀ y ∈ z :: E, ¬ cmpE y x < 0 := by
        intro y hy
        rcases List.mem_cons.1 hy with rfl | hy
        · exact hz
        · exact fun hc => hz (cmpE_trans (h1 y hy) hc)
      have e : ltsB (z :: E) x = 0 := by
        unfold ltsB
        exact List.countP_eq_zero.2 fun y hy => by have := hall y hy; simpa using this
      rw [e]
      exact ⟨by simp, hall⟩
theorem insE_perm (E : List Edg) (x : Edg) : (insE E x).Perm (x :: E) := by
  unfold insE
  refine List.perm_middle.trans ?_
  rw [List.take_append_drop]
theorem insE_strict {E : List Edg} (h : Strict E) {x : Edg} (hx : x ∉ E) : Strict (insE E x) := by
  obtain ⟨h1, h2⟩ := lts_split h x
  unfold insE
  have hg : ∀ y ∈ E.drop (ltsB E x), cmpE x y < 0 := fun y hy => by
    rcases cmpE_tri x y with h3 | h3 | h3
    · exact h3
    · subst h3; exact absurd (List.mem_of_mem_drop hy) hx
    · exact absurd h3 (h2 y hy)
  refine List.pairwise_append.2 ⟨List.Pairwise.sublist (List.take_sublist _ _) h, List.pairwise_cons.2 ⟨hg, List.Pairwise.sublist (List.drop_sublist _ _) h⟩, fun a ha b hb => ?_⟩
  rcases List.mem_cons.1 hb with rfl | hb
  · exact h1 a ha
  · exact cmpE_trans (h1 a ha) (hg b hb)
theorem fold_ins (L : List Edg) (hn : L.Nodup) : ∀ E, Strict E → (∀ x ∈ L, x ∉ E) → Strict (L.foldl insE E) ∧ (L.foldl insE E).Perm (L ++ E) := by
  induction L with
  | nil => intro E h _; exact ⟨h, List.Perm.refl _⟩
  | cons x L ih =>
    intro E h hx
    obtain ⟨n1, n2⟩ := List.nodup_cons.1 hn
    have hs := insE_strict h (hx x (by simp))
    obtain ⟨i1, i2⟩ := ih n2 (insE E x) hs (fun y hy hm => by
      have := (insE_perm E x).mem_iff.1 hm
      rcases List.mem_cons.1 this with rfl | h3
      · exact n1 hy
      · exact hx y (by simp [hy]) h3)
    refine ⟨i1, i2.trans ?_⟩
    refine (List.Perm.append_left L (insE_perm E x)).trans ?_
    exact List.perm_middle
theorem accE_ok {E : List Edg} (hn : (E.map turn).Nodup) (i : Nat) : Strict (accE E i) ∧ (accE E i).Perm ((E.take i).map turn) := by
  have hn' : ((E.take i).map turn).Nodup := by rw [List.map_take]; exact hn.sublist (List.take_sublist _ _)
  have := fold_ins _ hn' [] List.Pairwise.nil (by simp)
  rwa [List.append_nil] at this
theorem accE_step {E : List Edg} {i : Nat} {x : Edg} (h : E[i]? = some x) : accE E (i + 1) = insE (accE E i) (turn x) := by
  unfold accE
  rw [List.take_add_one, h]
  simp
end Go.Gr
namespace Go.Proofs.YthegabgbakckfaaGreatDoor
open Go.Sx Go.RowKit Go.Reg Go.Gr

set_option maxRecDepth 100000
theorem edgesI_cs {O : List Nat} {w : World} : ∀ {l : List Edg} {css : List (List Value)}, RepCss O w (l.map dE) css → css = l.map encEI
  | [], css, h => by simpa only [List.map_nil, RepCss] using h
  | e :: l, css, h => by
    simp only [List.map_cons, RepCss, dE, RepC, RepCs] at h
    obtain ⟨c1, c2, rfl, ⟨a1, a2, rfl, rfl, b1, b2, rfl, rfl, rfl⟩, h⟩ := h
    rw [edgesI_cs h]; rfl
theorem cssI_edges (O : List Nat) (w : World) : ∀ l : List Edg, RepCss O w (l.map dE) (l.map encEI)
  | [] => by simp [RepCss]
  | e :: l => by
    simp only [List.map_cons, RepCss, dE, RepC, RepCs]
    exact ⟨_, _, rfl, ⟨_, _, rfl, rfl, _, _, rfl, rfl, rfl⟩, cssI_edges O w l⟩
theorem edgesI_sl {E : Nat} {w : World} {v : Value} {l : List Edg} : Sl E 2 id w v (l.map encEI) ↔ Sl E 2 encEI w v l := by
  unfold Sl
  rw [List.length_map, List.flatMap_map]
  exact Iff.rfl
theorem insert_eat (l : List Edg) (hl : l.length ≤ 4294967296) (e : Edg) (i : Nat) (hi : i ≤ l.length) :
    EatSl C1 140 77 2 (l.map dE) [.int .i64 i, .list 2 [dE e]] (fun ds => ds = (l.take i ++ e :: l.drop i).map dE) := by
  intro O w v css us hs hb hO hr hk hg hus
  obtain rfl := edgesI_cs hr
  obtain ⟨v1, vs, rfl, h1, h2⟩ := reps_inv hus
  obtain ⟨v2, vs2, rfl, h3, h4⟩ := reps_inv h2
  obtain rfl := reps_inv0 h4
  obtain rfl := rep_int h1
  obtain ⟨cs, r, rfl⟩ := h3
  simp only [RepC] at r
  obtain ⟨a, cap, css, rfl, hlc, hcm, hcs, hrow, hd⟩ := r
  have hcs' : css = [encEI e] := edgesI_cs (l := [e]) hcs
  subst hcs'
  rcases hd with hd | ⟨vb, vo, rfl, hvb, hvl, hcell⟩
  · cases hd
  refine ⟨enters_of Tryz.func140 (by kernel_rfl) rfl _ _, ?_⟩
  refine (insert_ok v l e i hi w (edgesI_sl.1 hs) hl vb vo cap (fun hm => hvb (hb vb hm)) (fun j u hj => hcell j u (by simpa using hj))).mono ?_
  rintro x w' ⟨v', rfl, hs', ht, hb'⟩
  refine ⟨v', _, (l.take i ++ e :: l.drop i).map encEI, rfl, rfl, edgesI_sl.2 hs', hb', cssI_edges _ _ _, fun y hy => ?_, ht⟩
  obtain ⟨z, _, rfl⟩ := List.mem_map.1 hy
  exact ⟨encEI_len z, encEI_one z⟩
theorem flatsI_edges (l : List Edg) : flats (l.map dE) = true := flats_map _ (fun _ => rfl) _
def pl_pmg : List (Nat × Plan) := [(8, .leaf [0, 1, 1, 2, 2, 0, 0, 0, 0, 0] [0, 1, 2, 3, 4, 5, 6, 7, 8, 9] [0, 1, 0, 4, 15, 31, 63, 63, 127, 511]),
  (13, .leaf [0, 1, 0, 1, 2, 6, 3, 0, 3] [0, 2, 1, 3, 4, 5, 6, 7, 8] [0, 1, 0, 0, 8, 24, 63, 127, 255])]
def G_pmg : List FuncId := [74, 139, 108]
theorem cok_pmg : codeOk Tryz.prog G_pmg pl_pmg (Tryz.f84.body.getD .skip) = true := by kernel_rfl
theorem run_pmg (vs : Array Value) (w : World) : (callFunc 84 vs).run C1.P w = .ok (.enter 84 vs) w := by kernel_rfl
set_option maxHeartbeats 4000000 in
theorem pmake_pure (l : List Int) (hl : lErr l = none) (E : List Edg) (hE : E.length ≤ 1000) (hw : ∀ e ∈ E, (0 ≤ min e.a e.b ∧ max e.a e.b < (l.length : Int)) ∧ e.a ≠ e.b) (hn : (E.map turn).Nodup) :
    Pure C1 84 [dIs l, dEs E] (fun y => y = .tuple [dPt ⟨l, (E.map turn).foldl insE []⟩, .nili]) := by
  have hdl : (l.map dI).length = l.length := List.length_map _
  have hdE : (E.map dE).length = E.length := List.length_map _
  have h8 := (lErr_none hl).1
  have hlb := plabels_pure l (by omega)
  rw [show labelsY l = .nili by unfold labelsY; rw [hl]] at hlb
  refine pure_of c1_ok (pl := pl_pmg) (G := G_pmg) Tryz.func84 rfl Tryz.ntmps84 run_pmg cok_pmg (by simp) ?_
  (conv => whnf)
  (repeat' ((first | refine ord_ok (by (conv => whnf); (repeat' ((first | refine call_eq rfl hlb ?_ | refine ify ?_ | refine ifn ?_ | refine i6 ?_ | refine ati ?_ | refine mst ?_ | refine rmd ?_ | refine ibo (fun _ => ?_) (fun _ => ?_)) <;> conv => whnf)); (all_goals (repeat' (first | exact trivial | exact rfl | refine And.intro ?_ ?_)))) ?_ | refine call_eq rfl hlb ?_ | refine ify ?_ | refine ifn ?_ | refine i6 ?_ | refine ati ?_ | refine mst ?_ | refine rmd ?_ | refine ibo (fun _ => ?_) (fun _ => ?_)) <;> conv => whnf))
  refine call_mksl 19 rfl rfl (clone_sl l (by omega)) ?_
  rintro ds rfl
  ((conv => whnf); repeat' ((first | refine odw ?_ | refine ify ?_ | refine ifn ?_ | refine i6 ?_ | refine ati ?_ | refine mst ?_ | refine rmd ?_ | refine ibo (fun _ => ?_) (fun _ => ?_)) <;> conv => whnf))
  refine loop_lo (ι := Nat) (fun i => i ≤ E.length) (fun i => [(23, .d (.int .i64 i)), (22, .d (.int .i64 E.length)), (21, .d (dEs E)), (7, .own 7), (4, .own 4), (0, .d (dIs l))]) (fun i => [(4, .cells 35 [.d .nils, .d .nils]), (7, .cells 35 [.d (dIs l), .own 300]), (300, .slice 77 2 ((accE E i).map dE))]) (fun i => E.length - i) 0 (fun _ => rfl) (Nat.zero_le _) (.frz 19 rfl (.ownc 7 300 77 2 rfl rfl (.there _ (.here _)) (.refl _ _))) ⟨rfl, by rw [← hdE]; rfl, rfl, rfl, rfl, rfl, trivial⟩ ⟨rfl, rfl, rfl, trivial⟩ ?_
  intro i hi
  refine sxCode_sound c1_ok (G := G_pmg) (pl := pl_pmg) _ _ _ _ (by kernel_rfl) ?_
  obtain ⟨hst, hpe⟩ := accE_ok hn i
  have hal : (accE E i).length = i := by rw [hpe.length_eq, List.length_map, List.length_take]; omega
  have hald : ((accE E i).map dE).length = i := by rw [List.length_map, hal]
  by_cases hil : i < E.length
  · have hx := List.getElem?_eq_getElem hil
    have hxw := hw E[i] (List.getElem_mem hil)
    have hstep := accE_step hx
    have hnot : turn E[i] ∉ accE E i := fun hm => by
      have := hpe.mem_iff.1 hm
      rw [List.map_take] at this
      obtain ⟨j, hj, he⟩ := List.mem_take_iff_getElem.1 this
      have hj' : j < i := by omega
      have hij : (E.map turn)[j]? = (E.map turn)[i]? := by
        rw [List.getElem?_eq_getElem (by simp; omega), List.getElem?_eq_getElem (by simp; omega), he]; simp
      have := (List.getElem?_inj (by simp; omega) hn).1 hij
      omega
    generalize E[i] = x at hx hxw hstep hnot
    have hxd : (E.map dE)[i]? = some (.agg [.int .i64 x.a, .int .i64 x.b]) := by rw [List.getElem?_map, hx]; rfl
    have htu := pturned_pure x
    have hbs := bsearchO_pure _ porder_pure (accE E i) hst (by omega) (turn x)
    rw [decide_eq_false hnot] at hbs
    have hwi := within_pure x l.length
    rw [decide_eq_true hxw.1, ← hdl] at hwi
    have hlt := lts_le (accE E i) (turn x)
    have hin := insert_eat (accE E i) (by omega) (turn x) (ltsB (accE E i) (turn x)) hlt
    rw [show (accE E i).take (ltsB (accE E i) (turn x)) ++ turn x :: (accE E i).drop (ltsB (accE E i) (turn x)) = accE E (i + 1) from hstep.symm] at hin
    have hne := hxw.2
    (conv => whnf)
    (repeat' ((first | refine ord_ok (by (conv => whnf); (repeat' ((first | refine at_da hxd rfl ?_ | refine call_eq rfl htu ?_ | refine call_eqb tab rfl hbs rfl ?_ | refine call_eq rfl hwi ?_ | refine call_frz 62 rfl ?_ | refine ify ?_ | refine ifn ?_ | refine i6 ?_ | refine ati ?_ | refine mst ?_ | refine rmd ?_ | refine ibo (fun _ => ?_) (fun _ => ?_)) <;> conv => whnf)); (all_goals (repeat' (first | exact trivial | exact rfl | refine And.intro ?_ ?_)))) ?_ | refine at_da hxd rfl ?_ | refine call_eq rfl htu ?_ | refine call_eqb tab rfl hbs rfl ?_ | refine call_eq rfl hwi ?_ | refine call_frz 62 rfl ?_ | refine ify ?_ | refine ifn ?_ | refine i6 ?_ | refine ati ?_ | refine mst ?_ | refine rmd ?_ | refine ibo (fun _ => ?_) (fun _ => ?_)) <;> conv => whnf))
    refine call_eatb tab rfl rfl hin (fun ds h => by subst h; exact flatsI_edges _) ?_
    rintro ds rfl
    ((conv => whnf); repeat' ((first | refine odw ?_ | refine ify ?_ | refine ifn ?_ | refine i6 ?_ | refine ati ?_ | refine mst ?_ | refine rmd ?_ | refine ibo (fun _ => ?_) (fun _ => ?_)) <;> conv => whnf))
    exact ⟨i + 1, _, _, by omega, .refl _ _, ⟨rfl, rfl, rfl, rfl, rfl, rfl, trivial⟩, ⟨rfl, rfl, rfl, trivial⟩, by omega⟩
  · have hie : i = E.length := by omega
    subst hie
    have e : accE E E.length = (E.map turn).foldl insE [] := by unfold accE; rw [List.take_length]
    rw [e]
    ((conv => whnf); repeat' ((first | refine odw ?_ | refine ify ?_ | refine ifn ?_ | refine i6 ?_ | refine ati ?_ | refine mst ?_ | refine rmd ?_ | refine ibo (fun _ => ?_) (fun _ => ?_)) <;> conv => whnf))
    exact rfl
end Go.Proofs.YthegabgbakckfaaGreatDoor
end

section
/- Line graphs: plain laws: degrees, vertices with edges. -/
namespace Go.Gr
theorem tch_sym (E : List Edg) (i j : Nat) : tch E i j = tch E j i := by
  unfold tch
  cases E[i]? with
  | none => cases E[j]? <;> rfl
  | some x =>
    cases E[j]? with
    | none => rfl
    | some y =>
      rw [Bool.eq_iff_iff]
      simp only [Bool.and_eq_true, Bool.or_eq_true, decide_eq_true_eq]
      constructor
      · rintro ⟨h, h2⟩; exact ⟨fun e => h e.symm, by omega⟩
      · rintro ⟨h, h2⟩; exact ⟨fun e => h e.symm, by omega⟩
theorem tch_self (E : List Edg) (i : Nat) : tch E i i = false := by
  unfold tch
  cases E[i]? <;> simp
def lnGr (G : Gr) : Gr := ⟨List.replicate G.edges.length 0, wantW G.edges G.edges.length⟩
theorem lnGr_ok {G : Gr} (h : G.Ok) (hm : G.edges.length ≤ 4096) (hp : (pairsOf G.edges G.labels.length).length ≤ 16384) : (lnGr G).Ok := by
  have := canon_ok (lines_newErr h hm hp)
  rwa [lines_canon h] at this
theorem near_ln {G : Gr} (h : (lnGr G).Ok) {i : Nat} (hi : i < G.edges.length) : (nearOf (lnGr G).edges i).length = ((List.range G.edges.length).filter (tch G.edges i)).length := by
  rw [near_doc h]
  unfold nearD
  rw [List.length_map]
  have e : (lnGr G).labels.length = G.edges.length := by simp [lnGr]
  rw [e]
  congr 1
  refine List.filter_congr fun u hu => ?_
  have hum := List.mem_range.1 hu
  rw [Bool.eq_iff_iff, decide_eq_true_eq]
  show turn ⟨(u : Int), (i : Int)⟩ ∈ wantW G.edges G.edges.length ↔ _
  rw [mem_wantW]
  rcases Nat.lt_trichotomy u i with hlt | heq | hgt
  · rw [turn_le (by simp only; omega)]
    constructor
    · rintro ⟨a, b, _, _, _, ht, he⟩
      simp only [Edg.mk.injEq, Int.natCast_inj] at he
      obtain ⟨rfl, rfl⟩ := he
      rw [tch_sym]; exact ht
    · intro ht
      exact ⟨u, i, hum, hi, hlt, by rw [tch_sym]; exact ht, rfl⟩
  · subst heq
    rw [tch_self]
    constructor
    · rintro ⟨a, b, _, _, hab, _, he⟩
      rw [turn_le (by simp only; omega)] at he
      simp only [Edg.mk.injEq, Int.natCast_inj] at he
      omega
    · intro h; cases h
  · rw [turn_sym, turn_le (by simp only; omega)]
    constructor
    · rintro ⟨a, b, _, _, _, ht, he⟩
      simp only [Edg.mk.injEq, Int.natCast_inj] at he
      obtain ⟨rfl, rfl⟩ := he
      exact ht
    · intro ht
      exact ⟨i, u, hi, hum, hgt, ht, rfl⟩
def has1 (v : Int) (e : Edg) : Bool := decide (e.a = v) || decide (e.b = v)
theorem has1_len (E : List Edg) (v : Nat) (h : ∀ e ∈ E, e.a ≠ e.b) : (E.filter (has1 v)).length = deg E v := by
  unfold deg nearOf lessOf moreOf
  rw [List.length_append, List.length_map, List.length_map]
  induction E with
  | nil => rfl
  | cons e E ih =>
    have := ih (fun x hx => h x (by simp [hx]))
    have hne := h e (by simp)
    simp only [List.filter_cons, has1] at this ⊢
    by_cases h1 : e.a = (v : Int) <;> by_cases h2 : e.b = (v : Int)
    · omega
    · simp only [h1, h2, decide_true, decide_false, Bool.true_or, Bool.or_false, if_true, if_false, List.length_cons, Bool.false_eq_true]; omega
    · simp only [h1, h2, decide_true, decide_false, Bool.or_true, Bool.or_false, if_true, if_false, List.length_cons, Bool.false_eq_true]; omega
    · simp only [h1, h2, decide_false, Bool.or_false, if_false, Bool.false_eq_true]; exact this
theorem tch_count {G : Gr} (h : G.Ok) {i : Nat} {a b : Nat} (hi : G.edges[i]? = some ⟨(a : Int), (b : Int)⟩) (k : Nat) (hk : k ≤ G.edges.length) :
    ((List.range k).filter (tch G.edges i)).length + (if i < k then 2 else 0) = ((G.edges.take k).filter (has1 a)).length + ((G.edges.take k).filter (has1 b)).length := by
  induction k with
  | zero => simp
  | succ k ih =>
    have hlt : k < G.edges.length := by omega
    have hy := List.getElem?_eq_getElem hlt
    generalize G.edges[k] = y at hy
    rw [List.range_succ, List.filter_append, List.length_append, take_snoc hy, List.filter_append, List.filter_append, List.length_append, List.length_append]
    have ih := ih (by omega)
    have hfa : ∀ v : Int, ([y].filter (has1 v)).length = if y.a = v ∨ y.b = v then 1 else 0 := fun v => by
      by_cases h1 : y.a = v <;> by_cases h2 : y.b = v <;> simp [has1, h1, h2]
    have hft : ([k].filter (tch G.edges i)).length = if tch G.edges i k = true then 1 else 0 := by
      cases ht : tch G.edges i k <;> simp [ht]
    rw [hfa, hfa, hft]
    by_cases hik : i = k
    · subst hik
      rw [hi] at hy
      cases hy
      rw [tch_self]
      simp only [Nat.lt_irrefl, if_false, true_or, or_true, if_true, Nat.lt_succ_self, Bool.false_eq_true] at ih ⊢
      omega
    · have ht : tch G.edges i k = true ↔ ((y.a = a ∨ y.b = a) ∨ (y.a = b ∨ y.b = b)) := by
        unfold tch
        rw [hi, hy]
        simp only [Bool.and_eq_true, Bool.or_eq_true, decide_eq_true_eq]
        constructor
        · rintro ⟨_, h2⟩; omega
        · intro h2; exact ⟨hik, by omega⟩
      have hnot : ¬ ((y.a = a ∨ y.b = a) ∧ (y.a = b ∨ y.b = b)) := by
        rintro ⟨h1, h2⟩
        have hab := h.edge _ (List.mem_of_getElem? hi)
        simp only at hab
        rcases Nat.lt_or_ge i k with hlt | hge
        · have := one_share h hi hy hlt (u := a) (v := b) (.inl rfl) h1 (.inr rfl) h2; omega
        · have := one_share h hy hi (by omega) (u := a) (v := b) h1 (.inl rfl) h2 (.inr rfl); omega
      have hlk : (if i < k + 1 then 2 else 0) = (if i < k then 2 else 0) := by
        by_cases h1 : i < k
        · rw [if_pos h1, if_pos (by omega)]
        · rw [if_neg h1, if_neg (by omega)]
      rw [hlk]
      by_cases q1 : y.a = a ∨ y.b = a
      · have q2 : ¬ (y.a = b ∨ y.b = b) := fun q => hnot ⟨q1, q⟩
        rw [if_pos (ht.2 (.inl q1)), if_pos q1, if_neg q2]; omega
      · by_cases q2 : y.a = b ∨ y.b = b
        · rw [if_pos (ht.2 (.inr q2)), if_neg q1, if_pos q2]; omega
        · rw [if_neg (fun hh => (ht.1 hh).elim q1 q2), if_neg q1, if_neg q2]; omega
theorem deg_ln {G : Gr} (h : G.Ok) (hl : (lnGr G).Ok) {i : Nat} {a b : Nat} (hi : G.edges[i]? = some ⟨(a : Int), (b : Int)⟩) : deg (lnGr G).edges i + 2 = deg G.edges a + deg G.edges b := by
  have hlt := (List.getElem?_eq_some_iff.1 hi).1
  have hne : ∀ e ∈ G.edges, e.a ≠ e.b := fun e he => by have := h.edge e he; omega
  have := tch_count h hi G.edges.length (Nat.le_refl _)
  rw [if_pos hlt, List.take_length, has1_len _ _ hne, has1_len _ _ hne, ← near_ln hl hlt] at this
  exact this
/-! ### vertices with edges -/
theorem mem_addN {out : List Int} {x y : Int} : y ∈ addN out x ↔ y ∈ out ∨ y = x := by
  unfold addN
  split
  · rename_i h
    constructor
    · exact .inl
    · rintro (h2 | rfl)
      · exact h2
      · exact h
  · simp
theorem addN_nodup {out : List Int} (h : out.Nodup) (x : Int) : (addN out x).Nodup := by
  unfold addN
  split
  · exact h
  · rename_i hx
    rw [List.nodup_append]
    exact ⟨h, by simp, fun a ha b hb e => by simp at hb; subst hb; subst e; exact hx ha⟩
theorem vertsOf_spec (l : List Edg) : (vertsOf l).Nodup ∧ ∀ x, x ∈ vertsOf l ↔ ∃ e ∈ l, x = e.a ∨ x = e.b := by
  suffices h : ∀ l : List Edg, (vertsOf l.reverse).Nodup ∧ ∀ x, x ∈ vertsOf l.reverse ↔ ∃ e ∈ l.reverse, x = e.a ∨ x = e.b by have := h l.reverse; rwa [List.reverse_reverse] at this
  intro l
  induction l with
  | nil => simp [vertsOf]
  | cons e l ih =>
    rw [List.reverse_cons, vertsOf_snoc]
    refine ⟨addN_nodup (addN_nodup ih.1 _) _, fun x => ?_⟩
    rw [mem_addN, mem_addN, ih.2]
    constructor
    · rintro ((⟨z, hz, h⟩ | h) | h)
      · exact ⟨z, by simp at hz ⊢; exact .inl hz, h⟩
      · exact ⟨e, by simp, .inl h⟩
      · exact ⟨e, by simp, .inr h⟩
    · rintro ⟨z, hz, h⟩
      rcases List.mem_append.1 hz with hz | hz
      · exact .inl (.inl ⟨z, hz, h⟩)
      · simp at hz; subst hz
        rcases h with h | h
        · exact .inl (.inr h)
        · exact .inr h
def withE (E : List Edg) (k : Nat) : Nat := ((List.range k).filter fun v => decide (0 < deg E v)).length
theorem withE_step (E : List Edg) (k : Nat) : withE E (k + 1) = withE E k + (if 0 < deg E k then 1 else 0) := by
  unfold withE
  rw [List.range_succ, List.filter_append, List.length_append]
  congr 1
  by_cases h : 0 < deg E k <;> simp [h]
theorem withE_le (E : List Edg) (k : Nat) : withE E k ≤ k := by
  unfold withE
  have := List.length_filter_le (fun v => decide (0 < deg E v)) (List.range k)
  rwa [List.length_range] at this
theorem deg_pos {E : List Edg} {v : Nat} : 0 < deg E v ↔ ∃ e ∈ E, (v : Int) = e.a ∨ (v : Int) = e.b := by
  unfold deg nearOf
  rw [List.length_append]
  constructor
  · intro h
    rcases Nat.eq_zero_or_pos (lessOf E v).length with h0 | h0
    · obtain ⟨x, hx⟩ := List.exists_mem_of_length_pos (show 0 < (moreOf E v).length by omega)
      exact ⟨_, mem_moreOf.1 hx, .inl rfl⟩
    · obtain ⟨x, hx⟩ := List.exists_mem_of_length_pos h0
      exact ⟨_, mem_lessOf.1 hx, .inr rfl⟩
  · rintro ⟨e, he, h | h⟩
    · have : e.b ∈ moreOf E v := mem_moreOf.2 (by rw [h]; exact he)
      have := List.length_pos_of_mem this; omega
    · have : e.a ∈ lessOf E v := mem_lessOf.2 (by rw [h]; exact he)
      have := List.length_pos_of_mem this; omega
theorem verts_all {G : Gr} (h : G.Ok) : (vertsOf G.edges).length = withE G.edges G.labels.length := by
  obtain ⟨h1, h2⟩ := vertsOf_spec G.edges
  have h3 : (((List.range G.labels.length).filter fun v => decide (0 < deg G.edges v)).map fun v : Nat => (v : Int)).Nodup := (range_rise _ _).imp fun h => by omega
  have hp : (vertsOf G.edges).Perm (((List.range G.labels.length).filter fun v => decide (0 < deg G.edges v)).map fun v : Nat => (v : Int)) := by
    refine (List.perm_ext_iff_of_nodup h1 h3).2 fun x => ?_
    rw [h2]
    simp only [List.mem_map, List.mem_filter, List.mem_range, decide_eq_true_eq]
    constructor
    · rintro ⟨e, he, hx⟩
      have hb := h.edge e he
      obtain ⟨m, rfl⟩ := Int.eq_ofNat_of_zero_le (show 0 ≤ x by omega)
      exact ⟨m, ⟨by omega, deg_pos.2 ⟨e, he, hx⟩⟩, rfl⟩
    · rintro ⟨m, ⟨_, hd⟩, rfl⟩
      exact deg_pos.1 hd
  rw [hp.length_eq, List.length_map]
  rfl
def upto (k : Nat) : List Int := (List.range k).map fun v : Nat => (v : Int)
theorem upto_succ (k : Nat) : upto (k + 1) = upto k ++ [(k : Int)] := by simp [upto, List.range_succ]
theorem upto_len (k : Nat) : (upto k).length = k := by simp [upto]
theorem mem_upto {k : Nat} {x : Int} : x ∈ upto k ↔ 0 ≤ x ∧ x < k := by
  simp only [upto, List.mem_map, List.mem_range]
  constructor
  · rintro ⟨v, h, rfl⟩; omega
  · rintro ⟨h1, h2⟩
    obtain ⟨m, rfl⟩ := Int.eq_ofNat_of_zero_le h1
    exact ⟨m, by omega, rfl⟩
theorem ends_upto (E : List Edg) {k : Nat} (hk : k ≤ E.length) : endsOf E (upto k) = E.take k := by
  induction k with
  | zero => rfl
  | succ k ih =>
    have hy := List.getElem?_eq_getElem (show k < E.length by omega)
    rw [upto_succ, endsOf_in hy, ih (by omega), ← take_snoc hy]
theorem span_all {G : Gr} (h : G.Ok) {k : Nat} (hk : k ≤ G.edges.length) : spanOf G.edges (upto G.labels.length) k = upto k := by
  induction k with
  | zero => rfl
  | succ k ih =>
    have hy := List.getElem?_eq_getElem (show k < G.edges.length by omega)
    have hb := h.edge _ (List.getElem_mem (show k < G.edges.length by omega))
    rw [spanOf_step hy, ih (by omega), upto_succ, if_pos]
    simp only [inB, Bool.and_eq_true, decide_eq_true_eq, mem_upto]
    omega
end Go.Gr
end

section
/- Line graphs: plain laws: which lists of edges are linked. -/
namespace Go.Proofs.YthegabgbakckfaaGreatDoor
open Go.Gr
theorem mem_endsOf {E : List Edg} {l : List Int} {e : Edg} : e ∈ endsOf E l ↔ ∃ m : Nat, (m : Int) ∈ l ∧ E[m]? = some e := by
  simp only [endsOf, List.mem_filterMap]
  constructor
  · rintro ⟨x, hx, h⟩
    split at h
    · rename_i hr
      obtain ⟨m, rfl⟩ := Int.eq_ofNat_of_zero_le hr.1
      exact ⟨m, hx, by simpa using h⟩
    · cases h
  · rintro ⟨m, hm, h⟩
    have := (List.getElem?_eq_some_iff.1 h).1
    exact ⟨m, hm, by rw [if_pos ⟨by omega, by omega⟩, Int.toNat_natCast]; exact h⟩
theorem turn_nat {u m : Nat} (h : u ≠ m) : (u < m ∧ turn ⟨(u : Int), (m : Int)⟩ = ⟨(u : Int), (m : Int)⟩) ∨ (m < u ∧ turn ⟨(u : Int), (m : Int)⟩ = ⟨(m : Int), (u : Int)⟩) := by
  rcases Nat.lt_or_gt_of_ne h with h | h
  · exact .inl ⟨h, by unfold turn; simp only [Edg.mk.injEq]; omega⟩
  · exact .inr ⟨h, by unfold turn; simp only [Edg.mk.injEq]; omega⟩
theorem turn_want {E : List Edg} {u m : Nat} (h : u ≠ m) (hu : u < E.length) (hm : m < E.length) : turn ⟨(u : Int), (m : Int)⟩ ∈ wantW E E.length ↔ tch E u m = true := by
  rw [mem_wantW]
  rcases turn_nat h with ⟨h1, h2⟩ | ⟨h1, h2⟩ <;> rw [h2]
  · constructor
    · rintro ⟨a, b, _, _, _, ht, e⟩
      simp only [Edg.mk.injEq] at e
      rw [show u = a by omega, show m = b by omega]; exact ht
    · exact fun ht => ⟨u, m, hu, hm, h1, ht, rfl⟩
  · constructor
    · rintro ⟨a, b, _, _, _, ht, e⟩
      simp only [Edg.mk.injEq] at e
      rw [show m = a by omega, show u = b by omega, tch_sym]; exact ht
    · exact fun ht => ⟨m, u, hm, hu, h1, by rw [tch_sym]; exact ht, rfl⟩
/-- a vertex of an edge stood ahead just if it touches one that did -/
theorem ahead_iff {G : Gr} {t : List Int} {m : Nat} {x : Edg} (hx : G.edges[m]? = some x) (hm : ¬ (m : Int) ∈ t) (ht : ∀ u ∈ t, 0 ≤ u ∧ u < G.edges.length) :
    (x.a ∈ vertsOf (endsOf G.edges t) ∨ x.b ∈ vertsOf (endsOf G.edges t)) ↔ t.any (besP (lnGr G).edges m) = true := by
  have hml := (List.getElem?_eq_some_iff.1 hx).1
  rw [(vertsOf_spec _).2, (vertsOf_spec _).2, List.any_eq_true]
  simp only [besP, decide_eq_true_eq]
  constructor
  · rintro (⟨e, he, h⟩ | ⟨e, he, h⟩)
    · obtain ⟨u, hu, hue⟩ := mem_endsOf.1 he
      have hne : u ≠ m := fun e => hm (e ▸ hu)
      refine ⟨u, hu, (turn_want hne (List.getElem?_eq_some_iff.1 hue).1 hml).2 ?_⟩
      simp only [tch, hue, hx, Bool.and_eq_true, Bool.or_eq_true, decide_eq_true_eq]
      exact ⟨hne, by omega⟩
    · obtain ⟨u, hu, hue⟩ := mem_endsOf.1 he
      have hne : u ≠ m := fun e => hm (e ▸ hu)
      refine ⟨u, hu, (turn_want hne (List.getElem?_eq_some_iff.1 hue).1 hml).2 ?_⟩
      simp only [tch, hue, hx, Bool.and_eq_true, Bool.or_eq_true, decide_eq_true_eq]
      exact ⟨hne, by omega⟩
  · rintro ⟨u, hu, h⟩
    obtain ⟨u, rfl⟩ := Int.eq_ofNat_of_zero_le (ht u hu).1
    have hul : u < G.edges.length := by have := (ht u hu).2; omega
    have hne : u ≠ m := fun e => hm (e ▸ hu)
    have h := (turn_want hne hul hml).1 h
    have hue := List.getElem?_eq_getElem hul
    generalize G.edges[u] = e at hue
    have he : e ∈ endsOf G.edges t := mem_endsOf.2 ⟨u, hu, hue⟩
    simp only [tch, hue, hx, Bool.and_eq_true, Bool.or_eq_true, decide_eq_true_eq] at h
    rcases h.2 with ((h | h) | h) | h
    · exact .inl ⟨e, he, .inl h.symm⟩
    · exact .inr ⟨e, he, .inl h.symm⟩
    · exact .inl ⟨e, he, .inr h.symm⟩
    · exact .inr ⟨e, he, .inr h.symm⟩
theorem addN_mem {out : List Int} {x : Int} (h : x ∈ out) : addN out x = out := by unfold addN; rw [if_pos h]
/-- the first i of a list -/
def linkN (G : Gr) (l : List Int) (k : Nat) : Bool := (List.range k).all fun i => match l[i]? with
  | some v => linkAt G l i v
  | none => true
theorem linkN_step {G : Gr} {l : List Int} {k : Nat} {v : Int} (h : l[k]? = some v) : linkN G l (k + 1) = (linkN G l k && linkAt G l k v) := by
  simp [linkN, List.range_succ, List.all_append, h]
theorem linkN_all (G : Gr) (l : List Int) : linkN G l l.length = linkedV G l := rfl
theorem linkN_bad {G : Gr} {l : List Int} {k : Nat} {v : Int} (h : l[k]? = some v) (h2 : linkAt G l k v = false) : linkedV G l = false := linkedV_no h h2
theorem linkN_pre {G : Gr} {l : List Int} (h : linkedV G l = true) {k : Nat} {v : Int} (hx : l[k]? = some v) : linkAt G l k v = true := by
  cases hh : linkAt G l k v with
  | true => rfl
  | false => rw [linkedV_no hx hh] at h; cases h
/-- the state behind i: all in range, none twice -/
def goodK (E : List Edg) (l : List Int) (k : Nat) : Prop := ∀ (i : Nat) (v : Int), i < k → l[i]? = some v → (0 ≤ v ∧ v < E.length) ∧ ¬ v ∈ l.take i
theorem good_range {E : List Edg} {l : List Int} {k : Nat} (h : goodK E l k) : ∀ u ∈ l.take k, 0 ≤ u ∧ u < E.length := by
  intro u hu
  obtain ⟨i, hi, rfl⟩ := List.mem_take_iff_getElem.1 hu
  exact (h i _ (by omega) (List.getElem?_eq_getElem (by omega))).1
theorem ln_has {G : Gr} {v : Int} : hasV (lnGr G) v = decide (0 ≤ v ∧ v < G.edges.length) := by simp [hasV, lnGr]
theorem linkAt_bad {G : Gr} {l : List Int} {i : Nat} {v : Int} (h : ¬ (0 ≤ v ∧ v < G.edges.length) ∨ v ∈ l.take i) : linkAt (lnGr G) l i v = false := by
  unfold linkAt
  rw [ln_has]
  rcases h with h | h <;> simp [h]
theorem linkAt_good {G : Gr} {l : List Int} {i m : Nat} {x : Edg} (hx : G.edges[m]? = some x) (hm : ¬ (m : Int) ∈ l.take i) (hg : goodK G.edges l i) :
    linkAt (lnGr G) l i m = (decide (i = 0) || (decide (x.a ∈ vertsOf (endsOf G.edges (l.take i))) || decide (x.b ∈ vertsOf (endsOf G.edges (l.take i))))) := by
  have hml := (List.getElem?_eq_some_iff.1 hx).1
  unfold linkAt
  rw [ln_has, decide_eq_true (show 0 ≤ (m : Int) ∧ (m : Int) < G.edges.length by omega), decide_eq_false hm]
  simp only [Bool.not_false, Bool.true_and]
  congr 1
  rw [Bool.eq_iff_iff, ← ahead_iff hx hm (good_range hg)]
  simp
theorem good_step {E : List Edg} {l : List Int} {k : Nat} {v : Int} (h : goodK E l k) (hx : l[k]? = some v) (h1 : 0 ≤ v ∧ v < E.length) (h2 : ¬ v ∈ l.take k) : goodK E l (k + 1) := by
  intro i u hi hu
  by_cases hik : i = k
  · subst hik; rw [hx] at hu; cases hu; exact ⟨h1, h2⟩
  · exact h i u (by omega) hu
theorem good_link {G : Gr} {l : List Int} (h : linkedV (lnGr G) l = true) (k : Nat) : goodK G.edges l k := by
  intro i v hi hx
  have := linkN_pre h hx
  unfold linkAt at this
  rw [ln_has] at this
  simp only [Bool.and_eq_true, decide_eq_true_eq, Bool.not_eq_true', decide_eq_false_iff_not] at this
  exact ⟨this.1, this.2.1⟩
/-- a linked list's vertices: at most one more than its edges -/
theorem verts_link {G : Gr} {l : List Int} (h : linkedV (lnGr G) l = true) : ∀ k : Nat, k ≤ l.length → (vertsOf (endsOf G.edges (l.take k))).length ≤ k + 1 := by
  intro k
  induction k with
  | zero => intro _; simp [endsOf, vertsOf]
  | succ k ih =>
    intro hk
    have ih := ih (by omega)
    have hx := List.getElem?_eq_getElem (l := l) (i := k) (by omega)
    generalize l[k]'(by omega) = v at hx
    obtain ⟨⟨h1, h2⟩, h3⟩ := good_link h (k + 1) k v (by omega) hx
    obtain ⟨m, rfl⟩ := Int.eq_ofNat_of_zero_le h1
    have hml : m < G.edges.length := by omega
    have he := List.getElem?_eq_getElem hml
    generalize G.edges[m] = x at he
    have hl := linkN_pre h hx
    rw [linkAt_good he h3 (good_link h k)] at hl
    rw [List.take_add_one, hx, Option.toList_some, endsOf_in he, vertsOf_snoc]
    have e1 := addN_len (addN (vertsOf (endsOf G.edges (l.take k))) x.a) x.b
    have e2 := addN_len (vertsOf (endsOf G.edges (l.take k))) x.a
    simp only [Bool.or_eq_true, decide_eq_true_eq] at hl
    rcases hl with hl | hl | hl
    · subst hl
      simp only [List.take_zero] at e1 e2 ⊢
      have : (vertsOf (endsOf G.edges [])).length = 0 := by simp [endsOf, vertsOf]
      omega
    · rw [addN_mem hl] at e1 ⊢; omega
    · rw [addN_mem (x := x.b) (mem_addN.2 (.inl hl))] at ⊢; omega
end Go.Proofs.YthegabgbakckfaaGreatDoor
end

section
/- LinesVerts: the walk. -/
namespace Go.Gr
theorem endsOf_append (E : List Edg) (a b : List Int) : endsOf E (a ++ b) = endsOf E a ++ endsOf E b := by simp [endsOf, List.filterMap_append]
theorem endsOf_at {E : List Edg} {l : List Int} {i m : Nat} {e : Edg} (h : l[i]? = some (m : Int)) (he : E[m]? = some e) : (endsOf E l)[(endsOf E (l.take i)).length]? = some e := by
  obtain ⟨hi, hx⟩ := List.getElem?_eq_some_iff.1 h
  have e1 : l = l.take i ++ ([(m : Int)] ++ l.drop (i + 1)) := by
    rw [← hx, List.singleton_append, ← List.drop_eq_getElem_cons hi, List.take_append_drop]
  have e2 : endsOf E l = endsOf E (l.take i) ++ ([e] ++ endsOf E (l.drop (i + 1))) := by
    conv => lhs; rw [e1]
    rw [endsOf_append, endsOf_append]
    have := endsOf_in (l := []) he
    simp only [List.nil_append] at this
    rw [this]; rfl
  rw [e2, List.getElem?_append_right (Nat.le_refl _), Nat.sub_self]
  rfl
end Go.Gr
namespace Go.Proofs.YthegabgbakckfaaGreatDoor
open Go.Sx Go.RowKit Go.Reg Go.Gr

set_option maxRecDepth 100000
def pl_rverts : List (Nat × Plan) := [(5, .leaf [0, 0, 0, 1, 0, 0, 0, 0, 0, 1, 0, 1, 0, 0, 0] [0, 1, 2, 3, 4, 5, 6, 7, 8, 10, 9, 11, 12, 13, 14] [0, 0, 3, 7, 15, 31, 63, 63, 255, 511, 63, 1087, 3135, 8191, 16383]),
  (6, .leaf [0, 1, 0, 0, 0, 1, 0, 1, 6, 3] [0, 2, 3, 4, 1, 5, 6, 7, 8, 9] [0, 1, 0, 0, 12, 28, 63, 127, 0, 511])]
def G_rverts : List FuncId := []
theorem cok_rverts : codeOk Tryz.prog G_rverts pl_rverts (Tryz.f36.body.getD .skip) = true := by kernel_rfl
theorem run_rverts (vs : Array Value) (w : World) : (callFunc 36 vs).run C1.P w = .ok (.enter 36 vs) w := by kernel_rfl
theorem rverts_pure (labels : List Int) (S : List Edg) (l : List Int) (hb : l.length ≤ 2147483000) : Pure C1 36 [dM labels S, dIs l] (fun y => y = dIs (vertsOf (endsOf S l))) := by
  have hl : (l.map dI).length = l.length := List.length_map _
  have hS : (S.map dE).length = S.length := List.length_map _
  refine pure_of c1_ok (pl := pl_rverts) (G := G_rverts) Tryz.func36 rfl Tryz.ntmps36 run_rverts cok_rverts (by simp) ?_
  ((conv => whnf); repeat' ((first | refine odw ?_ | refine ify ?_ | refine ifn ?_ | refine i6 ?_ | refine ati ?_ | refine mst ?_ | refine rmd ?_ | refine ibo (fun _ => ?_) (fun _ => ?_)) <;> conv => whnf))
  refine loop_lo (ι := Nat) (fun i => i ≤ l.length) (fun i => [(6, .d (.int .i64 i)), (5, .own 300), (2, .own 2), (1, .d (dIs l))]) (fun i => [(2, .cells 28 [.d (dIs labels), .d (dEs S)]), (300, .slice 3 1 ((vertsOf (endsOf S (l.take i))).map dI))]) (fun i => l.length - i) 0 (fun _ => rfl) (Nat.zero_le _)
    (.own 5 300 3 1 rfl rfl (.refl _ _)) ⟨rfl, rfl, rfl, rfl, trivial⟩ ⟨rfl, rfl, trivial⟩ ?_
  intro i hi
  refine sxCode_sound c1_ok (G := G_rverts) (pl := pl_rverts) _ _ _ _ (by kernel_rfl) ?_
  by_cases hlt : i < l.length
  · have hx := List.getElem?_eq_getElem hlt
    generalize l[i] = x at hx
    have hxd : (l.map dI)[i]? = some (.int .i64 x) := by rw [List.getElem?_map, hx]; rfl
    have htk : l.take (i + 1) = l.take i ++ [x] := by rw [List.take_add_one, hx]; rfl
    have hel := endsOf_len S (l.take i)
    have hvl := vertsOf_len (endsOf S (l.take i))
    rw [List.length_take] at hel
    by_cases h : 0 ≤ x ∧ x < S.length
    · obtain ⟨m, rfl⟩ := Int.eq_ofNat_of_zero_le h.1
      have hy := List.getElem?_eq_getElem (show m < S.length by omega)
      have hen := endsOf_in (l := l.take i) hy
      rw [← htk] at hen
      generalize S[m] = z at hy hen
      obtain ⟨za, zb⟩ := z
      have hyd : (S.map dE)[m]? = some (.agg [.int .i64 za, .int .i64 zb]) := by rw [List.getElem?_map, hy]; rfl
      have hst : vertsOf (endsOf S (l.take (i + 1))) = addN (addN (vertsOf (endsOf S (l.take i))) za) zb := by rw [hen, vertsOf_snoc]
      generalize vertsOf (endsOf S (l.take i)) = out at hst hvl ⊢
      have hl1 := addN_len out za
      (conv => whnf)
      (repeat' ((first | refine ord_ok (by (conv => whnf); (repeat' ((first | refine at_da hxd rfl ?_ | refine at_da hyd rfl ?_ | refine call_eqb tab rfl (has06_pure out za) rfl ?_ | refine ify ?_ | refine ifn ?_ | refine i6 ?_ | refine ati ?_ | refine mst ?_ | refine rmd ?_ | refine ibo (fun _ => ?_) (fun _ => ?_)) <;> conv => whnf)); (all_goals (repeat' (first | exact trivial | exact rfl | refine And.intro ?_ ?_)))) ?_ | refine at_da hxd rfl ?_ | refine at_da hyd rfl ?_ | refine call_eqb tab rfl (has06_pure out za) rfl ?_ | refine ify ?_ | refine ifn ?_ | refine i6 ?_ | refine ati ?_ | refine mst ?_ | refine rmd ?_ | refine ibo (fun _ => ?_) (fun _ => ?_)) <;> conv => whnf))
      have tail : ∀ o : List Int, addN out za = o → True := fun _ _ => trivial
      by_cases i1 : za ∈ out
      · have e1 : addN out za = out := by unfold addN; rw [if_pos i1]
        rw [e1] at hst
        rw [decide_eq_true i1]
        (conv => whnf)
        (repeat' ((first | refine ord_ok (by (conv => whnf); (repeat' ((first | refine call_eqb tab rfl (has06_pure out zb) rfl ?_ | refine ify ?_ | refine ifn ?_ | refine i6 ?_ | refine ati ?_ | refine mst ?_ | refine rmd ?_ | refine ibo (fun _ => ?_) (fun _ => ?_)) <;> conv => whnf)); (all_goals (repeat' (first | exact trivial | exact rfl | refine And.intro ?_ ?_)))) ?_ | refine call_eqb tab rfl (has06_pure out zb) rfl ?_ | refine ify ?_ | refine ifn ?_ | refine i6 ?_ | refine ati ?_ | refine mst ?_ | refine rmd ?_ | refine ibo (fun _ => ?_) (fun _ => ?_)) <;> conv => whnf))
        by_cases i2 : zb ∈ out
        · have hr2 : out.map dI = (vertsOf (endsOf S (l.take (i + 1)))).map dI := by rw [hst]; unfold addN; rw [if_pos i2]
          rw [decide_eq_true i2]
          ((conv => whnf); repeat' ((first | refine odw ?_ | refine ify ?_ | refine ifn ?_ | refine i6 ?_ | refine ati ?_ | refine mst ?_ | refine rmd ?_ | refine ibo (fun _ => ?_) (fun _ => ?_)) <;> conv => whnf))
          exact ⟨i + 1, _, _, hlt, .refl _ _, ⟨rfl, rfl, rfl, rfl, trivial⟩, ⟨rfl, slice_is hr2, trivial⟩, by omega⟩
        · have hr2 : out.map dI ++ [.int .i64 zb] = (vertsOf (endsOf S (l.take (i + 1)))).map dI := by rw [hst]; unfold addN; rw [if_neg i2, List.map_append]; rfl
          rw [decide_eq_false i2]
          ((conv => whnf); repeat' ((first | refine odw ?_ | refine ify ?_ | refine ifn ?_ | refine i6 ?_ | refine ati ?_ | refine mst ?_ | refine rmd ?_ | refine ibo (fun _ => ?_) (fun _ => ?_)) <;> conv => whnf))
          exact ⟨i + 1, _, _, hlt, .refl _ _, ⟨rfl, rfl, rfl, rfl, trivial⟩, ⟨rfl, slice_is hr2, trivial⟩, by omega⟩
      · have e1 : addN out za = out ++ [za] := by unfold addN; rw [if_neg i1]
        have e1d : out.map dI ++ [.int .i64 za] = (out ++ [za]).map dI := by rw [List.map_append]; rfl
        rw [e1] at hst
        rw [decide_eq_false i1]
        ((conv => whnf); repeat' ((first | refine odw ?_ | refine ify ?_ | refine ifn ?_ | refine i6 ?_ | refine ati ?_ | refine mst ?_ | refine rmd ?_ | refine ibo (fun _ => ?_) (fun _ => ?_)) <;> conv => whnf))
        rw [e1d]
        have hol : (out ++ [za]).length = out.length + 1 := by simp
        generalize out ++ [za] = o at *
        refine call_eqb tab rfl (has06_pure o zb) rfl ?_
        by_cases i2 : zb ∈ o
        · have hr2 : o.map dI = (vertsOf (endsOf S (l.take (i + 1)))).map dI := by rw [hst]; unfold addN; rw [if_pos i2]
          rw [decide_eq_true i2]
          ((conv => whnf); repeat' ((first | refine odw ?_ | refine ify ?_ | refine ifn ?_ | refine i6 ?_ | refine ati ?_ | refine mst ?_ | refine rmd ?_ | refine ibo (fun _ => ?_) (fun _ => ?_)) <;> conv => whnf))
          exact ⟨i + 1, _, _, hlt, .refl _ _, ⟨rfl, rfl, rfl, rfl, trivial⟩, ⟨rfl, slice_is hr2, trivial⟩, by omega⟩
        · have hr2 : o.map dI ++ [.int .i64 zb] = (vertsOf (endsOf S (l.take (i + 1)))).map dI := by rw [hst]; unfold addN; rw [if_neg i2, List.map_append]; rfl
          rw [decide_eq_false i2]
          ((conv => whnf); repeat' ((first | refine odw ?_ | refine ify ?_ | refine ifn ?_ | refine i6 ?_ | refine ati ?_ | refine mst ?_ | refine rmd ?_ | refine ibo (fun _ => ?_) (fun _ => ?_)) <;> conv => whnf))
          exact ⟨i + 1, _, _, hlt, .refl _ _, ⟨rfl, rfl, rfl, rfl, trivial⟩, ⟨rfl, slice_is hr2, trivial⟩, by omega⟩
    · have hr2 : (vertsOf (endsOf S (l.take i))).map dI = (vertsOf (endsOf S (l.take (i + 1)))).map dI := by rw [htk, endsOf_out h]
      by_cases hx0 : x < 0
      · (conv => whnf)
        (repeat' ((first | refine ord_ok (by (conv => whnf); (repeat' ((first | refine at_da hxd rfl ?_ | refine ify ?_ | refine ifn ?_ | refine i6 ?_ | refine ati ?_ | refine mst ?_ | refine rmd ?_ | refine ibo (fun _ => ?_) (fun _ => ?_)) <;> conv => whnf)); (all_goals (repeat' (first | exact trivial | exact rfl | refine And.intro ?_ ?_)))) ?_ | refine at_da hxd rfl ?_ | refine ify ?_ | refine ifn ?_ | refine i6 ?_ | refine ati ?_ | refine mst ?_ | refine rmd ?_ | refine ibo (fun _ => ?_) (fun _ => ?_)) <;> conv => whnf))
        exact ⟨i + 1, _, _, hlt, .refl _ _, ⟨rfl, rfl, rfl, rfl, trivial⟩, ⟨rfl, slice_is hr2, trivial⟩, by omega⟩
      · (conv => whnf)
        (repeat' ((first | refine ord_ok (by (conv => whnf); (repeat' ((first | refine at_da hxd rfl ?_ | refine ify ?_ | refine ifn ?_ | refine i6 ?_ | refine ati ?_ | refine mst ?_ | refine rmd ?_ | refine ibo (fun _ => ?_) (fun _ => ?_)) <;> conv => whnf)); (all_goals (repeat' (first | exact trivial | exact rfl | refine And.intro ?_ ?_)))) ?_ | refine at_da hxd rfl ?_ | refine ify ?_ | refine ifn ?_ | refine i6 ?_ | refine ati ?_ | refine mst ?_ | refine rmd ?_ | refine ibo (fun _ => ?_) (fun _ => ?_)) <;> conv => whnf))
        exact ⟨i + 1, _, _, hlt, .refl _ _, ⟨rfl, rfl, rfl, rfl, trivial⟩, ⟨rfl, slice_is hr2, trivial⟩, by omega⟩
  · have hii : l.take i = l := List.take_of_length_le (by omega)
    rw [hii]
    ((conv => whnf); repeat' ((first | refine odw ?_ | refine ify ?_ | refine ifn ?_ | refine i6 ?_ | refine ati ?_ | refine mst ?_ | refine rmd ?_ | refine ibo (fun _ => ?_) (fun _ => ?_)) <;> conv => whnf))
    exact rfl
theorem same_yes (l : List Int) : Pure C1 19 [dIs l, dIs l] (fun y => y = .bool true) := by
  have := same_pure l l
  rwa [decide_eq_true rfl] at this
end Go.Proofs.YthegabgbakckfaaGreatDoor
end

section
/- Patterns of lists, plain: what Make makes of a list's edges is what the document says. -/
namespace Go.Gr
theorem rowF_strict (f : Nat → Nat → Bool) (a b : Nat) : Strict (rowF f a b) := by
  unfold Strict rowF
  rw [List.pairwise_map]
  refine List.Pairwise.imp ?_ (List.Pairwise.filter _ List.pairwise_lt_range)
  intro x y h
  rw [cmpE_lt]
  exact .inr ⟨rfl, by show (x : Int) < y; omega⟩
theorem rowsF_strict (f : Nat → Nat → Bool) (n a : Nat) : Strict (rowsF f n a) := by
  unfold rowsF Strict
  rw [List.pairwise_flatMap]
  refine ⟨fun j _ => rowF_strict f j n, List.Pairwise.imp ?_ List.pairwise_lt_range⟩
  intro i j hij x hx y hy
  simp only [rowF, List.mem_map] at hx hy
  obtain ⟨_, _, rfl⟩ := hx
  obtain ⟨_, _, rfl⟩ := hy
  rw [cmpE_lt]
  exact .inl (by show (i : Int) < j; omega)
theorem mem_colsF {f : Nat → Nat → Bool} {n : Nat} {e : Edg} : e ∈ colsF f n ↔ ∃ k i : Nat, i < n ∧ k < i ∧ f k i = true ∧ e = ⟨(k : Int), (i : Int)⟩ := by
  simp only [colsF, colF, List.mem_flatMap, List.mem_range, List.mem_map, List.mem_filter]
  constructor
  · rintro ⟨i, hi, k, ⟨h1, h2⟩, rfl⟩; exact ⟨k, i, hi, h1, h2, rfl⟩
  · rintro ⟨k, i, hi, h1, h2, rfl⟩; exact ⟨i, hi, k, ⟨h1, h2⟩, rfl⟩
theorem colsF_nodup (f : Nat → Nat → Bool) (n : Nat) : (colsF f n).Nodup := by
  unfold colsF List.Nodup
  rw [List.pairwise_flatMap]
  refine ⟨fun i _ => ?_, List.Pairwise.imp ?_ List.pairwise_lt_range⟩
  · unfold colF
    rw [List.pairwise_map]
    refine List.Pairwise.imp ?_ (List.Pairwise.filter _ List.pairwise_lt_range)
    intro x y h e
    have : (x : Int) = y := congrArg Edg.a e
    omega
  · intro i j hij x hx y hy e
    simp only [colF, List.mem_map] at hx hy
    obtain ⟨a, _, rfl⟩ := hx
    obtain ⟨b, _, rfl⟩ := hy
    have : (i : Int) = j := congrArg Edg.b e
    omega
/-- made of edges: a list that rises, of those edges -/
theorem made_is {L R : List Edg} (hn : (L.map turn).Nodup) (hR : Strict R) (h : ∀ x, x ∈ L.map turn ↔ x ∈ R) : (L.map turn).foldl insE [] = R := by
  obtain ⟨h1, h2⟩ := fold_ins _ hn [] List.Pairwise.nil (by simp)
  refine strict_mem_eq h1 hR fun x => ?_
  rw [h2.mem_iff, List.append_nil]
  exact h x
theorem colsF_turn (f : Nat → Nat → Bool) (n : Nat) : (colsF f n).map turn = colsF f n := by
  have : ∀ e ∈ colsF f n, turn e = id e := fun e he => by
    obtain ⟨k, i, _, h, _, rfl⟩ := mem_colsF.1 he
    exact turn_lt (show (k : Int) ≤ i by omega)
  rw [List.map_congr_left this, List.map_id]
theorem turn_or (x y : Int) : turn ⟨x, y⟩ = ⟨x, y⟩ ∨ turn ⟨x, y⟩ = ⟨y, x⟩ := by
  unfold turn; simp only [Edg.mk.injEq]; omega
theorem made_cols {E : List Edg} (hE : ∀ e ∈ E, e.a < e.b) (l : List Int) : ((colsF (adjF E l) l.length).map turn).foldl insE [] = madeE E l := by
  refine made_is (by rw [colsF_turn]; exact colsF_nodup _ _) (rowsF_strict _ _ _) fun x => ?_
  rw [colsF_turn, mem_colsF]
  unfold madeE
  rw [mem_rowsF]
  constructor
  · rintro ⟨k, i, h1, h2, h3, rfl⟩
    exact ⟨k, i, by omega, h1, h2, by unfold pairF; rw [hasR_turn hE]; exact h3, rfl⟩
  · rintro ⟨j, x, h0, h1, h2, h3, rfl⟩
    unfold pairF at h3
    rw [hasR_turn hE] at h3
    exact ⟨j, x, h1, h2, h3, rfl⟩
/-- where a list's element stands -/
theorem idx_of {l : List Int} {x : Int} (h : x ∈ l) : ∃ i : Nat, i < l.length ∧ l[i]? = some x ∧ idxI l x = i := by
  have hs : (l.findIdx? fun y => decide (x = y)).isSome = true := by
    rw [List.findIdx?_isSome, List.any_eq_true]; exact ⟨x, h, by simp⟩
  obtain ⟨i, hi⟩ := Option.isSome_iff_exists.1 hs
  have hi' := hi
  rw [List.findIdx?_eq_some_iff_getElem] at hi'
  obtain ⟨h1, h2, _⟩ := hi'
  have h2 : x = l[i] := by simpa using h2
  exact ⟨i, h1, by rw [List.getElem?_eq_getElem h1, ← h2], by unfold idxI; rw [hi]⟩
theorem idx_nat {l : List Int} (hn : l.Nodup) {i : Nat} {x : Int} (h : l[i]? = some x) : idxI l x = i := by
  obtain ⟨j, hj, h2, h3⟩ := idx_of (List.mem_of_getElem? h)
  rw [h3]
  have := (List.getElem?_inj hj hn).1 (h2.trans h.symm)
  omega
/-- edges by the places of their vertices -/
def atE (v : List Int) (e : Edg) : Edg := ⟨idxI v e.a, idxI v e.b⟩
theorem atE_in {v : List Int} (hn : v.Nodup) {e : Edg} (h : e.a < e.b) (ha : e.a ∈ v) (hb : e.b ∈ v) : ∃ i j : Nat, i < v.length ∧ j < v.length ∧ v[i]? = some e.a ∧ v[j]? = some e.b ∧ i ≠ j ∧ atE v e = ⟨(i : Int), (j : Int)⟩ := by
  obtain ⟨i, h1, h2, h3⟩ := idx_of ha
  obtain ⟨j, h4, h5, h6⟩ := idx_of hb
  refine ⟨i, j, h1, h4, h2, h5, fun e' => ?_, by unfold atE; rw [h3, h6]⟩
  subst e'
  rw [h2] at h5
  have := Option.some.inj h5
  omega
theorem made_ats {E : List Edg} (hE : ∀ e ∈ E, e.a < e.b) (hn : E.Nodup) (v : List Int) (hv : v.Nodup) (hin : ∀ e ∈ E, e.a ∈ v ∧ e.b ∈ v) :
    (((E.map (atE v)).map turn).Nodup) ∧ ((E.map (atE v)).map turn).foldl insE [] = madeE E v := by
  have hnd : ((E.map (atE v)).map turn).Nodup := by
    rw [List.map_map]
    refine List.pairwise_map.2 (List.Pairwise.imp_of_mem ?_ hn)
    intro x y hx hy hxy h
    refine hxy ?_
    simp only [Function.comp] at h
    obtain ⟨i, j, h1, h2, h3, h4, h5, h6⟩ := atE_in hv (hE x hx) (hin x hx).1 (hin x hx).2
    obtain ⟨i2, j2, k1, k2, k3, k4, k5, k6⟩ := atE_in hv (hE y hy) (hin y hy).1 (hin y hy).2
    rw [h6, k6] at h
    have hxl := hE x hx
    have hyl := hE y hy
    have hcase : (i = i2 ∧ j = j2) ∨ (i = j2 ∧ j = i2) := by
      unfold turn at h; simp only [Edg.mk.injEq] at h; omega
    rcases hcase with ⟨rfl, rfl⟩ | ⟨rfl, rfl⟩
    · rw [h3] at k3; rw [h4] at k4
      have e1 := Option.some.inj k3; have e2 := Option.some.inj k4
      cases x; cases y; simp_all
    · rw [h3] at k4; rw [h4] at k3
      have e1 := Option.some.inj k3; have e2 := Option.some.inj k4
      omega
  refine ⟨hnd, made_is hnd (rowsF_strict _ _ _) fun x => ?_⟩
  unfold madeE
  rw [mem_rowsF]
  simp only [List.map_map, List.mem_map, Function.comp]
  constructor
  · rintro ⟨e, he, rfl⟩
    obtain ⟨i, j, h1, h2, h3, h4, h5, h6⟩ := atE_in hv (hE e he) (hin e he).1 (hin e he).2
    have ht : turn e = e := turn_lt (Int.le_of_lt (hE e he))
    rw [h6]
    rcases Go.Proofs.YthegabgbakckfaaGreatDoor.turn_nat h5 with ⟨h7, h8⟩ | ⟨h7, h8⟩ <;> rw [h8]
    · refine ⟨i, j, h1, h2, h7, ?_, rfl⟩
      unfold pairF; rw [hasR_turn hE, h3, h4]
      simp only [Option.getD_some, decide_eq_true_eq]
      rw [show (⟨e.a, e.b⟩ : Edg) = e from rfl, ht]; exact he
    · refine ⟨j, i, h2, h1, h7, ?_, rfl⟩
      unfold pairF; rw [hasR_turn hE, h3, h4]
      simp only [Option.getD_some, decide_eq_true_eq]
      rw [turn_sym, show (⟨e.a, e.b⟩ : Edg) = e from rfl, ht]; exact he
  · rintro ⟨j, x, h0, h1, h2, h3, rfl⟩
    unfold pairF at h3
    rw [hasR_turn hE, decide_eq_true_eq] at h3
    have hj := List.getElem?_eq_getElem h0
    have hx := List.getElem?_eq_getElem h1
    refine ⟨_, h3, ?_⟩
    have g1 := idx_nat hv hj
    have g2 := idx_nat hv hx
    rw [hj, hx] at h3 ⊢
    simp only [Option.getD_some] at h3 ⊢
    rcases turn_or v[j] v[x] with e | e <;> rw [e] <;> unfold atE <;> simp only [g1, g2]
    · exact turn_lt (show (j : Int) ≤ x by omega)
    · rw [turn_sym]; exact turn_lt (show (j : Int) ≤ x by omega)
end Go.Gr
end

section
/- quick: linked; law08.Same; ref12.Alone; quick.Vert. -/
namespace Go.Proofs.YthegabgbakckfaaGreatDoor
open Go.Sx Go.RowKit Go.Reg Go.Gr

set_option maxRecDepth 100000
theorem touch_bes {G : Gr} {u m : Nat} (hu : u < G.edges.length) (hm : m < G.edges.length) (h : u ≠ m) : touchV G.edges u m = besP (lnGr G).edges m u := by
  rw [touchV_nat]
  unfold besP lnGr
  rw [Bool.eq_iff_iff, decide_eq_true_eq]
  exact (turn_want h hu hm).symm
theorem any_touch {G : Gr} {t : List Int} {m : Nat} (hm : m < G.edges.length) (hn : ¬ (m : Int) ∈ t) (ht : ∀ u ∈ t, 0 ≤ u ∧ u < G.edges.length) : t.any (fun u => touchV G.edges u m) = t.any (besP (lnGr G).edges m) := by
  rw [Bool.eq_iff_iff, List.any_eq_true, List.any_eq_true]
  have key : ∀ u ∈ t, touchV G.edges u m = besP (lnGr G).edges m u := fun u hu => by
    obtain ⟨h1, h2⟩ := ht u hu
    obtain ⟨k, rfl⟩ := Int.eq_ofNat_of_zero_le h1
    exact touch_bes (by omega) hm (fun e => hn (by subst e; exact hu))
  constructor
  · rintro ⟨u, hu, h⟩; exact ⟨u, hu, by rw [← key u hu]; exact h⟩
  · rintro ⟨u, hu, h⟩; exact ⟨u, hu, by rw [key u hu]; exact h⟩
def pl_qscf : List (Nat × Plan) := []
def G_qscf : List FuncId := [114]
theorem cok_qscf : codeOk Tryz.prog G_qscf pl_qscf (Tryz.f111.body.getD .skip) = true := by kernel_rfl
theorem run_qscf (vs : Array Value) (w : World) : (callFunc 111 vs).run C1.P w = .ok (.enter 111 vs) w := by kernel_rfl
theorem qcontainsF_pure (l : List Int) (g : FuncId) (cs : List Da) (p : Int → Bool) (hp : ∀ x ∈ l, Pure C1 g (.int .i64 x :: cs) (fun y => y = .bool (p x))) : Pure C1 111 [dIs l, .func (.func g) [] cs] (fun y => y = .bool (l.any p)) := by
  refine pure_of c1_ok (pl := pl_qscf) (G := G_qscf) Tryz.func111 rfl Tryz.ntmps111 run_qscf cok_qscf (by simp) ?_
  (conv => whnf)
  (repeat' ((first | refine ord_ok (by (conv => whnf); (repeat' ((first | refine call_eq rfl (indexF_pure l g cs p hp) ?_ | refine ify ?_ | refine ifn ?_ | refine i6 ?_ | refine ati ?_ | refine mst ?_ | refine rmd ?_ | refine ibo (fun _ => ?_) (fun _ => ?_)) <;> conv => whnf)); (all_goals (repeat' (first | exact trivial | exact rfl | refine And.intro ?_ ?_)))) ?_ | refine call_eq rfl (indexF_pure l g cs p hp) ?_ | refine ify ?_ | refine ifn ?_ | refine i6 ?_ | refine ati ?_ | refine mst ?_ | refine rmd ?_ | refine ibo (fun _ => ?_) (fun _ => ?_)) <;> conv => whnf))
  show Da.plain _ = _
  have := idxF_nn l p
  cases h : l.any p <;> simp [Da.plain, this, h]
def pl_qlk1 : List (Nat × Plan) := []
def G_qlk1 : List FuncId := [144]
theorem cok_qlk1 : codeOk Tryz.prog G_qlk1 pl_qlk1 (Tryz.f143.body.getD .skip) = true := by kernel_rfl
theorem run_qlk1 (vs : Array Value) (w : World) : (callFunc 143 vs).run C1.P w = .ok (.enter 143 vs) w := by kernel_rfl
theorem qlk1_pure (G : Gr) (id u : Int) : Pure C1 143 [.int .i64 u, .ref (dG G), .ref (.int .i64 id)] (fun y => y = .bool (touchV G.edges u id)) := by
  refine pure_of c1_ok (pl := pl_qlk1) (G := G_qlk1) Tryz.func143 rfl Tryz.ntmps143 run_qlk1 cok_qlk1 (by simp) ?_
  (conv => whnf)
  (repeat' ((first | refine ord_ok (by (conv => whnf); (repeat' ((first | refine call_eq rfl (touch_pure G u id) ?_ | refine ify ?_ | refine ifn ?_ | refine i6 ?_ | refine ati ?_ | refine mst ?_ | refine rmd ?_ | refine ibo (fun _ => ?_) (fun _ => ?_)) <;> conv => whnf)); (all_goals (repeat' (first | exact trivial | exact rfl | refine And.intro ?_ ?_)))) ?_ | refine call_eq rfl (touch_pure G u id) ?_ | refine ify ?_ | refine ifn ?_ | refine i6 ?_ | refine ati ?_ | refine mst ?_ | refine rmd ?_ | refine ibo (fun _ => ?_) (fun _ => ?_)) <;> conv => whnf))
  exact rfl
def pl_qlk : List (Nat × Plan) := [(5, .leaf [0, 0, 0, 0, 0, 0, 1, 2, 0] [0, 1, 2, 3, 4, 5, 6, 7, 8] [0, 1, 3, 7, 7, 31, 7, 127, 255])]
def G_qlk : List FuncId := [142, 137, 111]
theorem cok_qlk : codeOk Tryz.prog G_qlk pl_qlk (Tryz.f90.body.getD .skip) = true := by kernel_rfl
theorem run_qlk (vs : Array Value) (w : World) : (callFunc 90 vs).run C1.P w = .ok (.enter 90 vs) w := by kernel_rfl
set_option maxHeartbeats 4000000 in
theorem qlinked_pure (G : Gr) (l : List Int) : Pure C1 90 [dG G, dIs l] (fun y => y = .bool (linkedV (lnGr G) l)) := by
  refine Pure.assume (fun O w us hr => by obtain ⟨v, vs, rfl, h1, h2⟩ := reps_inv hr; obtain ⟨v2, vs2, rfl, h3, _⟩ := reps_inv h2; exact ints_len h3) fun hm => ?_
  have hl : (l.map dI).length = l.length := List.length_map _
  refine pure_of c1_ok (pl := pl_qlk) (G := G_qlk) Tryz.func90 rfl Tryz.ntmps90 run_qlk cok_qlk (by simp) ?_
  ((conv => whnf); repeat' ((first | refine odw ?_ | refine ify ?_ | refine ifn ?_ | refine i6 ?_ | refine ati ?_ | refine mst ?_ | refine rmd ?_ | refine ibo (fun _ => ?_) (fun _ => ?_)) <;> conv => whnf))
  refine loop_lo (ι := Nat) (fun i => i ≤ l.length ∧ ∀ (j : Nat) (v : Int), j < i → l[j]? = some v → linkAt (lnGr G) l j v = true) (fun i => [(11, .d (.int .i64 i)), (10, .d (.int .i64 (l.map dI).length)), (9, .d (dIs l)), (2, .own 2), (1, .d (dIs l))]) (fun _ => [(2, .cells 27 [.d (dG G)])]) (fun i => l.length - i) 0 (fun _ => rfl) ⟨Nat.zero_le _, by intro j v h; omega⟩ (.refl _ _) ⟨rfl, rfl, rfl, rfl, rfl, trivial⟩ ⟨rfl, trivial⟩ ?_
  rintro i ⟨hi, hne⟩
  refine sxCode_sound c1_ok (G := G_qlk) (pl := pl_qlk) _ _ _ _ (by kernel_rfl) ?_
  by_cases hlt : i < l.length
  · have hx := List.getElem?_eq_getElem hlt
    generalize l[i] = y at hx
    have hxd : (l.map dI)[i]? = some (.int .i64 y) := by rw [List.getElem?_map, hx]; rfl
    have h1 := edge_pure G y
    have h2 := contains_pure (l.take i) y
    rw [dIs_take] at h2
    have hi2 : i ≤ (l.map dI).length := by omega
    by_cases hv : 0 ≤ y ∧ y < G.edges.length
    · obtain ⟨m, rfl⟩ := Int.eq_ofNat_of_zero_le hv.1
      have hml : m < G.edges.length := by omega
      have he := List.getElem?_eq_getElem hml
      generalize G.edges[m] = x at he
      have ey : edgeY G.edges m = .tuple [dE x, .bool true] := by unfold edgeY; rw [if_pos hv, Int.toNat_natCast, he]; rfl
      rw [ey] at h1
      have hhv : hasV (lnGr G) m = true := by rw [ln_has, decide_eq_true hv]
      by_cases hc : (m : Int) ∈ l.take i
      · rw [decide_eq_true hc] at h2
        rw [linkedV_no hx (linkAt_bad (.inr hc))]
        (conv => whnf)
        (repeat' ((first | refine ord_ok (by (conv => whnf); (repeat' ((first | refine at_da hxd rfl ?_ | refine call_eqb tab rfl h1 rfl ?_ | refine hi_is rfl hi2 ?_ | refine call_eqb tab rfl h2 rfl ?_ | refine ify ?_ | refine ifn ?_ | refine i6 ?_ | refine ati ?_ | refine mst ?_ | refine rmd ?_ | refine ibo (fun _ => ?_) (fun _ => ?_)) <;> conv => whnf)); (all_goals (repeat' (first | exact trivial | exact rfl | refine And.intro ?_ ?_)))) ?_ | refine at_da hxd rfl ?_ | refine call_eqb tab rfl h1 rfl ?_ | refine hi_is rfl hi2 ?_ | refine call_eqb tab rfl h2 rfl ?_ | refine ify ?_ | refine ifn ?_ | refine i6 ?_ | refine ati ?_ | refine mst ?_ | refine rmd ?_ | refine ibo (fun _ => ?_) (fun _ => ?_)) <;> conv => whnf))
        exact rfl
      · rw [decide_eq_false hc] at h2
        by_cases h0 : i = 0
        · have hyes : linkAt (lnGr G) l i m = true := by simp [linkAt, hhv, h0]
          (conv => whnf)
          (repeat' ((first | refine ord_ok (by (conv => whnf); (repeat' ((first | refine at_da hxd rfl ?_ | refine call_eqb tab rfl h1 rfl ?_ | refine hi_is rfl hi2 ?_ | refine call_eqb tab rfl h2 rfl ?_ | refine ify ?_ | refine ifn ?_ | refine i6 ?_ | refine ati ?_ | refine mst ?_ | refine rmd ?_ | refine ibo (fun _ => ?_) (fun _ => ?_)) <;> conv => whnf)); (all_goals (repeat' (first | exact trivial | exact rfl | refine And.intro ?_ ?_)))) ?_ | refine at_da hxd rfl ?_ | refine call_eqb tab rfl h1 rfl ?_ | refine hi_is rfl hi2 ?_ | refine call_eqb tab rfl h2 rfl ?_ | refine ify ?_ | refine ifn ?_ | refine i6 ?_ | refine ati ?_ | refine mst ?_ | refine rmd ?_ | refine ibo (fun _ => ?_) (fun _ => ?_)) <;> conv => whnf))
          refine ⟨i + 1, _, _, ⟨hlt, ?_⟩, .refl _ _, ⟨rfl, rfl, rfl, rfl, rfl, trivial⟩, ⟨rfl, trivial⟩, by omega⟩
          intro j v hj hjv
          by_cases hji : j = i
          · subst hji; rw [hx] at hjv; cases hjv; exact hyes
          · exact hne j v (by omega) hjv
        · have hpre : ∀ u ∈ l.take i, 0 ≤ u ∧ u < G.edges.length := fun u hu => by
            obtain ⟨j, hj, hju⟩ := List.mem_take_iff_getElem.1 hu
            have hj2 : j < l.length := by omega
            have h3 := hne j u (by omega) (by rw [List.getElem?_eq_getElem hj2, hju])
            by_cases hur : 0 ≤ u ∧ u < G.edges.length
            · exact hur
            · rw [linkAt_bad (.inl hur)] at h3; cases h3
          have h3 := qcontainsF_pure (l.take i) 143 [.ref (dG G), .ref (.int .i64 m)] (fun u => touchV G.edges u m) (fun u _ => qlk1_pure G m u)
          rw [dIs_take, any_touch hml hc hpre] at h3
          have hla : linkAt (lnGr G) l i m = (l.take i).any (besP (lnGr G).edges m) := by unfold linkAt; rw [hhv, decide_eq_false hc, decide_eq_false h0]; simp
          cases hb : (l.take i).any (besP (lnGr G).edges m) with
          | true =>
            have hyes := hla.trans hb
            rw [hb] at h3
            (conv => whnf)
            (repeat' ((first | refine ord_ok (by (conv => whnf); (repeat' ((first | refine at_da hxd rfl ?_ | refine call_eqb tab rfl h1 rfl ?_ | refine hi_is rfl hi2 ?_ | refine call_eqb tab rfl h2 rfl ?_ | refine call_eqb tab rfl h3 rfl ?_ | refine ify ?_ | refine ifn ?_ | refine i6 ?_ | refine ati ?_ | refine mst ?_ | refine rmd ?_ | refine ibo (fun _ => ?_) (fun _ => ?_)) <;> conv => whnf)); (all_goals (repeat' (first | exact trivial | exact rfl | refine And.intro ?_ ?_)))) ?_ | refine at_da hxd rfl ?_ | refine call_eqb tab rfl h1 rfl ?_ | refine hi_is rfl hi2 ?_ | refine call_eqb tab rfl h2 rfl ?_ | refine call_eqb tab rfl h3 rfl ?_ | refine ify ?_ | refine ifn ?_ | refine i6 ?_ | refine ati ?_ | refine mst ?_ | refine rmd ?_ | refine ibo (fun _ => ?_) (fun _ => ?_)) <;> conv => whnf))
            refine ⟨i + 1, _, _, ⟨hlt, ?_⟩, .refl _ _, ⟨rfl, rfl, rfl, rfl, rfl, trivial⟩, ⟨rfl, trivial⟩, by omega⟩
            intro j v hj hjv
            by_cases hji : j = i
            · subst hji; rw [hx] at hjv; cases hjv; exact hyes
            · exact hne j v (by omega) hjv
          | false =>
            rw [hb] at h3
            rw [linkedV_no hx (hla.trans hb)]
            (conv => whnf)
            (repeat' ((first | refine ord_ok (by (conv => whnf); (repeat' ((first | refine at_da hxd rfl ?_ | refine call_eqb tab rfl h1 rfl ?_ | refine hi_is rfl hi2 ?_ | refine call_eqb tab rfl h2 rfl ?_ | refine call_eqb tab rfl h3 rfl ?_ | refine ify ?_ | refine ifn ?_ | refine i6 ?_ | refine ati ?_ | refine mst ?_ | refine rmd ?_ | refine ibo (fun _ => ?_) (fun _ => ?_)) <;> conv => whnf)); (all_goals (repeat' (first | exact trivial | exact rfl | refine And.intro ?_ ?_)))) ?_ | refine at_da hxd rfl ?_ | refine call_eqb tab rfl h1 rfl ?_ | refine hi_is rfl hi2 ?_ | refine call_eqb tab rfl h2 rfl ?_ | refine call_eqb tab rfl h3 rfl ?_ | refine ify ?_ | refine ifn ?_ | refine i6 ?_ | refine ati ?_ | refine mst ?_ | refine rmd ?_ | refine ibo (fun _ => ?_) (fun _ => ?_)) <;> conv => whnf))
            exact rfl
    · have ey : edgeY G.edges y = .tuple [dE ⟨0, 0⟩, .bool false] := by unfold edgeY; rw [if_neg hv]
      rw [ey] at h1
      rw [linkedV_no hx (linkAt_bad (.inl hv))]
      (conv => whnf)
      (repeat' ((first | refine ord_ok (by (conv => whnf); (repeat' ((first | refine at_da hxd rfl ?_ | refine call_eqb tab rfl h1 rfl ?_ | refine ify ?_ | refine ifn ?_ | refine i6 ?_ | refine ati ?_ | refine mst ?_ | refine rmd ?_ | refine ibo (fun _ => ?_) (fun _ => ?_)) <;> conv => whnf)); (all_goals (repeat' (first | exact trivial | exact rfl | refine And.intro ?_ ?_)))) ?_ | refine at_da hxd rfl ?_ | refine call_eqb tab rfl h1 rfl ?_ | refine ify ?_ | refine ifn ?_ | refine i6 ?_ | refine ati ?_ | refine mst ?_ | refine rmd ?_ | refine ibo (fun _ => ?_) (fun _ => ?_)) <;> conv => whnf))
      exact rfl
  · have hie : i = l.length := by omega
    subst hie
    rw [linkedV_yes fun j v hj => hne j v (List.getElem?_eq_some_iff.1 hj).1 hj]
    ((conv => whnf); repeat' ((first | refine odw ?_ | refine ify ?_ | refine ifn ?_ | refine i6 ?_ | refine ati ?_ | refine mst ?_ | refine rmd ?_ | refine ibo (fun _ => ?_) (fun _ => ?_)) <;> conv => whnf))
    exact rfl
def pl_sm8 : List (Nat × Plan) := [(6, .leaf [0, 1, 0, 0, 1, 0, 1, 0, 0, 1, 3] [0, 2, 5, 7, 1, 3, 4, 6, 8, 9, 10] [0, 1, 0, 7, 15, 0, 32, 0, 224, 480, 1023])]
def G_sm8 : List FuncId := [19]
theorem cok_sm8 : codeOk Tryz.prog G_sm8 pl_sm8 (Tryz.f32.body.getD .skip) = true := by kernel_rfl
theorem run_sm8 (vs : Array Value) (w : World) : (callFunc 32 vs).run C1.P w = .ok (.enter 32 vs) w := by kernel_rfl
set_option maxHeartbeats 4000000 in
theorem same8_pure (p : Pt) (hme : p.edges.length ≤ 9000000000000000000) : Pure C1 32 [dPt p, dPt p] (fun y => y = .bool true) := by
  have hde : (p.edges.map dE).length = p.edges.length := List.length_map _
  have hsm := same_pure p.labels p.labels
  rw [decide_eq_true rfl] at hsm
  refine pure_of c1_ok (pl := pl_sm8) (G := G_sm8) Tryz.func32 rfl Tryz.ntmps32 run_sm8 cok_sm8 (by simp) ?_
  (conv => whnf)
  (repeat' ((first | refine ord_ok (by (conv => whnf); (repeat' ((first | refine call_eq rfl hsm ?_ | refine ify ?_ | refine ifn ?_ | refine i6 ?_ | refine ati ?_ | refine mst ?_ | refine rmd ?_ | refine ibo (fun _ => ?_) (fun _ => ?_)) <;> conv => whnf)); (all_goals (repeat' (first | exact trivial | exact rfl | refine And.intro ?_ ?_)))) ?_ | refine call_eq rfl hsm ?_ | refine ify ?_ | refine ifn ?_ | refine i6 ?_ | refine ati ?_ | refine mst ?_ | refine rmd ?_ | refine ibo (fun _ => ?_) (fun _ => ?_)) <;> conv => whnf))
  refine loop_lo (ι := Nat) (fun i => i ≤ p.edges.length) (fun i => [(5, .d (.int .i64 i)), (3, .own 3), (2, .own 2)]) (fun _ => [(2, .cells 35 [.d (dIs p.labels), .d (dEs p.edges)]), (3, .cells 25 [.d (dIs p.labels), .d (dEs p.edges)])]) (fun i => p.edges.length - i) 0 (fun _ => rfl) (Nat.zero_le _) (.refl _ _) ⟨rfl, rfl, rfl, trivial⟩ ⟨rfl, rfl, trivial⟩ ?_
  intro i hi
  refine sxCode_sound c1_ok (G := G_sm8) (pl := pl_sm8) _ _ _ _ (by kernel_rfl) ?_
  by_cases hil : i < p.edges.length
  · have hx := List.getElem?_eq_getElem hil
    generalize p.edges[i] = x at hx
    have hxd : (p.edges.map dE)[i]? = some (.agg [.int .i64 x.a, .int .i64 x.b]) := by rw [List.getElem?_map, hx]; rfl
    (conv => whnf)
    (repeat' ((first | refine ord_ok (by (conv => whnf); (repeat' ((first | refine at_da hxd rfl ?_ | refine ify ?_ | refine ifn ?_ | refine i6 ?_ | refine ati ?_ | refine mst ?_ | refine rmd ?_ | refine ibo (fun _ => ?_) (fun _ => ?_)) <;> conv => whnf)); (all_goals (repeat' (first | exact trivial | exact rfl | refine And.intro ?_ ?_)))) ?_ | refine at_da hxd rfl ?_ | refine ify ?_ | refine ifn ?_ | refine i6 ?_ | refine ati ?_ | refine mst ?_ | refine rmd ?_ | refine ibo (fun _ => ?_) (fun _ => ?_)) <;> conv => whnf))
    exact ⟨i + 1, _, _, by omega, .refl _ _, ⟨rfl, rfl, rfl, trivial⟩, ⟨rfl, rfl, trivial⟩, by omega⟩
  · ((conv => whnf); repeat' ((first | refine odw ?_ | refine ify ?_ | refine ifn ?_ | refine i6 ?_ | refine ati ?_ | refine mst ?_ | refine rmd ?_ | refine ibo (fun _ => ?_) (fun _ => ?_)) <;> conv => whnf))
    exact rfl
def pl_r12a : List (Nat × Plan) := [(5, .leaf [0, 1, 0, 1, 0, 0, 0, 1, 0, 1, 6, 3, 0, 3] [0, 2, 4, 5, 6, 1, 3, 7, 8, 9, 10, 11, 12, 13] [0, 1, 0, 4, 0, 0, 48, 112, 252, 508, 1020, 2047, 4095, 8191]),
  (10, .leaf [0, 0, 1, 0, 0, 0, 1, 0, 1, 6, 3, 0] [0, 1, 3, 4, 5, 2, 6, 7, 8, 9, 10, 11] [0, 0, 2, 0, 0, 24, 56, 126, 254, 510, 1023, 2047])]
def G_r12a : List FuncId := [89]
theorem cok_r12a : codeOk Tryz.prog G_r12a pl_r12a (Tryz.f37.body.getD .skip) = true := by kernel_rfl
theorem run_r12a (vs : Array Value) (w : World) : (callFunc 37 vs).run C1.P w = .ok (.enter 37 vs) w := by kernel_rfl
set_option maxHeartbeats 4000000 in
theorem alone_pure (G : Gr) (V L : List Int) (hV : V.length ≤ 1000) (hL : L.length ≤ 1000) (hGe : G.edges.length ≤ 9000000000000000000) (hv : ∀ x ∈ V, 0 ≤ x ∧ x < G.labels.length) (hl : ∀ x ∈ L, 0 ≤ x ∧ x < G.edges.length) :
    Pure C1 37 [dM G.labels G.edges, dIs V, dIs L] (fun y => y = dPt ⟨V.map (labelV G), madeE (endsOf G.edges L) V⟩) := by
  have hdL : (L.map dI).length = L.length := List.length_map _
  have hdV : (V.map dI).length = V.length := List.length_map _
  have hdG : (G.labels.map dI).length = G.labels.length := List.length_map _
  have hdE : (G.edges.map dE).length = G.edges.length := List.length_map _
  refine pure_of c1_ok (pl := pl_r12a) (G := G_r12a) Tryz.func37 rfl Tryz.ntmps37 run_r12a cok_r12a (by simp) ?_
  ((conv => whnf); repeat' ((first | refine odw ?_ | refine ify ?_ | refine ifn ?_ | refine i6 ?_ | refine ati ?_ | refine mst ?_ | refine rmd ?_ | refine ibo (fun _ => ?_) (fun _ => ?_)) <;> conv => whnf))
  refine loop_lo (ι := Nat) (fun i => i ≤ L.length) (fun i => [(8, .d (.int .i64 i)), (7, .own 7), (6, .own 6), (3, .own 3), (2, .d (dIs L)), (1, .d (dIs V))]) (fun i => [(3, .cells 28 [.d (dIs G.labels), .d (dEs G.edges)]), (6, .cells 25 [.d .nils, .d .nils]), (7, .cells 25 [.d (dIs G.labels), .own 300]), (300, .slice 94 2 ((endsOf G.edges (L.take i)).map dE))]) (fun i => L.length - i) 0 (fun _ => rfl) (Nat.zero_le _) (.ownc 7 300 94 2 rfl rfl (.there _ (.here _)) (.refl _ _)) ⟨rfl, rfl, rfl, rfl, rfl, rfl, trivial⟩ ⟨rfl, rfl, rfl, rfl, trivial⟩ ?_
  intro i hi
  refine sxCode_sound c1_ok (G := G_r12a) (pl := pl_r12a) _ _ _ _ (by kernel_rfl) ?_
  by_cases hil : i < L.length
  · have hx := List.getElem?_eq_getElem hil
    have hxv := hl _ (List.getElem_mem hil)
    generalize L[i] = x at hx hxv
    obtain ⟨v, rfl⟩ := Int.eq_ofNat_of_zero_le hxv.1
    have hvl : v < G.edges.length := by omega
    have he := List.getElem?_eq_getElem hvl
    generalize G.edges[v] = e at he
    have hxd : (L.map dI)[i]? = some (.int .i64 v) := by rw [List.getElem?_map, hx]; rfl
    have hed : (G.edges.map dE)[v]? = some (.agg [.int .i64 e.a, .int .i64 e.b]) := by rw [List.getElem?_map, he]; rfl
    have hll : (endsOf G.edges (L.take i)).length ≤ 1000 := Nat.le_trans (endsOf_len _ _) (by rw [List.length_take]; omega)
    (conv => whnf)
    (repeat' ((first | refine ord_ok (by (conv => whnf); (repeat' ((first | refine at_da hxd rfl ?_ | refine at_da hed rfl ?_ | refine ify ?_ | refine ifn ?_ | refine i6 ?_ | refine ati ?_ | refine mst ?_ | refine rmd ?_ | refine ibo (fun _ => ?_) (fun _ => ?_)) <;> conv => whnf)); (all_goals (repeat' (first | exact trivial | exact rfl | refine And.intro ?_ ?_)))) ?_ | refine at_da hxd rfl ?_ | refine at_da hed rfl ?_ | refine ify ?_ | refine ifn ?_ | refine i6 ?_ | refine ati ?_ | refine mst ?_ | refine rmd ?_ | refine ibo (fun _ => ?_) (fun _ => ?_)) <;> conv => whnf))
    refine ⟨i + 1, _, _, by omega, .refl _ _, ⟨rfl, rfl, rfl, rfl, rfl, rfl, trivial⟩, ⟨rfl, rfl, rfl, slice_is ?_, trivial⟩, by omega⟩
    rw [List.take_add_one, hx, Option.toList_some, endsOf_in he]; simp [dE]
  · have e : L.take i = L := List.take_of_length_le (by omega)
    rw [e]
    have hle := endsOf_len G.edges L
    ((conv => whnf); repeat' ((first | refine odw ?_ | refine ify ?_ | refine ifn ?_ | refine i6 ?_ | refine ati ?_ | refine mst ?_ | refine rmd ?_ | refine ibo (fun _ => ?_) (fun _ => ?_)) <;> conv => whnf))
    refine loop_lo (ι := Nat) (fun j => j ≤ V.length) (fun j => [(10, .d (.int .i64 j)), (9, .own 301), (7, .own 7), (6, .own 6), (3, .own 3), (1, .d (dIs V))]) (fun j => [(3, .cells 28 [.d (dIs G.labels), .d (dEs G.edges)]), (6, .cells 25 [.d .nils, .d .nils]), (7, .cells 25 [.d (dIs G.labels), .d (dEs (endsOf G.edges L))]), (301, .slice 3 1 (((V.take j).map (labelV G)).map dI))]) (fun j => V.length - j) 0 (fun _ => rfl) (Nat.zero_le _) (.frz 300 rfl (.own 9 301 3 1 rfl rfl (.refl _ _))) ⟨rfl, rfl, rfl, rfl, rfl, rfl, trivial⟩ ⟨rfl, rfl, rfl, rfl, trivial⟩ ?_
    intro j hj
    refine sxCode_sound c1_ok (G := G_r12a) (pl := pl_r12a) _ _ _ _ (by kernel_rfl) ?_
    by_cases hjl : j < V.length
    · have hx := List.getElem?_eq_getElem hjl
      have hxv := hv _ (List.getElem_mem hjl)
      generalize V[j] = x at hx hxv
      obtain ⟨v, rfl⟩ := Int.eq_ofNat_of_zero_le hxv.1
      have hvl : v < G.labels.length := by omega
      have hxd : (V.map dI)[j]? = some (.int .i64 v) := by rw [List.getElem?_map, hx]; rfl
      have hlv : (G.labels.map dI)[v]? = some (.int .i64 (labelV G v)) := by
        rw [List.getElem?_map, List.getElem?_eq_getElem hvl]
        unfold labelV
        rw [if_pos (by omega), Int.toNat_natCast, List.getElem?_eq_getElem hvl]; rfl
      have hll : (((V.take j).map (labelV G)).map dI).length = j := by simp only [List.length_map, List.length_take]; omega
      (conv => whnf)
      (repeat' ((first | refine ord_ok (by (conv => whnf); (repeat' ((first | refine at_da hxd rfl ?_ | refine at_da hlv rfl ?_ | refine ify ?_ | refine ifn ?_ | refine i6 ?_ | refine ati ?_ | refine mst ?_ | refine rmd ?_ | refine ibo (fun _ => ?_) (fun _ => ?_)) <;> conv => whnf)); (all_goals (repeat' (first | exact trivial | exact rfl | refine And.intro ?_ ?_)))) ?_ | refine at_da hxd rfl ?_ | refine at_da hlv rfl ?_ | refine ify ?_ | refine ifn ?_ | refine i6 ?_ | refine ati ?_ | refine mst ?_ | refine rmd ?_ | refine ibo (fun _ => ?_) (fun _ => ?_)) <;> conv => whnf))
      refine ⟨j + 1, _, _, by omega, .refl _ _, ⟨rfl, rfl, rfl, rfl, rfl, rfl, trivial⟩, ⟨rfl, rfl, rfl, slice_is ?_, trivial⟩, by omega⟩
      rw [List.take_add_one, hx]; simp [dI]
    · have e2 : V.take j = V := List.take_of_length_le (by omega)
      rw [e2]
      have hmd := rmade_pure (V.map (labelV G)) ⟨G.labels, endsOf G.edges L⟩ V hV (by show (endsOf G.edges L).length ≤ _; omega)
      (conv => whnf)
      (repeat' ((first | refine ord_ok (by (conv => whnf); (repeat' ((first | refine call_frz 301 rfl ?_ | refine call_eq rfl hmd ?_ | refine ify ?_ | refine ifn ?_ | refine i6 ?_ | refine ati ?_ | refine mst ?_ | refine rmd ?_ | refine ibo (fun _ => ?_) (fun _ => ?_)) <;> conv => whnf)); (all_goals (repeat' (first | exact trivial | exact rfl | refine And.intro ?_ ?_)))) ?_ | refine call_frz 301 rfl ?_ | refine call_eq rfl hmd ?_ | refine ify ?_ | refine ifn ?_ | refine i6 ?_ | refine ati ?_ | refine mst ?_ | refine rmd ?_ | refine ibo (fun _ => ?_) (fun _ => ?_)) <;> conv => whnf))
      exact rfl
end Go.Proofs.YthegabgbakckfaaGreatDoor
end

section
/- quick: Vert, Edge of any list. -/
namespace Go.Proofs.YthegabgbakckfaaGreatDoor
open Go.Sx Go.RowKit Go.Reg Go.Gr

set_option maxRecDepth 100000
theorem labelV_ok {G : Gr} (hG : G.Ok) {x : Int} (hx : 0 ≤ x ∧ x < G.labels.length) : 0 ≤ labelV G x ∧ labelV G x ≤ 255 := by
  obtain ⟨m, rfl⟩ := Int.eq_ofNat_of_zero_le hx.1
  have hm : m < G.labels.length := by omega
  unfold labelV
  rw [if_pos hx, Int.toNat_natCast, List.getElem?_eq_getElem hm]
  exact hG.lab _ (List.getElem_mem hm)
theorem lErr_labels {G : Gr} (hG : G.Ok) {v : List Int} (h8 : v.length ≤ 8) (hv : ∀ x ∈ v, 0 ≤ x ∧ x < G.labels.length) : lErr (v.map (labelV G)) = none := by
  refine lErr_no (by rw [List.length_map]; omega) (fun k y hk hy => ?_)
  rw [List.getElem?_map] at hy
  obtain ⟨x, hx, rfl⟩ := Option.map_eq_some_iff.1 hy
  have := labelV_ok hG (hv x (List.mem_of_getElem? hx))
  unfold badLabel
  simp; omega
theorem link_range {G : Gr} {l : List Int} (h : linkedV G l = true) : ∀ x ∈ l, 0 ≤ x ∧ x < G.labels.length := by
  intro x hx
  obtain ⟨i, hi⟩ := List.mem_iff_getElem?.1 hx
  have := linkN_pre h hi
  unfold linkAt hasV at this
  simp only [Bool.and_eq_true, decide_eq_true_eq] at this
  exact this.1
theorem link_nodup {G : Gr} {l : List Int} (h : linkedV G l = true) : l.Nodup := by
  rw [List.nodup_iff_pairwise_ne, List.pairwise_iff_getElem]
  intro i j hi hj hij he
  have := linkN_pre h (List.getElem?_eq_getElem hj)
  unfold linkAt at this
  simp only [Bool.and_eq_true, Bool.not_eq_true', decide_eq_false_iff_not] at this
  exact this.2.1 (by rw [← he]; exact List.mem_take_iff_getElem.2 ⟨i, by omega, rfl⟩)
def vertP (G : Gr) (l : List Int) : Pt := ⟨l.map (labelV G), madeE G.edges l⟩
theorem qvertG_pure (G : Gr) (hG : G.Ok) (l : List Int) (hm : l.length ≤ 9000000000000000000) :
    Pure C1 29 [dG G, dIs l] (fun y => y = if 8 < l.length then .tuple [dP0, dF 6 0 listS] else if linkedV G l = false then .tuple [dP0, dF 2 0 listS] else .tuple [dPt (vertP G l), .nili]) := by
  refine qvert_pure G hG l (vertP G l) (fun h8 hl => ?_) hm
  have hlt : ∀ e ∈ G.edges, e.a < e.b := fun e he => (hG.edge e he).2.1
  have hsq : l.length * l.length ≤ 8 * 8 := Nat.mul_le_mul h8 h8
  have hcl := colsF_len (adjF G.edges l) l.length
  have := pmake_pure (l.map (labelV G)) (lErr_labels hG h8 (link_range hl)) (colsF (adjF G.edges l) l.length) (by omega) (fun e he => ?_) (by rw [colsF_turn]; exact colsF_nodup _ _)
  · rw [made_cols hlt] at this; exact this
  · obtain ⟨k, i, h1, h2, _, rfl⟩ := mem_colsF.1 he
    rw [List.length_map]
    refine ⟨⟨?_, ?_⟩, ?_⟩ <;> simp only <;> omega
theorem ends_mem {E : List Edg} {l : List Int} : ∀ e ∈ endsOf E l, e ∈ E := fun e he => by
  obtain ⟨m, _, h⟩ := mem_endsOf.1 he
  exact List.mem_of_getElem? h
theorem ends_nodup {E : List Edg} (hE : E.Nodup) {l : List Int} (hl : l.Nodup) : (endsOf E l).Nodup := by
  unfold endsOf
  refine List.Pairwise.filterMap _ ?_ hl
  intro x y hxy e he e2 he2 h
  subst h
  split at he
  · rename_i h1
    split at he2
    · rename_i h2
      obtain ⟨m, rfl⟩ := Int.eq_ofNat_of_zero_le h1.1
      obtain ⟨k, rfl⟩ := Int.eq_ofNat_of_zero_le h2.1
      simp only [Int.toNat_natCast] at he he2
      have hm := (List.getElem?_eq_some_iff.1 he).1
      have := (List.getElem?_inj hm hE).1 (he.trans he2.symm)
      exact hxy (by rw [this])
    · cases he2
  · cases he
def edgeP (G : Gr) (l : List Int) : Pt := ⟨(vertsOf (endsOf G.edges l)).map (labelV G), madeE (endsOf G.edges l) (vertsOf (endsOf G.edges l))⟩
def edgeQ (G : Gr) (l : List Int) : Da := if linkedV (lnGr G) l = false then .tuple [dP0, .nils, dF 2 0 listS] else if 8 < (vertsOf (endsOf G.edges l)).length then .tuple [dP0, .nils, dF 6 0 listS] else .tuple [dPt (edgeP G l), dIs (vertsOf (endsOf G.edges l)), .nili]
def pl_qed : List (Nat × Plan) := [(10, .leaf [0, 0, 0, 1, 2, 0, 0, 1, 2, 0, 6, 3, 0] [0, 1, 2, 5, 6, 3, 7, 4, 8, 9, 10, 11, 12] [0, 0, 0, 4, 14, 0, 0, 64, 254, 510, 1022, 2047, 4095])]
def G_qed : List FuncId := [90, 91, 92, 93, 85, 84]
theorem cok_qed : codeOk Tryz.prog G_qed pl_qed (Tryz.f34.body.getD .skip) = true := by kernel_rfl
theorem run_qed (vs : Array Value) (w : World) : (callFunc 34 vs).run C1.P w = .ok (.enter 34 vs) w := by kernel_rfl
set_option maxHeartbeats 4000000 in
theorem qedge_pure (G : Gr) (hG : G.Ok) (l : List Int) (hm : l.length ≤ 1000) : Pure C1 34 [dG G, dIs l] (fun y => y = edgeQ G l) := by
  have hdl : (l.map dI).length = l.length := List.length_map _
  have hlk := qlinked_pure G l
  have hvs := verts_pure G l (by omega)
  have hen := ends_pure G l (by omega)
  have hvl := vertsOf_len (endsOf G.edges l)
  have hel := endsOf_len G.edges l
  unfold edgeQ
  refine pure_of c1_ok (pl := pl_qed) (G := G_qed) Tryz.func34 rfl Tryz.ntmps34 run_qed cok_qed (by simp) ?_
  cases hl : linkedV (lnGr G) l with
  | false =>
    rw [hl] at hlk
    rw [if_pos rfl]
    (conv => whnf)
    (repeat' ((first | refine ord_ok (by (conv => whnf); (repeat' ((first | refine call_eq rfl hlk ?_ | refine call_eq rfl (fnew_pure 2 0 listS) ?_ | refine ify ?_ | refine ifn ?_ | refine i6 ?_ | refine ati ?_ | refine mst ?_ | refine rmd ?_ | refine ibo (fun _ => ?_) (fun _ => ?_)) <;> conv => whnf)); (all_goals (repeat' (first | exact trivial | exact rfl | refine And.intro ?_ ?_)))) ?_ | refine call_eq rfl hlk ?_ | refine call_eq rfl (fnew_pure 2 0 listS) ?_ | refine ify ?_ | refine ifn ?_ | refine i6 ?_ | refine ati ?_ | refine mst ?_ | refine rmd ?_ | refine ibo (fun _ => ?_) (fun _ => ?_)) <;> conv => whnf))
    exact rfl
  | true =>
    rw [hl] at hlk
    rw [if_neg (by decide)]
    have hlt : ∀ e ∈ endsOf G.edges l, e.a < e.b := fun e he => (hG.edge e (ends_mem e he)).2.1
    have hEn := ends_nodup hG.sorted.nodup (l := l) (link_nodup hl)
    obtain ⟨hVn, hVm⟩ := vertsOf_spec (endsOf G.edges l)
    have hin : ∀ e ∈ endsOf G.edges l, e.a ∈ vertsOf (endsOf G.edges l) ∧ e.b ∈ vertsOf (endsOf G.edges l) := fun e he => ⟨(hVm _).2 ⟨e, he, .inl rfl⟩, (hVm _).2 ⟨e, he, .inr rfl⟩⟩
    have hVr : ∀ x ∈ vertsOf (endsOf G.edges l), 0 ≤ x ∧ x < G.labels.length := fun x hx => by
      obtain ⟨e, he, h⟩ := (hVm x).1 hx
      obtain ⟨g1, g2, g3⟩ := hG.edge e (ends_mem e he)
      rcases h with rfl | rfl <;> omega
    clear hVm
    unfold edgeP
    generalize hE : endsOf G.edges l = E at *
    generalize hV : vertsOf E = V at *
    have hdV : (V.map dI).length = V.length := List.length_map _
    have hdE : (E.map dE).length = E.length := List.length_map _
    by_cases h8 : 8 < V.length
    · rw [if_pos h8]
      (conv => whnf)
      (repeat' ((first | refine ord_ok (by (conv => whnf); (repeat' ((first | refine call_eq rfl hlk ?_ | refine call_eq rfl hvs ?_ | refine call_eq rfl (fnew_pure 6 0 listS) ?_ | refine ify ?_ | refine ifn ?_ | refine i6 ?_ | refine ati ?_ | refine mst ?_ | refine rmd ?_ | refine ibo (fun _ => ?_) (fun _ => ?_)) <;> conv => whnf)); (all_goals (repeat' (first | exact trivial | exact rfl | refine And.intro ?_ ?_)))) ?_ | refine call_eq rfl hlk ?_ | refine call_eq rfl hvs ?_ | refine call_eq rfl (fnew_pure 6 0 listS) ?_ | refine ify ?_ | refine ifn ?_ | refine i6 ?_ | refine ati ?_ | refine mst ?_ | refine rmd ?_ | refine ibo (fun _ => ?_) (fun _ => ?_)) <;> conv => whnf))
      exact rfl
    · rw [if_neg h8]
      (conv => whnf)
      (repeat' ((first | refine ord_ok (by (conv => whnf); (repeat' ((first | refine call_eq rfl hlk ?_ | refine call_eq rfl hvs ?_ | refine call_eq rfl hen ?_ | refine ify ?_ | refine ifn ?_ | refine i6 ?_ | refine ati ?_ | refine mst ?_ | refine rmd ?_ | refine ibo (fun _ => ?_) (fun _ => ?_)) <;> conv => whnf)); (all_goals (repeat' (first | exact trivial | exact rfl | refine And.intro ?_ ?_)))) ?_ | refine call_eq rfl hlk ?_ | refine call_eq rfl hvs ?_ | refine call_eq rfl hen ?_ | refine ify ?_ | refine ifn ?_ | refine i6 ?_ | refine ati ?_ | refine mst ?_ | refine rmd ?_ | refine ibo (fun _ => ?_) (fun _ => ?_)) <;> conv => whnf))
      obtain ⟨hnd, hmade⟩ := made_ats hlt hEn V hVn hin
      have hql := qlabels_pure G V (by omega)
      have hmk := pmake_pure (V.map (labelV G)) (lErr_labels hG (by omega) hVr) (E.map (atE V)) (by rw [List.length_map]; omega) (fun e he => by
        obtain ⟨x, hx, rfl⟩ := List.mem_map.1 he
        obtain ⟨i, j, h1, h2, _, _, h5, h6⟩ := atE_in hVn (hlt x hx) (hin x hx).1 (hin x hx).2
        rw [h6, List.length_map]
        refine ⟨⟨?_, ?_⟩, ?_⟩ <;> simp only <;> omega) hnd
      rw [hmade] at hmk
      refine loop_lo (ι := Nat) (fun i => i ≤ E.length) (fun i => [(31, .d (.int .i64 i)), (30, .d (.int .i64 (E.map dE).length)), (29, .d (dEs E)), (8, .own 300), (7, .d (dIs V)), (4, .own 4), (0, .d (dG G))]) (fun i => [(4, .cells 35 [.d .nils, .d .nils]), (300, .slice 77 2 (((E.take i).map (atE V)).map dE))]) (fun i => E.length - i) 0 (fun _ => rfl) (Nat.zero_le _) (.own 8 300 77 2 rfl rfl (.refl _ _)) ⟨rfl, rfl, rfl, rfl, rfl, rfl, rfl, trivial⟩ ⟨rfl, rfl, trivial⟩ ?_
      intro i hi
      refine sxCode_sound c1_ok (G := G_qed) (pl := pl_qed) _ _ _ _ (by kernel_rfl) ?_
      by_cases hil : i < E.length
      · have hx := List.getElem?_eq_getElem hil
        generalize E[i] = x at hx
        have hxd : (E.map dE)[i]? = some (.agg [.int .i64 x.a, .int .i64 x.b]) := by rw [List.getElem?_map, hx]; rfl
        have h1 := index_pure V x.a
        have h2 := index_pure V x.b
        (conv => whnf)
        (repeat' ((first | refine ord_ok (by (conv => whnf); (repeat' ((first | refine at_da hxd rfl ?_ | refine call_eqb tab rfl h1 rfl ?_ | refine call_eqb tab rfl h2 rfl ?_ | refine ify ?_ | refine ifn ?_ | refine i6 ?_ | refine ati ?_ | refine mst ?_ | refine rmd ?_ | refine ibo (fun _ => ?_) (fun _ => ?_)) <;> conv => whnf)); (all_goals (repeat' (first | exact trivial | exact rfl | refine And.intro ?_ ?_)))) ?_ | refine at_da hxd rfl ?_ | refine call_eqb tab rfl h1 rfl ?_ | refine call_eqb tab rfl h2 rfl ?_ | refine ify ?_ | refine ifn ?_ | refine i6 ?_ | refine ati ?_ | refine mst ?_ | refine rmd ?_ | refine ibo (fun _ => ?_) (fun _ => ?_)) <;> conv => whnf))
        refine ⟨i + 1, _, _, by omega, .refl _ _, ⟨rfl, rfl, rfl, rfl, rfl, rfl, rfl, trivial⟩, ⟨rfl, slice_is ?_, trivial⟩, by omega⟩
        rw [List.take_add_one, hx]; simp [dE, atE]
      · have e : E.take i = E := List.take_of_length_le (by omega)
        rw [e]
        (conv => whnf)
        (repeat' ((first | refine ord_ok (by (conv => whnf); (repeat' ((first | refine call_frz 300 rfl ?_ | refine call_eq rfl hql ?_ | refine call_eq rfl hmk ?_ | refine ify ?_ | refine ifn ?_ | refine i6 ?_ | refine ati ?_ | refine mst ?_ | refine rmd ?_ | refine ibo (fun _ => ?_) (fun _ => ?_)) <;> conv => whnf)); (all_goals (repeat' (first | exact trivial | exact rfl | refine And.intro ?_ ?_)))) ?_ | refine call_frz 300 rfl ?_ | refine call_eq rfl hql ?_ | refine call_eq rfl hmk ?_ | refine ify ?_ | refine ifn ?_ | refine i6 ?_ | refine ati ?_ | refine mst ?_ | refine rmd ?_ | refine ibo (fun _ => ?_) (fun _ => ?_)) <;> conv => whnf))
        exact rfl
end Go.Proofs.YthegabgbakckfaaGreatDoor
end

section
/- ref10: beside, has, Linked (the quick seat). -/
namespace Go.Proofs.YthegabgbakckfaaGreatDoor
open Go.Sx Go.RowKit Go.Reg Go.Gr

set_option maxRecDepth 100000
theorem Pure.len2t {f : FuncId} {d : Da} {l : List Int} {xs : List Da} {Q : Da → Prop} (h : l.length ≤ 9223372036854775807 → Sx.Pure C1 f (d :: dIs l :: xs) Q) : Sx.Pure C1 f (d :: dIs l :: xs) Q :=
  Pure.assume (fun O w us hr => by obtain ⟨v, vs, rfl, h1, h2⟩ := reps_inv hr; obtain ⟨v2, vs2, rfl, h3, _⟩ := reps_inv h2; exact ints_len h3) h
def pl_r10b : List (Nat × Plan) := [(4, .leaf [1, 0, 0, 0, 1, 0, 2, 0] [1, 2, 3, 5, 0, 4, 6, 7] [0, 0, 0, 6, 14, 0, 63, 127])]
def G_r10b : List FuncId := [120]
theorem cok_r10b : codeOk Tryz.prog G_r10b pl_r10b (Tryz.f88.body.getD .skip) = true := by kernel_rfl
theorem run_r10b (vs : Array Value) (w : World) : (callFunc 88 vs).run C1.P w = .ok (.enter 88 vs) w := by kernel_rfl
theorem r10bes_pure (G : Gr) (l : List Int) (v : Int) : Pure C1 88 [dM G.labels G.edges, dIs l, .int .i64 v] (fun y => y = .bool (l.any (besP G.edges v))) := by
  refine Pure.len2t fun hm => ?_
  have hl : (l.map dI).length = l.length := List.length_map _
  refine pure_of c1_ok (pl := pl_r10b) (G := G_r10b) Tryz.func88 rfl Tryz.ntmps88 run_r10b cok_r10b (by simp) ?_
  ((conv => whnf); repeat' ((first | refine odw ?_ | refine ify ?_ | refine ifn ?_ | refine i6 ?_ | refine ati ?_ | refine mst ?_ | refine rmd ?_ | refine ibo (fun _ => ?_) (fun _ => ?_)) <;> conv => whnf))
  refine loop_lo (ι := Nat) (fun i => i ≤ l.length ∧ ∀ y ∈ l.take i, besP G.edges v y = false) (fun i => [(7, .d (.int .i64 i)), (3, .own 3), (2, .d (.int .i64 v)), (1, .d (dIs l))]) (fun _ => [(3, .cells 28 [.d (dIs G.labels), .d (dEs G.edges)])]) (fun i => l.length - i) 0 (fun _ => rfl) ⟨Nat.zero_le _, by simp⟩ (.refl _ _) ⟨rfl, rfl, rfl, rfl, trivial⟩ ⟨rfl, trivial⟩ ?_
  rintro i ⟨hi, hne⟩
  refine sxCode_sound c1_ok (G := G_r10b) (pl := pl_r10b) _ _ _ _ (by kernel_rfl) ?_
  by_cases hlt : i < l.length
  · have hx := List.getElem?_eq_getElem hlt
    generalize l[i] = x at hx
    have hxd : (l.map dI)[i]? = some (.int .i64 x) := by rw [List.getElem?_map, hx]; rfl
    have hid := rid_pure G.labels G.edges x v
    by_cases hmm : turn ⟨x, v⟩ ∈ G.edges
    · have hnn := idE_nonneg.2 hmm
      have hany : l.any (besP G.edges v) = true := List.any_eq_true.2 ⟨x, List.mem_of_getElem? hx, decide_eq_true hmm⟩
      rw [hany]
      generalize idE G.edges (turn ⟨x, v⟩) = q at hid hnn
      (conv => whnf)
      (repeat' ((first | refine ord_ok (by (conv => whnf); (repeat' ((first | refine at_da hxd rfl ?_ | refine call_eq rfl hid ?_ | refine ify ?_ | refine ifn ?_ | refine i6 ?_ | refine ati ?_ | refine mst ?_ | refine rmd ?_ | refine ibo (fun _ => ?_) (fun _ => ?_)) <;> conv => whnf)); (all_goals (repeat' (first | exact trivial | exact rfl | refine And.intro ?_ ?_)))) ?_ | refine at_da hxd rfl ?_ | refine call_eq rfl hid ?_ | refine ify ?_ | refine ifn ?_ | refine i6 ?_ | refine ati ?_ | refine mst ?_ | refine rmd ?_ | refine ibo (fun _ => ?_) (fun _ => ?_)) <;> conv => whnf))
      exact rfl
    · have hnn : ¬ 0 ≤ idE G.edges (turn ⟨x, v⟩) := fun h => hmm (idE_nonneg.1 h)
      generalize idE G.edges (turn ⟨x, v⟩) = q at hid hnn
      (conv => whnf)
      (repeat' ((first | refine ord_ok (by (conv => whnf); (repeat' ((first | refine at_da hxd rfl ?_ | refine call_eq rfl hid ?_ | refine ify ?_ | refine ifn ?_ | refine i6 ?_ | refine ati ?_ | refine mst ?_ | refine rmd ?_ | refine ibo (fun _ => ?_) (fun _ => ?_)) <;> conv => whnf)); (all_goals (repeat' (first | exact trivial | exact rfl | refine And.intro ?_ ?_)))) ?_ | refine at_da hxd rfl ?_ | refine call_eq rfl hid ?_ | refine ify ?_ | refine ifn ?_ | refine i6 ?_ | refine ati ?_ | refine mst ?_ | refine rmd ?_ | refine ibo (fun _ => ?_) (fun _ => ?_)) <;> conv => whnf))
      refine ⟨i + 1, _, _, ⟨hlt, ?_⟩, .refl _ _, ⟨rfl, rfl, rfl, rfl, trivial⟩, ⟨rfl, trivial⟩, by omega⟩
      intro y hy
      rw [List.take_add_one, hx, Option.toList_some] at hy
      rcases List.mem_append.1 hy with hy | hy
      · exact hne y hy
      · simp at hy; subst hy; exact decide_eq_false hmm
  · have hii : l.take i = l := List.take_of_length_le (by omega)
    rw [hii] at hne
    rw [List.any_eq_false.2 (fun y hy => by rw [hne y hy]; decide)]
    ((conv => whnf); repeat' ((first | refine odw ?_ | refine ify ?_ | refine ifn ?_ | refine i6 ?_ | refine ati ?_ | refine mst ?_ | refine rmd ?_ | refine ibo (fun _ => ?_) (fun _ => ?_)) <;> conv => whnf))
    exact rfl
def pl_r10h : List (Nat × Plan) := []
def G_r10h : List FuncId := []
theorem cok_r10h : codeOk Tryz.prog G_r10h pl_r10h (Tryz.f87.body.getD .skip) = true := by kernel_rfl
theorem run_r10h (vs : Array Value) (w : World) : (callFunc 87 vs).run C1.P w = .ok (.enter 87 vs) w := by kernel_rfl
theorem r10has_pure (G : Gr) (v : Int) : Pure C1 87 [dM G.labels G.edges, .int .i64 v] (fun y => y = .bool (hasV G v)) := by
  have hl : (G.labels.map dI).length = G.labels.length := List.length_map _
  refine pure_of c1_ok (pl := pl_r10h) (G := G_r10h) Tryz.func87 rfl Tryz.ntmps87 run_r10h cok_r10h (by simp) ?_
  by_cases h0 : 0 ≤ v
  · by_cases h1 : v < G.labels.length
    · rw [hasV_yes h0 h1]
      have h2 : v < ((G.labels.map dI).length : Int) := by rw [hl]; exact h1
      ((conv => whnf); repeat' ((first | refine odw ?_ | refine ify ?_ | refine ifn ?_ | refine i6 ?_ | refine ati ?_ | refine mst ?_ | refine rmd ?_ | refine ibo (fun _ => ?_) (fun _ => ?_)) <;> conv => whnf))
      show Da.plain _ = _
      simp [Da.plain, hl, h1]
    · rw [hasV_no (fun h => h1 h.2)]
      ((conv => whnf); repeat' ((first | refine odw ?_ | refine ify ?_ | refine ifn ?_ | refine i6 ?_ | refine ati ?_ | refine mst ?_ | refine rmd ?_ | refine ibo (fun _ => ?_) (fun _ => ?_)) <;> conv => whnf))
      show Da.plain _ = _
      simp [Da.plain, hl, h1]
  · rw [hasV_no (fun h => h0 h.1)]
    ((conv => whnf); repeat' ((first | refine odw ?_ | refine ify ?_ | refine ifn ?_ | refine i6 ?_ | refine ati ?_ | refine mst ?_ | refine rmd ?_ | refine ibo (fun _ => ?_) (fun _ => ?_)) <;> conv => whnf))
    exact rfl
def pl_r10l : List (Nat × Plan) := [(4, .leaf [1, 0, 0, 0, 1, 2, 0, 0, 0, 0, 0, 0, 0, 0, 1, 2, 0, 0, 0, 0, 0, 1, 0, 0, 0, 0, 0, 0, 1, 2, 0, 0, 0] [1, 2, 3, 0, 4, 5, 6, 7, 8, 9, 10, 11, 12, 13, 14, 15, 16, 17, 18, 19, 20, 22, 23, 24, 25, 26, 27, 21, 28, 29, 30, 31, 32] [0, 0, 0, 6, 14, 31, 63, 127, 255, 255, 1023, 255, 255, 6399, 14591, 32767, 65535, 131071, 262143, 524287, 1048575, 2097151, 2097151, 2097151, 14680063, 2097151, 2097151, 102760447, 236978175, 536870911, 1073741823, 2147483647, 4294967295])]
def G_r10l : List FuncId := [87, 64, 88]
theorem cok_r10l : codeOk Tryz.prog G_r10l pl_r10l (Tryz.f31.body.getD .skip) = true := by kernel_rfl
theorem run_r10l (vs : Array Value) (w : World) : (callFunc 31 vs).run C1.P w = .ok (.enter 31 vs) w := by kernel_rfl
theorem r10linked_pure (G : Gr) (l : List Int) : Pure C1 31 [dM G.labels G.edges, dIs l] (fun y => y = .bool (linkedV G l)) := by
  refine Pure.len2t fun hm => ?_
  have hl : (l.map dI).length = l.length := List.length_map _
  refine pure_of c1_ok (pl := pl_r10l) (G := G_r10l) Tryz.func31 rfl Tryz.ntmps31 run_r10l cok_r10l (by simp) ?_
  ((conv => whnf); repeat' ((first | refine odw ?_ | refine ify ?_ | refine ifn ?_ | refine i6 ?_ | refine ati ?_ | refine mst ?_ | refine rmd ?_ | refine ibo (fun _ => ?_) (fun _ => ?_)) <;> conv => whnf))
  refine loop_lo (ι := Nat) (fun i => i ≤ l.length ∧ ∀ (j : Nat) (v : Int), j < i → l[j]? = some v → linkAt G l j v = true) (fun i => [(5, .d (.int .i64 i)), (2, .own 2), (1, .d (dIs l))]) (fun _ => [(2, .cells 28 [.d (dIs G.labels), .d (dEs G.edges)])]) (fun i => l.length - i) 0 (fun _ => rfl) ⟨Nat.zero_le _, by intro j v h; omega⟩ (.refl _ _) ⟨rfl, rfl, rfl, trivial⟩ ⟨rfl, trivial⟩ ?_
  rintro i ⟨hi, hne⟩
  refine sxCode_sound c1_ok (G := G_r10l) (pl := pl_r10l) _ _ _ _ (by kernel_rfl) ?_
  by_cases hlt : i < l.length
  · have hx := List.getElem?_eq_getElem hlt
    generalize l[i] = y at hx
    have hxd : (l.map dI)[i]? = some (.int .i64 y) := by rw [List.getElem?_map, hx]; rfl
    have h1 := r10has_pure G y
    have h2 := has06_pure (l.take i) y
    have h3 := r10bes_pure G (l.take i) y
    rw [dIs_take] at h2 h3
    have hi2 : i ≤ (l.map dI).length := by omega
    have hstep : linkAt G l i y = true → ∀ (j : Nat) (v : Int), j < i + 1 → l[j]? = some v → linkAt G l j v = true := by
      intro hyes j v hj hjv
      by_cases hji : j = i
      · subst hji; rw [hx] at hjv; cases hjv; exact hyes
      · exact hne j v (by omega) hjv
    cases hv : hasV G y with
    | false =>
      rw [hv] at h1
      rw [linkedV_no hx (by simp [linkAt, hv])]
      (conv => whnf)
      (repeat' ((first | refine ord_ok (by (conv => whnf); (repeat' ((first | refine at_da hxd rfl ?_ | refine call_eq rfl h1 ?_ | refine ify ?_ | refine ifn ?_ | refine i6 ?_ | refine ati ?_ | refine mst ?_ | refine rmd ?_ | refine ibo (fun _ => ?_) (fun _ => ?_)) <;> conv => whnf)); (all_goals (repeat' (first | exact trivial | exact rfl | refine And.intro ?_ ?_)))) ?_ | refine at_da hxd rfl ?_ | refine call_eq rfl h1 ?_ | refine ify ?_ | refine ifn ?_ | refine i6 ?_ | refine ati ?_ | refine mst ?_ | refine rmd ?_ | refine ibo (fun _ => ?_) (fun _ => ?_)) <;> conv => whnf))
      exact rfl
    | true =>
      rw [hv] at h1
      by_cases hc : y ∈ l.take i
      · rw [decide_eq_true hc] at h2
        rw [linkedV_no hx (by simp [linkAt, hc])]
        (conv => whnf)
        (repeat' ((first | refine ord_ok (by (conv => whnf); (repeat' ((first | refine at_da hxd rfl ?_ | refine call_eq rfl h1 ?_ | refine hi_is rfl hi2 ?_ | refine call_eq rfl h2 ?_ | refine ify ?_ | refine ifn ?_ | refine i6 ?_ | refine ati ?_ | refine mst ?_ | refine rmd ?_ | refine ibo (fun _ => ?_) (fun _ => ?_)) <;> conv => whnf)); (all_goals (repeat' (first | exact trivial | exact rfl | refine And.intro ?_ ?_)))) ?_ | refine at_da hxd rfl ?_ | refine call_eq rfl h1 ?_ | refine hi_is rfl hi2 ?_ | refine call_eq rfl h2 ?_ | refine ify ?_ | refine ifn ?_ | refine i6 ?_ | refine ati ?_ | refine mst ?_ | refine rmd ?_ | refine ibo (fun _ => ?_) (fun _ => ?_)) <;> conv => whnf))
        exact rfl
      · rw [decide_eq_false hc] at h2
        by_cases h0 : i = 0
        · have hyes : linkAt G l i y = true := by simp [linkAt, hv, h0]
          (conv => whnf)
          (repeat' ((first | refine ord_ok (by (conv => whnf); (repeat' ((first | refine at_da hxd rfl ?_ | refine call_eq rfl h1 ?_ | refine hi_is rfl hi2 ?_ | refine call_eq rfl h2 ?_ | refine ify ?_ | refine ifn ?_ | refine i6 ?_ | refine ati ?_ | refine mst ?_ | refine rmd ?_ | refine ibo (fun _ => ?_) (fun _ => ?_)) <;> conv => whnf)); (all_goals (repeat' (first | exact trivial | exact rfl | refine And.intro ?_ ?_)))) ?_ | refine at_da hxd rfl ?_ | refine call_eq rfl h1 ?_ | refine hi_is rfl hi2 ?_ | refine call_eq rfl h2 ?_ | refine ify ?_ | refine ifn ?_ | refine i6 ?_ | refine ati ?_ | refine mst ?_ | refine rmd ?_ | refine ibo (fun _ => ?_) (fun _ => ?_)) <;> conv => whnf))
          exact ⟨i + 1, _, _, ⟨hlt, hstep hyes⟩, .refl _ _, ⟨rfl, rfl, rfl, trivial⟩, ⟨rfl, trivial⟩, by omega⟩
        · by_cases hb : (l.take i).any (besP G.edges y) = true
          · have hyes : linkAt G l i y = true := by simp only [linkAt, hv, hb, decide_eq_false hc]; simp
            rw [hb] at h3
            (conv => whnf)
            (repeat' ((first | refine ord_ok (by (conv => whnf); (repeat' ((first | refine at_da hxd rfl ?_ | refine call_eq rfl h1 ?_ | refine hi_is rfl hi2 ?_ | refine call_eq rfl h2 ?_ | refine call_eq rfl h3 ?_ | refine ify ?_ | refine ifn ?_ | refine i6 ?_ | refine ati ?_ | refine mst ?_ | refine rmd ?_ | refine ibo (fun _ => ?_) (fun _ => ?_)) <;> conv => whnf)); (all_goals (repeat' (first | exact trivial | exact rfl | refine And.intro ?_ ?_)))) ?_ | refine at_da hxd rfl ?_ | refine call_eq rfl h1 ?_ | refine hi_is rfl hi2 ?_ | refine call_eq rfl h2 ?_ | refine call_eq rfl h3 ?_ | refine ify ?_ | refine ifn ?_ | refine i6 ?_ | refine ati ?_ | refine mst ?_ | refine rmd ?_ | refine ibo (fun _ => ?_) (fun _ => ?_)) <;> conv => whnf))
            exact ⟨i + 1, _, _, ⟨hlt, hstep hyes⟩, .refl _ _, ⟨rfl, rfl, rfl, trivial⟩, ⟨rfl, trivial⟩, by omega⟩
          · have hno : linkAt G l i y = false := by simp only [linkAt, hv, Bool.eq_false_iff.2 hb, decide_eq_false h0]; simp
            rw [linkedV_no hx hno]
            rw [Bool.eq_false_iff.2 hb] at h3
            (conv => whnf)
            (repeat' ((first | refine ord_ok (by (conv => whnf); (repeat' ((first | refine at_da hxd rfl ?_ | refine call_eq rfl h1 ?_ | refine hi_is rfl hi2 ?_ | refine call_eq rfl h2 ?_ | refine call_eq rfl h3 ?_ | refine ify ?_ | refine ifn ?_ | refine i6 ?_ | refine ati ?_ | refine mst ?_ | refine rmd ?_ | refine ibo (fun _ => ?_) (fun _ => ?_)) <;> conv => whnf)); (all_goals (repeat' (first | exact trivial | exact rfl | refine And.intro ?_ ?_)))) ?_ | refine at_da hxd rfl ?_ | refine call_eq rfl h1 ?_ | refine hi_is rfl hi2 ?_ | refine call_eq rfl h2 ?_ | refine call_eq rfl h3 ?_ | refine ify ?_ | refine ifn ?_ | refine i6 ?_ | refine ati ?_ | refine mst ?_ | refine rmd ?_ | refine ibo (fun _ => ?_) (fun _ => ?_)) <;> conv => whnf))
            exact rfl
  · rw [linkedV_yes (fun j v h => hne j v (by have := (List.getElem?_eq_some_iff.1 h).1; omega) h)]
    ((conv => whnf); repeat' ((first | refine odw ?_ | refine ify ?_ | refine ifn ?_ | refine i6 ?_ | refine ati ?_ | refine mst ?_ | refine rmd ?_ | refine ibo (fun _ => ?_) (fun _ => ?_)) <;> conv => whnf))
    exact rfl
end Go.Proofs.YthegabgbakckfaaGreatDoor
end

section
/- law12: QuickTells: the walk. -/
namespace Go.Proofs.YthegabgbakckfaaGreatDoor
open Go.Sx Go.RowKit Go.Reg Go.Gr

set_option maxRecDepth 100000
def pl_qlt : List (Nat × Plan) := [(7, .leaf [0, 0, 0, 1, 1, 0, 2, 2, 0, 0] [0, 1, 2, 5, 3, 4, 6, 7, 8, 9] [0, 1, 3, 7, 7, 7, 55, 127, 255, 511]),
  (21, .leaf [0, 0, 0, 0, 0, 2, 0, 0, 1, 1, 0, 0, 2, 2, 0, 0] [0, 1, 2, 3, 4, 5, 6, 7, 10, 11, 8, 9, 12, 13, 14, 15] [0, 1, 3, 7, 7, 31, 63, 127, 255, 255, 255, 255, 3839, 8191, 16383, 32767])]
def G_qlt : List FuncId := [14, 29, 30, 31, 32, 33, 34, 35, 36, 37, 19]
theorem cok_qlt : codeOk Tryz.prog G_qlt pl_qlt (Tryz.f5.body.getD .skip) = true := by kernel_rfl
theorem run_qlt (vs : Array Value) (w : World) : (callFunc 5 vs).run C1.P w = .ok (.enter 5 vs) w := by kernel_rfl
set_option maxHeartbeats 8000000 in
theorem qltells_pure (labels : List Int) (edges : List Edg) (l : List Int) : Sx.Pure C3 5 [dIs labels, dEs edges, dIs l] (fun y => y = .bool true) := by
  have hdl : (l.map dI).length = l.length := List.length_map _
  have hal := qalive_pure
  have hmd := Pure.up3 (made_pure labels edges)
  refine pure_of c3_ok (pl := pl_qlt) (G := G_qlt) Tryz.func5 rfl Tryz.ntmps5 run_qlt cok_qlt (by simp) ?_
  rcases made_case labels edges with e | ⟨G, e, hG, hn, hm, hGe, _, hlen⟩
  · rw [e] at hmd
    (conv => whnf)
    (repeat' ((first | refine ord_ok (by (conv => whnf); (repeat' ((first | refine call_eq rfl hal ?_ | refine call_eq rfl hmd ?_ | refine ify ?_ | refine ifn ?_ | refine i6 ?_ | refine ati ?_ | refine mst ?_ | refine rmd ?_ | refine ibo (fun _ => ?_) (fun _ => ?_)) <;> conv => whnf)); (all_goals (repeat' (first | exact trivial | exact rfl | refine And.intro ?_ ?_)))) ?_ | refine call_eq rfl hal ?_ | refine call_eq rfl hmd ?_ | refine ify ?_ | refine ifn ?_ | refine i6 ?_ | refine ati ?_ | refine mst ?_ | refine rmd ?_ | refine ibo (fun _ => ?_) (fun _ => ?_)) <;> conv => whnf))
    exact rfl
  rw [e] at hmd
  by_cases h20 : 20 < l.length
  · (conv => whnf)
    (repeat' ((first | refine ord_ok (by (conv => whnf); (repeat' ((first | refine call_eq rfl hal ?_ | refine call_eq rfl hmd ?_ | refine ify ?_ | refine ifn ?_ | refine i6 ?_ | refine ati ?_ | refine mst ?_ | refine rmd ?_ | refine ibo (fun _ => ?_) (fun _ => ?_)) <;> conv => whnf)); (all_goals (repeat' (first | exact trivial | exact rfl | refine And.intro ?_ ?_)))) ?_ | refine call_eq rfl hal ?_ | refine call_eq rfl hmd ?_ | refine ify ?_ | refine ifn ?_ | refine i6 ?_ | refine ati ?_ | refine mst ?_ | refine rmd ?_ | refine ibo (fun _ => ?_) (fun _ => ?_)) <;> conv => whnf))
    exact rfl
  have hvt := Pure.up3 (qvertG_pure G hG l (by omega))
  have he := Pure.up3 (qedge_pure G hG l (by omega))
  have hc6 := Pure.up3 (code_pure 6 0 listS)
  have hc2 := Pure.up3 (code_pure 2 0 listS)
  have hr := Pure.up3 (r10linked_pure G l)
  have hof := Pure.up3 (rof_pure G.labels G.edges (by omega))
  have hrl := Pure.up3 (r10linked_pure (lnGr G) l)
  have hvr := Pure.up3 (rverts_pure G.labels G.edges l (by omega))
  have hvl := vertsOf_len (endsOf G.edges l)
  have hel := endsOf_len G.edges l
  have hdv : ((vertsOf (endsOf G.edges l)).map dI).length = (vertsOf (endsOf G.edges l)).length := List.length_map _
  unfold edgeQ at he

  by_cases h8 : 8 < l.length
  · rw [if_pos h8] at hvt
    cases hk : linkedV (lnGr G) l with
    | false =>
      rw [hk] at he hrl
      rw [if_pos rfl] at he
      (conv => whnf)
      (repeat' ((first | refine ord_ok (by (conv => whnf); (repeat' ((first | refine call_eq rfl hal ?_ | refine call_eq rfl hmd ?_ | refine call_eq rfl hvt ?_ | refine call_eq rfl hc6 ?_ | refine call_eq rfl hc2 ?_ | refine call_eq rfl hr ?_ | refine call_eq rfl hw ?_ | refine call_eq rfl hs ?_ | refine call_eq rfl he ?_ | refine call_eq rfl hof ?_ | refine call_eq rfl hrl ?_ | refine call_eq rfl hvr ?_ | refine call_eq rfl hsm ?_ | refine call_eq rfl hall ?_ | refine call_eq rfl hs2 ?_ | refine ify ?_ | refine ifn ?_ | refine i6 ?_ | refine ati ?_ | refine mst ?_ | refine rmd ?_ | refine ibo (fun _ => ?_) (fun _ => ?_)) <;> conv => whnf)); (all_goals (repeat' (first | exact trivial | exact rfl | refine And.intro ?_ ?_)))) ?_ | refine call_eq rfl hal ?_ | refine call_eq rfl hmd ?_ | refine call_eq rfl hvt ?_ | refine call_eq rfl hc6 ?_ | refine call_eq rfl hc2 ?_ | refine call_eq rfl hr ?_ | refine call_eq rfl hw ?_ | refine call_eq rfl hs ?_ | refine call_eq rfl he ?_ | refine call_eq rfl hof ?_ | refine call_eq rfl hrl ?_ | refine call_eq rfl hvr ?_ | refine call_eq rfl hsm ?_ | refine call_eq rfl hall ?_ | refine call_eq rfl hs2 ?_ | refine ify ?_ | refine ifn ?_ | refine i6 ?_ | refine ati ?_ | refine mst ?_ | refine rmd ?_ | refine ibo (fun _ => ?_) (fun _ => ?_)) <;> conv => whnf))
      exact rfl
    | true =>
      have hkr := link_range hk
      rw [hk] at he hrl
      rw [if_neg (by decide)] at he
      by_cases hv8 : 8 < (vertsOf (endsOf G.edges l)).length
      · rw [if_pos hv8] at he
        (conv => whnf)
        (repeat' ((first | refine ord_ok (by (conv => whnf); (repeat' ((first | refine call_eq rfl hal ?_ | refine call_eq rfl hmd ?_ | refine call_eq rfl hvt ?_ | refine call_eq rfl hc6 ?_ | refine call_eq rfl hc2 ?_ | refine call_eq rfl hr ?_ | refine call_eq rfl hw ?_ | refine call_eq rfl hs ?_ | refine call_eq rfl he ?_ | refine call_eq rfl hof ?_ | refine call_eq rfl hrl ?_ | refine call_eq rfl hvr ?_ | refine call_eq rfl hsm ?_ | refine call_eq rfl hall ?_ | refine call_eq rfl hs2 ?_ | refine ify ?_ | refine ifn ?_ | refine i6 ?_ | refine ati ?_ | refine mst ?_ | refine rmd ?_ | refine ibo (fun _ => ?_) (fun _ => ?_)) <;> conv => whnf)); (all_goals (repeat' (first | exact trivial | exact rfl | refine And.intro ?_ ?_)))) ?_ | refine call_eq rfl hal ?_ | refine call_eq rfl hmd ?_ | refine call_eq rfl hvt ?_ | refine call_eq rfl hc6 ?_ | refine call_eq rfl hc2 ?_ | refine call_eq rfl hr ?_ | refine call_eq rfl hw ?_ | refine call_eq rfl hs ?_ | refine call_eq rfl he ?_ | refine call_eq rfl hof ?_ | refine call_eq rfl hrl ?_ | refine call_eq rfl hvr ?_ | refine call_eq rfl hsm ?_ | refine call_eq rfl hall ?_ | refine call_eq rfl hs2 ?_ | refine ify ?_ | refine ifn ?_ | refine i6 ?_ | refine ati ?_ | refine mst ?_ | refine rmd ?_ | refine ibo (fun _ => ?_) (fun _ => ?_)) <;> conv => whnf))
        exact rfl
      · rw [if_neg hv8] at he
        have hVr : ∀ x ∈ vertsOf (endsOf G.edges l), 0 ≤ x ∧ x < G.labels.length := fun x hx => by
          obtain ⟨e, he, h⟩ := ((vertsOf_spec (endsOf G.edges l)).2 x).1 hx
          obtain ⟨g1, g2, g3⟩ := hG.edge e (ends_mem e he)
          rcases h with rfl | rfl <;> omega
        have hsm := Pure.up3 (same_pure (vertsOf (endsOf G.edges l)) (vertsOf (endsOf G.edges l)))
        rw [decide_eq_true rfl] at hsm
        have hall := Pure.up3 (alone_pure G (vertsOf (endsOf G.edges l)) l (by omega) (by omega) (by omega) hVr (fun x hx => by have := hkr x hx; unfold lnGr at this; simp only [List.length_replicate] at this; exact this))
        have hml := rowsF_len (pairF (endsOf G.edges l) (vertsOf (endsOf G.edges l))) (vertsOf (endsOf G.edges l)).length (vertsOf (endsOf G.edges l)).length
        have hm8 : (vertsOf (endsOf G.edges l)).length * (vertsOf (endsOf G.edges l)).length ≤ 8 * 8 := Nat.mul_le_mul (by omega) (by omega)
        have hs2 := Pure.up3 (same8_pure (edgeP G l) (by unfold edgeP madeE; simp only; omega))
        (conv => whnf)
        (repeat' ((first | refine ord_ok (by (conv => whnf); (repeat' ((first | refine call_eq rfl hal ?_ | refine call_eq rfl hmd ?_ | refine call_eq rfl hvt ?_ | refine call_eq rfl hc6 ?_ | refine call_eq rfl hc2 ?_ | refine call_eq rfl hr ?_ | refine call_eq rfl hw ?_ | refine call_eq rfl hs ?_ | refine call_eq rfl he ?_ | refine call_eq rfl hof ?_ | refine call_eq rfl hrl ?_ | refine call_eq rfl hvr ?_ | refine call_eq rfl hsm ?_ | refine call_eq rfl hall ?_ | refine call_eq rfl hs2 ?_ | refine ify ?_ | refine ifn ?_ | refine i6 ?_ | refine ati ?_ | refine mst ?_ | refine rmd ?_ | refine ibo (fun _ => ?_) (fun _ => ?_)) <;> conv => whnf)); (all_goals (repeat' (first | exact trivial | exact rfl | refine And.intro ?_ ?_)))) ?_ | refine call_eq rfl hal ?_ | refine call_eq rfl hmd ?_ | refine call_eq rfl hvt ?_ | refine call_eq rfl hc6 ?_ | refine call_eq rfl hc2 ?_ | refine call_eq rfl hr ?_ | refine call_eq rfl hw ?_ | refine call_eq rfl hs ?_ | refine call_eq rfl he ?_ | refine call_eq rfl hof ?_ | refine call_eq rfl hrl ?_ | refine call_eq rfl hvr ?_ | refine call_eq rfl hsm ?_ | refine call_eq rfl hall ?_ | refine call_eq rfl hs2 ?_ | refine ify ?_ | refine ifn ?_ | refine i6 ?_ | refine ati ?_ | refine mst ?_ | refine rmd ?_ | refine ibo (fun _ => ?_) (fun _ => ?_)) <;> conv => whnf))
        exact rfl
  · rw [if_neg h8] at hvt
    cases hl : linkedV G l with
    | false =>
      rw [hl] at hvt hr
      rw [if_pos rfl] at hvt
      cases hk : linkedV (lnGr G) l with
      | false =>
        rw [hk] at he hrl
        rw [if_pos rfl] at he
        (conv => whnf)
        (repeat' ((first | refine ord_ok (by (conv => whnf); (repeat' ((first | refine call_eq rfl hal ?_ | refine call_eq rfl hmd ?_ | refine call_eq rfl hvt ?_ | refine call_eq rfl hc6 ?_ | refine call_eq rfl hc2 ?_ | refine call_eq rfl hr ?_ | refine call_eq rfl hw ?_ | refine call_eq rfl hs ?_ | refine call_eq rfl he ?_ | refine call_eq rfl hof ?_ | refine call_eq rfl hrl ?_ | refine call_eq rfl hvr ?_ | refine call_eq rfl hsm ?_ | refine call_eq rfl hall ?_ | refine call_eq rfl hs2 ?_ | refine ify ?_ | refine ifn ?_ | refine i6 ?_ | refine ati ?_ | refine mst ?_ | refine rmd ?_ | refine ibo (fun _ => ?_) (fun _ => ?_)) <;> conv => whnf)); (all_goals (repeat' (first | exact trivial | exact rfl | refine And.intro ?_ ?_)))) ?_ | refine call_eq rfl hal ?_ | refine call_eq rfl hmd ?_ | refine call_eq rfl hvt ?_ | refine call_eq rfl hc6 ?_ | refine call_eq rfl hc2 ?_ | refine call_eq rfl hr ?_ | refine call_eq rfl hw ?_ | refine call_eq rfl hs ?_ | refine call_eq rfl he ?_ | refine call_eq rfl hof ?_ | refine call_eq rfl hrl ?_ | refine call_eq rfl hvr ?_ | refine call_eq rfl hsm ?_ | refine call_eq rfl hall ?_ | refine call_eq rfl hs2 ?_ | refine ify ?_ | refine ifn ?_ | refine i6 ?_ | refine ati ?_ | refine mst ?_ | refine rmd ?_ | refine ibo (fun _ => ?_) (fun _ => ?_)) <;> conv => whnf))
        exact rfl
      | true =>
        have hkr := link_range hk
        rw [hk] at he hrl
        rw [if_neg (by decide)] at he
        by_cases hv8 : 8 < (vertsOf (endsOf G.edges l)).length
        · rw [if_pos hv8] at he
          (conv => whnf)
          (repeat' ((first | refine ord_ok (by (conv => whnf); (repeat' ((first | refine call_eq rfl hal ?_ | refine call_eq rfl hmd ?_ | refine call_eq rfl hvt ?_ | refine call_eq rfl hc6 ?_ | refine call_eq rfl hc2 ?_ | refine call_eq rfl hr ?_ | refine call_eq rfl hw ?_ | refine call_eq rfl hs ?_ | refine call_eq rfl he ?_ | refine call_eq rfl hof ?_ | refine call_eq rfl hrl ?_ | refine call_eq rfl hvr ?_ | refine call_eq rfl hsm ?_ | refine call_eq rfl hall ?_ | refine call_eq rfl hs2 ?_ | refine ify ?_ | refine ifn ?_ | refine i6 ?_ | refine ati ?_ | refine mst ?_ | refine rmd ?_ | refine ibo (fun _ => ?_) (fun _ => ?_)) <;> conv => whnf)); (all_goals (repeat' (first | exact trivial | exact rfl | refine And.intro ?_ ?_)))) ?_ | refine call_eq rfl hal ?_ | refine call_eq rfl hmd ?_ | refine call_eq rfl hvt ?_ | refine call_eq rfl hc6 ?_ | refine call_eq rfl hc2 ?_ | refine call_eq rfl hr ?_ | refine call_eq rfl hw ?_ | refine call_eq rfl hs ?_ | refine call_eq rfl he ?_ | refine call_eq rfl hof ?_ | refine call_eq rfl hrl ?_ | refine call_eq rfl hvr ?_ | refine call_eq rfl hsm ?_ | refine call_eq rfl hall ?_ | refine call_eq rfl hs2 ?_ | refine ify ?_ | refine ifn ?_ | refine i6 ?_ | refine ati ?_ | refine mst ?_ | refine rmd ?_ | refine ibo (fun _ => ?_) (fun _ => ?_)) <;> conv => whnf))
          exact rfl
        · rw [if_neg hv8] at he
          have hVr : ∀ x ∈ vertsOf (endsOf G.edges l), 0 ≤ x ∧ x < G.labels.length := fun x hx => by
            obtain ⟨e, he, h⟩ := ((vertsOf_spec (endsOf G.edges l)).2 x).1 hx
            obtain ⟨g1, g2, g3⟩ := hG.edge e (ends_mem e he)
            rcases h with rfl | rfl <;> omega
          have hsm := Pure.up3 (same_pure (vertsOf (endsOf G.edges l)) (vertsOf (endsOf G.edges l)))
          rw [decide_eq_true rfl] at hsm
          have hall := Pure.up3 (alone_pure G (vertsOf (endsOf G.edges l)) l (by omega) (by omega) (by omega) hVr (fun x hx => by have := hkr x hx; unfold lnGr at this; simp only [List.length_replicate] at this; exact this))
          have hml := rowsF_len (pairF (endsOf G.edges l) (vertsOf (endsOf G.edges l))) (vertsOf (endsOf G.edges l)).length (vertsOf (endsOf G.edges l)).length
          have hm8 : (vertsOf (endsOf G.edges l)).length * (vertsOf (endsOf G.edges l)).length ≤ 8 * 8 := Nat.mul_le_mul (by omega) (by omega)
          have hs2 := Pure.up3 (same8_pure (edgeP G l) (by unfold edgeP madeE; simp only; omega))
          (conv => whnf)
          (repeat' ((first | refine ord_ok (by (conv => whnf); (repeat' ((first | refine call_eq rfl hal ?_ | refine call_eq rfl hmd ?_ | refine call_eq rfl hvt ?_ | refine call_eq rfl hc6 ?_ | refine call_eq rfl hc2 ?_ | refine call_eq rfl hr ?_ | refine call_eq rfl hw ?_ | refine call_eq rfl hs ?_ | refine call_eq rfl he ?_ | refine call_eq rfl hof ?_ | refine call_eq rfl hrl ?_ | refine call_eq rfl hvr ?_ | refine call_eq rfl hsm ?_ | refine call_eq rfl hall ?_ | refine call_eq rfl hs2 ?_ | refine ify ?_ | refine ifn ?_ | refine i6 ?_ | refine ati ?_ | refine mst ?_ | refine rmd ?_ | refine ibo (fun _ => ?_) (fun _ => ?_)) <;> conv => whnf)); (all_goals (repeat' (first | exact trivial | exact rfl | refine And.intro ?_ ?_)))) ?_ | refine call_eq rfl hal ?_ | refine call_eq rfl hmd ?_ | refine call_eq rfl hvt ?_ | refine call_eq rfl hc6 ?_ | refine call_eq rfl hc2 ?_ | refine call_eq rfl hr ?_ | refine call_eq rfl hw ?_ | refine call_eq rfl hs ?_ | refine call_eq rfl he ?_ | refine call_eq rfl hof ?_ | refine call_eq rfl hrl ?_ | refine call_eq rfl hvr ?_ | refine call_eq rfl hsm ?_ | refine call_eq rfl hall ?_ | refine call_eq rfl hs2 ?_ | refine ify ?_ | refine ifn ?_ | refine i6 ?_ | refine ati ?_ | refine mst ?_ | refine rmd ?_ | refine ibo (fun _ => ?_) (fun _ => ?_)) <;> conv => whnf))
          exact rfl
    | true =>
      have hw := Pure.up3 (whole_pure G l (by omega) (by omega) (link_range hl))
      rw [hl] at hvt hr
      rw [if_neg (by decide)] at hvt
      have hml0 := rowsF_len (pairF G.edges l) l.length l.length
      have hm80 : l.length * l.length ≤ 8 * 8 := Nat.mul_le_mul (by omega) (by omega)
      have hs := Pure.up3 (same8_pure (vertP G l) (by unfold vertP madeE; simp only; omega))
      cases hk : linkedV (lnGr G) l with
      | false =>
        rw [hk] at he hrl
        rw [if_pos rfl] at he
        (conv => whnf)
        (repeat' ((first | refine ord_ok (by (conv => whnf); (repeat' ((first | refine call_eq rfl hal ?_ | refine call_eq rfl hmd ?_ | refine call_eq rfl hvt ?_ | refine call_eq rfl hc6 ?_ | refine call_eq rfl hc2 ?_ | refine call_eq rfl hr ?_ | refine call_eq rfl hw ?_ | refine call_eq rfl hs ?_ | refine call_eq rfl he ?_ | refine call_eq rfl hof ?_ | refine call_eq rfl hrl ?_ | refine call_eq rfl hvr ?_ | refine call_eq rfl hsm ?_ | refine call_eq rfl hall ?_ | refine call_eq rfl hs2 ?_ | refine ify ?_ | refine ifn ?_ | refine i6 ?_ | refine ati ?_ | refine mst ?_ | refine rmd ?_ | refine ibo (fun _ => ?_) (fun _ => ?_)) <;> conv => whnf)); (all_goals (repeat' (first | exact trivial | exact rfl | refine And.intro ?_ ?_)))) ?_ | refine call_eq rfl hal ?_ | refine call_eq rfl hmd ?_ | refine call_eq rfl hvt ?_ | refine call_eq rfl hc6 ?_ | refine call_eq rfl hc2 ?_ | refine call_eq rfl hr ?_ | refine call_eq rfl hw ?_ | refine call_eq rfl hs ?_ | refine call_eq rfl he ?_ | refine call_eq rfl hof ?_ | refine call_eq rfl hrl ?_ | refine call_eq rfl hvr ?_ | refine call_eq rfl hsm ?_ | refine call_eq rfl hall ?_ | refine call_eq rfl hs2 ?_ | refine ify ?_ | refine ifn ?_ | refine i6 ?_ | refine ati ?_ | refine mst ?_ | refine rmd ?_ | refine ibo (fun _ => ?_) (fun _ => ?_)) <;> conv => whnf))
        exact rfl
      | true =>
        have hkr := link_range hk
        rw [hk] at he hrl
        rw [if_neg (by decide)] at he
        by_cases hv8 : 8 < (vertsOf (endsOf G.edges l)).length
        · rw [if_pos hv8] at he
          (conv => whnf)
          (repeat' ((first | refine ord_ok (by (conv => whnf); (repeat' ((first | refine call_eq rfl hal ?_ | refine call_eq rfl hmd ?_ | refine call_eq rfl hvt ?_ | refine call_eq rfl hc6 ?_ | refine call_eq rfl hc2 ?_ | refine call_eq rfl hr ?_ | refine call_eq rfl hw ?_ | refine call_eq rfl hs ?_ | refine call_eq rfl he ?_ | refine call_eq rfl hof ?_ | refine call_eq rfl hrl ?_ | refine call_eq rfl hvr ?_ | refine call_eq rfl hsm ?_ | refine call_eq rfl hall ?_ | refine call_eq rfl hs2 ?_ | refine ify ?_ | refine ifn ?_ | refine i6 ?_ | refine ati ?_ | refine mst ?_ | refine rmd ?_ | refine ibo (fun _ => ?_) (fun _ => ?_)) <;> conv => whnf)); (all_goals (repeat' (first | exact trivial | exact rfl | refine And.intro ?_ ?_)))) ?_ | refine call_eq rfl hal ?_ | refine call_eq rfl hmd ?_ | refine call_eq rfl hvt ?_ | refine call_eq rfl hc6 ?_ | refine call_eq rfl hc2 ?_ | refine call_eq rfl hr ?_ | refine call_eq rfl hw ?_ | refine call_eq rfl hs ?_ | refine call_eq rfl he ?_ | refine call_eq rfl hof ?_ | refine call_eq rfl hrl ?_ | refine call_eq rfl hvr ?_ | refine call_eq rfl hsm ?_ | refine call_eq rfl hall ?_ | refine call_eq rfl hs2 ?_ | refine ify ?_ | refine ifn ?_ | refine i6 ?_ | refine ati ?_ | refine mst ?_ | refine rmd ?_ | refine ibo (fun _ => ?_) (fun _ => ?_)) <;> conv => whnf))
          exact rfl
        · rw [if_neg hv8] at he
          have hVr : ∀ x ∈ vertsOf (endsOf G.edges l), 0 ≤ x ∧ x < G.labels.length := fun x hx => by
            obtain ⟨e, he, h⟩ := ((vertsOf_spec (endsOf G.edges l)).2 x).1 hx
            obtain ⟨g1, g2, g3⟩ := hG.edge e (ends_mem e he)
            rcases h with rfl | rfl <;> omega
          have hsm := Pure.up3 (same_pure (vertsOf (endsOf G.edges l)) (vertsOf (endsOf G.edges l)))
          rw [decide_eq_true rfl] at hsm
          have hall := Pure.up3 (alone_pure G (vertsOf (endsOf G.edges l)) l (by omega) (by omega) (by omega) hVr (fun x hx => by have := hkr x hx; unfold lnGr at this; simp only [List.length_replicate] at this; exact this))
          have hml := rowsF_len (pairF (endsOf G.edges l) (vertsOf (endsOf G.edges l))) (vertsOf (endsOf G.edges l)).length (vertsOf (endsOf G.edges l)).length
          have hm8 : (vertsOf (endsOf G.edges l)).length * (vertsOf (endsOf G.edges l)).length ≤ 8 * 8 := Nat.mul_le_mul (by omega) (by omega)
          have hs2 := Pure.up3 (same8_pure (edgeP G l) (by unfold edgeP madeE; simp only; omega))
          (conv => whnf)
          (repeat' ((first | refine ord_ok (by (conv => whnf); (repeat' ((first | refine call_eq rfl hal ?_ | refine call_eq rfl hmd ?_ | refine call_eq rfl hvt ?_ | refine call_eq rfl hc6 ?_ | refine call_eq rfl hc2 ?_ | refine call_eq rfl hr ?_ | refine call_eq rfl hw ?_ | refine call_eq rfl hs ?_ | refine call_eq rfl he ?_ | refine call_eq rfl hof ?_ | refine call_eq rfl hrl ?_ | refine call_eq rfl hvr ?_ | refine call_eq rfl hsm ?_ | refine call_eq rfl hall ?_ | refine call_eq rfl hs2 ?_ | refine ify ?_ | refine ifn ?_ | refine i6 ?_ | refine ati ?_ | refine mst ?_ | refine rmd ?_ | refine ibo (fun _ => ?_) (fun _ => ?_)) <;> conv => whnf)); (all_goals (repeat' (first | exact trivial | exact rfl | refine And.intro ?_ ?_)))) ?_ | refine call_eq rfl hal ?_ | refine call_eq rfl hmd ?_ | refine call_eq rfl hvt ?_ | refine call_eq rfl hc6 ?_ | refine call_eq rfl hc2 ?_ | refine call_eq rfl hr ?_ | refine call_eq rfl hw ?_ | refine call_eq rfl hs ?_ | refine call_eq rfl he ?_ | refine call_eq rfl hof ?_ | refine call_eq rfl hrl ?_ | refine call_eq rfl hvr ?_ | refine call_eq rfl hsm ?_ | refine call_eq rfl hall ?_ | refine call_eq rfl hs2 ?_ | refine ify ?_ | refine ifn ?_ | refine i6 ?_ | refine ati ?_ | refine mst ?_ | refine rmd ?_ | refine ibo (fun _ => ?_) (fun _ => ?_)) <;> conv => whnf))
          exact rfl
end Go.Proofs.YthegabgbakckfaaGreatDoor
end

section
/- fretworklaw12.QuickTells returns true and leaves its input as it was, whatever the input. Provided that the listed variables hold what the text lays in them (the row lists them). The walk: qltells_pure. -/
namespace Go.Proofs.YthegabgbakckfaaGreatDoor
open Go.ChangeShapes Go.WideShapes Go.ChangeAt Go.RowKit Go.Reg Go.Gr Go.ChangeMaps

set_option maxRecDepth 100000 in
theorem contractQuickTells (H : Type) (enc : TypeId × Value → H) (W : World) (base : Nat) (args : Array Value) (ds gs : List (DataW H)) (before : List MemPlace)
    (hval : ∀ (j : Nat) t v, Tryz.f5.params[j]? = some t → args[j]? = some v → Value.okWide Tryz.prog W .any base t v)
    (hW : DataW.Whole enc Tryz.prog Tryz.f5.params.toList Rows.quickTellsSpec.vars false W args.toList ds gs before) (hsz0 : (DataW.weightsEach Tryz.prog (Tryz.f5.params.toList ++ (OpenSpec.ofChange Rows.quickTellsSpec).bare.plain.varTypes Tryz.prog) (ds ++ gs)).all (· ≤ reachBytes) = true) (hL : laidMetH Tryz.prog Rows.quickTellsRow.laid W) (hsh : W.ShapedOpen Tryz.prog) :
    Calls Tryz.prog 5 args W fun e W' => ∃ v, e = .returned v ∧ Rows.quickTellsSpec.post enc Tryz.prog Tryz.f5 false true false false W args v W' := by
  have hsz := hsz0
  clear hsz0
  have hW' := hW
  obtain ⟨p, q, hA0, hV, rfl, hfz, hnd⟩ := hW
  have hA : DataW.TrodAll enc Tryz.prog W 0 (fun _ => true) true Tryz.f5.params.toList args.toList ds p := hA0
  rw [Tryz.params5] at hA hval hsz
  obtain ⟨v0, v1, v2, d0, d1, d2, p0, p1, p2, rfl, rfl, rfl, h0, h1, h2⟩ := trodAll_three hA
  obtain ⟨rfl, rfl⟩ := trodVars_none hV
  have c0 := Sx.cap_of Tryz.underlying22 (hval 0 _ _ rfl rfl) h0
  obtain ⟨x0, a0, _⟩ := argSl_of (enc := eI.enc) (fun _ => True) Tryz.underlying22 (k := 1) (by kernel_rfl) (by decide) (fun _ => rfl) int_el (hval 0 _ _ rfl rfl) h0
  have c1 := Sx.cap_of Tryz.underlying23 (hval 1 _ _ rfl rfl) h1
  obtain ⟨x1, a1, _⟩ := argSl_of (enc := eE.enc) (fun _ => True) Tryz.underlying23 (k := 2) (by kernel_rfl) (by decide) (fun _ => rfl) edge_el (hval 1 _ _ rfl rfl) h1
  have c2 := Sx.cap_of Tryz.underlying22 (hval 2 _ _ rfl rfl) h2
  obtain ⟨x2, a2, _⟩ := argSl_of (enc := eI.enc) (fun _ => True) Tryz.underlying22 (k := 1) (by kernel_rfl) (by decide) (fun _ => rfl) int_el (hval 2 _ _ rfl rfl) h2
  have hg := globs_of (show laidMetH Tryz.prog laidAll W from hL)
  have l0 : ∀ x ∈ p0, x.block < W.heap.size := fun x hx => by have := hW'.lt x (by simp [hx]); simpa using this
  have l1 : ∀ x ∈ p1, x.block < W.heap.size := fun x hx => by have := hW'.lt x (by simp [hx]); simpa using this
  have l2 : ∀ x ∈ p2, x.block < W.heap.size := fun x hx => by have := hW'.lt x (by simp [hx]); simpa using this
  refine ((qltells_pure x0 x1 x2).calls hg (Sx.reps_cons (eI.rep_arg (by decide) a0 c0) (Sx.reps_cons (eE.rep_arg (by decide) a1 c1) (Sx.reps_cons (eI.rep_arg (by decide) a2 c2) Sx.reps_nil)))).mono fun e W' ⟨u, y, he, hy, hr, ht⟩ => ?_
  subst hy
  obtain rfl := rep_bool hr
  subst he
  refine ⟨_, rfl, _, _, _, [], p0 ++ (p1 ++ p2), [], hW', ?_, ?_, ?_, ?_, fun h => by cases h⟩
  · exact trodAll_mk1 (shut_bool Tryz.underlying4 true)
  · exact trodAll_mk3 (Below.trod laidOut (by kernel_rfl) (of_decide_eq_true (by kernel_rfl)) h0 ht.below l0) (Below.trod laidOut (by kernel_rfl) (of_decide_eq_true (by kernel_rfl)) h1 ht.below l1) (Below.trod laidOut (by kernel_rfl) (of_decide_eq_true (by kernel_rfl)) h2 ht.below l2)
  · rfl
  · refine ⟨ht.os, ht.output, fun i hi => ?_⟩
    rw [ht.blk i hi (by simp)]
    have hsome : ∃ o, W.heap[i]? = some o := ⟨_, Array.getElem?_eq_getElem hi⟩
    obtain ⟨o, ho⟩ := hsome
    rw [ho]
    cases o <;> simp

theorem readsQuickTells (os : Os) {H : Type} (enc : TypeId × Value → H) : ∃ places, DataW.whole enc Tryz.prog ((laidWorld os).forCall (fun _ _ => 0) ⟨#[], #[.slice none 0 0, .slice none 0 0, .slice none 0 0], []⟩).memory Tryz.f5.params.toList Rows.quickTellsSpec.vars false #[.slice none 0 0, .slice none 0 0, .slice none 0 0].toList 8 = some ([.nil, .nil, .nil], [], places) :=
  ⟨[], by kernel_rfl⟩

set_option maxRecDepth 100000 in
theorem liftedQuickTells (os : Os) (started : os.Started) (H : Type) (enc : TypeId × Value → H) (F : Stop.Interp) :
    ReturnsInHanded {} Tryz.checked os 5 .any ((OpenSpec.ofChange Rows.quickTellsSpec).preRow enc Tryz.prog Tryz.f5 Rows.quickTellsRow.domain false Rows.quickTellsRow.laid) (((OpenSpec.ofChange Rows.quickTellsSpec).at F).post enc Tryz.prog Tryz.f5 false true false false) := by
  obtain ⟨places, hx⟩ := readsQuickTells os enc
  refine returnsInHanded_of_row (C := Tryz.checked) (s := OpenSpec.ofChange Rows.quickTellsSpec) own started (by kernel_rfl) Tryz.func5
    (witness_row_at (enc := enc) (C := Tryz.checked) false (laidWorld os) #[.slice none 0 0, .slice none 0 0, .slice none 0 0] rfl (by kernel_rfl) (by kernel_rfl) (by kernel_rfl)
      (OpenSpec.preRow_of_cond 8 hx (by kernel_rfl) (fun k hk => by cases hk) (by kernel_rfl) (laidWorld_met os _))) ?_
  intro W base args ds gs before hval hW _ _ hsz hL hsh _
  exact contractQuickTells H enc W base args ds gs before hval hW hsz hL hsh

theorem saidQuickTells : Rows.QuickTellsSaid :=
  OpenClaim.holds_of_cond 5 Tryz.f5 rfl rfl rfl rfl rfl rfl rfl ⟨rfl, rfl, rfl, rfl, rfl⟩ rfl rfl rfl rfl rfl (by kernel_rfl) Tryz.func5 (by kernel_rfl)
    (of_decide_eq_true (by kernel_rfl)) (by unfold Func.isWrapper; first | (rw [if_pos (by decide +kernel)]; kernel_rfl) | (rw [if_neg (by decide +kernel)]; exact ⟨rfl, rfl⟩))
    (fun os started H enc _ F => by rw [OpenClaim.pre_eq_preRow]; exact liftedQuickTells os started H enc F)

theorem plainQuickTells (f : FuncId) (fn : Func) (hf : Tryz.pinned.checked.prog.funcNamed "fretwork/fretworklaw12.QuickTells" = some f) (hfn : Tryz.pinned.checked.prog.funcs[f]? = some fn) :
    true = Tryz.pinned.checked.prog.looks [] ∧ ∀ (j : Nat) t, fn.params[j]? = some t → Tryz.pinned.checked.prog.wantsStandIn t = false := by
  obtain rfl : f = 5 := Option.some.inj ((show Tryz.prog.funcNamed "fretwork/fretworklaw12.QuickTells" = some 5 by kernel_rfl).symm.trans hf) |>.symm
  obtain rfl : fn = Tryz.f5 := (Option.some.inj (Tryz.func5.symm.trans hfn)).symm
  refine ⟨by kernel_rfl, fun j t ht => ?_⟩
  rw [Tryz.params5] at ht
  have hm := Array.mem_of_getElem? ht
  simp at hm
  rcases hm with rfl | rfl | rfl
  · exact (show Tryz.prog.wantsStandIn 22 = false by kernel_rfl)
  · exact (show Tryz.prog.wantsStandIn 23 = false by kernel_rfl)
  · exact (show Tryz.prog.wantsStandIn 22 = false by kernel_rfl)

theorem cardQuickTells : Rows.QuickTellsCardSaid :=
  Claim7.holds_tied_plain_at .later [] _ _ _ _ saidQuickTells (fun _ h => by cases h) (by kernel_rfl) (fun _ h => by cases h) quickTells_row_tie rfl ⟨rfl, rfl⟩ (by kernel_rfl) rfl plainQuickTells (by kernel_rfl)
#print axioms cardQuickTells
end Go.Proofs.YthegabgbakckfaaGreatDoor
end
