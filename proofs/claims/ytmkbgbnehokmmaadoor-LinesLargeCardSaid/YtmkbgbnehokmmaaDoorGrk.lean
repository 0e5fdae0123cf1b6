/- Graphs: At. -/
import Derived.Test.YtmkbgbnehokmmaaDoorGrh
import Derived.Test.YtmkbgbnehokmmaaDoorAts
namespace Go.Proofs.YtmkbgbnehokmmaaDoor
open Go.Sx Go.RowKit Go.Reg Go.Gr

set_option maxRecDepth 100000
theorem values_pure (l : List Int) : Pure C1 59 [dIs l] (fun y => y = .func (.func 82) [] [.ref (dIs l)]) := by
  refine pure_of c1_ok (pl := []) (G := []) Tryd.func59 rfl Tryd.ntmps59 (by intro vs w; kernel_rfl) (by kernel_rfl) (by simp) ?_
  ((conv => whnf); repeat' ((first | refine odw ?_ | refine ify ?_ | refine ifn ?_ | refine i6 ?_ | refine ati ?_ | refine mst ?_ | refine rmd ?_ | refine ibo (fun _ => ?_) (fun _ => ?_)) <;> conv => whnf))
  exact rfl
theorem sorted_self {l : List Int} (h : l.Pairwise (· < ·)) : l.mergeSort (fun x y => decide (x ≤ y)) = l :=
  List.mergeSort_of_pairwise (h.imp fun h => by simp; omega)
theorem idsOf_len (E : List Edg) (v : Nat) : (idsOf E v).length = deg E v := by
  rw [idsOf, List.length_append, (ids_len E v).1, (ids_len E v).2, deg, nearOf, List.length_append]
theorem ids_cut {n v : Nat} (E : List Edg) (h : v < n) : (((idsL n E).map dI).take (off (deg E) (v + 1))).drop (off (deg E) v) = (idsOf E v).map dI := by
  rw [← List.map_take, ← List.map_drop, idsL, flat_cut (idsOf E) (deg E) (idsOf_len E) h]
def pl_gat : List (Nat × Plan) := [(3, .leaf [0, 0, 0, 1, 0, 0, 0, 1, 0, 0, 1, 0, 0, 0, 1, 0, 0, 0, 1, 0, 2, 2, 0] [0, 1, 2, 4, 5, 6, 8, 11, 12, 13, 15, 16, 3, 7, 9, 10, 14, 17, 18, 19, 20, 21, 22] [0, 1, 3, 7, 0, 16, 48, 112, 0, 496, 1008, 0, 2048, 6144, 14336, 0, 32768, 129024, 260096, 524287, 1048575, 2097151, 4194303])]
def G_gat : List FuncId := [59, 58]
theorem cok_gat : codeOk Tryd.prog G_gat pl_gat (Tryd.f28.body.getD .skip) = true := by kernel_rfl
theorem run_gat (vs : Array Value) (w : World) : (callFunc 28 vs).run C1.P w = .ok (.enter 28 vs) w := by kernel_rfl
def atY (G : Gr) (v : Int) : Da := if 0 ≤ v ∧ v < G.labels.length then dIs (atD G.edges v.toNat) else .nils
theorem at_pure (G : Gr) (hG : G.Ok) (v : Int) : Pure C1 28 [dG G, .int .i64 v] (fun y => y = atY G v) := by
  refine pure_of c1_ok (pl := pl_gat) (G := G_gat) Tryd.func28 rfl Tryd.ntmps28 run_gat cok_gat (by simp) ?_
  by_cases h : 0 ≤ v ∧ v < G.labels.length
  · obtain ⟨m, rfl⟩ := Int.eq_ofNat_of_zero_le h.1
    have hm : m < G.labels.length := by omega
    have e : atY G (m : Int) = dIs (idsOf G.edges m) := by unfold atY; rw [if_pos h, Int.toNat_natCast, ids_doc hG]
    rw [e]
    have hs := hG.size
    have h1 := firstL_at G.edges (n := G.labels.length) (v := m) (by omega)
    have h2 := firstL_at G.edges (n := G.labels.length) (v := m + 1) (by omega)
    ((conv => whnf); repeat' ((first | refine odw ?_ | refine ify ?_ | refine ifn ?_ | refine i6 ?_ | refine ati ?_ | refine mst ?_ | refine rmd ?_ | refine ibo (fun _ => ?_) (fun _ => ?_)) <;> conv => whnf))
    refine call_pure rfl (has_pure G m) ?_; rintro y rfl
    rw [hasV_yes h.1 h.2]
    (conv => whnf)
    (repeat' ((first | refine ord_ok (by (conv => whnf); (repeat' ((first | refine at_da h1 rfl ?_ | refine at_da h2 rfl ?_ | refine ify ?_ | refine ifn ?_ | refine i6 ?_ | refine ati ?_ | refine mst ?_ | refine rmd ?_ | refine ibo (fun _ => ?_) (fun _ => ?_)) <;> conv => whnf)); (all_goals (repeat' (first | exact trivial | exact rfl | refine And.intro ?_ ?_)))) ?_ | refine at_da h1 rfl ?_ | refine at_da h2 rfl ?_ | refine ify ?_ | refine ifn ?_ | refine i6 ?_ | refine ati ?_ | refine mst ?_ | refine rmd ?_ | refine ibo (fun _ => ?_) (fun _ => ?_)) <;> conv => whnf))
    refine ⟨_, _, rfl, rfl, off_mono _ (by omega), ?_, ?_⟩
    · rw [List.length_map, idsL, off_flat (idsOf G.edges) (deg G.edges) (idsOf_len G.edges)]; exact off_mono _ (by omega)
    rw [ids_cut G.edges hm]
    (conv => whnf)
    have hb := deg_le G.edges m
    have hes := hG.esize
    refine call_pure rfl (values_pure (idsOf G.edges m)) ?_; rintro y rfl
    (conv => whnf)
    refine call_pure rfl (sorted_pure (idsOf G.edges m) (by rw [idsOf_len]; omega)) ?_; rintro y rfl
    rw [sorted_self (ids_rise hG m)]
    ((conv => whnf); repeat' ((first | refine odw ?_ | refine ify ?_ | refine ifn ?_ | refine i6 ?_ | refine ati ?_ | refine mst ?_ | refine rmd ?_ | refine ibo (fun _ => ?_) (fun _ => ?_)) <;> conv => whnf))
    exact rfl
  · have e : atY G v = .nils := by unfold atY; rw [if_neg h]
    rw [e]
    ((conv => whnf); repeat' ((first | refine odw ?_ | refine ify ?_ | refine ifn ?_ | refine i6 ?_ | refine ati ?_ | refine mst ?_ | refine rmd ?_ | refine ibo (fun _ => ?_) (fun _ => ?_)) <;> conv => whnf))
    refine call_pure rfl (has_pure G v) ?_; rintro y rfl
    rw [hasV_no h]
    ((conv => whnf); repeat' ((first | refine odw ?_ | refine ify ?_ | refine ifn ?_ | refine i6 ?_ | refine ati ?_ | refine mst ?_ | refine rmd ?_ | refine ibo (fun _ => ?_) (fun _ => ?_)) <;> conv => whnf))
    exact rfl
theorem at_nil (v : Int) : Pure C1 28 [.nilp, .int .i64 v] (fun y => y = .nils) := by
  refine pure_of c1_ok (pl := pl_gat) (G := G_gat) Tryd.func28 rfl Tryd.ntmps28 run_gat cok_gat (by simp) ?_
  ((conv => whnf); repeat' ((first | refine odw ?_ | refine ify ?_ | refine ifn ?_ | refine i6 ?_ | refine ati ?_ | refine mst ?_ | refine rmd ?_ | refine ibo (fun _ => ?_) (fun _ => ?_)) <;> conv => whnf))
  refine call_pure rfl (has_nil v) ?_; rintro y rfl
  ((conv => whnf); repeat' ((first | refine odw ?_ | refine ify ?_ | refine ifn ?_ | refine i6 ?_ | refine ati ?_ | refine mst ?_ | refine rmd ?_ | refine ibo (fun _ => ?_) (fun _ => ?_)) <;> conv => whnf))
  exact rfl
end Go.Proofs.YtmkbgbnehokmmaaDoor
