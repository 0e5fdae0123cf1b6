/- The document's graphs: Near. -/
import Derived.Test.YtmkbgbnehokmmaaDoorRfa
import Derived.Test.YtmkbgbnehokmmaaDoorSxu
namespace Go.Gr
theorem nearD_step (E : List Edg) (k v : Nat) : nearD E (k + 1) v = nearD E k v ++ (if turn ⟨(k : Int), (v : Int)⟩ ∈ E then [(k : Int)] else []) := by
  unfold nearD
  rw [List.range_succ, List.filter_append, List.map_append]
  congr 1
  by_cases h : turn ⟨(k : Int), (v : Int)⟩ ∈ E <;> simp [h]
theorem nearD_len (E : List Edg) (k v : Nat) : (nearD E k v).length ≤ k := by
  unfold nearD
  rw [List.length_map]
  have := List.length_filter_le (fun u : Nat => decide (turn ⟨(u : Int), (v : Int)⟩ ∈ E)) (List.range k)
  rwa [List.length_range] at this
end Go.Gr
namespace Go.Proofs.YtmkbgbnehokmmaaDoor
open Go.Sx Go.RowKit Go.Reg Go.Gr

set_option maxRecDepth 100000
def pl_rnear : List (Nat × Plan) := []
def G_rnear : List FuncId := []
theorem cok_rnear : codeOk Tryd.prog G_rnear pl_rnear (Tryd.f32.body.getD .skip) = true := by kernel_rfl
theorem run_rnear (vs : Array Value) (w : World) : (callFunc 32 vs).run C1.P w = .ok (.enter 32 vs) w := by kernel_rfl
theorem rnear_pure (labels : List Int) (S : List Edg) (v : Nat) (hn : labels.length ≤ 4096) : Pure C1 32 [dM labels S, .int .i64 v] (fun y => y = dIs (nearD S labels.length v)) := by
  have hll : (labels.map dI).length = labels.length := List.length_map _
  refine pure_of c1_ok (pl := pl_rnear) (G := G_rnear) Tryd.func32 rfl Tryd.ntmps32 run_rnear cok_rnear (by simp) ?_
  ((conv => whnf); repeat' ((first | refine odw ?_ | refine ify ?_ | refine ifn ?_ | refine i6 ?_ | refine ati ?_ | refine mst ?_ | refine rmd ?_ | refine ibo (fun _ => ?_) (fun _ => ?_)) <;> conv => whnf))
  refine loop_lo (ι := Nat) (fun k => k ≤ labels.length) (fun k => [(6, .d (.int .i64 k)), (5, .own 300), (2, .own 2), (1, .d (.int .i64 v))]) (fun k => [(2, .cells 58 [.d (dIs labels), .d (dEs S)]), (300, .slice 3 1 ((nearD S k v).map dI))]) (fun k => labels.length - k) 0 (fun _ => rfl) (Nat.zero_le _)
    (.own 5 300 3 1 rfl rfl (.refl _ _)) ⟨rfl, rfl, rfl, rfl, trivial⟩ ⟨rfl, rfl, trivial⟩ ?_
  intro k hk
  refine sxCode_sound c1_ok (G := G_rnear) (pl := pl_rnear) _ _ _ _ (by kernel_rfl) ?_
  by_cases hlt : k < labels.length
  · have hid := rid_pure labels S k v
    have hst := nearD_step S k v
    have hsl := nearD_len S k v
    by_cases hm : turn ⟨(k : Int), (v : Int)⟩ ∈ S
    · have hnn := idE_nonneg.2 hm
      rw [if_pos hm] at hst
      generalize idE S (turn ⟨(k : Int), (v : Int)⟩) = q at hid hnn
      have hfin : (nearD S k v).map dI ++ [.int .i64 (k : Int)] = (nearD S (k + 1) v).map dI := by rw [hst, List.map_append]; rfl
      (conv => whnf)
      (repeat' ((first | refine ord_ok (by (conv => whnf); (repeat' ((first | refine call_eq rfl hid ?_ | refine ify ?_ | refine ifn ?_ | refine i6 ?_ | refine ati ?_ | refine mst ?_ | refine rmd ?_ | refine ibo (fun _ => ?_) (fun _ => ?_)) <;> conv => whnf)); (all_goals (repeat' (first | exact trivial | exact rfl | refine And.intro ?_ ?_)))) ?_ | refine call_eq rfl hid ?_ | refine ify ?_ | refine ifn ?_ | refine i6 ?_ | refine ati ?_ | refine mst ?_ | refine rmd ?_ | refine ibo (fun _ => ?_) (fun _ => ?_)) <;> conv => whnf))
      exact ⟨k + 1, _, _, hlt, .refl _ _, ⟨rfl, rfl, rfl, rfl, trivial⟩, ⟨rfl, slice_is hfin, trivial⟩, by omega⟩
    · have hnn : ¬ 0 ≤ idE S (turn ⟨(k : Int), (v : Int)⟩) := fun h => hm (idE_nonneg.1 h)
      rw [if_neg hm, List.append_nil] at hst
      generalize idE S (turn ⟨(k : Int), (v : Int)⟩) = q at hid hnn
      (conv => whnf)
      (repeat' ((first | refine ord_ok (by (conv => whnf); (repeat' ((first | refine call_eq rfl hid ?_ | refine ify ?_ | refine ifn ?_ | refine i6 ?_ | refine ati ?_ | refine mst ?_ | refine rmd ?_ | refine ibo (fun _ => ?_) (fun _ => ?_)) <;> conv => whnf)); (all_goals (repeat' (first | exact trivial | exact rfl | refine And.intro ?_ ?_)))) ?_ | refine call_eq rfl hid ?_ | refine ify ?_ | refine ifn ?_ | refine i6 ?_ | refine ati ?_ | refine mst ?_ | refine rmd ?_ | refine ibo (fun _ => ?_) (fun _ => ?_)) <;> conv => whnf))
      exact ⟨k + 1, _, _, hlt, .refl _ _, ⟨rfl, rfl, rfl, rfl, trivial⟩, ⟨rfl, slice_is (by rw [hst]), trivial⟩, by omega⟩
  · have hke : k = labels.length := by omega
    subst hke
    ((conv => whnf); repeat' ((first | refine odw ?_ | refine ify ?_ | refine ifn ?_ | refine i6 ?_ | refine ati ?_ | refine mst ?_ | refine rmd ?_ | refine ibo (fun _ => ?_) (fun _ => ?_)) <;> conv => whnf))
    exact rfl
end Go.Proofs.YtmkbgbnehokmmaaDoor
