/- Graphs: At's answer as an owned slice. -/
import Derived.Test.YtmkbgbnehokmmaaDoorGrk
import Derived.Test.YtmkbgbnehokmmaaDoorAtm
namespace Go.Proofs.YtmkbgbnehokmmaaDoor
open Go.Sx Go.RowKit Go.Reg Go.Gr

set_option maxRecDepth 100000
def atL (G : Gr) (v : Int) : List Int := if 0 ≤ v ∧ v < G.labels.length then atD G.edges v.toNat else []
theorem at_mksl (G : Gr) (hG : G.Ok) (v : Int) : MakeSl C1 28 [dG G, .int .i64 v] 3 1 (fun ds => ds = (atL G v).map dI) := by
  refine mksl_of c1_ok (pl := pl_gat) (G := G_gat) Tryd.func28 rfl Tryd.ntmps28 run_gat cok_gat (by simp) ?_
  by_cases h : 0 ≤ v ∧ v < G.labels.length
  · obtain ⟨m, rfl⟩ := Int.eq_ofNat_of_zero_le h.1
    have hm : m < G.labels.length := by omega
    have e : atL G (m : Int) = idsOf G.edges m := by unfold atL; rw [if_pos h, Int.toNat_natCast, ids_doc hG]
    rw [e]
    have hs := hG.size
    have h1 := firstL_at G.edges (n := G.labels.length) (v := m) (by omega)
    have h2 := firstL_at G.edges (n := G.labels.length) (v := m + 1) (by omega)
    ((conv => whnf); repeat' ((first | refine odw ?_ | refine ify ?_ | refine ifn ?_ | refine i6 ?_ | refine ati ?_ | refine mst ?_ | refine rmd ?_ | refine ibo (fun _ => ?_) (fun _ => ?_)) <;> conv => whnf))
    refine call_pure rfl (has_pure G m) ?_; rintro y rfl
    rw [hasV_yes h.1 h.2]
    (conv => whnf)
    (repeat' ((first | refine ord_ok (by (conv => whnf); (repeat' ((first | refine at_da h1 rfl ?_ | refine at_da h2 rfl ?_ | refine ify ?_ | refine ifn ?_ | refine i6 ?_ | refine ati ?_ | refine mst ?_ | refine rmd ?_ | refine ibo (fun _ => ?_) (fun _ => ?_)) <;> conv => whnf)); (all_goals (repeat' (first | exact trivial | exact rfl | refine And.intro ?_ ?_)))) ?_ | refine at_da h1 rfl ?_ | refine at_da h2 rfl ?_ | refine ify ?_ | refine ifn ?_ | refine i6 ?_ | refine ati ?_ | refine mst ?_ | refine rmd ?_ | refine ibo (fun _ => ?_) (fun _ => ?_)) <;> conv => whnf))
    refine ⟨_, _, rfl, rfl, off_mono _ (by omega), ?_, ?_⟩
    · rw [List.length_map, idsL, off_flat (idsOf G.edges) (deg G.edges) (idsOf_len G.edges)]; exact off_mono _ (by omega)
    rw [ids_cut G.edges hm]
    (conv => whnf)
    have hb := deg_le G.edges m
    have hes := hG.esize
    refine call_pure rfl (values_pure (idsOf G.edges m)) ?_; rintro y rfl
    (conv => whnf)
    refine call_mksl 29 rfl rfl (sorted_mksl (idsOf G.edges m) (by rw [idsOf_len]; omega)) ?_; rintro ds rfl
    rw [sorted_self (ids_rise hG m)]
    ((conv => whnf); repeat' ((first | refine odw ?_ | refine ify ?_ | refine ifn ?_ | refine i6 ?_ | refine ati ?_ | refine mst ?_ | refine rmd ?_ | refine ibo (fun _ => ?_) (fun _ => ?_)) <;> conv => whnf))
    exact ⟨rfl, rfl, rfl⟩
  · have e : atL G v = [] := by unfold atL; rw [if_neg h]
    rw [e]
    ((conv => whnf); repeat' ((first | refine odw ?_ | refine ify ?_ | refine ifn ?_ | refine i6 ?_ | refine ati ?_ | refine mst ?_ | refine rmd ?_ | refine ibo (fun _ => ?_) (fun _ => ?_)) <;> conv => whnf))
    refine call_pure rfl (has_pure G v) ?_; rintro y rfl
    rw [hasV_no h]
    ((conv => whnf); repeat' ((first | refine odw ?_ | refine ify ?_ | refine ifn ?_ | refine i6 ?_ | refine ati ?_ | refine mst ?_ | refine rmd ?_ | refine ibo (fun _ => ?_) (fun _ => ?_)) <;> conv => whnf))
    exact rfl
end Go.Proofs.YtmkbgbnehokmmaaDoor
