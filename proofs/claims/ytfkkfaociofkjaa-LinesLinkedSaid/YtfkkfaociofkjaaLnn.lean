/- lines: what no graph tells: Of, Verts, Span. -/
import Derived.Test.YtfkkfaociofkjaaLnf
namespace Go.Proofs.Ytfkkfaociofkjaa
open Go.Sx Go.RowKit Go.Reg Go.Gr

set_option maxRecDepth 100000
theorem lof_nil : Pure C1 13 [.nilp] (fun y => y = .tuple [dG ⟨[], []⟩, .nili]) := by
  refine pure_of c1_ok (pl := pl_lof) (G := G_lof) Try.func13 rfl Try.ntmps13 run_lof cok_lof (by simp) ?_
  (conv => whnf)
  (repeat' ((first | refine ord_ok (by (conv => whnf); (repeat' ((first | refine call_eq rfl pairs_nil ?_ | refine call_eq rfl len_nil ?_ | refine ify ?_ | refine ifn ?_ | refine i6 ?_ | refine ati ?_ | refine mst ?_ | refine rmd ?_ | refine ibo (fun _ => ?_) (fun _ => ?_)) <;> conv => whnf)); (all_goals (repeat' (first | exact trivial | exact rfl | refine And.intro ?_ ?_)))) ?_ | refine call_eq rfl pairs_nil ?_ | refine call_eq rfl len_nil ?_ | refine ify ?_ | refine ifn ?_ | refine i6 ?_ | refine ati ?_ | refine mst ?_ | refine rmd ?_ | refine ibo (fun _ => ?_) (fun _ => ?_)) <;> conv => whnf))
  refine loop_lo (ι := Unit) (fun _ => True) (fun v => [(20, .d (.int .i64 0)), (19, .d (.int .i64 0)), (4, .own 300), (0, .d .nilp)]) (fun v => [(300, .slice 40 2 [])]) (fun v => 0) () (fun _ => rfl) trivial
    (.own 4 300 40 2 rfl rfl (.refl _ _)) ⟨rfl, rfl, rfl, rfl, trivial⟩ ⟨rfl, trivial⟩ ?_
  intro v _
  refine sxCode_sound c1_ok (G := G_lof) (pl := pl_lof) _ _ _ _ (by kernel_rfl) ?_
  (conv => whnf)
  (repeat' ((first | refine ord_ok (by (conv => whnf); (repeat' ((first | refine call_eq rfl size_nil ?_ | refine mk_ok 0 rfl rfl (by omega) ?_ | refine ify ?_ | refine ifn ?_ | refine i6 ?_ | refine ati ?_ | refine mst ?_ | refine rmd ?_ | refine ibo (fun _ => ?_) (fun _ => ?_)) <;> conv => whnf)); (all_goals (repeat' (first | exact trivial | exact rfl | refine And.intro ?_ ?_)))) ?_ | refine call_eq rfl size_nil ?_ | refine mk_ok 0 rfl rfl (by omega) ?_ | refine ify ?_ | refine ifn ?_ | refine i6 ?_ | refine ati ?_ | refine mst ?_ | refine rmd ?_ | refine ibo (fun _ => ?_) (fun _ => ?_)) <;> conv => whnf))
  refine call_frz 54 rfl ?_
  refine call_frz 300 rfl ?_
  refine call_eq (xs := [dIs [], dEs []]) rfl (new_pure [] []) ?_
  rw [newY_none (by decide), show canon [] = [] from by simp [canon]]
  ((conv => whnf); repeat' ((first | refine odw ?_ | refine ify ?_ | refine ifn ?_ | refine i6 ?_ | refine ati ?_ | refine mst ?_ | refine rmd ?_ | refine ibo (fun _ => ?_) (fun _ => ?_)) <;> conv => whnf))
  all_goals exact rfl
theorem verts_nil (l : List Int) : Pure C1 25 [.nilp, dIs l] (fun y => y = .nils) := by
  refine pure_of c1_ok (pl := pl_lverts) (G := G_lverts) Try.func25 rfl Try.ntmps25 run_lverts cok_lverts (by simp) ?_
  (conv => whnf)
  (repeat' ((first | refine ord_ok (by (conv => whnf); (repeat' ((first | refine call_eq rfl (ends_nil l) ?_ | refine ify ?_ | refine ifn ?_ | refine i6 ?_ | refine ati ?_ | refine mst ?_ | refine rmd ?_ | refine ibo (fun _ => ?_) (fun _ => ?_)) <;> conv => whnf)); (all_goals (repeat' (first | exact trivial | exact rfl | refine And.intro ?_ ?_)))) ?_ | refine call_eq rfl (ends_nil l) ?_ | refine ify ?_ | refine ifn ?_ | refine i6 ?_ | refine ati ?_ | refine mst ?_ | refine rmd ?_ | refine ibo (fun _ => ?_) (fun _ => ?_)) <;> conv => whnf))
  refine loop_lo (ι := Unit) (fun _ => True) (fun i => [(14, .d (.int .i64 0)), (13, .d (.int .i64 0)), (12, .d .nils), (5, .d .nils), (0, .d .nilp)]) (fun i => []) (fun i => 0) () (fun _ => rfl) trivial (.refl _ _) ⟨rfl, rfl, rfl, rfl, rfl, trivial⟩ trivial ?_
  intro i _
  refine sxCode_sound c1_ok (G := G_lverts) (pl := pl_lverts) _ _ _ _ (by kernel_rfl) ?_
  ((conv => whnf); repeat' ((first | refine odw ?_ | refine ify ?_ | refine ifn ?_ | refine i6 ?_ | refine ati ?_ | refine mst ?_ | refine rmd ?_ | refine ibo (fun _ => ?_) (fun _ => ?_)) <;> conv => whnf))
  exact rfl
theorem spang_nil (l : List Int) : Pure C1 27 [.nilp, dIs l] (fun y => y = .nils) := by
  refine pure_of c1_ok (pl := pl_lspan) (G := G_lspan) Try.func27 rfl Try.ntmps27 run_lspan cok_lspan (by simp) ?_
  (conv => whnf)
  (repeat' ((first | refine ord_ok (by (conv => whnf); (repeat' ((first | refine call_eq rfl size_nil ?_ | refine ify ?_ | refine ifn ?_ | refine i6 ?_ | refine ati ?_ | refine mst ?_ | refine rmd ?_ | refine ibo (fun _ => ?_) (fun _ => ?_)) <;> conv => whnf)); (all_goals (repeat' (first | exact trivial | exact rfl | refine And.intro ?_ ?_)))) ?_ | refine call_eq rfl size_nil ?_ | refine ify ?_ | refine ifn ?_ | refine i6 ?_ | refine ati ?_ | refine mst ?_ | refine rmd ?_ | refine ibo (fun _ => ?_) (fun _ => ?_)) <;> conv => whnf))
  refine loop_lo (ι := Unit) (fun _ => True) (fun k => [(11, .d (.int .i64 0)), (10, .d (.int .i64 0)), (5, .d .nils), (0, .d .nilp)]) (fun k => []) (fun k => 0) () (fun _ => rfl) trivial (.refl _ _) ⟨rfl, rfl, rfl, rfl, trivial⟩ trivial ?_
  intro k _
  refine sxCode_sound c1_ok (G := G_lspan) (pl := pl_lspan) _ _ _ _ (by kernel_rfl) ?_
  ((conv => whnf); repeat' ((first | refine odw ?_ | refine ify ?_ | refine ifn ?_ | refine i6 ?_ | refine ati ?_ | refine mst ?_ | refine rmd ?_ | refine ibo (fun _ => ?_) (fun _ => ?_)) <;> conv => whnf))
  exact rfl
end Go.Proofs.Ytfkkfaociofkjaa
