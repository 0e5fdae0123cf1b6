/- VertGrowth: the walk. -/
import Derived.Test.YtmkbgbnehokmmaaGreatVlg
import Derived.Test.YtmkbgbnehokmmaaGreatLng
namespace Go.Proofs.YtmkbgbnehokmmaaGreat
open Go.Sx Go.RowKit Go.Reg Go.Gr

set_option maxRecDepth 100000
def vexE : List Edg := [⟨0, 2⟩, ⟨1, 2⟩]
def vexG : Gr := ⟨[0, 0, 0], vexE⟩
theorem vex_canon : canon vexE = vexE := (canon_eq (by decide) (by decide) (by decide)).symm
theorem vex_err : newErr [0, 0, 0] vexE = none := by decide
theorem vex_ok : vexG.Ok := by
  have := canon_ok vex_err
  rwa [vex_canon] at this
theorem vex_made : madeY [0, 0, 0] vexE = .tuple [dG vexG, dM [0, 0, 0] vexE, .bool true] := by
  unfold madeY madeG
  rw [if_pos (by decide), vex_err]
  simp only [vex_canon]; rfl
theorem vex_set : setOf [0, 1, 2] = [0, 1, 2] := rise_eq (setOf_spec _).1 (by decide) (setOf_spec _).2
theorem vex_list : listV vexG [0, 1, 2] = some [0, 2, 1] := by
  unfold listV
  rw [vex_set]
  decide
def pl_valive : List (Nat × Plan) := []
def G_valive : List FuncId := [9, 11]
theorem cok_valive : codeOk Tryz.prog G_valive pl_valive (Tryz.f5.body.getD .skip) = true := by kernel_rfl
theorem run_valive (vs : Array Value) (w : World) : (callFunc 5 vs).run C1.P w = .ok (.enter 5 vs) w := by kernel_rfl
theorem valive_pure : Pure C1 5 [] (fun y => y = .bool true) := by
  have hls := list_pure vexG vex_ok [0, 1, 2] (by decide)
  rw [vex_list] at hls
  have hsm := same_yes [0, 2, 1]
  have hcn := canon_pure vexG vex_ok [0, 2, 1]
  rw [(listV_spec vex_list).2] at hcn
  refine pure_of c1_ok (pl := pl_valive) (G := G_valive) Tryz.func5 rfl Tryz.ntmps5 run_valive cok_valive (by simp) ?_
  ((conv => whnf); repeat' ((first | refine odw ?_ | refine ify ?_ | refine ifn ?_ | refine i6 ?_ | refine ati ?_ | refine mst ?_ | refine rmd ?_ | refine ibo (fun _ => ?_) (fun _ => ?_)) <;> conv => whnf))
  refine call_frz 7 rfl ?_
  refine call_frz 10 rfl ?_
  refine call_eq (xs := [dIs [0, 0, 0], dEs vexE]) rfl (made_pure [0, 0, 0] vexE) ?_
  rw [vex_made]
  ((conv => whnf); repeat' ((first | refine odw ?_ | refine ify ?_ | refine ifn ?_ | refine i6 ?_ | refine ati ?_ | refine mst ?_ | refine rmd ?_ | refine ibo (fun _ => ?_) (fun _ => ?_)) <;> conv => whnf))
  refine call_frz 19 rfl ?_
  refine call_eq (xs := [dG vexG, dIs [0, 1, 2]]) rfl hls ?_
  unfold listY
  (conv => whnf)
  (repeat' ((first | refine ord_ok (by (conv => whnf); (repeat' ((first | refine call_eqb tab rfl hsm rfl ?_ | refine call_eq rfl hcn ?_ | refine ify ?_ | refine ifn ?_ | refine i6 ?_ | refine ati ?_ | refine mst ?_ | refine rmd ?_ | refine ibo (fun _ => ?_) (fun _ => ?_)) <;> conv => whnf)); (all_goals (repeat' (first | exact trivial | exact rfl | refine And.intro ?_ ?_)))) ?_ | refine call_eqb tab rfl hsm rfl ?_ | refine call_eq rfl hcn ?_ | refine ify ?_ | refine ifn ?_ | refine i6 ?_ | refine ati ?_ | refine mst ?_ | refine rmd ?_ | refine ibo (fun _ => ?_) (fun _ => ?_)) <;> conv => whnf))
  exact rfl
theorem dEs_tail (E : List Edg) : dEs E.tail = .list 2 ((E.map dE).drop 1) := by unfold dEs; rw [← List.map_drop, List.drop_one]
theorem listV_len {G : Gr} {s r : List Int} (h : listV G s = some r) : r.length = (setOf s).length := (listV_spec h).1.length_eq
theorem nextV_len {G : Gr} (hG : G.Ok) {a : List Int} (h : a.length ≤ 100000) : (nextV G a).length ≤ 4294967296 := by
  unfold nextV
  split
  · rw [upto_len]; have := hG.size; omega
  · have h1 := List.length_filter_le (fun x => !decide (x ∈ setOf a)) (setOf (a.flatMap (nearI G)))
    have h2 := setOf_len (a.flatMap (nearI G))
    have h3 := nears_len hG a
    omega
end Go.Proofs.YtmkbgbnehokmmaaGreat
