/- VertGrowth: the walk. -/
import Derived.Test.YtmkbgbnehokmmaaVlg
import Derived.Test.YtmkbgbnehokmmaaLng
namespace Go.Proofs.Ytmkbgbnehokmmaa
open Go.Sx Go.RowKit Go.Reg Go.Gr

set_option maxRecDepth 100000
def vexE : List Edg := [⟨0, 2⟩, ⟨1, 2⟩]
def vexG : Gr := ⟨[0, 0, 0], vexE⟩
theorem vex_canon : canon vexE = vexE := (canon_eq (by decide) (by decide) (by decide)).symm
theorem vex_err : newErr [0, 0, 0] vexE = none := by decide
theorem vex_ok : vexG.Ok := by
  have := canon_ok vex_err
  rwa [vex_canon] at this
theorem vex_made : madeY [0, 0, 0] vexE = .tuple [dG vexG, dM [0, 0, 0] vexE, .bool true] := by
  unfold madeY madeG
  rw [if_pos (by decide), vex_err]
  simp only [vex_canon]; rfl
theorem vex_set : setOf [0, 1, 2] = [0, 1, 2] := rise_eq (setOf_spec _).1 (by decide) (setOf_spec _).2
theorem vex_list : listV vexG [0, 1, 2] = some [0, 2, 1] := by
  unfold listV
  rw [vex_set]
  decide
def pl_valive : List (Nat × Plan) := []
def G_valive : List FuncId := [21, 29]
theorem cok_valive : codeOk Try.prog G_valive pl_valive (Try.f25.body.getD .skip) = true := by kernel_rfl
theorem run_valive (vs : Array Value) (w : World) : (callFunc 25 vs).run C1.P w = .ok (.enter 25 vs) w := by kernel_rfl
theorem valive_pure : Pure C1 25 [] (fun y => y = .bool true) := by
  have hls := list_pure vexG vex_ok [0, 1, 2] (by decide)
  rw [vex_list] at hls
  have hsm := same_yes [0, 2, 1]
  have hcn := canon_pure vexG vex_ok [0, 2, 1]
  rw [(listV_spec vex_list).2] at hcn
  refine pure_of c1_ok (pl := pl_valive) (G := G_valive) Try.func25 rfl Try.ntmps25 run_valive cok_valive (by simp) ?_
  ((conv => whnf); repeat' ((first | refine odw ?_ | refine ify ?_ | refine ifn ?_ | refine i6 ?_ | refine ati ?_ | refine mst ?_ | refine rmd ?_ | refine ibo (fun _ => ?_) (fun _ => ?_)) <;> conv => whnf))
  refine call_frz 7 rfl ?_
  refine call_frz 10 rfl ?_
  refine call_eq (xs := [dIs [0, 0, 0], dEs vexE]) rfl (made_pure [0, 0, 0] vexE) ?_
  rw [vex_made]
  ((conv => whnf); repeat' ((first | refine odw ?_ | refine ify ?_ | refine ifn ?_ | refine i6 ?_ | refine ati ?_ | refine mst ?_ | refine rmd ?_ | refine ibo (fun _ => ?_) (fun _ => ?_)) <;> conv => whnf))
  refine call_frz 19 rfl ?_
  refine call_eq (xs := [dG vexG, dIs [0, 1, 2]]) rfl hls ?_
  unfold listY
  (conv => whnf)
  (repeat' ((first | refine ord_ok (by (conv => whnf); (repeat' ((first | refine call_eqb tab rfl hsm rfl ?_ | refine call_eq rfl hcn ?_ | refine ify ?_ | refine ifn ?_ | refine i6 ?_ | refine ati ?_ | refine mst ?_ | refine rmd ?_ | refine ibo (fun _ => ?_) (fun _ => ?_)) <;> conv => whnf)); (all_goals (repeat' (first | exact trivial | exact rfl | refine And.intro ?_ ?_)))) ?_ | refine call_eqb tab rfl hsm rfl ?_ | refine call_eq rfl hcn ?_ | refine ify ?_ | refine ifn ?_ | refine i6 ?_ | refine ati ?_ | refine mst ?_ | refine rmd ?_ | refine ibo (fun _ => ?_) (fun _ => ?_)) <;> conv => whnf))
  exact rfl
theorem dEs_tail (E : List Edg) : dEs E.tail = .list 2 ((E.map dE).drop 1) := by unfold dEs; rw [← List.map_drop, List.drop_one]
theorem listV_len {G : Gr} {s r : List Int} (h : listV G s = some r) : r.length = (setOf s).length := (listV_spec h).1.length_eq
theorem nextV_len {G : Gr} (hG : G.Ok) {a : List Int} (h : a.length ≤ 100000) : (nextV G a).length ≤ 4294967296 := by
  unfold nextV
  split
  · rw [upto_len]; have := hG.size; omega
  · have h1 := List.length_filter_le (fun x => !decide (x ∈ setOf a)) (setOf (a.flatMap (nearI G)))
    have h2 := setOf_len (a.flatMap (nearI G))
    have h3 := nears_len hG a
    omega
def pl_vgr : List (Nat × Plan) := []
def G_vgr : List FuncId := [27, 26, 28, 29, 20]
theorem cok_vgr : codeOk Try.prog G_vgr pl_vgr (Try.f5.body.getD .skip) = true := by kernel_rfl
theorem run_vgr (vs : Array Value) (w : World) : (callFunc 5 vs).run C1.P w = .ok (.enter 5 vs) w := by kernel_rfl
set_option maxHeartbeats 4000000 in
theorem vgrowth_pure (labels : List Int) (edges : List Edg) (s : List Int) : Pure C1 5 [dIs labels, dEs edges, dIs s] (fun y => y = .bool true) := by
  have hel : (edges.map dE).length = edges.length := List.length_map _
  have hsl : (s.map dI).length = s.length := List.length_map _
  have hll : (labels.map dI).length = labels.length := List.length_map _
  refine pure_of c1_ok (pl := pl_vgr) (G := G_vgr) Try.func5 rfl Try.ntmps5 run_vgr cok_vgr (by simp) ?_
  ((conv => whnf); repeat' ((first | refine odw ?_ | refine ify ?_ | refine ifn ?_ | refine i6 ?_ | refine ati ?_ | refine mst ?_ | refine rmd ?_ | refine ibo (fun _ => ?_) (fun _ => ?_)) <;> conv => whnf))
  refine call_eq rfl valive_pure ?_
  ((conv => whnf); repeat' ((first | refine odw ?_ | refine ify ?_ | refine ifn ?_ | refine i6 ?_ | refine ati ?_ | refine mst ?_ | refine rmd ?_ | refine ibo (fun _ => ?_) (fun _ => ?_)) <;> conv => whnf))
  refine call_eq rfl (made_pure labels edges) ?_
  rcases made_case labels edges with e | ⟨G, e, hG, hn, hm, hGe, _, hlen⟩
  · rw [e]
    ((conv => whnf); repeat' ((first | refine odw ?_ | refine ify ?_ | refine ifn ?_ | refine i6 ?_ | refine ati ?_ | refine mst ?_ | refine rmd ?_ | refine ibo (fun _ => ?_) (fun _ => ?_)) <;> conv => whnf))
    exact rfl
  rw [e]
  have hlab : G.labels = labels := by rw [hGe]
  by_cases he0 : edges.length = 0
  · ((conv => whnf); repeat' ((first | refine odw ?_ | refine ify ?_ | refine ifn ?_ | refine i6 ?_ | refine ati ?_ | refine mst ?_ | refine rmd ?_ | refine ibo (fun _ => ?_) (fun _ => ?_)) <;> conv => whnf))
    exact rfl
  by_cases hs10 : 10 < s.length
  · ((conv => whnf); repeat' ((first | refine odw ?_ | refine ify ?_ | refine ifn ?_ | refine i6 ?_ | refine ati ?_ | refine mst ?_ | refine rmd ?_ | refine ibo (fun _ => ?_) (fun _ => ?_)) <;> conv => whnf))
    exact rfl
  have hml := made_less hG hn hm
  have hG' := tail_ok hG
  have hEl : (G.edges.map dE).length = G.edges.length := List.length_map _
  have hmp := made_pure labels G.edges.tail
  rw [← hlab, hml, dEs_tail] at hmp
  rw [hlab] at hmp hml hG'
  have hbr := bare_pure G hG
  have hbr' := bare_pure _ hG'
  simp only at hbr'
  rw [hlab] at hbr
  have hbl : ((upto labels.length).map dOne).length = labels.length := by rw [List.length_map, upto_len]
  have hl1 := list_pure _ hG' s (by omega)
  have hl2 := list_pure G hG s (by omega)
  have hmono := fun a => listV_mono (G := G) (G' := ⟨labels, G.edges.tail⟩) hlab.symm (fun e he => List.mem_of_mem_tail he) (s := s) (a := a)
  cases h1 : listV ⟨labels, G.edges.tail⟩ s with
  | none =>
    rw [h1] at hl1
    unfold listY at hl1
    cases h2 : listV G s with
    | none =>
      rw [h2] at hl2
      unfold listY at hl2
      (conv => whnf)
      (repeat' ((first | refine ord_ok (by (conv => whnf); (repeat' ((first | refine sl_is 1 rfl (by omega) ?_ | refine call_eq rfl hmp ?_ | refine call_eq rfl hl1 ?_ | refine call_eq rfl hl2 ?_ | refine call_eq rfl hbr ?_ | refine call_eq rfl hbr' ?_ | refine ify ?_ | refine ifn ?_ | refine i6 ?_ | refine ati ?_ | refine mst ?_ | refine rmd ?_ | refine ibo (fun _ => ?_) (fun _ => ?_)) <;> conv => whnf)); (all_goals (repeat' (first | exact trivial | exact rfl | refine And.intro ?_ ?_)))) ?_ | refine sl_is 1 rfl (by omega) ?_ | refine call_eq rfl hmp ?_ | refine call_eq rfl hl1 ?_ | refine call_eq rfl hl2 ?_ | refine call_eq rfl hbr ?_ | refine call_eq rfl hbr' ?_ | refine ify ?_ | refine ifn ?_ | refine i6 ?_ | refine ati ?_ | refine mst ?_ | refine rmd ?_ | refine ibo (fun _ => ?_) (fun _ => ?_)) <;> conv => whnf))
      exact rfl
    | some b =>
      rw [h2] at hl2
      unfold listY at hl2
      (conv => whnf)
      (repeat' ((first | refine ord_ok (by (conv => whnf); (repeat' ((first | refine sl_is 1 rfl (by omega) ?_ | refine call_eq rfl hmp ?_ | refine call_eq rfl hl1 ?_ | refine call_eq rfl hl2 ?_ | refine call_eq rfl hbr ?_ | refine call_eq rfl hbr' ?_ | refine ify ?_ | refine ifn ?_ | refine i6 ?_ | refine ati ?_ | refine mst ?_ | refine rmd ?_ | refine ibo (fun _ => ?_) (fun _ => ?_)) <;> conv => whnf)); (all_goals (repeat' (first | exact trivial | exact rfl | refine And.intro ?_ ?_)))) ?_ | refine sl_is 1 rfl (by omega) ?_ | refine call_eq rfl hmp ?_ | refine call_eq rfl hl1 ?_ | refine call_eq rfl hl2 ?_ | refine call_eq rfl hbr ?_ | refine call_eq rfl hbr' ?_ | refine ify ?_ | refine ifn ?_ | refine i6 ?_ | refine ati ?_ | refine mst ?_ | refine rmd ?_ | refine ibo (fun _ => ?_) (fun _ => ?_)) <;> conv => whnf))
      exact rfl
  | some a =>
    obtain ⟨b, h2⟩ := hmono a h1
    rw [h1] at hl1
    rw [h2] at hl2
    unfold listY at hl1 hl2
    have hla := listV_len h1
    have hlb := listV_len h2
    have hss := setOf_len s
    have hab : a.Perm b := (listV_spec h1).1.trans (listV_spec h2).1.symm
    have hca := canon_pure _ hG' a
    rw [(listV_spec h1).2] at hca
    have hcb := canon_pure G hG b
    rw [(listV_spec h2).2] at hcb
    have hna := next_pure _ hG' a (by omega)
    have hnb := next_pure G hG b (by omega)
    have hnm := next_mono hG hG' hlab.symm (fun e he => List.mem_of_mem_tail he) hab
    have hal : (a.map dI).length = (b.map dI).length := by rw [List.length_map, List.length_map]; omega
    have hNb := nextV_len hG' (a := a) (by omega)
    generalize nextV ⟨labels, G.edges.tail⟩ a = N at hna hnm hNb
    generalize nextV G b = M at hnb hnm
    have hNl : (N.map dI).length = N.length := List.length_map _
    (conv => whnf)
    (repeat' ((first | refine ord_ok (by (conv => whnf); (repeat' ((first | refine sl_is 1 rfl (by omega) ?_ | refine call_eq rfl hmp ?_ | refine call_eq rfl hl1 ?_ | refine call_eq rfl hl2 ?_ | refine call_eq rfl hbr ?_ | refine call_eq rfl hbr' ?_ | refine call_eq rfl hna ?_ | refine call_eq rfl hnb ?_ | refine ify ?_ | refine ifn ?_ | refine i6 ?_ | refine ati ?_ | refine mst ?_ | refine rmd ?_ | refine ibo (fun _ => ?_) (fun _ => ?_)) <;> conv => whnf)); (all_goals (repeat' (first | exact trivial | exact rfl | refine And.intro ?_ ?_)))) ?_ | refine sl_is 1 rfl (by omega) ?_ | refine call_eq rfl hmp ?_ | refine call_eq rfl hl1 ?_ | refine call_eq rfl hl2 ?_ | refine call_eq rfl hbr ?_ | refine call_eq rfl hbr' ?_ | refine call_eq rfl hna ?_ | refine call_eq rfl hnb ?_ | refine ify ?_ | refine ifn ?_ | refine i6 ?_ | refine ati ?_ | refine mst ?_ | refine rmd ?_ | refine ibo (fun _ => ?_) (fun _ => ?_)) <;> conv => whnf))
    refine loop_lo (ι := Nat) (fun i => i ≤ N.length) (fun i => [(19, .d (.int .i64 i)), (18, .d (dIs M)), (17, .d (dIs N)), (15, .d (dIs b)), (13, .d (dIs a)), (10, .d (dG ⟨labels, G.edges.tail⟩)), (7, .d (dG G))]) (fun i => []) (fun i => N.length - i) 0 (fun _ => rfl) (Nat.zero_le _) (.refl _ _) ⟨rfl, rfl, rfl, rfl, rfl, rfl, rfl, trivial⟩ trivial ?_
    intro i hi
    refine sxCode_sound c1_ok (G := G_vgr) (pl := pl_vgr) _ _ _ _ (by kernel_rfl) ?_
    by_cases hil : i < N.length
    · have hx := List.getElem?_eq_getElem hil
      have hxm := hnm _ (List.getElem_mem hil)
      generalize N[i] = x at hx hxm
      have hxd : (N.map dI)[i]? = some (.int .i64 x) := by rw [List.getElem?_map, hx]; rfl
      have hh := has06_pure M x
      rw [decide_eq_true hxm] at hh
      (conv => whnf)
      (repeat' ((first | refine ord_ok (by (conv => whnf); (repeat' ((first | refine at_da hxd rfl ?_ | refine call_eq rfl hh ?_ | refine ify ?_ | refine ifn ?_ | refine i6 ?_ | refine ati ?_ | refine mst ?_ | refine rmd ?_ | refine ibo (fun _ => ?_) (fun _ => ?_)) <;> conv => whnf)); (all_goals (repeat' (first | exact trivial | exact rfl | refine And.intro ?_ ?_)))) ?_ | refine at_da hxd rfl ?_ | refine call_eq rfl hh ?_ | refine ify ?_ | refine ifn ?_ | refine i6 ?_ | refine ati ?_ | refine mst ?_ | refine rmd ?_ | refine ibo (fun _ => ?_) (fun _ => ?_)) <;> conv => whnf))
      exact ⟨i + 1, _, _, hil, .refl _ _, ⟨rfl, rfl, rfl, rfl, rfl, rfl, rfl, trivial⟩, trivial, by omega⟩
    · (conv => whnf)
      (repeat' ((first | refine ord_ok (by (conv => whnf); (repeat' ((first | refine call_eq rfl hca ?_ | refine call_eq rfl hcb ?_ | refine ify ?_ | refine ifn ?_ | refine i6 ?_ | refine ati ?_ | refine mst ?_ | refine rmd ?_ | refine ibo (fun _ => ?_) (fun _ => ?_)) <;> conv => whnf)); (all_goals (repeat' (first | exact trivial | exact rfl | refine And.intro ?_ ?_)))) ?_ | refine call_eq rfl hca ?_ | refine call_eq rfl hcb ?_ | refine ify ?_ | refine ifn ?_ | refine i6 ?_ | refine ati ?_ | refine mst ?_ | refine rmd ?_ | refine ibo (fun _ => ?_) (fun _ => ?_)) <;> conv => whnf))
      exact rfl
end Go.Proofs.Ytmkbgbnehokmmaa
