/- VertBegins: the walk. -/
import Derived.Test.YtmkbgbnehokmmaaVof
namespace Go.Proofs.Ytmkbgbnehokmmaa
open Go.Sx Go.RowKit Go.Reg Go.Gr

set_option maxRecDepth 100000
theorem linked_take {G : Gr} {l : List Int} (h : linkedV G l = true) (i : Nat) : linkedV G (l.take i) = true := by
  refine linkedV_yes fun j v hx => linkAt_iff.2 ?_
  have hj : j < i := by have := (List.getElem?_eq_some_iff.1 hx).1; rw [List.length_take] at this; omega
  rw [List.getElem?_take, if_pos hj] at hx
  rw [List.take_take, Nat.min_eq_left (by omega)]
  exact linkAt_iff.1 (linkedV_at h hx)
theorem list_first {G : Gr} {s r : List Int} (h : listV G s = some r) {x y : Int} (hx : r[0]? = some x) (hy : (setOf s)[0]? = some y) : x = y := by
  obtain ⟨hp, hc⟩ := listV_spec h
  have h1 := canon_least hc hx y (hp.mem_iff.2 (List.mem_of_getElem? hy))
  have hxm := hp.mem_iff.1 (List.mem_of_getElem? hx)
  obtain ⟨i, hi, hix⟩ := List.mem_iff_getElem.1 hxm
  have h2 : y ≤ x := by
    rcases Nat.eq_zero_or_pos i with e | e
    · subst e; rw [List.getElem?_eq_getElem hi, hix] at hy; cases hy; exact Int.le_refl _
    · have := List.pairwise_iff_getElem.1 (setOf_spec s).1 0 i (by omega) hi e
      rw [List.getElem?_eq_getElem (by omega)] at hy
      have hy := Option.some.inj hy
      rw [hix, hy] at this; omega
  omega
def pl_vbg : List (Nat × Plan) := [(11, .leaf [0, 0, 0, 0, 2, 0, 0, 0, 0, 0, 0, 2, 0, 0, 0, 0, 0, 0, 0, 0, 0, 0, 0, 0, 0, 0, 0, 1, 2, 0, 0, 0] [0, 1, 2, 3, 4, 5, 6, 7, 8, 9, 10, 11, 12, 13, 14, 15, 16, 17, 18, 19, 20, 21, 22, 23, 24, 25, 26, 27, 28, 29, 30, 31] [0, 0, 0, 6, 15, 31, 63, 127, 127, 127, 895, 2047, 4095, 8191, 16383, 32767, 32767, 98303, 262143, 524287, 1048575, 1048575, 1048575, 7340031, 1048575, 1048575, 51380223, 118489087, 268435455, 536870911, 1073741823, 2147483647]),
  (14, .leaf [0, 0, 0, 0, 0, 0, 0, 0, 0, 0, 0, 0, 1, 0, 0, 1, 0, 0, 0, 0, 0, 2, 0, 2, 0, 0] [0, 1, 2, 3, 4, 5, 6, 7, 8, 9, 10, 11, 13, 14, 12, 15, 16, 17, 18, 19, 20, 22, 21, 23, 24, 25] [0, 1, 0, 4, 15, 31, 63, 127, 255, 511, 1023, 2047, 4095, 1023, 9215, 25599, 65535, 131071, 262143, 524287, 1048575, 2097151, 1048575, 8388607, 16777215, 33554431])]
def G_vbg : List FuncId := [26, 30, 28, 31, 33, 32, 27, 29, 21]
theorem cok_vbg : codeOk Try.prog G_vbg pl_vbg (Try.f7.body.getD .skip) = true := by kernel_rfl
theorem run_vbg (vs : Array Value) (w : World) : (callFunc 7 vs).run C1.P w = .ok (.enter 7 vs) w := by kernel_rfl
set_option maxHeartbeats 4000000 in
theorem vbegins_pure (labels : List Int) (edges : List Edg) (s : List Int) : Pure C1 7 [dIs labels, dEs edges, dIs s] (fun y => y = .bool true) := by
  have hsl : (s.map dI).length = s.length := List.length_map _
  have n1 := linked_nil0 .nilp
  have n2 := canon_nil0 .nilp
  refine pure_of c1_ok (pl := pl_vbg) (G := G_vbg) Try.func7 rfl Try.ntmps7 run_vbg cok_vbg (by simp) ?_
  ((conv => whnf); repeat' ((first | refine odw ?_ | refine ify ?_ | refine ifn ?_ | refine i6 ?_ | refine ati ?_ | refine mst ?_ | refine rmd ?_ | refine ibo (fun _ => ?_) (fun _ => ?_)) <;> conv => whnf))
  refine call_eq rfl valive_pure ?_
  ((conv => whnf); repeat' ((first | refine odw ?_ | refine ify ?_ | refine ifn ?_ | refine i6 ?_ | refine ati ?_ | refine mst ?_ | refine rmd ?_ | refine ibo (fun _ => ?_) (fun _ => ?_)) <;> conv => whnf))
  refine call_eq rfl (made_pure labels edges) ?_
  rcases made_case labels edges with e | ⟨G, e, hG, hn, hm, hGe, _, hlen⟩
  · rw [e]
    ((conv => whnf); repeat' ((first | refine odw ?_ | refine ify ?_ | refine ifn ?_ | refine i6 ?_ | refine ati ?_ | refine mst ?_ | refine rmd ?_ | refine ibo (fun _ => ?_) (fun _ => ?_)) <;> conv => whnf))
    exact rfl
  rw [e]
  by_cases hs10 : 20 < s.length
  · ((conv => whnf); repeat' ((first | refine odw ?_ | refine ify ?_ | refine ifn ?_ | refine i6 ?_ | refine ati ?_ | refine mst ?_ | refine rmd ?_ | refine ibo (fun _ => ?_) (fun _ => ?_)) <;> conv => whnf))
    exact rfl
  have hl1 := list_pure G hG s (by omega)
  have hss := setOf_len s
  cases hr : listV G s with
  | none =>
    rw [hr] at hl1
    unfold listY at hl1
    (conv => whnf)
    (repeat' ((first | refine ord_ok (by (conv => whnf); (repeat' ((first | refine call_eq rfl hl1 ?_ | refine call_eqb tab rfl list_nilg rfl ?_ | refine call_eqb tab rfl linked_nilg rfl ?_ | refine call_eq rfl n1 ?_ | refine call_eq rfl n2 ?_ | refine call_eq rfl (may_nilg 0) ?_ | refine call_eq rfl next_nilg ?_ | refine call_eq rfl grow_nilg ?_ | refine call_eq rfl bare_nilg ?_ | refine ify ?_ | refine ifn ?_ | refine i6 ?_ | refine ati ?_ | refine mst ?_ | refine rmd ?_ | refine ibo (fun _ => ?_) (fun _ => ?_)) <;> conv => whnf)); (all_goals (repeat' (first | exact trivial | exact rfl | refine And.intro ?_ ?_)))) ?_ | refine call_eq rfl hl1 ?_ | refine call_eqb tab rfl list_nilg rfl ?_ | refine call_eqb tab rfl linked_nilg rfl ?_ | refine call_eq rfl n1 ?_ | refine call_eq rfl n2 ?_ | refine call_eq rfl (may_nilg 0) ?_ | refine call_eq rfl next_nilg ?_ | refine call_eq rfl grow_nilg ?_ | refine call_eq rfl bare_nilg ?_ | refine ify ?_ | refine ifn ?_ | refine i6 ?_ | refine ati ?_ | refine mst ?_ | refine rmd ?_ | refine ibo (fun _ => ?_) (fun _ => ?_)) <;> conv => whnf))
    exact rfl
  | some r =>
    rw [hr] at hl1
    unfold listY at hl1
    obtain ⟨hp, hc⟩ := listV_spec hr
    have hlk := canon_linked hG hc
    have hrl := hp.length_eq
    have hrm : (r.map dI).length = r.length := List.length_map _
    have hso : setOf r = setOf s := setOf_congr fun x => by rw [hp.mem_iff, (setOf_spec s).2]
    have ho1 := of06_pure s (by omega)
    have ho2 := of06_pure r (by omega)
    rw [hso] at ho2
    have hfst := fun x y => list_first hr (x := x) (y := y)
    generalize hS : setOf s = S at ho1 ho2 hrl hss hfst hp
    have hSm : (S.map dI).length = S.length := List.length_map _
    have hsm := same_yes S
    (conv => whnf)
    (repeat' ((first | refine ord_ok (by (conv => whnf); (repeat' ((first | refine call_eq rfl hl1 ?_ | refine ify ?_ | refine ifn ?_ | refine i6 ?_ | refine ati ?_ | refine mst ?_ | refine rmd ?_ | refine ibo (fun _ => ?_) (fun _ => ?_)) <;> conv => whnf)); (all_goals (repeat' (first | exact trivial | exact rfl | refine And.intro ?_ ?_)))) ?_ | refine call_eq rfl hl1 ?_ | refine ify ?_ | refine ifn ?_ | refine i6 ?_ | refine ati ?_ | refine mst ?_ | refine rmd ?_ | refine ibo (fun _ => ?_) (fun _ => ?_)) <;> conv => whnf))
    refine loop_lo (ι := Nat) (fun i => i ≤ r.length + 1) (fun i => [(12, .d (.int .i64 i)), (10, .d (dIs r)), (7, .d (dG G)), (2, .d (dIs s))]) (fun i => []) (fun i => r.length + 1 - i) 0 (fun _ => rfl) (Nat.zero_le _) (.refl _ _) ⟨rfl, rfl, rfl, rfl, trivial⟩ trivial ?_
    intro i hi
    refine sxCode_sound c1_ok (G := G_vbg) (pl := pl_vbg) _ _ _ _ (by kernel_rfl) ?_
    by_cases hil : i ≤ r.length
    · have h1 := canon_pure G hG (r.take i)
      rw [canon_take hc i, dIs_take] at h1
      have h2 := linked_pure G hG (r.take i)
      rw [linked_take hlk i, dIs_take] at h2
      have hi2 : i ≤ (r.map dI).length := by omega
      by_cases hlt : i < r.length
      · have hx := List.getElem?_eq_getElem hlt
        generalize r[i] = x at hx
        have hxd : (r.map dI)[i]? = some (.int .i64 x) := by rw [List.getElem?_map, hx]; rfl
        have h3 := may_pure G hG (r.take i) x
        rw [canon_take hc i, canonV_at hc hx, dIs_take] at h3
        (conv => whnf)
        (repeat' ((first | refine ord_ok (by (conv => whnf); (repeat' ((first | refine hi_is rfl hi2 ?_ | refine call_eq rfl h1 ?_ | refine call_eq rfl h2 ?_ | refine at_da hxd rfl ?_ | refine call_eq rfl h3 ?_ | refine ify ?_ | refine ifn ?_ | refine i6 ?_ | refine ati ?_ | refine mst ?_ | refine rmd ?_ | refine ibo (fun _ => ?_) (fun _ => ?_)) <;> conv => whnf)); (all_goals (repeat' (first | exact trivial | exact rfl | refine And.intro ?_ ?_)))) ?_ | refine hi_is rfl hi2 ?_ | refine call_eq rfl h1 ?_ | refine call_eq rfl h2 ?_ | refine at_da hxd rfl ?_ | refine call_eq rfl h3 ?_ | refine ify ?_ | refine ifn ?_ | refine i6 ?_ | refine ati ?_ | refine mst ?_ | refine rmd ?_ | refine ibo (fun _ => ?_) (fun _ => ?_)) <;> conv => whnf))
        exact ⟨i + 1, _, _, by omega, .refl _ _, ⟨rfl, rfl, rfl, rfl, trivial⟩, trivial, by omega⟩
      · (conv => whnf)
        (repeat' ((first | refine ord_ok (by (conv => whnf); (repeat' ((first | refine hi_is rfl hi2 ?_ | refine call_eq rfl h1 ?_ | refine call_eq rfl h2 ?_ | refine ify ?_ | refine ifn ?_ | refine i6 ?_ | refine ati ?_ | refine mst ?_ | refine rmd ?_ | refine ibo (fun _ => ?_) (fun _ => ?_)) <;> conv => whnf)); (all_goals (repeat' (first | exact trivial | exact rfl | refine And.intro ?_ ?_)))) ?_ | refine hi_is rfl hi2 ?_ | refine call_eq rfl h1 ?_ | refine call_eq rfl h2 ?_ | refine ify ?_ | refine ifn ?_ | refine i6 ?_ | refine ati ?_ | refine mst ?_ | refine rmd ?_ | refine ibo (fun _ => ?_) (fun _ => ?_)) <;> conv => whnf))
        exact ⟨i + 1, _, _, by omega, .refl _ _, ⟨rfl, rfl, rfl, rfl, trivial⟩, trivial, by omega⟩
    · by_cases h0 : r.length = 0
      · (conv => whnf)
        (repeat' ((first | refine ord_ok (by (conv => whnf); (repeat' ((first | refine call_eq rfl ho1 ?_ | refine call_eq rfl ho2 ?_ | refine call_eq rfl hsm ?_ | refine call_eqb tab rfl list_nilg rfl ?_ | refine call_eqb tab rfl linked_nilg rfl ?_ | refine call_eq rfl n1 ?_ | refine call_eq rfl n2 ?_ | refine call_eq rfl (may_nilg 0) ?_ | refine call_eq rfl next_nilg ?_ | refine call_eq rfl grow_nilg ?_ | refine call_eq rfl bare_nilg ?_ | refine ify ?_ | refine ifn ?_ | refine i6 ?_ | refine ati ?_ | refine mst ?_ | refine rmd ?_ | refine ibo (fun _ => ?_) (fun _ => ?_)) <;> conv => whnf)); (all_goals (repeat' (first | exact trivial | exact rfl | refine And.intro ?_ ?_)))) ?_ | refine call_eq rfl ho1 ?_ | refine call_eq rfl ho2 ?_ | refine call_eq rfl hsm ?_ | refine call_eqb tab rfl list_nilg rfl ?_ | refine call_eqb tab rfl linked_nilg rfl ?_ | refine call_eq rfl n1 ?_ | refine call_eq rfl n2 ?_ | refine call_eq rfl (may_nilg 0) ?_ | refine call_eq rfl next_nilg ?_ | refine call_eq rfl grow_nilg ?_ | refine call_eq rfl bare_nilg ?_ | refine ify ?_ | refine ifn ?_ | refine i6 ?_ | refine ati ?_ | refine mst ?_ | refine rmd ?_ | refine ibo (fun _ => ?_) (fun _ => ?_)) <;> conv => whnf))
        exact rfl
      · have hx := List.getElem?_eq_getElem (l := r) (i := 0) (by omega)
        have hy := List.getElem?_eq_getElem (l := S) (i := 0) (by omega)
        have hxy := hfst _ _ hx hy
        rw [← hxy] at hy
        generalize r[0]'(by omega) = x at hx hy
        have hxd : (r.map dI)[0]? = some (.int .i64 x) := by rw [List.getElem?_map, hx]; rfl
        have hyd : (S.map dI)[0]? = some (.int .i64 x) := by rw [List.getElem?_map, hy]; rfl
        (conv => whnf)
        (repeat' ((first | refine ord_ok (by (conv => whnf); (repeat' ((first | refine call_eq rfl ho1 ?_ | refine call_eq rfl ho2 ?_ | refine call_eq rfl hsm ?_ | refine at_da hxd rfl ?_ | refine at_da hyd rfl ?_ | refine call_eqb tab rfl list_nilg rfl ?_ | refine call_eqb tab rfl linked_nilg rfl ?_ | refine call_eq rfl n1 ?_ | refine call_eq rfl n2 ?_ | refine call_eq rfl (may_nilg 0) ?_ | refine call_eq rfl next_nilg ?_ | refine call_eq rfl grow_nilg ?_ | refine call_eq rfl bare_nilg ?_ | refine ify ?_ | refine ifn ?_ | refine i6 ?_ | refine ati ?_ | refine mst ?_ | refine rmd ?_ | refine ibo (fun _ => ?_) (fun _ => ?_)) <;> conv => whnf)); (all_goals (repeat' (first | exact trivial | exact rfl | refine And.intro ?_ ?_)))) ?_ | refine call_eq rfl ho1 ?_ | refine call_eq rfl ho2 ?_ | refine call_eq rfl hsm ?_ | refine at_da hxd rfl ?_ | refine at_da hyd rfl ?_ | refine call_eqb tab rfl list_nilg rfl ?_ | refine call_eqb tab rfl linked_nilg rfl ?_ | refine call_eq rfl n1 ?_ | refine call_eq rfl n2 ?_ | refine call_eq rfl (may_nilg 0) ?_ | refine call_eq rfl next_nilg ?_ | refine call_eq rfl grow_nilg ?_ | refine call_eq rfl bare_nilg ?_ | refine ify ?_ | refine ifn ?_ | refine i6 ?_ | refine ati ?_ | refine mst ?_ | refine rmd ?_ | refine ibo (fun _ => ?_) (fun _ => ?_)) <;> conv => whnf))
        exact rfl
end Go.Proofs.Ytmkbgbnehokmmaa
