/- LinesLinked: the walk. -/
import Derived.Test.YtfkkfaociofkjaaLnm
import Derived.Test.YtfkkfaociofkjaaLnn
import Derived.Test.YtfkkfaociofkjaaLng
namespace Go.Proofs.Ytfkkfaociofkjaa
open Go.Sx Go.RowKit Go.Reg Go.Gr

set_option maxRecDepth 100000
def pl_linlk : List (Nat × Plan) := [(11, .leaf [0, 0, 0, 1, 0, 0, 0, 0, 0, 1, 0, 1, 0, 0, 0, 0, 0, 0, 0, 0, 0, 0, 1, 2, 0] [0, 1, 2, 3, 4, 5, 6, 7, 8, 10, 9, 11, 12, 13, 14, 15, 16, 17, 18, 19, 20, 21, 22, 23, 24] [0, 0, 3, 7, 15, 31, 63, 63, 255, 511, 63, 1087, 3135, 8191, 16383, 32767, 65535, 65535, 262143, 65535, 65535, 1638399, 3735551, 8388607, 16777215]),
  (13, .leaf [1, 0, 0, 0, 2, 0] [1, 2, 3, 0, 4, 5] [0, 0, 0, 6, 15, 31]),
  (14, .leaf [0, 0, 0, 0, 0, 1, 0, 0, 0, 1, 0, 0, 1, 2, 0, 0, 0, 0, 0, 1, 0, 0, 0, 1, 0, 0, 1, 2, 0, 0] [0, 1, 2, 3, 4, 6, 7, 8, 5, 9, 10, 11, 12, 13, 14, 15, 16, 17, 18, 20, 21, 22, 19, 23, 24, 25, 26, 27, 28, 29] [0, 1, 3, 7, 7, 23, 7, 7, 199, 455, 1015, 2039, 4087, 8191, 16383, 32767, 65535, 131071, 131071, 393215, 131071, 131071, 3276799, 7471103, 16646143, 33423359, 66977791, 134217727, 268435455, 536870911])]
def G_linlk : List FuncId := [23, 26, 29, 25, 22, 27, 18, 17, 15]
theorem cok_linlk : codeOk Try.prog G_linlk pl_linlk (Try.f7.body.getD .skip) = true := by kernel_rfl
theorem run_linlk (vs : Array Value) (w : World) : (callFunc 7 vs).run C1.P w = .ok (.enter 7 vs) w := by kernel_rfl
set_option maxHeartbeats 4000000 in
theorem linlinked_pure (labels : List Int) (edges : List Edg) (l : List Int) : Pure C1 7 [dIs labels, dEs edges, dIs l] (fun y => y = .bool true) := by
  have hll : (l.map dI).length = l.length := List.length_map _
  refine pure_of c1_ok (pl := pl_linlk) (G := G_linlk) Try.func7 rfl Try.ntmps7 run_linlk cok_linlk (by simp) ?_
  ((conv => whnf); repeat' ((first | refine odw ?_ | refine ify ?_ | refine ifn ?_ | refine i6 ?_ | refine ati ?_ | refine mst ?_ | refine rmd ?_ | refine ibo (fun _ => ?_) (fun _ => ?_)) <;> conv => whnf))
  refine call_eq rfl lalive_pure ?_
  ((conv => whnf); repeat' ((first | refine odw ?_ | refine ify ?_ | refine ifn ?_ | refine i6 ?_ | refine ati ?_ | refine mst ?_ | refine rmd ?_ | refine ibo (fun _ => ?_) (fun _ => ?_)) <;> conv => whnf))
  refine call_eq rfl (made_pure labels edges) ?_
  rcases made_case labels edges with e | ⟨G, e, hG, hn, hm, _, _, _⟩
  · rw [e]
    ((conv => whnf); repeat' ((first | refine odw ?_ | refine ify ?_ | refine ifn ?_ | refine i6 ?_ | refine ati ?_ | refine mst ?_ | refine rmd ?_ | refine ibo (fun _ => ?_) (fun _ => ?_)) <;> conv => whnf))
    exact rfl
  rw [e]
  by_cases hl20 : 20 < l.length
  · ((conv => whnf); repeat' ((first | refine odw ?_ | refine ify ?_ | refine ifn ?_ | refine i6 ?_ | refine ati ?_ | refine mst ?_ | refine rmd ?_ | refine ibo (fun _ => ?_) (fun _ => ?_)) <;> conv => whnf))
    exact rfl
  have hps := pairs_small hG hn hm
  have hL := lnGr_ok hG (by omega) hps
  have hlk : Pure C1 29 [dG (lnG G), dIs l] (fun y => y = .bool (linkedV (lnGr G) l)) := linked_pure (lnGr G) hL l
  have hvs := verts_pure G l (by omega)
  have hvl := verts_link (G := G) (l := l)
  have hel : (G.edges.map dE).length = G.edges.length := List.length_map _
  (conv => whnf)
  (repeat' ((first | refine ord_ok (by (conv => whnf); (repeat' ((first | refine call_eq rfl (lof_pure G hG (by omega)) ?_ | refine ify ?_ | refine ifn ?_ | refine i6 ?_ | refine ati ?_ | refine mst ?_ | refine rmd ?_ | refine ibo (fun _ => ?_) (fun _ => ?_)) <;> conv => whnf)); (all_goals (repeat' (first | exact trivial | exact rfl | refine And.intro ?_ ?_)))) ?_ | refine call_eq rfl (lof_pure G hG (by omega)) ?_ | refine ify ?_ | refine ifn ?_ | refine i6 ?_ | refine ati ?_ | refine mst ?_ | refine rmd ?_ | refine ibo (fun _ => ?_) (fun _ => ?_)) <;> conv => whnf))
  rw [lofY_small hG hn hm]
  ((conv => whnf); repeat' ((first | refine odw ?_ | refine ify ?_ | refine ifn ?_ | refine i6 ?_ | refine ati ?_ | refine mst ?_ | refine rmd ?_ | refine ibo (fun _ => ?_) (fun _ => ?_)) <;> conv => whnf))
  refine loop_lo (ι := Nat) (fun i => i ≤ l.length ∧ goodK G.edges l i) (fun i => [(13, .d (.int .i64 i)), (12, .d (.bool (linkN (lnGr G) l i))), (10, .d (dG (lnG G))), (8, .own 8), (7, .d (dG G)), (2, .d (dIs l))]) (fun i => [(8, .cells 27 [.d (dIs G.labels), .d (dEs G.edges)])])
    (fun i => l.length - i) 0 (fun _ => rfl) ⟨Nat.zero_le _, by intro i v h; omega⟩ (.refl _ _) ⟨rfl, rfl, rfl, rfl, rfl, rfl, trivial⟩ ⟨rfl, trivial⟩ ?_
  rintro i ⟨hi, hgood⟩
  refine sxCode_sound c1_ok (G := G_linlk) (pl := pl_linlk) _ _ _ _ (by kernel_rfl) ?_
  by_cases hlt : i < l.length
  · have hx := List.getElem?_eq_getElem hlt
    generalize l[i] = v at hx
    have hxd : (l.map dI)[i]? = some (.int .i64 v) := by rw [List.getElem?_map, hx]; rfl
    have hi2 : i ≤ (l.map dI).length := by omega
    by_cases hr : 0 ≤ v ∧ v < G.edges.length
    · have hrn := hr.1
      have hrl := hr.2
      have hin := has06_pure (l.take i) v
      rw [dIs_take] at hin
      by_cases hc : v ∈ l.take i
      · rw [decide_eq_true hc] at hin
        rw [linkedV_no hx (linkAt_bad (.inr hc))] at hlk
        (conv => whnf)
        (repeat' ((first | refine ord_ok (by (conv => whnf); (repeat' ((first | refine at_da hxd rfl ?_ | refine hi_is rfl hi2 ?_ | refine call_eq rfl hin ?_ | refine ify ?_ | refine ifn ?_ | refine i6 ?_ | refine ati ?_ | refine mst ?_ | refine rmd ?_ | refine ibo (fun _ => ?_) (fun _ => ?_)) <;> conv => whnf)); (all_goals (repeat' (first | exact trivial | exact rfl | refine And.intro ?_ ?_)))) ?_ | refine at_da hxd rfl ?_ | refine hi_is rfl hi2 ?_ | refine call_eq rfl hin ?_ | refine ify ?_ | refine ifn ?_ | refine i6 ?_ | refine ati ?_ | refine mst ?_ | refine rmd ?_ | refine ibo (fun _ => ?_) (fun _ => ?_)) <;> conv => whnf))
        (conv => whnf)
        (repeat' ((first | refine ord_ok (by (conv => whnf); (repeat' ((first | refine if_no (fun h => h Iff.rfl) ?_ | refine call_eq rfl hlk ?_ | refine call_eq rfl hvs ?_ | refine call_eq rfl lof_nil ?_ | refine call_eq rfl (len_pure ⟨[], []⟩) ?_ | refine call_eq rfl (touch_nil 0 1) ?_ | refine call_eqb tab rfl (verts_nil [0]) rfl ?_ | refine call_eqb tab rfl (ends_nil [0]) rfl ?_ | refine call_eqb tab rfl (spang_nil [0]) rfl ?_ | refine call_eq rfl pairs_nil ?_ | refine ify ?_ | refine ifn ?_ | refine i6 ?_ | refine ati ?_ | refine mst ?_ | refine rmd ?_ | refine ibo (fun _ => ?_) (fun _ => ?_)) <;> conv => whnf)); (all_goals (repeat' (first | exact trivial | exact rfl | refine And.intro ?_ ?_)))) ?_ | refine if_no (fun h => h Iff.rfl) ?_ | refine call_eq rfl hlk ?_ | refine call_eq rfl hvs ?_ | refine call_eq rfl lof_nil ?_ | refine call_eq rfl (len_pure ⟨[], []⟩) ?_ | refine call_eq rfl (touch_nil 0 1) ?_ | refine call_eqb tab rfl (verts_nil [0]) rfl ?_ | refine call_eqb tab rfl (ends_nil [0]) rfl ?_ | refine call_eqb tab rfl (spang_nil [0]) rfl ?_ | refine call_eq rfl pairs_nil ?_ | refine ify ?_ | refine ifn ?_ | refine i6 ?_ | refine ati ?_ | refine mst ?_ | refine rmd ?_ | refine ibo (fun _ => ?_) (fun _ => ?_)) <;> conv => whnf))
        exact rfl
      · rw [decide_eq_false hc] at hin
        obtain ⟨m, rfl⟩ := Int.eq_ofNat_of_zero_le hrn
        have he := List.getElem?_eq_getElem (l := G.edges) (i := m) (by omega)
        generalize G.edges[m]'(by omega) = x at he
        have hed : (G.edges.map dE)[m]? = some (dE x) := by rw [List.getElem?_map, he]; rfl
        have hrv := rverts_pure G.labels G.edges (l.take i) (by rw [List.length_take]; omega)
        rw [dIs_take] at hrv
        have hst := linkN_step (G := lnGr G) hx
        rw [linkAt_good he hc hgood] at hst
        have hg2 := good_step hgood hx hr hc
        generalize vertsOf (endsOf G.edges (l.take i)) = V at hrv hst
        have ha := has06_pure V x.a
        have hb := has06_pure V x.b
        by_cases h0 : i = 0
        · rw [decide_eq_true h0] at hst
          simp only [Bool.true_or, Bool.and_true] at hst
          (conv => whnf)
          (repeat' ((first | refine ord_ok (by (conv => whnf); (repeat' ((first | refine at_da hxd rfl ?_ | refine hi_is rfl hi2 ?_ | refine call_eq rfl hin ?_ | refine call_eq rfl hrv ?_ | refine ify ?_ | refine ifn ?_ | refine i6 ?_ | refine ati ?_ | refine mst ?_ | refine rmd ?_ | refine ibo (fun _ => ?_) (fun _ => ?_)) <;> conv => whnf)); (all_goals (repeat' (first | exact trivial | exact rfl | refine And.intro ?_ ?_)))) ?_ | refine at_da hxd rfl ?_ | refine hi_is rfl hi2 ?_ | refine call_eq rfl hin ?_ | refine call_eq rfl hrv ?_ | refine ify ?_ | refine ifn ?_ | refine i6 ?_ | refine ati ?_ | refine mst ?_ | refine rmd ?_ | refine ibo (fun _ => ?_) (fun _ => ?_)) <;> conv => whnf))
          exact ⟨i + 1, _, _, ⟨hlt, hg2⟩, .refl _ _, ⟨rfl, by rw [hst]; rfl, rfl, rfl, rfl, rfl, trivial⟩, ⟨rfl, trivial⟩, by omega⟩
        · rw [decide_eq_false h0] at hst
          simp only [Bool.false_or] at hst
          by_cases hva : x.a ∈ V
          · rw [decide_eq_true hva] at ha hst
            simp only [Bool.true_or, Bool.and_true] at hst
            (conv => whnf)
            (repeat' ((first | refine ord_ok (by (conv => whnf); (repeat' ((first | refine at_da hxd rfl ?_ | refine at_da hed rfl ?_ | refine hi_is rfl hi2 ?_ | refine call_eq rfl hin ?_ | refine call_eq rfl hrv ?_ | refine call_eq rfl ha ?_ | refine call_eq rfl hb ?_ | refine ify ?_ | refine ifn ?_ | refine i6 ?_ | refine ati ?_ | refine mst ?_ | refine rmd ?_ | refine ibo (fun _ => ?_) (fun _ => ?_)) <;> conv => whnf)); (all_goals (repeat' (first | exact trivial | exact rfl | refine And.intro ?_ ?_)))) ?_ | refine at_da hxd rfl ?_ | refine at_da hed rfl ?_ | refine hi_is rfl hi2 ?_ | refine call_eq rfl hin ?_ | refine call_eq rfl hrv ?_ | refine call_eq rfl ha ?_ | refine call_eq rfl hb ?_ | refine ify ?_ | refine ifn ?_ | refine i6 ?_ | refine ati ?_ | refine mst ?_ | refine rmd ?_ | refine ibo (fun _ => ?_) (fun _ => ?_)) <;> conv => whnf))
            exact ⟨i + 1, _, _, ⟨hlt, hg2⟩, .refl _ _, ⟨rfl, by rw [hst]; rfl, rfl, rfl, rfl, rfl, trivial⟩, ⟨rfl, trivial⟩, by omega⟩
          · rw [decide_eq_false hva] at ha hst
            by_cases hvb : x.b ∈ V
            · rw [decide_eq_true hvb] at hb hst
              simp only [Bool.or_true, Bool.and_true] at hst
              (conv => whnf)
              (repeat' ((first | refine ord_ok (by (conv => whnf); (repeat' ((first | refine at_da hxd rfl ?_ | refine at_da hed rfl ?_ | refine hi_is rfl hi2 ?_ | refine call_eq rfl hin ?_ | refine call_eq rfl hrv ?_ | refine call_eq rfl ha ?_ | refine call_eq rfl hb ?_ | refine ify ?_ | refine ifn ?_ | refine i6 ?_ | refine ati ?_ | refine mst ?_ | refine rmd ?_ | refine ibo (fun _ => ?_) (fun _ => ?_)) <;> conv => whnf)); (all_goals (repeat' (first | exact trivial | exact rfl | refine And.intro ?_ ?_)))) ?_ | refine at_da hxd rfl ?_ | refine at_da hed rfl ?_ | refine hi_is rfl hi2 ?_ | refine call_eq rfl hin ?_ | refine call_eq rfl hrv ?_ | refine call_eq rfl ha ?_ | refine call_eq rfl hb ?_ | refine ify ?_ | refine ifn ?_ | refine i6 ?_ | refine ati ?_ | refine mst ?_ | refine rmd ?_ | refine ibo (fun _ => ?_) (fun _ => ?_)) <;> conv => whnf))
              exact ⟨i + 1, _, _, ⟨hlt, hg2⟩, .refl _ _, ⟨rfl, by rw [hst]; rfl, rfl, rfl, rfl, rfl, trivial⟩, ⟨rfl, trivial⟩, by omega⟩
            · rw [decide_eq_false hvb] at hb hst
              simp only [Bool.or_false, Bool.and_false] at hst
              (conv => whnf)
              (repeat' ((first | refine ord_ok (by (conv => whnf); (repeat' ((first | refine at_da hxd rfl ?_ | refine at_da hed rfl ?_ | refine hi_is rfl hi2 ?_ | refine call_eq rfl hin ?_ | refine call_eq rfl hrv ?_ | refine call_eq rfl ha ?_ | refine call_eq rfl hb ?_ | refine ify ?_ | refine ifn ?_ | refine i6 ?_ | refine ati ?_ | refine mst ?_ | refine rmd ?_ | refine ibo (fun _ => ?_) (fun _ => ?_)) <;> conv => whnf)); (all_goals (repeat' (first | exact trivial | exact rfl | refine And.intro ?_ ?_)))) ?_ | refine at_da hxd rfl ?_ | refine at_da hed rfl ?_ | refine hi_is rfl hi2 ?_ | refine call_eq rfl hin ?_ | refine call_eq rfl hrv ?_ | refine call_eq rfl ha ?_ | refine call_eq rfl hb ?_ | refine ify ?_ | refine ifn ?_ | refine i6 ?_ | refine ati ?_ | refine mst ?_ | refine rmd ?_ | refine ibo (fun _ => ?_) (fun _ => ?_)) <;> conv => whnf))
              exact ⟨i + 1, _, _, ⟨hlt, hg2⟩, .refl _ _, ⟨rfl, by rw [hst]; rfl, rfl, rfl, rfl, rfl, trivial⟩, ⟨rfl, trivial⟩, by omega⟩
    · rw [linkedV_no hx (linkAt_bad (.inl hr))] at hlk
      by_cases hrn : v < 0
      · (conv => whnf)
        (repeat' ((first | refine ord_ok (by (conv => whnf); (repeat' ((first | refine at_da hxd rfl ?_ | refine ify ?_ | refine ifn ?_ | refine i6 ?_ | refine ati ?_ | refine mst ?_ | refine rmd ?_ | refine ibo (fun _ => ?_) (fun _ => ?_)) <;> conv => whnf)); (all_goals (repeat' (first | exact trivial | exact rfl | refine And.intro ?_ ?_)))) ?_ | refine at_da hxd rfl ?_ | refine ify ?_ | refine ifn ?_ | refine i6 ?_ | refine ati ?_ | refine mst ?_ | refine rmd ?_ | refine ibo (fun _ => ?_) (fun _ => ?_)) <;> conv => whnf))
        (conv => whnf)
        (repeat' ((first | refine ord_ok (by (conv => whnf); (repeat' ((first | refine if_no (fun h => h Iff.rfl) ?_ | refine call_eq rfl hlk ?_ | refine call_eq rfl hvs ?_ | refine call_eq rfl lof_nil ?_ | refine call_eq rfl (len_pure ⟨[], []⟩) ?_ | refine call_eq rfl (touch_nil 0 1) ?_ | refine call_eqb tab rfl (verts_nil [0]) rfl ?_ | refine call_eqb tab rfl (ends_nil [0]) rfl ?_ | refine call_eqb tab rfl (spang_nil [0]) rfl ?_ | refine call_eq rfl pairs_nil ?_ | refine ify ?_ | refine ifn ?_ | refine i6 ?_ | refine ati ?_ | refine mst ?_ | refine rmd ?_ | refine ibo (fun _ => ?_) (fun _ => ?_)) <;> conv => whnf)); (all_goals (repeat' (first | exact trivial | exact rfl | refine And.intro ?_ ?_)))) ?_ | refine if_no (fun h => h Iff.rfl) ?_ | refine call_eq rfl hlk ?_ | refine call_eq rfl hvs ?_ | refine call_eq rfl lof_nil ?_ | refine call_eq rfl (len_pure ⟨[], []⟩) ?_ | refine call_eq rfl (touch_nil 0 1) ?_ | refine call_eqb tab rfl (verts_nil [0]) rfl ?_ | refine call_eqb tab rfl (ends_nil [0]) rfl ?_ | refine call_eqb tab rfl (spang_nil [0]) rfl ?_ | refine call_eq rfl pairs_nil ?_ | refine ify ?_ | refine ifn ?_ | refine i6 ?_ | refine ati ?_ | refine mst ?_ | refine rmd ?_ | refine ibo (fun _ => ?_) (fun _ => ?_)) <;> conv => whnf))
        exact rfl
      · (conv => whnf)
        (repeat' ((first | refine ord_ok (by (conv => whnf); (repeat' ((first | refine at_da hxd rfl ?_ | refine ify ?_ | refine ifn ?_ | refine i6 ?_ | refine ati ?_ | refine mst ?_ | refine rmd ?_ | refine ibo (fun _ => ?_) (fun _ => ?_)) <;> conv => whnf)); (all_goals (repeat' (first | exact trivial | exact rfl | refine And.intro ?_ ?_)))) ?_ | refine at_da hxd rfl ?_ | refine ify ?_ | refine ifn ?_ | refine i6 ?_ | refine ati ?_ | refine mst ?_ | refine rmd ?_ | refine ibo (fun _ => ?_) (fun _ => ?_)) <;> conv => whnf))
        (conv => whnf)
        (repeat' ((first | refine ord_ok (by (conv => whnf); (repeat' ((first | refine if_no (fun h => h Iff.rfl) ?_ | refine call_eq rfl hlk ?_ | refine call_eq rfl hvs ?_ | refine call_eq rfl lof_nil ?_ | refine call_eq rfl (len_pure ⟨[], []⟩) ?_ | refine call_eq rfl (touch_nil 0 1) ?_ | refine call_eqb tab rfl (verts_nil [0]) rfl ?_ | refine call_eqb tab rfl (ends_nil [0]) rfl ?_ | refine call_eqb tab rfl (spang_nil [0]) rfl ?_ | refine call_eq rfl pairs_nil ?_ | refine ify ?_ | refine ifn ?_ | refine i6 ?_ | refine ati ?_ | refine mst ?_ | refine rmd ?_ | refine ibo (fun _ => ?_) (fun _ => ?_)) <;> conv => whnf)); (all_goals (repeat' (first | exact trivial | exact rfl | refine And.intro ?_ ?_)))) ?_ | refine if_no (fun h => h Iff.rfl) ?_ | refine call_eq rfl hlk ?_ | refine call_eq rfl hvs ?_ | refine call_eq rfl lof_nil ?_ | refine call_eq rfl (len_pure ⟨[], []⟩) ?_ | refine call_eq rfl (touch_nil 0 1) ?_ | refine call_eqb tab rfl (verts_nil [0]) rfl ?_ | refine call_eqb tab rfl (ends_nil [0]) rfl ?_ | refine call_eqb tab rfl (spang_nil [0]) rfl ?_ | refine call_eq rfl pairs_nil ?_ | refine ify ?_ | refine ifn ?_ | refine i6 ?_ | refine ati ?_ | refine mst ?_ | refine rmd ?_ | refine ibo (fun _ => ?_) (fun _ => ?_)) <;> conv => whnf))
        exact rfl
  · have hil : i = l.length := by omega
    subst hil
    rw [linkN_all]
    cases hb : linkedV (lnGr G) l with
    | false =>
      rw [hb] at hlk
      (conv => whnf)
      (repeat' ((first | refine ord_ok (by (conv => whnf); (repeat' ((first | refine if_no (fun h => h Iff.rfl) ?_ | refine call_eq rfl hlk ?_ | refine call_eq rfl hvs ?_ | refine call_eq rfl lof_nil ?_ | refine call_eq rfl (len_pure ⟨[], []⟩) ?_ | refine call_eq rfl (touch_nil 0 1) ?_ | refine call_eqb tab rfl (verts_nil [0]) rfl ?_ | refine call_eqb tab rfl (ends_nil [0]) rfl ?_ | refine call_eqb tab rfl (spang_nil [0]) rfl ?_ | refine call_eq rfl pairs_nil ?_ | refine ify ?_ | refine ifn ?_ | refine i6 ?_ | refine ati ?_ | refine mst ?_ | refine rmd ?_ | refine ibo (fun _ => ?_) (fun _ => ?_)) <;> conv => whnf)); (all_goals (repeat' (first | exact trivial | exact rfl | refine And.intro ?_ ?_)))) ?_ | refine if_no (fun h => h Iff.rfl) ?_ | refine call_eq rfl hlk ?_ | refine call_eq rfl hvs ?_ | refine call_eq rfl lof_nil ?_ | refine call_eq rfl (len_pure ⟨[], []⟩) ?_ | refine call_eq rfl (touch_nil 0 1) ?_ | refine call_eqb tab rfl (verts_nil [0]) rfl ?_ | refine call_eqb tab rfl (ends_nil [0]) rfl ?_ | refine call_eqb tab rfl (spang_nil [0]) rfl ?_ | refine call_eq rfl pairs_nil ?_ | refine ify ?_ | refine ifn ?_ | refine i6 ?_ | refine ati ?_ | refine mst ?_ | refine rmd ?_ | refine ibo (fun _ => ?_) (fun _ => ?_)) <;> conv => whnf))
      exact rfl
    | true =>
      rw [hb] at hlk
      have hv1 := hvl hb l.length (Nat.le_refl _)
      rw [List.take_length] at hv1
      have hvml : ((vertsOf (endsOf G.edges l)).map dI).length = (vertsOf (endsOf G.edges l)).length := List.length_map _
      by_cases hz : 0 < l.length
      · (conv => whnf)
        (repeat' ((first | refine ord_ok (by (conv => whnf); (repeat' ((first | refine if_no (fun h => h Iff.rfl) ?_ | refine call_eq rfl hlk ?_ | refine call_eq rfl hvs ?_ | refine call_eq rfl lof_nil ?_ | refine call_eq rfl (len_pure ⟨[], []⟩) ?_ | refine call_eq rfl (touch_nil 0 1) ?_ | refine call_eqb tab rfl (verts_nil [0]) rfl ?_ | refine call_eqb tab rfl (ends_nil [0]) rfl ?_ | refine call_eqb tab rfl (spang_nil [0]) rfl ?_ | refine call_eq rfl pairs_nil ?_ | refine ify ?_ | refine ifn ?_ | refine i6 ?_ | refine ati ?_ | refine mst ?_ | refine rmd ?_ | refine ibo (fun _ => ?_) (fun _ => ?_)) <;> conv => whnf)); (all_goals (repeat' (first | exact trivial | exact rfl | refine And.intro ?_ ?_)))) ?_ | refine if_no (fun h => h Iff.rfl) ?_ | refine call_eq rfl hlk ?_ | refine call_eq rfl hvs ?_ | refine call_eq rfl lof_nil ?_ | refine call_eq rfl (len_pure ⟨[], []⟩) ?_ | refine call_eq rfl (touch_nil 0 1) ?_ | refine call_eqb tab rfl (verts_nil [0]) rfl ?_ | refine call_eqb tab rfl (ends_nil [0]) rfl ?_ | refine call_eqb tab rfl (spang_nil [0]) rfl ?_ | refine call_eq rfl pairs_nil ?_ | refine ify ?_ | refine ifn ?_ | refine i6 ?_ | refine ati ?_ | refine mst ?_ | refine rmd ?_ | refine ibo (fun _ => ?_) (fun _ => ?_)) <;> conv => whnf))
        exact rfl
      · (conv => whnf)
        (repeat' ((first | refine ord_ok (by (conv => whnf); (repeat' ((first | refine if_no (fun h => h Iff.rfl) ?_ | refine call_eq rfl hlk ?_ | refine call_eq rfl hvs ?_ | refine call_eq rfl lof_nil ?_ | refine call_eq rfl (len_pure ⟨[], []⟩) ?_ | refine call_eq rfl (touch_nil 0 1) ?_ | refine call_eqb tab rfl (verts_nil [0]) rfl ?_ | refine call_eqb tab rfl (ends_nil [0]) rfl ?_ | refine call_eqb tab rfl (spang_nil [0]) rfl ?_ | refine call_eq rfl pairs_nil ?_ | refine ify ?_ | refine ifn ?_ | refine i6 ?_ | refine ati ?_ | refine mst ?_ | refine rmd ?_ | refine ibo (fun _ => ?_) (fun _ => ?_)) <;> conv => whnf)); (all_goals (repeat' (first | exact trivial | exact rfl | refine And.intro ?_ ?_)))) ?_ | refine if_no (fun h => h Iff.rfl) ?_ | refine call_eq rfl hlk ?_ | refine call_eq rfl hvs ?_ | refine call_eq rfl lof_nil ?_ | refine call_eq rfl (len_pure ⟨[], []⟩) ?_ | refine call_eq rfl (touch_nil 0 1) ?_ | refine call_eqb tab rfl (verts_nil [0]) rfl ?_ | refine call_eqb tab rfl (ends_nil [0]) rfl ?_ | refine call_eqb tab rfl (spang_nil [0]) rfl ?_ | refine call_eq rfl pairs_nil ?_ | refine ify ?_ | refine ifn ?_ | refine i6 ?_ | refine ati ?_ | refine mst ?_ | refine rmd ?_ | refine ibo (fun _ => ?_) (fun _ => ?_)) <;> conv => whnf))
        exact rfl

end Go.Proofs.Ytfkkfaociofkjaa
