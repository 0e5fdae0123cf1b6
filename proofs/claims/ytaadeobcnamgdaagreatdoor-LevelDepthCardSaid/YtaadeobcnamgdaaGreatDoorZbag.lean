/- Merged: Ptd Pso Bit Prm Prn Pin Ptu Ptv Itr Sea Cpa. -/
import Derived.Test.YtaadeobcnamgdaaGreatDoorZbaf
import Derived.Test.YtaadeobcnamgdaaGreatDoorZbac
import Derived.Test.YtaadeobcnamgdaaGreatDoorSxu
import Derived.Test.YtaadeobcnamgdaaGreatDoorZbab
import Derived.Test.YtaadeobcnamgdaaGreatDoorZbae
import Derived.Test.YtaadeobcnamgdaaGreatDoorZbaa
import Derived.RangeFuncNested
section
/- pat: Right, Has. slices.Index, Contains at edges. ref08: Right, Has, Made. ref12: Whole. law08: Of. -/
namespace Go.Gr
theorem eAt_none {n : Nat} {E : List Edg} {i : Nat} {e : Edg} (hx : E[i]? = some e) (h1 : 0 ≤ min e.a e.b ∧ max e.a e.b < n) (h2 : e.a < e.b) (h3 : i = 0 ∨ ∃ q, E[i - 1]? = some q ∧ cmpE q e < 0) : eAt n E i = none := by
  unfold eAt
  rw [hx]
  simp only [Option.map_eq_none_iff]
  unfold eBad
  rw [if_neg (fun h => h h1), if_neg (by omega)]
  rcases h3 with h3 | ⟨q, h3, h4⟩
  · rw [if_pos h3]
  · by_cases h0 : i = 0
    · rw [if_pos h0]
    · rw [if_neg h0, h3]
      simp only
      rw [if_pos h4]
theorem eAt_out {n : Nat} {E : List Edg} {i : Nat} {e : Edg} (hx : E[i]? = some e) (h1 : ¬ (0 ≤ min e.a e.b ∧ max e.a e.b < n)) : eAt n E i = some (3, i) := by
  unfold eAt
  rw [hx]
  simp only
  unfold eBad
  rw [if_pos h1]; rfl
theorem eAt_form {n : Nat} {E : List Edg} {i : Nat} {e : Edg} (hx : E[i]? = some e) (h1 : 0 ≤ min e.a e.b ∧ max e.a e.b < n) (h2 : e.b ≤ e.a) : eAt n E i = some (2, i) := by
  unfold eAt
  rw [hx]
  simp only
  unfold eBad
  rw [if_neg (fun h => h h1), if_pos h2]; rfl
theorem eAt_order {n : Nat} {E : List Edg} {i : Nat} {e q : Edg} (hx : E[i]? = some e) (h1 : 0 ≤ min e.a e.b ∧ max e.a e.b < n) (h2 : e.a < e.b) (h0 : i ≠ 0) (hq : E[i - 1]? = some q) (h3 : ¬ cmpE q e < 0) : eAt n E i = some (2, i) := by
  unfold eAt
  rw [hx]
  simp only
  unfold eBad
  rw [if_neg (fun h => h h1), if_neg (by omega), if_neg h0, hq]
  simp only
  rw [if_neg h3]; rfl
theorem eErr_at {n : Nat} {E : List Edg} {i : Nat} {y : Int × Nat} (h : ∀ k, k < i → eAt n E k = none) (hi : eAt n E i = some y) : eErr n E = some y := by
  have hl : i < E.length := by
    rcases Nat.lt_or_ge i E.length with h | h
    · exact h
    · unfold eAt at hi
      rw [List.getElem?_eq_none h] at hi
      cases hi
  exact findSome_at h hi hl
theorem eErr_no {n : Nat} {E : List Edg} (h : ∀ k, k < E.length → eAt n E k = none) : eErr n E = none := findSome_no h
theorem none_step {n : Nat} {E : List Edg} {i : Nat} (h : ∀ k, k < i → eAt n E k = none) (hi : eAt n E i = none) : ∀ k, k < i + 1 → eAt n E k = none := by
  intro k hk
  rcases Nat.lt_or_ge k i with hl | hl
  · exact h k hl
  · have : k = i := by omega
    subst this; exact hi
/-- a document's edge, either way round -/
def hasR (E : List Edg) (x y : Int) : Bool := E.any fun e => decide (e.a = x ∧ e.b = y ∨ e.a = y ∧ e.b = x)
/-- where an edge stands -/
def eIdx (E : List Edg) (e : Edg) : Int := match E.findIdx? (fun x => decide (x = e)) with
  | none => -1
  | some i => i
theorem eIdx_at {E : List Edg} {e : Edg} {i : Nat} (h : ∀ k x, k < i → E[k]? = some x → x ≠ e) (hx : E[i]? = some e) : eIdx E e = i := by
  have : E.findIdx? (fun x => decide (x = e)) = some i := by
    rw [List.findIdx?_eq_some_iff_getElem]
    obtain ⟨h1, h2⟩ := List.getElem?_eq_some_iff.1 hx
    refine ⟨h1, by simp [h2], fun j hj => ?_⟩
    have := h j _ hj (List.getElem?_eq_getElem (by omega))
    simpa using this
  unfold eIdx; rw [this]
theorem eIdx_no {E : List Edg} {e : Edg} (h : ∀ k x, k < E.length → E[k]? = some x → x ≠ e) : eIdx E e = -1 := by
  have : E.findIdx? (fun x => decide (x = e)) = none := by
    rw [List.findIdx?_eq_none_iff]
    intro x hx
    obtain ⟨i, hi, rfl⟩ := List.mem_iff_getElem.1 hx
    simpa using h i _ hi (List.getElem?_eq_getElem hi)
  unfold eIdx; rw [this]
theorem eIdx_mem {E : List Edg} {e : Edg} : (0 ≤ eIdx E e) ↔ e ∈ E := by
  unfold eIdx
  cases h : E.findIdx? (fun x => decide (x = e)) with
  | none =>
    rw [List.findIdx?_eq_none_iff] at h
    refine ⟨fun h => by simp at h, fun he => ?_⟩
    have := h e he
    simp at this
  | some i =>
    rw [List.findIdx?_eq_some_iff_getElem] at h
    obtain ⟨h1, h2, _⟩ := h
    refine ⟨fun _ => ?_, fun _ => by simp⟩
    have h2 : E[i] = e := by simpa using h2
    rw [← h2]; exact List.getElem_mem h1
end Go.Gr
namespace Go.Proofs.YtaadeobcnamgdaaGreatDoor
open Go.Sx Go.RowKit Go.Reg Go.Gr

set_option maxRecDepth 100000
def pl_ptr : List (Nat × Plan) := [(9, .leaf [0, 1, 0, 1, 0, 0, 0, 0, 0, 0, 1, 0, 0, 0, 1, 1, 2, 0, 0, 0, 0] [0, 2, 1, 3, 4, 5, 6, 7, 8, 9, 11, 12, 10, 13, 14, 15, 16, 17, 18, 19, 20] [0, 1, 0, 4, 15, 31, 63, 127, 255, 511, 1023, 511, 2559, 8191, 16383, 511, 65535, 131071, 262143, 524287, 1048575])]
def G_ptr : List FuncId := [85, 84]
theorem cok_ptr : codeOk Tryz.prog G_ptr pl_ptr (Tryz.f40.body.getD .skip) = true := by kernel_rfl
theorem run_ptr (vs : Array Value) (w : World) : (callFunc 40 vs).run C1.P w = .ok (.enter 40 vs) w := by kernel_rfl
set_option maxHeartbeats 4000000 in
theorem pright_pure (p : Pt) (hm : p.labels.length ≤ 9223372036854775807) (hme : p.edges.length ≤ 9223372036854775807) : Pure C1 40 [dPt p] (fun y => y = rightP p) := by
  have hdl : (p.labels.map dI).length = p.labels.length := List.length_map _
  have hde : (p.edges.map dE).length = p.edges.length := List.length_map _
  have hlb := plabels_pure p.labels hm
  refine pure_of c1_ok (pl := pl_ptr) (G := G_ptr) Tryz.func40 rfl Tryz.ntmps40 run_ptr cok_ptr (by simp) ?_
  cases hl : lErr p.labels with
  | some x =>
    obtain ⟨c, i⟩ := x
    have e1 : labelsY p.labels = dF c i (if c = 6 then patS else labS) := by unfold labelsY; rw [hl]
    have e2 : rightP p = dF c i (if c = 6 then patS else labS) := by unfold rightP; rw [hl]
    rw [e1] at hlb
    rw [e2]
    (conv => whnf)
    (repeat' ((first | refine ord_ok (by (conv => whnf); (repeat' ((first | refine call_eq rfl hlb ?_ | refine ify ?_ | refine ifn ?_ | refine i6 ?_ | refine ati ?_ | refine mst ?_ | refine rmd ?_ | refine ibo (fun _ => ?_) (fun _ => ?_)) <;> conv => whnf)); (all_goals (repeat' (first | exact trivial | exact rfl | refine And.intro ?_ ?_)))) ?_ | refine call_eq rfl hlb ?_ | refine ify ?_ | refine ifn ?_ | refine i6 ?_ | refine ati ?_ | refine mst ?_ | refine rmd ?_ | refine ibo (fun _ => ?_) (fun _ => ?_)) <;> conv => whnf))
    exact rfl
  | none =>
    have e1 : labelsY p.labels = .nili := by unfold labelsY; rw [hl]
    rw [e1] at hlb
    have e2 : rightP p = match eErr p.labels.length p.edges with | none => .nili | some (c, i) => dF c i edgS := by unfold rightP; rw [hl]; try rfl
    rw [e2]
    (conv => whnf)
    (repeat' ((first | refine ord_ok (by (conv => whnf); (repeat' ((first | refine call_eq rfl hlb ?_ | refine ify ?_ | refine ifn ?_ | refine i6 ?_ | refine ati ?_ | refine mst ?_ | refine rmd ?_ | refine ibo (fun _ => ?_) (fun _ => ?_)) <;> conv => whnf)); (all_goals (repeat' (first | exact trivial | exact rfl | refine And.intro ?_ ?_)))) ?_ | refine call_eq rfl hlb ?_ | refine ify ?_ | refine ifn ?_ | refine i6 ?_ | refine ati ?_ | refine mst ?_ | refine rmd ?_ | refine ibo (fun _ => ?_) (fun _ => ?_)) <;> conv => whnf))
    refine loop_lo (ι := Nat) (fun i => i ≤ p.edges.length ∧ ∀ k, k < i → eAt p.labels.length p.edges k = none) (fun i => [(15, .d (.int .i64 i)), (14, .d (.int .i64 p.edges.length)), (13, .d (dEs p.edges)), (1, .own 1)]) (fun _ => [(1, .cells 58 [.d (dIs p.labels), .d (dEs p.edges)])]) (fun i => p.edges.length - i) 0 (fun _ => rfl) ⟨Nat.zero_le _, (by intro k h; omega)⟩ (.refl _ _) ⟨rfl, by rw [← hde]; rfl, rfl, rfl, trivial⟩ ⟨rfl, trivial⟩ ?_
    rintro i ⟨hi, hok⟩
    refine sxCode_sound c1_ok (G := G_ptr) (pl := pl_ptr) _ _ _ _ (by kernel_rfl) ?_
    by_cases hil : i < p.edges.length
    · have hx := List.getElem?_eq_getElem hil
      generalize p.edges[i] = e at hx
      have hxd : (p.edges.map dE)[i]? = some (.agg [.int .i64 e.a, .int .i64 e.b]) := by rw [List.getElem?_map, hx]; rfl
      have hwi := within_pure e p.labels.length
      rw [← hdl] at hwi
      by_cases h1 : 0 ≤ min e.a e.b ∧ max e.a e.b < p.labels.length
      · rw [decide_eq_true (by rw [hdl]; exact h1)] at hwi
        by_cases h2 : e.a < e.b
        · by_cases h0 : i = 0
          · subst h0
            (conv => whnf)
            (repeat' ((first | refine ord_ok (by (conv => whnf); (repeat' ((first | refine at_da hxd rfl ?_ | refine call_eq rfl hwi ?_ | refine ify ?_ | refine ifn ?_ | refine i6 ?_ | refine ati ?_ | refine mst ?_ | refine rmd ?_ | refine ibo (fun _ => ?_) (fun _ => ?_)) <;> conv => whnf)); (all_goals (repeat' (first | exact trivial | exact rfl | refine And.intro ?_ ?_)))) ?_ | refine at_da hxd rfl ?_ | refine call_eq rfl hwi ?_ | refine ify ?_ | refine ifn ?_ | refine i6 ?_ | refine ati ?_ | refine mst ?_ | refine rmd ?_ | refine ibo (fun _ => ?_) (fun _ => ?_)) <;> conv => whnf))
            exact ⟨0 + 1, _, _, ⟨by omega, none_step hok (eAt_none hx h1 h2 (.inl rfl))⟩, .refl _ _, ⟨rfl, rfl, rfl, rfl, trivial⟩, ⟨rfl, trivial⟩, by omega⟩
          · have hy := List.getElem?_eq_getElem (l := p.edges) (i := i - 1) (by omega)
            generalize p.edges[i - 1]'(by omega) = q at hy
            have hyd : (p.edges.map dE)[i - 1]? = some (.agg [.int .i64 q.a, .int .i64 q.b]) := by rw [List.getElem?_map, hy]; rfl
            have hor := porder_pure q e
            by_cases h3 : cmpE q e < 0
            · (conv => whnf)
              (repeat' ((first | refine ord_ok (by (conv => whnf); (repeat' ((first | refine at_da hxd rfl ?_ | refine call_eq rfl hwi ?_ | refine at_da hyd (by omega) ?_ | refine call_eq rfl hor ?_ | refine ify ?_ | refine ifn ?_ | refine i6 ?_ | refine ati ?_ | refine mst ?_ | refine rmd ?_ | refine ibo (fun _ => ?_) (fun _ => ?_)) <;> conv => whnf)); (all_goals (repeat' (first | exact trivial | exact rfl | refine And.intro ?_ ?_)))) ?_ | refine at_da hxd rfl ?_ | refine call_eq rfl hwi ?_ | refine at_da hyd (by omega) ?_ | refine call_eq rfl hor ?_ | refine ify ?_ | refine ifn ?_ | refine i6 ?_ | refine ati ?_ | refine mst ?_ | refine rmd ?_ | refine ibo (fun _ => ?_) (fun _ => ?_)) <;> conv => whnf))
              exact ⟨i + 1, _, _, ⟨by omega, none_step hok (eAt_none hx h1 h2 (.inr ⟨q, hy, h3⟩))⟩, .refl _ _, ⟨rfl, rfl, rfl, rfl, trivial⟩, ⟨rfl, trivial⟩, by omega⟩
            · rw [eErr_at hok (eAt_order hx h1 h2 h0 hy h3)]
              (conv => whnf)
              (repeat' ((first | refine ord_ok (by (conv => whnf); (repeat' ((first | refine at_da hxd rfl ?_ | refine call_eq rfl hwi ?_ | refine at_da hyd (by omega) ?_ | refine call_eq rfl hor ?_ | refine call_eq rfl (fnew_pure 2 i edgS) ?_ | refine ify ?_ | refine ifn ?_ | refine i6 ?_ | refine ati ?_ | refine mst ?_ | refine rmd ?_ | refine ibo (fun _ => ?_) (fun _ => ?_)) <;> conv => whnf)); (all_goals (repeat' (first | exact trivial | exact rfl | refine And.intro ?_ ?_)))) ?_ | refine at_da hxd rfl ?_ | refine call_eq rfl hwi ?_ | refine at_da hyd (by omega) ?_ | refine call_eq rfl hor ?_ | refine call_eq rfl (fnew_pure 2 i edgS) ?_ | refine ify ?_ | refine ifn ?_ | refine i6 ?_ | refine ati ?_ | refine mst ?_ | refine rmd ?_ | refine ibo (fun _ => ?_) (fun _ => ?_)) <;> conv => whnf))
              exact rfl
        · rw [eErr_at hok (eAt_form hx h1 (by omega))]
          (conv => whnf)
          (repeat' ((first | refine ord_ok (by (conv => whnf); (repeat' ((first | refine at_da hxd rfl ?_ | refine call_eq rfl hwi ?_ | refine call_eq rfl (fnew_pure 2 i edgS) ?_ | refine ify ?_ | refine ifn ?_ | refine i6 ?_ | refine ati ?_ | refine mst ?_ | refine rmd ?_ | refine ibo (fun _ => ?_) (fun _ => ?_)) <;> conv => whnf)); (all_goals (repeat' (first | exact trivial | exact rfl | refine And.intro ?_ ?_)))) ?_ | refine at_da hxd rfl ?_ | refine call_eq rfl hwi ?_ | refine call_eq rfl (fnew_pure 2 i edgS) ?_ | refine ify ?_ | refine ifn ?_ | refine i6 ?_ | refine ati ?_ | refine mst ?_ | refine rmd ?_ | refine ibo (fun _ => ?_) (fun _ => ?_)) <;> conv => whnf))
          exact rfl
      · rw [decide_eq_false (by rw [hdl]; exact h1)] at hwi
        rw [eErr_at hok (eAt_out hx h1)]
        (conv => whnf)
        (repeat' ((first | refine ord_ok (by (conv => whnf); (repeat' ((first | refine at_da hxd rfl ?_ | refine call_eq rfl hwi ?_ | refine call_eq rfl (fnew_pure 3 i edgS) ?_ | refine ify ?_ | refine ifn ?_ | refine i6 ?_ | refine ati ?_ | refine mst ?_ | refine rmd ?_ | refine ibo (fun _ => ?_) (fun _ => ?_)) <;> conv => whnf)); (all_goals (repeat' (first | exact trivial | exact rfl | refine And.intro ?_ ?_)))) ?_ | refine at_da hxd rfl ?_ | refine call_eq rfl hwi ?_ | refine call_eq rfl (fnew_pure 3 i edgS) ?_ | refine ify ?_ | refine ifn ?_ | refine i6 ?_ | refine ati ?_ | refine mst ?_ | refine rmd ?_ | refine ibo (fun _ => ?_) (fun _ => ?_)) <;> conv => whnf))
        exact rfl
    · rw [eErr_no (fun k hk => hok k (by omega))]
      ((conv => whnf); repeat' ((first | refine odw ?_ | refine ify ?_ | refine ifn ?_ | refine i6 ?_ | refine ati ?_ | refine mst ?_ | refine rmd ?_ | refine ibo (fun _ => ?_) (fun _ => ?_)) <;> conv => whnf))
      exact rfl
def pl_sie : List (Nat × Plan) := [(4, .leaf [1, 0, 0, 0, 1, 3] [1, 2, 3, 0, 4, 5] [0, 0, 0, 6, 14, 31])]
def G_sie : List FuncId := []
theorem cok_sie : codeOk Tryz.prog G_sie pl_sie (Tryz.f290.body.getD .skip) = true := by kernel_rfl
theorem run_sie (vs : Array Value) (w : World) : (callFunc 290 vs).run C1.P w = .ok (.enter 290 vs) w := by kernel_rfl
theorem eindex_pure (E : List Edg) (e : Edg) (hm : E.length ≤ 9223372036854775807) : Pure C1 290 [dEs E, dE e] (fun y => y = .int .i64 (eIdx E e)) := by
  have hde : (E.map dE).length = E.length := List.length_map _
  refine pure_of c1_ok (pl := pl_sie) (G := G_sie) Tryz.func290 rfl Tryz.ntmps290 run_sie cok_sie (by simp) ?_
  ((conv => whnf); repeat' ((first | refine odw ?_ | refine ify ?_ | refine ifn ?_ | refine i6 ?_ | refine ati ?_ | refine mst ?_ | refine rmd ?_ | refine ibo (fun _ => ?_) (fun _ => ?_)) <;> conv => whnf))
  refine loop_lo (ι := Nat) (fun i => i ≤ E.length ∧ ∀ k x, k < i → E[k]? = some x → x ≠ e) (fun i => [(8, .d (.int .i64 i)), (7, .d (.int .i64 E.length)), (3, .own 3), (0, .d (dEs E))]) (fun _ => [(3, .cells 128 [.d (.int .i64 e.a), .d (.int .i64 e.b)])]) (fun i => E.length - i) 0 (fun _ => rfl) ⟨Nat.zero_le _, (by intro k x h; omega)⟩ (.refl _ _) ⟨rfl, by rw [← hde]; rfl, rfl, rfl, trivial⟩ ⟨rfl, trivial⟩ ?_
  rintro i ⟨hi, hok⟩
  refine sxCode_sound c1_ok (G := G_sie) (pl := pl_sie) _ _ _ _ (by kernel_rfl) ?_
  by_cases hil : i < E.length
  · have hx := List.getElem?_eq_getElem hil
    generalize E[i] = x at hx
    have hxd : (E.map dE)[i]? = some (.agg [.int .i64 x.a, .int .i64 x.b]) := by rw [List.getElem?_map, hx]; rfl
    by_cases hxe : x = e
    · subst hxe
      rw [eIdx_at hok hx]
      (conv => whnf)
      (repeat' ((first | refine ord_ok (by (conv => whnf); (repeat' ((first | refine at_da hxd rfl ?_ | refine ify ?_ | refine ifn ?_ | refine i6 ?_ | refine ati ?_ | refine mst ?_ | refine rmd ?_ | refine ibo (fun _ => ?_) (fun _ => ?_)) <;> conv => whnf)); (all_goals (repeat' (first | exact trivial | exact rfl | refine And.intro ?_ ?_)))) ?_ | refine at_da hxd rfl ?_ | refine ify ?_ | refine ifn ?_ | refine i6 ?_ | refine ati ?_ | refine mst ?_ | refine rmd ?_ | refine ibo (fun _ => ?_) (fun _ => ?_)) <;> conv => whnf))
      exact rfl
    · have hne : ¬ (e.a = x.a ∧ e.b = x.b) := fun h => hxe (by cases x; cases e; simp only at h; rw [h.1, h.2])
      (conv => whnf)
      (repeat' ((first | refine ord_ok (by (conv => whnf); (repeat' ((first | refine at_da hxd rfl ?_ | refine ify ?_ | refine ifn ?_ | refine i6 ?_ | refine ati ?_ | refine mst ?_ | refine rmd ?_ | refine ibo (fun _ => ?_) (fun _ => ?_)) <;> conv => whnf)); (all_goals (repeat' (first | exact trivial | exact rfl | refine And.intro ?_ ?_)))) ?_ | refine at_da hxd rfl ?_ | refine ify ?_ | refine ifn ?_ | refine i6 ?_ | refine ati ?_ | refine mst ?_ | refine rmd ?_ | refine ibo (fun _ => ?_) (fun _ => ?_)) <;> conv => whnf))
      refine ⟨i + 1, _, _, ⟨by omega, fun k y hk hy => ?_⟩, .refl _ _, ⟨rfl, rfl, rfl, rfl, trivial⟩, ⟨rfl, trivial⟩, by omega⟩
      rcases Nat.lt_or_ge k i with hl | hl
      · exact hok k y hl hy
      · have : k = i := by omega
        subst this
        rw [hx] at hy; cases hy; exact hxe
  · rw [eIdx_no (fun k x hk hx => hok k x (by omega) hx)]
    ((conv => whnf); repeat' ((first | refine odw ?_ | refine ify ?_ | refine ifn ?_ | refine i6 ?_ | refine ati ?_ | refine mst ?_ | refine rmd ?_ | refine ibo (fun _ => ?_) (fun _ => ?_)) <;> conv => whnf))
    exact rfl
def pl_sce : List (Nat × Plan) := []
def G_sce : List FuncId := []
theorem cok_sce : codeOk Tryz.prog G_sce pl_sce (Tryz.f288.body.getD .skip) = true := by kernel_rfl
theorem run_sce (vs : Array Value) (w : World) : (callFunc 288 vs).run C1.P w = .ok (.enter 288 vs) w := by kernel_rfl
theorem econtains_pure (E : List Edg) (e : Edg) (hm : E.length ≤ 9223372036854775807) : Pure C1 288 [dEs E, dE e] (fun y => y = .bool (decide (e ∈ E))) := by
  have h := eindex_pure E e hm
  refine pure_of c1_ok (pl := pl_sce) (G := G_sce) Tryz.func288 rfl Tryz.ntmps288 run_sce cok_sce (by simp) ?_
  (conv => whnf)
  (repeat' ((first | refine ord_ok (by (conv => whnf); (repeat' ((first | refine call_eq rfl h ?_ | refine ify ?_ | refine ifn ?_ | refine i6 ?_ | refine ati ?_ | refine mst ?_ | refine rmd ?_ | refine ibo (fun _ => ?_) (fun _ => ?_)) <;> conv => whnf)); (all_goals (repeat' (first | exact trivial | exact rfl | refine And.intro ?_ ?_)))) ?_ | refine call_eq rfl h ?_ | refine ify ?_ | refine ifn ?_ | refine i6 ?_ | refine ati ?_ | refine mst ?_ | refine rmd ?_ | refine ibo (fun _ => ?_) (fun _ => ?_)) <;> conv => whnf))
  exact congrArg Da.bool (decide_eq_decide.2 eIdx_mem)
def pl_pth : List (Nat × Plan) := [(1, .leaf [0, 1, 0, 0, 0, 2, 2, 0] [0, 2, 3, 4, 1, 5, 6, 7] [0, 1, 0, 0, 12, 28, 63, 127])]
def G_pth : List FuncId := [92, 288]
theorem cok_pth : codeOk Tryz.prog G_pth pl_pth (Tryz.f281.body.getD .skip) = true := by kernel_rfl
theorem run_pth (vs : Array Value) (w : World) : (callFunc 281 vs).run C1.P w = .ok (.enter 281 vs) w := by kernel_rfl
theorem phas_pure (p : Pt) (a b : Int) (hme : p.edges.length ≤ 9223372036854775807) : Pure C1 281 [dPt p, .int .i64 a, .int .i64 b] (fun y => y = .bool (decide (turn ⟨a, b⟩ ∈ p.edges))) := by
  have h1 := pturned_pure ⟨a, b⟩
  have h2 := econtains_pure p.edges (turn ⟨a, b⟩) hme
  refine pure_of c1_ok (pl := pl_pth) (G := G_pth) Tryz.func281 rfl Tryz.ntmps281 run_pth cok_pth (by simp) ?_
  (conv => whnf)
  (repeat' ((first | refine ord_ok (by (conv => whnf); (repeat' ((first | refine call_eq rfl h1 ?_ | refine call_eq rfl h2 ?_ | refine ify ?_ | refine ifn ?_ | refine i6 ?_ | refine ati ?_ | refine mst ?_ | refine rmd ?_ | refine ibo (fun _ => ?_) (fun _ => ?_)) <;> conv => whnf)); (all_goals (repeat' (first | exact trivial | exact rfl | refine And.intro ?_ ?_)))) ?_ | refine call_eq rfl h1 ?_ | refine call_eq rfl h2 ?_ | refine ify ?_ | refine ifn ?_ | refine i6 ?_ | refine ati ?_ | refine mst ?_ | refine rmd ?_ | refine ibo (fun _ => ?_) (fun _ => ?_)) <;> conv => whnf))
  exact rfl
theorem rightP_none {p : Pt} (h : pErr p = none) : rightP p = .nili := by
  unfold pErr at h
  unfold rightP
  split at h
  · cases h
  · rename_i hl
    rw [hl]
    simp only
    rw [h]
end Go.Proofs.YtaadeobcnamgdaaGreatDoor
end

section
/- Edges, plain: each put where it belongs. -/
namespace Go.Gr
def ltsB (E : List Edg) (e : Edg) : Nat := E.countP (fun x => decide (cmpE x e < 0))
/-- an edge put where it belongs -/
def insE (E : List Edg) (x : Edg) : List Edg := E.take (ltsB E x) ++ x :: E.drop (ltsB E x)
def accE (E : List Edg) (i : Nat) : List Edg := ((E.take i).map turn).foldl insE []
theorem lts_split {E : List Edg} (h : Strict E) (x : Edg) : (∀ y ∈ E.take (ltsB E x), cmpE y x < 0) ∧ ∀ y ∈ E.drop (ltsB E x), ¬ cmpE y x < 0 := by
  induction E with
  | nil => simp
  | cons z E ih =>
    obtain ⟨h1, h2⟩ := List.pairwise_cons.1 h
    by_cases hz : cmpE z x < 0
    · have e : ltsB (z :: E) x = ltsB E x + 1 := by unfold ltsB; rw [List.countP_cons_of_pos (by simp [hz])]
      rw [e, List.take_succ_cons, List.drop_succ_cons]
      obtain ⟨i1, i2⟩ := ih h2
      refine ⟨fun y hy => ?_, i2⟩
      rcases List.mem_cons.1 hy with rfl | hy
      · exact hz
      · exact i1 y hy
    · have hall : ∀ y ∈ z :: E, ¬ cmpE y x < 0 := by
        intro y hy
        rcases List.mem_cons.1 hy with rfl | hy
        · exact hz
        · exact fun hc => hz (cmpE_trans (h1 y hy) hc)
      have e : ltsB (z :: E) x = 0 := by
        unfold ltsB
        exact List.countP_eq_zero.2 fun y hy => by have := hall y hy; simpa using this
      rw [e]
      exact ⟨by simp, hall⟩
theorem insE_perm (E : List Edg) (x : Edg) : (insE E x).Perm (x :: E) := by
  unfold insE
  refine List.perm_middle.trans ?_
  rw [List.take_append_drop]
theorem insE_strict {E : List Edg} (h : Strict E) {x : Edg} (hx : x ∉ E) : Strict (insE E x) := by
  obtain ⟨h1, h2⟩ := lts_split h x
  unfold insE
  have hg : ∀ y ∈ E.drop (ltsB E x), cmpE x y < 0 := fun y hy => by
    rcases cmpE_tri x y with h3 | h3 | h3
    · exact h3
    · subst h3; exact absurd (List.mem_of_mem_drop hy) hx
    · exact absurd h3 (h2 y hy)
  refine List.pairwise_append.2 ⟨List.Pairwise.sublist (List.take_sublist _ _) h, List.pairwise_cons.2 ⟨hg, List.Pairwise.sublist (List.drop_sublist _ _) h⟩, fun a ha b hb => ?_⟩
  rcases List.mem_cons.1 hb with rfl | hb
  · exact h1 a ha
  · exact cmpE_trans (h1 a ha) (hg b hb)
theorem fold_ins (L : List Edg) (hn : L.Nodup) : ∀ E, Strict E → (∀ x ∈ L, x ∉ E) → Strict (L.foldl insE E) ∧ (L.foldl insE E).Perm (L ++ E) := by
  induction L with
  | nil => intro E h _; exact ⟨h, List.Perm.refl _⟩
  | cons x L ih =>
    intro E h hx
    obtain ⟨n1, n2⟩ := List.nodup_cons.1 hn
    have hs := insE_strict h (hx x (by simp))
    obtain ⟨i1, i2⟩ := ih n2 (insE E x) hs (fun y hy hm => by
      have := (insE_perm E x).mem_iff.1 hm
      rcases List.mem_cons.1 this with rfl | h3
      · exact n1 hy
      · exact hx y (by simp [hy]) h3)
    refine ⟨i1, i2.trans ?_⟩
    refine (List.Perm.append_left L (insE_perm E x)).trans ?_
    exact List.perm_middle
theorem accE_ok {E : List Edg} (hn : (E.map turn).Nodup) (i : Nat) : Strict (accE E i) ∧ (accE E i).Perm ((E.take i).map turn) := by
  have hn' : ((E.take i).map turn).Nodup := by rw [List.map_take]; exact hn.sublist (List.take_sublist _ _)
  have := fold_ins _ hn' [] List.Pairwise.nil (by simp)
  rwa [List.append_nil] at this
theorem accE_step {E : List Edg} {i : Nat} {x : Edg} (h : E[i]? = some x) : accE E (i + 1) = insE (accE E i) (turn x) := by
  unfold accE
  rw [List.take_add_one, h]
  simp
end Go.Gr
end

section
/- pat.Turn: of a right pattern by an order. -/
namespace Go.Gr
theorem pErr_none {p : Pt} (h : pErr p = none) : lErr p.labels = none ∧ (∀ e ∈ p.edges, 0 ≤ e.a ∧ e.a < e.b ∧ e.b < p.labels.length) ∧ Strict p.edges := by
  unfold pErr at h
  cases hl : lErr p.labels with
  | some x => rw [hl] at h; cases h
  | none =>
    rw [hl] at h
    obtain ⟨h1, h2⟩ := eErr_none h
    refine ⟨rfl, h1, ?_⟩
    unfold Strict
    rw [List.pairwise_iff_getElem]
    intro i j hi hj hij
    obtain ⟨d, rfl⟩ : ∃ d, j = i + 1 + d := ⟨j - (i + 1), by omega⟩
    induction d with
    | zero => exact h2 i _ _ (List.getElem?_eq_getElem hi) (List.getElem?_eq_getElem hj)
    | succ d ih =>
      have hj' : i + 1 + d < p.edges.length := by omega
      exact cmpE_trans (ih hj' (by omega)) (h2 (i + 1 + d) _ _ (List.getElem?_eq_getElem hj') (List.getElem?_eq_getElem hj))
end Go.Gr
namespace Go.Proofs.YtaadeobcnamgdaaGreatDoor
open Go.Sx Go.RowKit Go.Reg Go.Gr

set_option maxRecDepth 100000
theorem turn_turn (e : Edg) : turn (turn e) = turn e := by unfold turn; simp only [Edg.mk.injEq]; omega
end Go.Proofs.YtaadeobcnamgdaaGreatDoor
end

section
/- pat.Compare. -/
namespace Go.Gr
/-- thing by thing, then by length -/
def cmpF {α : Type} (f : α → α → Int) : List α → List α → Int
  | [], [] => 0
  | [], _ :: _ => -1
  | _ :: _, [] => 1
  | x :: a, y :: b => if f x y = 0 then cmpF f a b else f x y
theorem cmpF_cons {α : Type} (f : α → α → Int) (x y : α) (a b : List α) : cmpF f (x :: a) (y :: b) = if f x y = 0 then cmpF f a b else f x y := rfl
/-- the first that is not 0 -/
def orF : List Int → Int
  | [] => 0
  | x :: l => if x = 0 then orF l else x
/-- which pattern comes ahead -/
def cmpP (p q : Pt) : Int := orF [cmpI p.labels.length q.labels.length, cmpF cmpI p.labels q.labels, cmpI p.edges.length q.edges.length, cmpF cmpE p.edges q.edges]
end Go.Gr
end

section
/- Ranges over functions that yield slices of ints: what an iterator owes, and the loop's law. -/
namespace Go.Sx
open Go Go.RowKit Go.Reg
/-- a step that turns but what is among S, which it may make greater by new blocks -/
structure Grow (S : List Nat) (A : World) (S' : List Nat) (B : World) : Prop where
  tch : Tch S A B
  sub : ∀ b ∈ S, b ∈ S'
  new : ∀ b ∈ S', b ∈ S ∨ A.heap.size ≤ b
  lt : ∀ b ∈ S', b < B.heap.size
theorem Grow.refl {S : List Nat} {A : World} (h : ∀ b ∈ S, b < A.heap.size) : Grow S A S A := ⟨Tch.refl _ _, fun _ h => h, fun _ h => .inl h, h⟩
theorem Grow.same {S : List Nat} {A B : World} (t : Tch S A B) (h : ∀ b ∈ S, b < A.heap.size) : Grow S A S B := ⟨t, fun _ h => h, fun _ h => .inl h, fun b hb => Nat.lt_of_lt_of_le (h b hb) t.size⟩
theorem Grow.trans {S S' S2 : List Nat} {A B C : World} (h : Grow S A S' B) (k : Grow S' B S2 C) : Grow S A S2 C :=
  ⟨h.tch.trans k.tch (fun _ h => h) (fun b hb => h.new b hb), fun b hb => k.sub b (h.sub b hb), fun b hb => (k.new b hb).elim (fun hb => h.new b hb) (fun hb => .inr (Nat.le_trans h.tch.size hb)), k.lt⟩
theorem Grow.later {S S' : List Nat} {A B : World} (h : Grow S A S' B) : Later S A S' B := ⟨h.tch.size, fun b hb hn => h.tch.blk b hb hn, fun b hn hb hm => (h.new b hm).elim hn (fun h => by omega)⟩
end Go.Sx
end

section
/- Orders, patterns turned. -/
namespace Go.Gr
open Go.Proofs.YtaadeobcnamgdaaGreatDoor
/-! ### a list that holds all of another one -/
theorem perm_of_sub {α : Type} [DecidableEq α] : ∀ {l m : List α}, l.Nodup → (∀ x ∈ l, x ∈ m) → m.length ≤ l.length → l.Perm m
  | [], m, _, _, h => by
    have : m = [] := List.eq_nil_of_length_eq_zero (by simpa using h)
    subst this; exact .refl _
  | x :: l, m, hn, hs, h => by
    obtain ⟨h1, h2⟩ := List.nodup_cons.1 hn
    have hx : x ∈ m := hs x (by simp)
    have hp := List.perm_cons_erase hx
    have hl : m.length = (m.erase x).length + 1 := by have := hp.length_eq; simpa using this
    refine (List.Perm.cons x (perm_of_sub h2 (fun y hy => ?_) ?_)).trans hp.symm
    · exact (List.mem_erase_of_ne (fun e => by subst e; exact h1 hy)).2 (hs y (by simp [hy]))
    · simp only [List.length_cons] at h; omega
theorem nodup_len {α : Type} [DecidableEq α] {l m : List α} (hn : l.Nodup) (hs : ∀ x ∈ l, x ∈ m) : l.length ≤ m.length := by
  rcases Nat.lt_or_ge m.length l.length with h | h
  · have := (perm_of_sub hn hs (by omega)).length_eq; omega
  · exact h

/-! ### orders -/
/-- an order of n things -/
def IsOrd (n : Nat) (b : List Int) : Prop := b.length = n ∧ (∀ x ∈ b, 0 ≤ x ∧ x < (n : Int)) ∧ b.Nodup
instance (n : Nat) (b : List Int) : Decidable (IsOrd n b) := by unfold IsOrd; exact inferInstance
/-- a thing's place -/
def pl (b : List Int) (i : Nat) : Nat := ((b[i]?).getD 0).toNat
section
variable {n : Nat} {a b : List Int}
/-! ### a list in an order -/
end

/-! ### patterns turned -/
/-- a right pattern of n vertices -/
structure PtOk (n : Nat) (p : Pt) : Prop where
  len : p.labels.length = n
  edge : ∀ e ∈ p.edges, 0 ≤ e.a ∧ e.a < e.b ∧ e.b < (n : Int)
  strict : Strict p.edges
end Go.Gr
end
