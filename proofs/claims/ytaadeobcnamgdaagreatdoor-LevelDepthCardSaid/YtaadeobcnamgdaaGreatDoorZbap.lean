/- Merged: Grs. -/
import Derived.Test.YtaadeobcnamgdaaGreatDoorZbak
import Derived.Test.YtaadeobcnamgdaaGreatDoorSxu
import Derived.Test.YtaadeobcnamgdaaGreatDoorZbag
section
/- Graphs: an edge's number: slices.BinarySearchFunc over edges that rise; Id, Has. -/
namespace Go.Gr
/-- an edge's number; below 0: there is none -/
def idV (E : List Edg) (e : Edg) : Int := if e ∈ E then (ltsB E e : Int) else -1
theorem lts_bound : ∀ (E : List Edg) (e : Edg) (m : Nat), m ≤ E.length → (∀ x ∈ E.take m, cmpE x e < 0) → (∀ x ∈ E.drop m, ¬ cmpE x e < 0) → ltsB E e = m := by
  intro E e m hm h1 h2
  unfold ltsB
  rw [← List.take_append_drop m E, List.countP_append]
  have e1 : (E.take m).countP (fun x => decide (cmpE x e < 0)) = (E.take m).length := List.countP_eq_length.2 fun x hx => by simp [h1 x hx]
  have e2 : (E.drop m).countP (fun x => decide (cmpE x e < 0)) = 0 := List.countP_eq_zero.2 fun x hx => by have := h2 x hx; simpa using this
  rw [e1, e2, List.length_take]; omega
theorem strict_get {E : List Edg} (h : Strict E) {i j : Nat} {x y : Edg} (hi : E[i]? = some x) (hj : E[j]? = some y) (hij : i < j) : cmpE x y < 0 := by
  obtain ⟨h1, rfl⟩ := List.getElem?_eq_some_iff.1 hi
  obtain ⟨h2, rfl⟩ := List.getElem?_eq_some_iff.1 hj
  exact List.pairwise_iff_getElem.1 h i j h1 h2 hij
theorem strict_take {E : List Edg} (h : Strict E) {m : Nat} {y e : Edg} (hm : E[m]? = some y) (he : cmpE y e < 0) : ∀ x ∈ E.take (m + 1), cmpE x e < 0 := by
  intro x hx
  obtain ⟨i, hi, rfl⟩ := List.mem_take_iff_getElem.1 hx
  by_cases h2 : i = m
  · subst h2
    rw [List.getElem?_eq_getElem (by omega)] at hm
    rw [Option.some.inj hm]; exact he
  · exact cmpE_trans (strict_get h (List.getElem?_eq_getElem (by omega)) hm (by omega)) he
theorem strict_drop {E : List Edg} (h : Strict E) {m : Nat} {y e : Edg} (hm : E[m]? = some y) (he : ¬ cmpE y e < 0) : ∀ x ∈ E.drop m, ¬ cmpE x e < 0 := by
  intro x hx hc
  obtain ⟨i, hi, rfl⟩ := List.mem_drop_iff_getElem.1 hx
  by_cases h2 : i = 0
  · subst h2
    rw [List.getElem?_eq_getElem (by omega)] at hm
    have := Option.some.inj hm
    simp only [Nat.add_zero] at hc
    rw [this] at hc; exact he hc
  · exact he (cmpE_trans (strict_get h hm (List.getElem?_eq_getElem (by omega)) (by omega)) hc)
theorem lts_mem {E : List Edg} (h : Strict E) {m : Nat} {e : Edg} (h1 : E[m]? = some e) : ltsB E e = m := by
  have hm := (List.getElem?_eq_some_iff.1 h1).1
  refine lts_bound E e m (by omega) (fun x hx => ?_) (strict_drop h h1 (cmpE_irr e))
  obtain ⟨i, hi, rfl⟩ := List.mem_take_iff_getElem.1 hx
  exact strict_get h (List.getElem?_eq_getElem (by omega)) h1 (by omega)
theorem lts_le (E : List Edg) (e : Edg) : ltsB E e ≤ E.length := List.countP_le_length
theorem lts_lt {E : List Edg} (h : Strict E) {e : Edg} (he : e ∈ E) : E[ltsB E e]? = some e := by
  obtain ⟨m, hm⟩ := List.mem_iff_getElem?.1 he
  rw [lts_mem h hm]; exact hm
theorem idV_not {E : List Edg} {e : Edg} (h : ¬ e ∈ E) : idV E e = -1 := by rw [idV, if_neg h]
theorem idV_nn {E : List Edg} {e : Edg} : 0 ≤ idV E e ↔ e ∈ E := by
  unfold idV
  split
  · rename_i h; exact ⟨fun _ => h, fun _ => by omega⟩
  · rename_i h; exact ⟨fun h2 => by omega, fun h2 => absurd h2 h⟩
end Go.Gr
namespace Go.Sx
theorem u64_is {e : Int} {K : Int → Prop} (h : 0 ≤ e ∧ e ≤ 18446744073709551615) (hK : K e) : ∃ n, IntKind.u64.wrap e = n ∧ K n := ⟨e, IntWalk.u64_in e h, hK⟩
theorem i64_eq (m : Nat) {e : Int} {K : Int → Prop} (h : e = m) (hm : m ≤ 9223372036854775807) (hK : K (m : Int)) : ∃ n, IntKind.i64.wrap e = n ∧ K n := by
  subst h; exact ⟨_, wrap64_in ⟨by omega, by omega⟩, hK⟩
theorem half_nat (x y : Nat) : ((x : Int) + (y : Int)).fdiv (2 ^ 1) = ((x + y) / 2 : Nat) := by
  rw [show ((2 : Int) ^ 1) = 2 by decide, Int.fdiv_eq_ediv_of_nonneg _ (by omega)]; omega
end Go.Sx
namespace Go.Proofs.YtaadeobcnamgdaaGreatDoor
open Go.Sx Go.RowKit Go.Reg Go.Gr

set_option maxRecDepth 100000
def pl_bsf : List (Nat × Plan) := [(5, .leaf [0, 0, 0, 0, 1, 1, 3, 0] [0, 1, 2, 3, 4, 5, 6, 7] [0, 0, 0, 6, 14, 0, 63, 127]),
  (8, .leaf [0, 0, 0, 0, 0, 0, 0, 0, 0, 1, 1, 3, 0, 0, 0, 0] [0, 1, 2, 3, 4, 5, 6, 7, 8, 9, 10, 11, 12, 13, 14, 15] [0, 0, 0, 6, 14, 30, 30, 30, 222, 478, 30, 2046, 4094, 8190, 4095, 32767])]
def G_bsf : List FuncId := []
theorem cok_bsf : codeOk Tryz.prog G_bsf pl_bsf (Tryz.f174.body.getD .skip) = true := by kernel_rfl
theorem run_bsf (vs : Array Value) (w : World) : (callFunc 174 vs).run C1.P w = .ok (.enter 174 vs) w := by kernel_rfl
theorem bsearchO_pure (F : FuncId) (hF : ∀ x y : Edg, Pure C1 F [dE x, dE y] (fun r => r = .int .i64 (cmpE x y))) (E : List Edg) (hE : Strict E) (hl : E.length ≤ 16384) (e : Edg) : Pure C1 174 [dEs E, dE e, .func (.func F) [] []] (fun y => y = .tuple [.int .i64 (ltsB E e), .bool (decide (e ∈ E))]) := by
  have hlm : (E.map dE).length = E.length := List.length_map _
  refine pure_of c1_ok (pl := pl_bsf) (G := G_bsf) Tryz.func174 rfl Tryz.ntmps174 run_bsf cok_bsf (by simp) ?_
  ((conv => whnf); repeat' ((first | refine odw ?_ | refine ify ?_ | refine ifn ?_ | refine i6 ?_ | refine ati ?_ | refine mst ?_ | refine rmd ?_ | refine ibo (fun _ => ?_) (fun _ => ?_)) <;> conv => whnf))
  refine loop_lo (ι := Nat × Nat) (fun x => x.1 ≤ x.2 ∧ x.2 ≤ E.length ∧ (∀ z ∈ E.take x.1, cmpE z e < 0) ∧ ∀ z ∈ E.drop x.2, ¬ cmpE z e < 0)
    (fun x => [(10, .d (.int .i64 x.2)), (9, .d (.int .i64 x.1)), (8, .d (.int .i64 (E.map dE).length)), (4, .own 4), (2, .d (.func (.func F) [] [])), (0, .d (dEs E))])
    (fun _ => [(4, .cells 128 (Dat.cellsOf (.d (dE e))))]) (fun x => x.2 - x.1) (0, (E.map dE).length) (fun _ => rfl) ⟨Nat.zero_le _, by rw [hlm]; exact Nat.le_refl _, by simp, by rw [hlm]; simp⟩ (.refl _ _) ⟨rfl, rfl, rfl, rfl, rfl, rfl, trivial⟩ ⟨rfl, trivial⟩ ?_
  rintro ⟨lo, hi⟩ ⟨h1, h2, h3, h4⟩
  dsimp only at h1 h2 h3 h4
  refine sxCode_sound c1_ok (G := G_bsf) (pl := pl_bsf) _ _ _ _ (by kernel_rfl) ?_
  by_cases hlt : lo < hi
  · have hx := List.getElem?_eq_getElem (l := E) (i := (lo + hi) / 2) (by omega)
    generalize E[(lo + hi) / 2]'(by omega) = z at hx
    have hxd : (E.map dE)[(lo + hi) / 2]? = some (dE z) := by rw [List.getElem?_map, hx]; rfl
    by_cases hz : cmpE z e < 0
    · (conv => whnf)
      (repeat' ((first | refine ord_ok (by (conv => whnf); (repeat' ((first | refine u64_is (by omega) ?_ | refine ify ?_ | refine ifn ?_ | refine i6 ?_ | refine ati ?_ | refine mst ?_ | refine rmd ?_ | refine ibo (fun _ => ?_) (fun _ => ?_)) <;> conv => whnf)); (all_goals (repeat' (first | exact trivial | exact rfl | refine And.intro ?_ ?_)))) ?_ | refine u64_is (by omega) ?_ | refine ify ?_ | refine ifn ?_ | refine i6 ?_ | refine ati ?_ | refine mst ?_ | refine rmd ?_ | refine ibo (fun _ => ?_) (fun _ => ?_)) <;> conv => whnf))
      refine op_shr 1 rfl rfl rfl (by decide) rfl rfl ?_
      (conv => whnf)
      (repeat' ((first | refine ord_ok (by (conv => whnf); (repeat' ((first | refine i64_eq ((lo + hi) / 2) (half_nat lo hi) (by omega) ?_ | refine at_da hxd rfl ?_ | refine call_eq rfl (hF z e) ?_ | refine ify ?_ | refine ifn ?_ | refine i6 ?_ | refine ati ?_ | refine mst ?_ | refine rmd ?_ | refine ibo (fun _ => ?_) (fun _ => ?_)) <;> conv => whnf)); (all_goals (repeat' (first | exact trivial | exact rfl | refine And.intro ?_ ?_)))) ?_ | refine i64_eq ((lo + hi) / 2) (half_nat lo hi) (by omega) ?_ | refine at_da hxd rfl ?_ | refine call_eq rfl (hF z e) ?_ | refine ify ?_ | refine ifn ?_ | refine i6 ?_ | refine ati ?_ | refine mst ?_ | refine rmd ?_ | refine ibo (fun _ => ?_) (fun _ => ?_)) <;> conv => whnf))
      exact ⟨((lo + hi) / 2 + 1, hi), _, _, ⟨by dsimp only; omega, h2, strict_take hE hx hz, h4⟩, .refl _ _, ⟨rfl, rfl, rfl, rfl, rfl, rfl, trivial⟩, ⟨rfl, trivial⟩, by dsimp only; omega⟩
    · (conv => whnf)
      (repeat' ((first | refine ord_ok (by (conv => whnf); (repeat' ((first | refine u64_is (by omega) ?_ | refine ify ?_ | refine ifn ?_ | refine i6 ?_ | refine ati ?_ | refine mst ?_ | refine rmd ?_ | refine ibo (fun _ => ?_) (fun _ => ?_)) <;> conv => whnf)); (all_goals (repeat' (first | exact trivial | exact rfl | refine And.intro ?_ ?_)))) ?_ | refine u64_is (by omega) ?_ | refine ify ?_ | refine ifn ?_ | refine i6 ?_ | refine ati ?_ | refine mst ?_ | refine rmd ?_ | refine ibo (fun _ => ?_) (fun _ => ?_)) <;> conv => whnf))
      refine op_shr 1 rfl rfl rfl (by decide) rfl rfl ?_
      (conv => whnf)
      (repeat' ((first | refine ord_ok (by (conv => whnf); (repeat' ((first | refine i64_eq ((lo + hi) / 2) (half_nat lo hi) (by omega) ?_ | refine at_da hxd rfl ?_ | refine call_eq rfl (hF z e) ?_ | refine ify ?_ | refine ifn ?_ | refine i6 ?_ | refine ati ?_ | refine mst ?_ | refine rmd ?_ | refine ibo (fun _ => ?_) (fun _ => ?_)) <;> conv => whnf)); (all_goals (repeat' (first | exact trivial | exact rfl | refine And.intro ?_ ?_)))) ?_ | refine i64_eq ((lo + hi) / 2) (half_nat lo hi) (by omega) ?_ | refine at_da hxd rfl ?_ | refine call_eq rfl (hF z e) ?_ | refine ify ?_ | refine ifn ?_ | refine i6 ?_ | refine ati ?_ | refine mst ?_ | refine rmd ?_ | refine ibo (fun _ => ?_) (fun _ => ?_)) <;> conv => whnf))
      exact ⟨(lo, (lo + hi) / 2), _, _, ⟨by dsimp only; omega, by dsimp only; omega, h3, strict_drop hE hx hz⟩, .refl _ _, ⟨rfl, rfl, rfl, rfl, rfl, rfl, trivial⟩, ⟨rfl, trivial⟩, by dsimp only; omega⟩
  · have hb : ltsB E e = lo := lts_bound E e lo (by omega) h3 (by rw [show lo = hi by omega]; exact h4)
    rw [hb]
    by_cases hln : lo < E.length
    · have hx := List.getElem?_eq_getElem hln
      generalize E[lo] = z at hx
      have hxd : (E.map dE)[lo]? = some (dE z) := by rw [List.getElem?_map, hx]; rfl
      have hm : e ∈ E ↔ cmpE z e = 0 := by
        rw [cmpE_eq]
        refine ⟨fun h => ?_, fun h => h ▸ List.mem_of_getElem? hx⟩
        have := lts_lt hE h
        rw [hb, hx] at this
        exact Option.some.inj this
      by_cases hz : cmpE z e = 0
      · rw [decide_eq_true (hm.2 hz)]
        (conv => whnf)
        (repeat' ((first | refine ord_ok (by (conv => whnf); (repeat' ((first | refine at_da hxd rfl ?_ | refine call_eq rfl (hF z e) ?_ | refine ify ?_ | refine ifn ?_ | refine i6 ?_ | refine ati ?_ | refine mst ?_ | refine rmd ?_ | refine ibo (fun _ => ?_) (fun _ => ?_)) <;> conv => whnf)); (all_goals (repeat' (first | exact trivial | exact rfl | refine And.intro ?_ ?_)))) ?_ | refine at_da hxd rfl ?_ | refine call_eq rfl (hF z e) ?_ | refine ify ?_ | refine ifn ?_ | refine i6 ?_ | refine ati ?_ | refine mst ?_ | refine rmd ?_ | refine ibo (fun _ => ?_) (fun _ => ?_)) <;> conv => whnf))
        show Da.plain (.tuple [_, .prop _ _]) = _
        simp [Da.plain, plains, hz]
      · rw [decide_eq_false (fun h => hz (hm.1 h))]
        (conv => whnf)
        (repeat' ((first | refine ord_ok (by (conv => whnf); (repeat' ((first | refine at_da hxd rfl ?_ | refine call_eq rfl (hF z e) ?_ | refine ify ?_ | refine ifn ?_ | refine i6 ?_ | refine ati ?_ | refine mst ?_ | refine rmd ?_ | refine ibo (fun _ => ?_) (fun _ => ?_)) <;> conv => whnf)); (all_goals (repeat' (first | exact trivial | exact rfl | refine And.intro ?_ ?_)))) ?_ | refine at_da hxd rfl ?_ | refine call_eq rfl (hF z e) ?_ | refine ify ?_ | refine ifn ?_ | refine i6 ?_ | refine ati ?_ | refine mst ?_ | refine rmd ?_ | refine ibo (fun _ => ?_) (fun _ => ?_)) <;> conv => whnf))
        show Da.plain (.tuple [_, .prop _ _]) = _
        simp [Da.plain, plains, hz]
    · have hm : ¬ e ∈ E := fun h => by
        have := lts_lt hE h
        rw [hb, List.getElem?_eq_none (by omega)] at this
        cases this
      rw [decide_eq_false hm]
      ((conv => whnf); repeat' ((first | refine odw ?_ | refine ify ?_ | refine ifn ?_ | refine i6 ?_ | refine ati ?_ | refine mst ?_ | refine rmd ?_ | refine ibo (fun _ => ?_) (fun _ => ?_)) <;> conv => whnf))
      exact rfl
theorem bsearch_pure (E : List Edg) (hE : Strict E) (hl : E.length ≤ 16384) (e : Edg) : Pure C1 174 [dEs E, dE e, .func (.func 147) [] []] (fun y => y = .tuple [.int .i64 (ltsB E e), .bool (decide (e ∈ E))]) := bsearchO_pure _ order_pure E hE hl e
def pl_gid : List (Nat × Plan) := [(3, .leaf [0, 0, 0, 1, 0, 0, 0, 2, 2, 0, 0, 0, 0, 0] [0, 1, 2, 4, 5, 6, 3, 7, 8, 9, 10, 11, 12, 13] [0, 1, 3, 7, 0, 0, 48, 112, 255, 511, 1023, 1023, 2047, 8191])]
def G_gid : List FuncId := [146, 174]
theorem cok_gid : codeOk Tryz.prog G_gid pl_gid (Tryz.f177.body.getD .skip) = true := by kernel_rfl
theorem run_gid (vs : Array Value) (w : World) : (callFunc 177 vs).run C1.P w = .ok (.enter 177 vs) w := by kernel_rfl
theorem id_pure (G : Gr) (hG : G.Ok) (a b : Int) : Pure C1 177 [dG G, .int .i64 a, .int .i64 b] (fun y => y = .int .i64 (idV G.edges (turn ⟨a, b⟩))) := by
  refine pure_of c1_ok (pl := pl_gid) (G := G_gid) Tryz.func177 rfl Tryz.ntmps177 run_gid cok_gid (by simp) ?_
  have hc : Pure C1 146 [dE ⟨a, b⟩] (fun y => y = dE (turn ⟨a, b⟩)) := turned_pure ⟨a, b⟩
  by_cases h : turn ⟨a, b⟩ ∈ G.edges
  · have hb := bsearch_pure G.edges hG.sorted hG.esize (turn ⟨a, b⟩)
    rw [decide_eq_true h] at hb
    rw [show idV G.edges (turn ⟨a, b⟩) = ltsB G.edges (turn ⟨a, b⟩) from if_pos h]
    (conv => whnf)
    (repeat' ((first | refine ord_ok (by (conv => whnf); (repeat' ((first | refine call_eq rfl hc ?_ | refine call_eq rfl hb ?_ | refine ify ?_ | refine ifn ?_ | refine i6 ?_ | refine ati ?_ | refine mst ?_ | refine rmd ?_ | refine ibo (fun _ => ?_) (fun _ => ?_)) <;> conv => whnf)); (all_goals (repeat' (first | exact trivial | exact rfl | refine And.intro ?_ ?_)))) ?_ | refine call_eq rfl hc ?_ | refine call_eq rfl hb ?_ | refine ify ?_ | refine ifn ?_ | refine i6 ?_ | refine ati ?_ | refine mst ?_ | refine rmd ?_ | refine ibo (fun _ => ?_) (fun _ => ?_)) <;> conv => whnf))
    exact rfl
  · have hb := bsearch_pure G.edges hG.sorted hG.esize (turn ⟨a, b⟩)
    rw [decide_eq_false h] at hb
    rw [idV_not h]
    (conv => whnf)
    (repeat' ((first | refine ord_ok (by (conv => whnf); (repeat' ((first | refine call_eq rfl hc ?_ | refine call_eq rfl hb ?_ | refine ify ?_ | refine ifn ?_ | refine i6 ?_ | refine ati ?_ | refine mst ?_ | refine rmd ?_ | refine ibo (fun _ => ?_) (fun _ => ?_)) <;> conv => whnf)); (all_goals (repeat' (first | exact trivial | exact rfl | refine And.intro ?_ ?_)))) ?_ | refine call_eq rfl hc ?_ | refine call_eq rfl hb ?_ | refine ify ?_ | refine ifn ?_ | refine i6 ?_ | refine ati ?_ | refine mst ?_ | refine rmd ?_ | refine ibo (fun _ => ?_) (fun _ => ?_)) <;> conv => whnf))
    exact rfl
def pl_ghs : List (Nat × Plan) := []
def G_ghs : List FuncId := [177]
theorem cok_ghs : codeOk Tryz.prog G_ghs pl_ghs (Tryz.f120.body.getD .skip) = true := by kernel_rfl
theorem run_ghs (vs : Array Value) (w : World) : (callFunc 120 vs).run C1.P w = .ok (.enter 120 vs) w := by kernel_rfl
theorem hasE_pure (G : Gr) (hG : G.Ok) (a b : Int) : Pure C1 120 [dG G, .int .i64 a, .int .i64 b] (fun y => y = .bool (decide (turn ⟨a, b⟩ ∈ G.edges))) := by
  refine pure_of c1_ok (pl := pl_ghs) (G := G_ghs) Tryz.func120 rfl Tryz.ntmps120 run_ghs cok_ghs (by simp) ?_
  (conv => whnf)
  (repeat' ((first | refine ord_ok (by (conv => whnf); (repeat' ((first | refine call_eq rfl (id_pure G hG a b) ?_ | refine ify ?_ | refine ifn ?_ | refine i6 ?_ | refine ati ?_ | refine mst ?_ | refine rmd ?_ | refine ibo (fun _ => ?_) (fun _ => ?_)) <;> conv => whnf)); (all_goals (repeat' (first | exact trivial | exact rfl | refine And.intro ?_ ?_)))) ?_ | refine call_eq rfl (id_pure G hG a b) ?_ | refine ify ?_ | refine ifn ?_ | refine i6 ?_ | refine ati ?_ | refine mst ?_ | refine rmd ?_ | refine ibo (fun _ => ?_) (fun _ => ?_)) <;> conv => whnf))
  show Da.plain _ = _
  simp [Da.plain, idV_nn]
end Go.Proofs.YtaadeobcnamgdaaGreatDoor
end
