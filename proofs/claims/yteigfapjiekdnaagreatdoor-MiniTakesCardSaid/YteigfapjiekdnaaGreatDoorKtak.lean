/- Merged: Grs Lna Atk. -/
import Derived.Test.YteigfapjiekdnaaGreatDoorKtaj
import Derived.Test.YteigfapjiekdnaaGreatDoorSxu
import Derived.Test.YteigfapjiekdnaaGreatDoorKtac
import Derived.Shelf.SlIterI.Sorted
import Derived.RangeFuncBox
import Derived.RangeFuncLeaves
import Derived.Shelf.Abstract
import Derived.WalkKit
import Derived.OwnWalkIn
import Derived.TacticsInMore
import Derived.LoopNIn
import Derived.LoopIn
section
/- Graphs: an edge's number: slices.BinarySearchFunc over edges that rise; Id, Has. -/
namespace Go.Gr
/-- an edge's number; below 0: there is none -/
def idV (E : List Edg) (e : Edg) : Int := if e ∈ E then (ltsB E e : Int) else -1
theorem lts_bound : ∀ (E : List Edg) (e : Edg) (m : Nat), m ≤ E.length → (∀ x ∈ E.take m, cmpE x e < 0) → (∀ x ∈ E.drop m, ¬ cmpE x e < 0) → ltsB E e = m := by
  intro E e m hm h1 h2
  unfold ltsB
  rw [← List.take_append_drop m E, List.countP_append]
  have e1 : (E.take m).countP (fun x => decide (cmpE x e < 0)) = (E.take m).length := List.countP_eq_length.2 fun x hx => by simp [h1 x hx]
  have e2 : (E.drop m).countP (fun x => decide (cmpE x e < 0)) = 0 := List.countP_eq_zero.2 fun x hx => by have := h2 x hx; simpa using this
  rw [e1, e2, List.length_take]; omega
theorem strict_get {E : List Edg} (h : Strict E) {i j : Nat} {x y : Edg} (hi : E[i]? = some x) (hj : E[j]? = some y) (hij : i < j) : cmpE x y < 0 := by
  obtain ⟨h1, rfl⟩ := List.getElem?_eq_some_iff.1 hi
  obtain ⟨h2, rfl⟩ := List.getElem?_eq_some_iff.1 hj
  exact List.pairwise_iff_getElem.1 h i j h1 h2 hij
theorem strict_take {E : List Edg} (h : Strict E) {m : Nat} {y e : Edg} (hm : E[m]? = some y) (he : cmpE y e < 0) : ∀ x ∈ E.take (m + 1), cmpE x e < 0 := by
  intro x hx
  obtain ⟨i, hi, rfl⟩ := List.mem_take_iff_getElem.1 hx
  by_cases h2 : i = m
  · subst h2
    rw [List.getElem?_eq_getElem (by omega)] at hm
    rw [Option.some.inj hm]; exact he
  · exact cmpE_trans (strict_get h (List.getElem?_eq_getElem (by omega)) hm (by omega)) he
theorem strict_drop {E : List Edg} (h : Strict E) {m : Nat} {y e : Edg} (hm : E[m]? = some y) (he : ¬ cmpE y e < 0) : ∀ x ∈ E.drop m, ¬ cmpE x e < 0 := by
  intro x hx hc
  obtain ⟨i, hi, rfl⟩ := List.mem_drop_iff_getElem.1 hx
  by_cases h2 : i = 0
  · subst h2
    rw [List.getElem?_eq_getElem (by omega)] at hm
    have := Option.some.inj hm
    simp only [Nat.add_zero] at hc
    rw [this] at hc; exact he hc
  · exact he (cmpE_trans (strict_get h hm (List.getElem?_eq_getElem (by omega)) (by omega)) hc)
theorem lts_mem {E : List Edg} (h : Strict E) {m : Nat} {e : Edg} (h1 : E[m]? = some e) : ltsB E e = m := by
  have hm := (List.getElem?_eq_some_iff.1 h1).1
  refine lts_bound E e m (by omega) (fun x hx => ?_) (strict_drop h h1 (cmpE_irr e))
  obtain ⟨i, hi, rfl⟩ := List.mem_take_iff_getElem.1 hx
  exact strict_get h (List.getElem?_eq_getElem (by omega)) h1 (by omega)
theorem lts_lt {E : List Edg} (h : Strict E) {e : Edg} (he : e ∈ E) : E[ltsB E e]? = some e := by
  obtain ⟨m, hm⟩ := List.mem_iff_getElem?.1 he
  rw [lts_mem h hm]; exact hm
theorem idV_not {E : List Edg} {e : Edg} (h : ¬ e ∈ E) : idV E e = -1 := by rw [idV, if_neg h]
theorem idV_nn {E : List Edg} {e : Edg} : 0 ≤ idV E e ↔ e ∈ E := by
  unfold idV
  split
  · rename_i h; exact ⟨fun _ => h, fun _ => by omega⟩
  · rename_i h; exact ⟨fun h2 => by omega, fun h2 => absurd h2 h⟩
end Go.Gr
namespace Go.Sx
theorem u64_is {e : Int} {K : Int → Prop} (h : 0 ≤ e ∧ e ≤ 18446744073709551615) (hK : K e) : ∃ n, IntKind.u64.wrap e = n ∧ K n := ⟨e, IntWalk.u64_in e h, hK⟩
theorem i64_eq (m : Nat) {e : Int} {K : Int → Prop} (h : e = m) (hm : m ≤ 9223372036854775807) (hK : K (m : Int)) : ∃ n, IntKind.i64.wrap e = n ∧ K n := by
  subst h; exact ⟨_, wrap64_in ⟨by omega, by omega⟩, hK⟩
theorem half_nat (x y : Nat) : ((x : Int) + (y : Int)).fdiv (2 ^ 1) = ((x + y) / 2 : Nat) := by
  rw [show ((2 : Int) ^ 1) = 2 by decide, Int.fdiv_eq_ediv_of_nonneg _ (by omega)]; omega
end Go.Sx
namespace Go.Proofs.YteigfapjiekdnaaGreatDoor
open Go.Sx Go.RowKit Go.Reg Go.Gr

set_option maxRecDepth 100000
def pl_bsf : List (Nat × Plan) := [(5, .leaf [0, 0, 0, 0, 1, 1, 3, 0] [0, 1, 2, 3, 4, 5, 6, 7] [0, 0, 0, 6, 14, 0, 63, 127]),
  (8, .leaf [0, 0, 0, 0, 0, 0, 0, 0, 0, 1, 1, 3, 0, 0, 0, 0] [0, 1, 2, 3, 4, 5, 6, 7, 8, 9, 10, 11, 12, 13, 14, 15] [0, 0, 0, 6, 14, 30, 30, 30, 222, 478, 30, 2046, 4094, 8190, 4095, 32767])]
def G_bsf : List FuncId := []
theorem cok_bsf : codeOk Tryz.prog G_bsf pl_bsf (Tryz.f138.body.getD .skip) = true := by kernel_rfl
theorem run_bsf (vs : Array Value) (w : World) : (callFunc 138 vs).run C1.P w = .ok (.enter 138 vs) w := by kernel_rfl
theorem bsearchO_pure (F : FuncId) (hF : ∀ x y : Edg, Pure C1 F [dE x, dE y] (fun r => r = .int .i64 (cmpE x y))) (E : List Edg) (hE : Strict E) (hl : E.length ≤ 16384) (e : Edg) : Pure C1 138 [dEs E, dE e, .func (.func F) [] []] (fun y => y = .tuple [.int .i64 (ltsB E e), .bool (decide (e ∈ E))]) := by
  have hlm : (E.map dE).length = E.length := List.length_map _
  refine pure_of c1_ok (pl := pl_bsf) (G := G_bsf) Tryz.func138 rfl Tryz.ntmps138 run_bsf cok_bsf (by simp) ?_
  ((conv => whnf); repeat' ((first | refine odw ?_ | refine ify ?_ | refine ifn ?_ | refine i6 ?_ | refine ati ?_ | refine mst ?_ | refine rmd ?_ | refine ibo (fun _ => ?_) (fun _ => ?_)) <;> conv => whnf))
  refine loop_lo (ι := Nat × Nat) (fun x => x.1 ≤ x.2 ∧ x.2 ≤ E.length ∧ (∀ z ∈ E.take x.1, cmpE z e < 0) ∧ ∀ z ∈ E.drop x.2, ¬ cmpE z e < 0)
    (fun x => [(10, .d (.int .i64 x.2)), (9, .d (.int .i64 x.1)), (8, .d (.int .i64 (E.map dE).length)), (4, .own 4), (2, .d (.func (.func F) [] [])), (0, .d (dEs E))])
    (fun _ => [(4, .cells 40 (Dat.cellsOf (.d (dE e))))]) (fun x => x.2 - x.1) (0, (E.map dE).length) (fun _ => rfl) ⟨Nat.zero_le _, by rw [hlm]; exact Nat.le_refl _, by simp, by rw [hlm]; simp⟩ (.refl _ _) ⟨rfl, rfl, rfl, rfl, rfl, rfl, trivial⟩ ⟨rfl, trivial⟩ ?_
  rintro ⟨lo, hi⟩ ⟨h1, h2, h3, h4⟩
  dsimp only at h1 h2 h3 h4
  refine sxCode_sound c1_ok (G := G_bsf) (pl := pl_bsf) _ _ _ _ (by kernel_rfl) ?_
  by_cases hlt : lo < hi
  · have hx := List.getElem?_eq_getElem (l := E) (i := (lo + hi) / 2) (by omega)
    generalize E[(lo + hi) / 2]'(by omega) = z at hx
    have hxd : (E.map dE)[(lo + hi) / 2]? = some (dE z) := by rw [List.getElem?_map, hx]; rfl
    by_cases hz : cmpE z e < 0
    · (conv => whnf)
      (repeat' ((first | refine ord_ok (by (conv => whnf); (repeat' ((first | refine u64_is (by omega) ?_ | refine ify ?_ | refine ifn ?_ | refine i6 ?_ | refine ati ?_ | refine mst ?_ | refine rmd ?_ | refine ibo (fun _ => ?_) (fun _ => ?_)) <;> conv => whnf)); (all_goals (repeat' (first | exact trivial | exact rfl | refine And.intro ?_ ?_)))) ?_ | refine u64_is (by omega) ?_ | refine ify ?_ | refine ifn ?_ | refine i6 ?_ | refine ati ?_ | refine mst ?_ | refine rmd ?_ | refine ibo (fun _ => ?_) (fun _ => ?_)) <;> conv => whnf))
      refine op_shr 1 rfl rfl rfl (by decide) rfl rfl ?_
      (conv => whnf)
      (repeat' ((first | refine ord_ok (by (conv => whnf); (repeat' ((first | refine i64_eq ((lo + hi) / 2) (half_nat lo hi) (by omega) ?_ | refine at_da hxd rfl ?_ | refine call_eq rfl (hF z e) ?_ | refine ify ?_ | refine ifn ?_ | refine i6 ?_ | refine ati ?_ | refine mst ?_ | refine rmd ?_ | refine ibo (fun _ => ?_) (fun _ => ?_)) <;> conv => whnf)); (all_goals (repeat' (first | exact trivial | exact rfl | refine And.intro ?_ ?_)))) ?_ | refine i64_eq ((lo + hi) / 2) (half_nat lo hi) (by omega) ?_ | refine at_da hxd rfl ?_ | refine call_eq rfl (hF z e) ?_ | refine ify ?_ | refine ifn ?_ | refine i6 ?_ | refine ati ?_ | refine mst ?_ | refine rmd ?_ | refine ibo (fun _ => ?_) (fun _ => ?_)) <;> conv => whnf))
      exact ⟨((lo + hi) / 2 + 1, hi), _, _, ⟨by dsimp only; omega, h2, strict_take hE hx hz, h4⟩, .refl _ _, ⟨rfl, rfl, rfl, rfl, rfl, rfl, trivial⟩, ⟨rfl, trivial⟩, by dsimp only; omega⟩
    · (conv => whnf)
      (repeat' ((first | refine ord_ok (by (conv => whnf); (repeat' ((first | refine u64_is (by omega) ?_ | refine ify ?_ | refine ifn ?_ | refine i6 ?_ | refine ati ?_ | refine mst ?_ | refine rmd ?_ | refine ibo (fun _ => ?_) (fun _ => ?_)) <;> conv => whnf)); (all_goals (repeat' (first | exact trivial | exact rfl | refine And.intro ?_ ?_)))) ?_ | refine u64_is (by omega) ?_ | refine ify ?_ | refine ifn ?_ | refine i6 ?_ | refine ati ?_ | refine mst ?_ | refine rmd ?_ | refine ibo (fun _ => ?_) (fun _ => ?_)) <;> conv => whnf))
      refine op_shr 1 rfl rfl rfl (by decide) rfl rfl ?_
      (conv => whnf)
      (repeat' ((first | refine ord_ok (by (conv => whnf); (repeat' ((first | refine i64_eq ((lo + hi) / 2) (half_nat lo hi) (by omega) ?_ | refine at_da hxd rfl ?_ | refine call_eq rfl (hF z e) ?_ | refine ify ?_ | refine ifn ?_ | refine i6 ?_ | refine ati ?_ | refine mst ?_ | refine rmd ?_ | refine ibo (fun _ => ?_) (fun _ => ?_)) <;> conv => whnf)); (all_goals (repeat' (first | exact trivial | exact rfl | refine And.intro ?_ ?_)))) ?_ | refine i64_eq ((lo + hi) / 2) (half_nat lo hi) (by omega) ?_ | refine at_da hxd rfl ?_ | refine call_eq rfl (hF z e) ?_ | refine ify ?_ | refine ifn ?_ | refine i6 ?_ | refine ati ?_ | refine mst ?_ | refine rmd ?_ | refine ibo (fun _ => ?_) (fun _ => ?_)) <;> conv => whnf))
      exact ⟨(lo, (lo + hi) / 2), _, _, ⟨by dsimp only; omega, by dsimp only; omega, h3, strict_drop hE hx hz⟩, .refl _ _, ⟨rfl, rfl, rfl, rfl, rfl, rfl, trivial⟩, ⟨rfl, trivial⟩, by dsimp only; omega⟩
  · have hb : ltsB E e = lo := lts_bound E e lo (by omega) h3 (by rw [show lo = hi by omega]; exact h4)
    rw [hb]
    by_cases hln : lo < E.length
    · have hx := List.getElem?_eq_getElem hln
      generalize E[lo] = z at hx
      have hxd : (E.map dE)[lo]? = some (dE z) := by rw [List.getElem?_map, hx]; rfl
      have hm : e ∈ E ↔ cmpE z e = 0 := by
        rw [cmpE_eq]
        refine ⟨fun h => ?_, fun h => h ▸ List.mem_of_getElem? hx⟩
        have := lts_lt hE h
        rw [hb, hx] at this
        exact Option.some.inj this
      by_cases hz : cmpE z e = 0
      · rw [decide_eq_true (hm.2 hz)]
        (conv => whnf)
        (repeat' ((first | refine ord_ok (by (conv => whnf); (repeat' ((first | refine at_da hxd rfl ?_ | refine call_eq rfl (hF z e) ?_ | refine ify ?_ | refine ifn ?_ | refine i6 ?_ | refine ati ?_ | refine mst ?_ | refine rmd ?_ | refine ibo (fun _ => ?_) (fun _ => ?_)) <;> conv => whnf)); (all_goals (repeat' (first | exact trivial | exact rfl | refine And.intro ?_ ?_)))) ?_ | refine at_da hxd rfl ?_ | refine call_eq rfl (hF z e) ?_ | refine ify ?_ | refine ifn ?_ | refine i6 ?_ | refine ati ?_ | refine mst ?_ | refine rmd ?_ | refine ibo (fun _ => ?_) (fun _ => ?_)) <;> conv => whnf))
        show Da.plain (.tuple [_, .prop _ _]) = _
        simp [Da.plain, plains, hz]
      · rw [decide_eq_false (fun h => hz (hm.1 h))]
        (conv => whnf)
        (repeat' ((first | refine ord_ok (by (conv => whnf); (repeat' ((first | refine at_da hxd rfl ?_ | refine call_eq rfl (hF z e) ?_ | refine ify ?_ | refine ifn ?_ | refine i6 ?_ | refine ati ?_ | refine mst ?_ | refine rmd ?_ | refine ibo (fun _ => ?_) (fun _ => ?_)) <;> conv => whnf)); (all_goals (repeat' (first | exact trivial | exact rfl | refine And.intro ?_ ?_)))) ?_ | refine at_da hxd rfl ?_ | refine call_eq rfl (hF z e) ?_ | refine ify ?_ | refine ifn ?_ | refine i6 ?_ | refine ati ?_ | refine mst ?_ | refine rmd ?_ | refine ibo (fun _ => ?_) (fun _ => ?_)) <;> conv => whnf))
        show Da.plain (.tuple [_, .prop _ _]) = _
        simp [Da.plain, plains, hz]
    · have hm : ¬ e ∈ E := fun h => by
        have := lts_lt hE h
        rw [hb, List.getElem?_eq_none (by omega)] at this
        cases this
      rw [decide_eq_false hm]
      ((conv => whnf); repeat' ((first | refine odw ?_ | refine ify ?_ | refine ifn ?_ | refine i6 ?_ | refine ati ?_ | refine mst ?_ | refine rmd ?_ | refine ibo (fun _ => ?_) (fun _ => ?_)) <;> conv => whnf))
      exact rfl
theorem bsearch_pure (E : List Edg) (hE : Strict E) (hl : E.length ≤ 16384) (e : Edg) : Pure C1 138 [dEs E, dE e, .func (.func 109) [] []] (fun y => y = .tuple [.int .i64 (ltsB E e), .bool (decide (e ∈ E))]) := bsearchO_pure _ order_pure E hE hl e
def pl_gid : List (Nat × Plan) := [(3, .leaf [0, 0, 0, 1, 0, 0, 0, 2, 2, 0, 0, 0, 0, 0] [0, 1, 2, 4, 5, 6, 3, 7, 8, 9, 10, 11, 12, 13] [0, 1, 3, 7, 0, 0, 48, 112, 255, 511, 1023, 1023, 2047, 8191])]
def G_gid : List FuncId := [108, 138]
theorem cok_gid : codeOk Tryz.prog G_gid pl_gid (Tryz.f137.body.getD .skip) = true := by kernel_rfl
theorem run_gid (vs : Array Value) (w : World) : (callFunc 137 vs).run C1.P w = .ok (.enter 137 vs) w := by kernel_rfl
theorem id_pure (G : Gr) (hG : G.Ok) (a b : Int) : Pure C1 137 [dG G, .int .i64 a, .int .i64 b] (fun y => y = .int .i64 (idV G.edges (turn ⟨a, b⟩))) := by
  refine pure_of c1_ok (pl := pl_gid) (G := G_gid) Tryz.func137 rfl Tryz.ntmps137 run_gid cok_gid (by simp) ?_
  have hc : Pure C1 108 [dE ⟨a, b⟩] (fun y => y = dE (turn ⟨a, b⟩)) := turned_pure ⟨a, b⟩
  by_cases h : turn ⟨a, b⟩ ∈ G.edges
  · have hb := bsearch_pure G.edges hG.sorted hG.esize (turn ⟨a, b⟩)
    rw [decide_eq_true h] at hb
    rw [show idV G.edges (turn ⟨a, b⟩) = ltsB G.edges (turn ⟨a, b⟩) from if_pos h]
    (conv => whnf)
    (repeat' ((first | refine ord_ok (by (conv => whnf); (repeat' ((first | refine call_eq rfl hc ?_ | refine call_eq rfl hb ?_ | refine ify ?_ | refine ifn ?_ | refine i6 ?_ | refine ati ?_ | refine mst ?_ | refine rmd ?_ | refine ibo (fun _ => ?_) (fun _ => ?_)) <;> conv => whnf)); (all_goals (repeat' (first | exact trivial | exact rfl | refine And.intro ?_ ?_)))) ?_ | refine call_eq rfl hc ?_ | refine call_eq rfl hb ?_ | refine ify ?_ | refine ifn ?_ | refine i6 ?_ | refine ati ?_ | refine mst ?_ | refine rmd ?_ | refine ibo (fun _ => ?_) (fun _ => ?_)) <;> conv => whnf))
    exact rfl
  · have hb := bsearch_pure G.edges hG.sorted hG.esize (turn ⟨a, b⟩)
    rw [decide_eq_false h] at hb
    rw [idV_not h]
    (conv => whnf)
    (repeat' ((first | refine ord_ok (by (conv => whnf); (repeat' ((first | refine call_eq rfl hc ?_ | refine call_eq rfl hb ?_ | refine ify ?_ | refine ifn ?_ | refine i6 ?_ | refine ati ?_ | refine mst ?_ | refine rmd ?_ | refine ibo (fun _ => ?_) (fun _ => ?_)) <;> conv => whnf)); (all_goals (repeat' (first | exact trivial | exact rfl | refine And.intro ?_ ?_)))) ?_ | refine call_eq rfl hc ?_ | refine call_eq rfl hb ?_ | refine ify ?_ | refine ifn ?_ | refine i6 ?_ | refine ati ?_ | refine mst ?_ | refine rmd ?_ | refine ibo (fun _ => ?_) (fun _ => ?_)) <;> conv => whnf))
    exact rfl
def pl_ghs : List (Nat × Plan) := []
def G_ghs : List FuncId := [137]
theorem cok_ghs : codeOk Tryz.prog G_ghs pl_ghs (Tryz.f95.body.getD .skip) = true := by kernel_rfl
theorem run_ghs (vs : Array Value) (w : World) : (callFunc 95 vs).run C1.P w = .ok (.enter 95 vs) w := by kernel_rfl
theorem hasE_pure (G : Gr) (hG : G.Ok) (a b : Int) : Pure C1 95 [dG G, .int .i64 a, .int .i64 b] (fun y => y = .bool (decide (turn ⟨a, b⟩ ∈ G.edges))) := by
  refine pure_of c1_ok (pl := pl_ghs) (G := G_ghs) Tryz.func95 rfl Tryz.ntmps95 run_ghs cok_ghs (by simp) ?_
  (conv => whnf)
  (repeat' ((first | refine ord_ok (by (conv => whnf); (repeat' ((first | refine call_eq rfl (id_pure G hG a b) ?_ | refine ify ?_ | refine ifn ?_ | refine i6 ?_ | refine ati ?_ | refine mst ?_ | refine rmd ?_ | refine ibo (fun _ => ?_) (fun _ => ?_)) <;> conv => whnf)); (all_goals (repeat' (first | exact trivial | exact rfl | refine And.intro ?_ ?_)))) ?_ | refine call_eq rfl (id_pure G hG a b) ?_ | refine ify ?_ | refine ifn ?_ | refine i6 ?_ | refine ati ?_ | refine mst ?_ | refine rmd ?_ | refine ibo (fun _ => ?_) (fun _ => ?_)) <;> conv => whnf))
  show Da.plain _ = _
  simp [Da.plain, idV_nn]
end Go.Proofs.YteigfapjiekdnaaGreatDoor
end

section
/- Line graphs: plain laws. -/
namespace Go.Gr

/-! ### which edges touch -/
def tch (E : List Edg) (i j : Nat) : Bool := match E[i]?, E[j]? with
  | some x, some y => decide (i ≠ j) && (decide (x.a = y.a) || decide (x.a = y.b) || decide (x.b = y.a) || decide (x.b = y.b))
  | _, _ => false
end Go.Gr
end

section
/- slices.Sorted(slices.Values(l)) at ints, by the library's contracts: the iterator reads its slice between two rounds. -/
namespace Go.Proofs.YteigfapjiekdnaaGreatDoor
open Go.RowKit Go.Maps Go.Sort Go.Shelf
variable {P : Program} {ρ : Ren}

/-- an iterator's word to a caller that keeps what lay ahead of its making -/
def SeqK (F : Fence) (n : Nat) (P : Program) (g : Nat) (lb : Array Value) (S : List Int → Prop) (N : Nat) (w : World) : Prop :=
  ∀ (l : Nat) (J : List Int → World → Prop) (W : World), Below w.heap.size w W → AbidesFrom W.heap.size J → (∀ pre W1, J pre W1 → Below w.heap.size w W1) →
    (∀ pre x W1, J pre W1 → pre.length < N → YieldAt F (n - 1) P l #[encZ x] W1 fun e W' => e = .returned (.bool true) ∧ J (pre ++ [x]) W' ∧ KeepsWalks W1 W') →
    J [] W →
    CallsIn F n P g (#[.func (.yield l) #[] #[]] ++ lb) W fun e W' => (∃ v, e = .returned v) ∧ ∃ xs, S xs ∧ J xs W'

set_option maxRecDepth 100000 in
set_option maxHeartbeats 2000000 in
theorem appendSeqK_in (L : SlLaysZI.n11 P ρ) (F : Fence) (n : Nat) (h11 : F.fn (ρ.f 11)) (hro : F.round = none) (hn : 2 ≤ n) (g : Nat) (lb : Array Value) (hFg : F.fn g) (eg : ∀ args w, (callFunc g args).run P w = .ok (.enter g args) w)
    (S : List Int → Prop) (N : Nat) (hN : N ≤ maxLen) (hNb : N * 8 ≤ 140737488355328) (w : World) (hseq : SeqK F (n - 1) P g lb S N w) :
    CallsIn F n P (ρ.f 11) #[.slice none 0 0, .func (.func g) #[] lb] w fun e w' => ∃ (v : Value) (ss : List Int), e = .returned v ∧ S ss ∧ w'.ownsRow w.heap.size (ρ.t 26) 1 v ss.length (ss.map encZ) ∧ (v = .slice none 0 0 ↔ ss = []) ∧ Below w.heap.size w w' := by
  have h1 : 1 ≤ n := by omega
  have mixed := L.mixed; have t0 := L.t0; have a0 := L.a0; have z0 := L.z0; have v0 := L.v0; have t24 := L.t24; have a24 := L.a24; have z24 := L.z24; have v24 := L.v24; have t26 := L.t26; have a26 := L.a26; have z26 := L.z26; have v26 := L.v26; have t28 := L.t28; have a28 := L.a28; have z28 := L.z28; have v28 := L.v28
  have hne : ρ.t 24 ≠ ρ.t 26 := fun e => by have h := L.t24; rw [e, L.t26] at h; cases h
  have u0 := run_underlying L.t0; have u24 := run_underlying L.t24; have u26 := run_underlying L.t26; have u28 := run_underlying L.t28
  obtain ⟨_, _, FG⟩ := L.f11
  refine callsIn_of_wp_marks FG rfl h11 ?_ hro
  simp only [SlBodyZ.n11_ntmps ρ, List.size_toArray, List.length_cons, List.length_nil, Nat.reduceAdd, Nat.reduceSub, Array.replicate_succ, Array.replicate_zero, List.push_toArray, List.append_toArray, List.nil_append, List.cons_append]
  gi_wp2
  refine wpIn_rangeFunc ?_
  intro fn hfn
  rw [hro]
  obtain ⟨W0, hW0⟩ : ∃ W0, w.alloc (.cells #[.slice none 0 0] (ρ.t 24)) = W0 := ⟨_, rfl⟩
  have hs0 : W0.heap.size = w.heap.size + 1 := by rw [← hW0]; simp
  have hv0 : W0.heap[w.heap.size]? = some (.cells #[.slice none 0 0] (ρ.t 24) (0, 0)) := by rw [← hW0]; exact World.alloc_heap_new w _
  have hb0 : Below w.heap.size w W0 := by rw [← hW0]; exact (Below.refl _ w).alloc (Nat.le_refl _) _
  rw [hW0]
  obtain ⟨W1, hW1⟩ : ∃ W1, (W0.alloc (.deferred (some []))).alloc (.loop (AnyZI.apRec ρ fn (.func (.func g) #[] lb) w.heap.size W0.heap.size .ready none)) = W1 := ⟨_, rfl⟩
  have hold : ∀ k, k < W0.heap.size → W1.heap[k]? = W0.heap[k]? := fun k hk => by
    rw [← hW1]; exact (Below.heap_alloc _ _ k (by simp; omega)).trans (Below.heap_alloc _ _ k hk)
  have hb1 : Below w.heap.size w W1 := by rw [← hW1]; exact (hb0.alloc hb0.size _).alloc (by have := hb0.size; simp; omega) _
  have hs1 : W1.heap.size = W0.heap.size + 2 := by rw [← hW1]; simp
  have hM : AnyZI.ApAt ρ w fn (.func (.func g) #[] lb) w.heap.size (W0.heap.size + 1) W0.heap.size [] W1 :=
    ⟨⟨_, (hold w.heap.size (by omega)).trans hv0, ⟨rfl, .inl ⟨rfl, rfl⟩⟩, by simp⟩,
     by rw [← hW1]; have := World.alloc_heap_new (W0.alloc (.deferred (some []))) (.loop (AnyZI.apRec ρ fn (.func (.func g) #[] lb) w.heap.size W0.heap.size .ready none)); rwa [World.size_alloc] at this,
     by rw [← hW1]; exact (Below.heap_alloc _ _ _ (by simp)).trans (World.alloc_heap_new W0 _), hb1⟩
  refine ⟨W0.heap.size + 1, [{ target := .collected W0.heap.size, args := #[] }], W1, { target := .fn (.func g) lb, args := #[.func (.yield (W0.heap.size + 1)) #[] #[]] }, W1, g,
    #[.func (.yield (W0.heap.size + 1)) #[] #[]] ++ lb, W1, ?_, ?_, ?_, ?_, fun _ => h1, ?_⟩
  · rw [← hW1]; exact run_enterLoop_outer _ _ _ _ _
  · simp [resolve, go_sem]
  · intro f' hf'; simp [Target.leads] at hf'; subst hf'; exact hFg
  · simp [invoke, go_sem, eg]
  · refine (hseq (W0.heap.size + 1) (AnyZI.ApAt ρ w fn (.func (.func g) #[] lb) w.heap.size (W0.heap.size + 1) W0.heap.size) W1 hb1 (AnyZI.ap_abides ρ _ _ _ _ _ _ _ hb1.size) (fun pre W h => h.below)
      (fun pre x W hJ hl => AnyZI.apYield { L with } F (n - 1 - 1) w fn hfn _ w.heap.size (W0.heap.size + 1) W0.heap.size (by omega) (by omega) (by omega) (Nat.le_refl _) (by omega) N hN hNb pre x W hJ hl) hM).mono ?_
    rintro e W2 ⟨⟨v0, rfl⟩, ss, hS, h2⟩
    obtain ⟨v, hv, hrow, hnil⟩ := h2.box
    have hend := run_endLoop (P := P) h2.L (by simp [AnyZI.apRec])
    obtain ⟨W3, hW3⟩ : ∃ W3, W2.putObj (W0.heap.size + 1) (.loop { AnyZI.apRec ρ fn (.func (.func g) #[] lb) w.heap.size W0.heap.size .ready none with state := .exhausted }) = W3 := ⟨_, rfl⟩
    rw [hW3] at hend
    have hg3 : W2.grownBy W3 (some (W0.heap.size + 1)) := by rw [← hW3]; exact grownBy_putObj_a _ _ _
    have hv3 : W3.heap[w.heap.size]? = some (.cells #[v] (ρ.t 24) (0, 0)) := by rw [← hW3]; exact (World.putObj_heap_other (by omega)).trans hv
    have hK3 : W3.heap[W0.heap.size]? = some (.deferred (some [])) := by rw [← hW3]; exact (World.putObj_heap_other (by omega)).trans h2.K
    have hrow3 := hrow.kept hg3 (ownsRow_ne_a hrow h2.L (fun cur e => by first | cases e | exact hne (Obj.cells.inj e).2.1))
    have hb3 : Below w.heap.size w W3 := h2.below.grown hg3 h2.below.size (fun k e => by cases e; omega)
    obtain ⟨hc3, hf3⟩ := cell_of_box_a hv3
    clear hW3
    refine ⟨none, W3, hend, ?_⟩
    gi_wp2
    rw [← hs0]
    refine ⟨by simp, .inl ⟨_, _, rfl, run_takeDeferred hK3, ?_⟩⟩
    exact ⟨_, results_tmp rfl _ _ _, v, ss, rfl, hS, hrow3.kept (grownBy_putObj_a _ _ _) (ownsRow_ne_a hrow3 hK3 (fun cur e => by first | cases e | exact hne (Obj.cells.inj e).2.1)), hnil, hb3.grown (grownBy_putObj_a _ _ _) hb3.size (fun k e => by cases e; omega)⟩


set_option maxHeartbeats 1000000 in
theorem collectK_in (L : SlLaysZI.n8 P ρ) (F : Fence) (n : Nat) (h8 : F.fn (ρ.f 8)) (h11 : F.fn (ρ.f 11)) (hro : F.round = none) (hn : 3 ≤ n) (g : Nat) (lb : Array Value) (hFg : F.fn g) (eg : ∀ args w, (callFunc g args).run P w = .ok (.enter g args) w)
    (S : List Int → Prop) (N : Nat) (hN : N ≤ maxLen) (hNb : N * 8 ≤ 140737488355328) (w : World) (hseq : SeqK F (n - 1 - 1) P g lb S N w) :
    CallsIn F n P (ρ.f 8) #[.func (.func g) #[] lb] w fun e w' => ∃ (v : Value) (ss : List Int), e = .returned v ∧ S ss ∧ w'.ownsRow w.heap.size (ρ.t 26) 1 v ss.length (ss.map encZ) ∧ (v = .slice none 0 0 ↔ ss = []) ∧ Below w.heap.size w w' := by
  have h1 : 1 ≤ n := by omega
  have e11 : ∀ args w, (callFunc (ρ.f 11) args).run P w = .ok (.enter (ρ.f 11) args) w := L.f11.enters rfl
  have mixed := L.mixed; have t0 := L.t0; have a0 := L.a0; have z0 := L.z0; have v0 := L.v0; have t24 := L.t24; have a24 := L.a24; have z24 := L.z24; have v24 := L.v24; have t26 := L.t26; have a26 := L.a26; have z26 := L.z26; have v26 := L.v26; have t28 := L.t28; have a28 := L.a28; have z28 := L.z28; have v28 := L.v28
  have u0 := run_underlying L.t0; have u24 := run_underlying L.t24; have u26 := run_underlying L.t26; have u28 := run_underlying L.t28
  obtain ⟨_, _, FG⟩ := L.f8
  refine callsIn_of_wp FG rfl h8 ?_ hro
  simp only [SlBodyZ.n8_ntmps ρ, List.size_toArray, List.length_cons, List.length_nil, Nat.reduceAdd, Nat.reduceSub, Array.replicate_succ, Array.replicate_zero, List.push_toArray, List.append_toArray, List.nil_append, List.cons_append]
  gi_wp2_with (gi_at_fn (ρ.f 11); refine (appendSeqK_in { L with } F (n - 1) h11 hro (by omega) g lb hFg eg S N hN hNb _ hseq).mono ?_; rintro e w' ⟨v, ss, rfl, hS, hrow, hnil, hb⟩)
  go_ret
  exact ⟨v, ss, rfl, hS, hrow, hnil, hb⟩


set_option maxRecDepth 100000 in
set_option maxHeartbeats 2000000 in
theorem sortedK_in (L : SlLaysZI.n6 P ρ) (F : Fence) (n : Nat) (h6 : F.fn (ρ.f 6)) (h8 : F.fn (ρ.f 8)) (h9 : F.fn (ρ.f 9)) (h11 : F.fn (ρ.f 11)) (hro : F.round = none) (hn : 4 ≤ n) (hsort : AnyZI.SortsIn P ρ F (n - 1)) (e9 : ∀ args w, (callFunc (ρ.f 9) args).run P w = .ok (.enter (ρ.f 9) args) w) (g : Nat) (lb : Array Value) (hFg : F.fn g) (eg : ∀ args w, (callFunc g args).run P w = .ok (.enter g args) w)
    (S : List Int → Prop) (N : Nat) (hN : N ≤ maxLen) (hNb : N * 8 ≤ 140737488355328) (w : World) (hSN : ∀ ss, S ss → ss.length ≤ N) (hseq : SeqK F (n - 1 - 1 - 1) P g lb S N w) :
    CallsIn F n P (ρ.f 6) #[.func (.func g) #[] lb] w fun e w' => ∃ (v : Value) (ss : List Int), e = .returned v ∧ S ss ∧
      w'.ownsRow w.heap.size (ρ.t 26) 1 v ss.length ((ss.mergeSort (fun x y => decide (x ≤ y))).map encZ) ∧ (v = .slice none 0 0 ↔ ss = []) ∧ Below w.heap.size w w' := by
  have h1 : 1 ≤ n := by omega
  have e8 : ∀ args w, (callFunc (ρ.f 8) args).run P w = .ok (.enter (ρ.f 8) args) w := L.f8.enters rfl
  have mixed := L.mixed; have t0 := L.t0; have a0 := L.a0; have z0 := L.z0; have v0 := L.v0; have t24 := L.t24; have a24 := L.a24; have z24 := L.z24; have v24 := L.v24; have t26 := L.t26; have a26 := L.a26; have z26 := L.z26; have v26 := L.v26; have t28 := L.t28; have a28 := L.a28; have z28 := L.z28; have v28 := L.v28
  have u0 := run_underlying L.t0; have u24 := run_underlying L.t24; have u26 := run_underlying L.t26; have u28 := run_underlying L.t28
  obtain ⟨_, _, FG⟩ := L.f6
  refine callsIn_of_wp FG rfl h6 ?_ hro
  simp only [SlBodyZ.n6_ntmps ρ, List.size_toArray, List.length_cons, List.length_nil, Nat.reduceAdd, Nat.reduceSub, Array.replicate_succ, Array.replicate_zero, List.push_toArray, List.append_toArray, List.nil_append, List.cons_append]
  gi_wp2_with (gi_at_fn (ρ.f 8); refine (collectK_in { L with } F (n - 1) h8 h11 hro (by omega) g lb hFg eg _ N hN hNb _ hseq).mono ?_; rintro e W ⟨v, ss, rfl, hS, hrow, hnil, hb⟩; have hlen := hSN ss hS)
  rcases hrow.2 with ⟨rfl, hz⟩ | ⟨gb, cap, cur, rfl, hbase, hgb, r1, r2, r3, r4⟩
  · -- nothing came: the nil slice is sorted and handed back
    have hss : ss = [] := List.eq_nil_of_length_eq_zero hz
    subst hss
    gi_wp2_with (gi_at_fn (ρ.f 9); refine (hsort.2 none 0 W).mono ?_; rintro e w' ⟨rfl, rfl⟩)
    go_ret
    exact ⟨.slice none 0 0, [], rfl, hS, by simpa using hrow, by simp, hb⟩
  · have hH : Holds encZ W gb 0 ss.toArray := holds_of_block_i hgb (by simpa using r4)
    have hgl : gb < W.heap.size := (Array.getElem?_eq_some_iff.1 hgb).1
    have hsz : ss.length < 4611686018427387904 := by omega
    have cS := hsort.1 gb 0 cap ss W hH hgl hsz
    gi_wp2_with (gi_at_fn (ρ.f 9); refine cS.mono ?_; rintro e w' ⟨rfl, nn, os, rfl⟩)
    go_ret
    exact ⟨_, ss, rfl, hS, ownsRow_sorted_i (by simp) hbase hgb r1 r2 r3, hnil, hb.grown (grownBy_sorted_i _) hb.size (fun j hj => by cases hj; exact hbase)⟩


end Go.Proofs.YteigfapjiekdnaaGreatDoor
end
