/- Merged: Grs Vla. -/
import Derived.Test.YtjejpdfldmempaaGreatDoorOen
import Derived.Test.YtjejpdfldmempaaGreatDoorlgaj
import Derived.Test.YtjejpdfldmempaaGreatDoorSxu
import Derived.Test.YtjejpdfldmempaaGreatDoorlgag
import Derived.Test.YtjejpdfldmempaaGreatDoorlgan
section
namespace Go.Gr
def idV (E : List Edg) (e : Edg) : Int := if e ∈ E then (ltsB E e : Int) else -1
theorem lts_bound : ∀ (E : List Edg) (e : Edg) (m : Nat), m ≤ E.length → (∀ x ∈ E.take m, cmpE x e < 0) → (∀ x ∈ E.drop m, ¬ cmpE x e < 0) → ltsB E e = m := by
 intro E e m hm h1 h2
 unfold ltsB
 rw [← List.take_append_drop m E, List.countP_append]
 have e1 : (E.take m).countP (fun x => decide (cmpE x e < 0)) = (E.take m).length := List.countP_eq_length.2 fun x hx => by simp [h1 x hx]
 have e2 : (E.drop m).countP (fun x => decide (cmpE x e < 0)) = 0 := List.countP_eq_zero.2 fun x hx => by have := h2 x hx; simpa using this
 rw [e1, e2, List.length_take]; omega
theorem strict_get {E : List Edg} (h : Strict E) {i j : Nat} {x y : Edg} (hi : E[i]? = some x) (hj : E[j]? = some y) (hij : i < j) : cmpE x y < 0 := by
 obtain ⟨h1, rfl⟩ := List.getElem?_eq_some_iff.1 hi
 obtain ⟨h2, rfl⟩ := List.getElem?_eq_some_iff.1 hj
 exact List.pairwise_iff_getElem.1 h i j h1 h2 hij
theorem strict_take {E : List Edg} (h : Strict E) {m : Nat} {y e : Edg} (hm : E[m]? = some y) (he : cmpE y e < 0) : ∀ x ∈ E.take (m + 1), cmpE x e < 0 := by
 intro x hx
 obtain ⟨i, hi, rfl⟩ := List.mem_take_iff_getElem.1 hx
 by_cases h2 : i = m
 ·subst h2
  rw [List.getElem?_eq_getElem (by omega)] at hm
  rw [Option.some.inj hm]; exact he
 ·exact cmpE_trans (strict_get h (List.getElem?_eq_getElem (by omega)) hm (by omega)) he
theorem strict_drop {E : List Edg} (h : Strict E) {m : Nat} {y e : Edg} (hm : E[m]? = some y) (he : ¬ cmpE y e < 0) : ∀ x ∈ E.drop m, ¬ cmpE x e < 0 := by
 intro x hx hc
 obtain ⟨i, hi, rfl⟩ := List.mem_drop_iff_getElem.1 hx
 by_cases h2 : i = 0
 ·subst h2
  rw [List.getElem?_eq_getElem (by omega)] at hm
  have := Option.some.inj hm
  simp only [Nat.add_zero] at hc
  rw [this] at hc; exact he hc
 ·exact he (cmpE_trans (strict_get h hm (List.getElem?_eq_getElem (by omega)) (by omega)) hc)
theorem lts_mem {E : List Edg} (h : Strict E) {m : Nat} {e : Edg} (h1 : E[m]? = some e) : ltsB E e = m := by
 have hm := (List.getElem?_eq_some_iff.1 h1).1
 refine lts_bound E e m (by omega) (fun x hx => ?_) (strict_drop h h1 (cmpE_irr e))
 obtain ⟨i, hi, rfl⟩ := List.mem_take_iff_getElem.1 hx
 exact strict_get h (List.getElem?_eq_getElem (by omega)) h1 (by omega)
theorem lts_le (E : List Edg) (e : Edg) : ltsB E e ≤ E.length := List.countP_le_length
theorem lts_lt {E : List Edg} (h : Strict E) {e : Edg} (he : e ∈ E) : E[ltsB E e]? = some e := by
 obtain ⟨m, hm⟩ := List.mem_iff_getElem?.1 he
 rw [lts_mem h hm]; exact hm
theorem idV_not {E : List Edg} {e : Edg} (h : ¬ e ∈ E) : idV E e = -1 := by rw [idV, if_neg h]
theorem idV_nn {E : List Edg} {e : Edg} : 0 ≤ idV E e ↔ e ∈ E := by
 unfold idV
 split
 ·rename_i h; exact ⟨fun _ => h, fun _ => by omega⟩
 ·rename_i h; exact ⟨fun h2 => by omega, fun h2 => absurd h2 h⟩
end Go.Gr
namespace Go.Sx
theorem u64_is {e : Int} {K : Int → Prop} (h : 0 ≤ e ∧ e ≤ 18446744073709551615) (hK : K e) : ∃ n, IntKind.u64.wrap e = n ∧ K n := ⟨e, IntWalk.u64_in e h, hK⟩
theorem i64_eq (m : Nat) {e : Int} {K : Int → Prop} (h : e = m) (hm : m ≤ 9223372036854775807) (hK : K (m : Int)) : ∃ n, IntKind.i64.wrap e = n ∧ K n := by
 subst h; exact ⟨_, wrap64_in ⟨by omega, by omega⟩, hK⟩
theorem half_nat (x y : Nat) : ((x : Int) + (y : Int)).fdiv (2 ^ 1) = ((x + y) / 2 : Nat) := by
 rw [show ((2 : Int) ^ 1) = 2 by decide, Int.fdiv_eq_ediv_of_nonneg _ (by omega)]; omega
end Go.Sx
namespace Go.Proofs.YtjejpdfldmempaaGreatDoor
open Go.Sx Go.RowKit Go.Reg Go.Gr
set_option maxRecDepth 100000
def pl_bsf : List (Nat × Plan) := [(5, .leaf [0, 0, 0, 0, 1, 1, 3, 0] [0, 1, 2, 3, 4, 5, 6, 7] [0, 0, 0, 6, 14, 0, 63, 127]),
 (8, .leaf [0, 0, 0, 0, 0, 0, 0, 0, 0, 1, 1, 3, 0, 0, 0, 0] [0, 1, 2, 3, 4, 5, 6, 7, 8, 9, 10, 11, 12, 13, 14, 15] [0, 0, 0, 6, 14, 30, 30, 30, 222, 478, 30, 2046, 4094, 8190, 4095, 32767])]
def G_bsf : List FuncId := []
theorem cok_bsf : codeOk Tryz.prog G_bsf pl_bsf (Tryz.f193.body.getD .skip) = true := by kernel_rfl
theorem run_bsf (vs : Array Value) (w : World) : (callFunc 193 vs).run C1.P w = .ok (.enter 193 vs) w := by kernel_rfl
theorem bsearchO_pure (F : FuncId) (hF : ∀ x y : Edg, Pure C1 F [dE x, dE y] (fun r => r = .int .i64 (cmpE x y))) (E : List Edg) (hE : Strict E) (hl : E.length ≤ 16384) (e : Edg) : Pure C1 193 [dEs E, dE e, .func (.func F) [] []] (fun y => y = .tuple [.int .i64 (ltsB E e), .bool (decide (e ∈ E))]) := by
 have hlm : (E.map dE).length = E.length := List.length_map _
 refine pure_of c1_ok (pl := pl_bsf) (G := G_bsf) Tryz.func193 rfl Tryz.ntmps193 run_bsf cok_bsf (by simp) ?_
 ((conv => whnf); repeat' ((first | refine odw ?_ | refine ify ?_ | refine ifn ?_ | refine i6 ?_ | refine ati ?_ | refine mst ?_ | refine rmd ?_ | refine ibo (fun _ => ?_) (fun _ => ?_)) <;> conv => whnf))
 refine loop_lo (ι := Nat × Nat) (fun x => x.1 ≤ x.2 ∧ x.2 ≤ E.length ∧ (∀ z ∈ E.take x.1, cmpE z e < 0) ∧ ∀ z ∈ E.drop x.2, ¬ cmpE z e < 0)
  (fun x => [(10, .d (.int .i64 x.2)), (9, .d (.int .i64 x.1)), (8, .d (.int .i64 (E.map dE).length)), (4, .own 4), (2, .d (.func (.func F) [] [])), (0, .d (dEs E))])
  (fun _ => [(4, .cells 103 (Dat.cellsOf (.d (dE e))))]) (fun x => x.2 - x.1) (0, (E.map dE).length) (fun _ => rfl) ⟨Nat.zero_le _, by rw [hlm]; exact Nat.le_refl _, by simp, by rw [hlm]; simp⟩ (.refl _ _) ⟨rfl, rfl, rfl, rfl, rfl, rfl, trivial⟩ ⟨rfl, trivial⟩ ?_
 rintro ⟨lo, hi⟩ ⟨h1, h2, h3, h4⟩
 dsimp only at h1 h2 h3 h4
 refine sxCode_sound c1_ok (G := G_bsf) (pl := pl_bsf) _ _ _ _ (by kernel_rfl) ?_
 by_cases hlt : lo < hi
 ·have hx := List.getElem?_eq_getElem (l := E) (i := (lo + hi) / 2) (by omega)
  generalize E[(lo + hi) / 2]'(by omega) = z at hx
  have hxd : (E.map dE)[(lo + hi) / 2]? = some (dE z) := by rw [List.getElem?_map, hx]; rfl
  by_cases hz : cmpE z e < 0
  ·(conv => whnf)
   (repeat' ((first | refine ord_ok ?_ ?_ | refine u64_is (by omega) ?_ | refine ify ?_ | refine ifn ?_ | refine i6 ?_ | refine ati ?_ | refine mst ?_ | refine rmd ?_ | refine ibo (fun _ => ?_) (fun _ => ?_) | exact oend) <;> conv => whnf))
   refine op_shr 1 rfl rfl rfl (by decide) rfl rfl ?_
   (conv => whnf)
   (repeat' ((first | refine ord_ok ?_ ?_ | refine i64_eq ((lo + hi) / 2) (half_nat lo hi) (by omega) ?_ | refine at_da hxd rfl ?_ | refine call_eq rfl (hF z e) ?_ | refine ify ?_ | refine ifn ?_ | refine i6 ?_ | refine ati ?_ | refine mst ?_ | refine rmd ?_ | refine ibo (fun _ => ?_) (fun _ => ?_) | exact oend) <;> conv => whnf))
   exact ⟨((lo + hi) / 2 + 1, hi), _, _, ⟨by dsimp only; omega, h2, strict_take hE hx hz, h4⟩, .refl _ _, ⟨rfl, rfl, rfl, rfl, rfl, rfl, trivial⟩, ⟨rfl, trivial⟩, by dsimp only; omega⟩
  ·(conv => whnf)
   (repeat' ((first | refine ord_ok ?_ ?_ | refine u64_is (by omega) ?_ | refine ify ?_ | refine ifn ?_ | refine i6 ?_ | refine ati ?_ | refine mst ?_ | refine rmd ?_ | refine ibo (fun _ => ?_) (fun _ => ?_) | exact oend) <;> conv => whnf))
   refine op_shr 1 rfl rfl rfl (by decide) rfl rfl ?_
   (conv => whnf)
   (repeat' ((first | refine ord_ok ?_ ?_ | refine i64_eq ((lo + hi) / 2) (half_nat lo hi) (by omega) ?_ | refine at_da hxd rfl ?_ | refine call_eq rfl (hF z e) ?_ | refine ify ?_ | refine ifn ?_ | refine i6 ?_ | refine ati ?_ | refine mst ?_ | refine rmd ?_ | refine ibo (fun _ => ?_) (fun _ => ?_) | exact oend) <;> conv => whnf))
   exact ⟨(lo, (lo + hi) / 2), _, _, ⟨by dsimp only; omega, by dsimp only; omega, h3, strict_drop hE hx hz⟩, .refl _ _, ⟨rfl, rfl, rfl, rfl, rfl, rfl, trivial⟩, ⟨rfl, trivial⟩, by dsimp only; omega⟩
 ·have hb : ltsB E e = lo := lts_bound E e lo (by omega) h3 (by rw [show lo = hi by omega]; exact h4)
  rw [hb]
  by_cases hln : lo < E.length
  ·have hx := List.getElem?_eq_getElem hln
   generalize E[lo] = z at hx
   have hxd : (E.map dE)[lo]? = some (dE z) := by rw [List.getElem?_map, hx]; rfl
   have hm : e ∈ E ↔ cmpE z e = 0 := by
    rw [cmpE_eq]
    refine ⟨fun h => ?_, fun h => h ▸ List.mem_of_getElem? hx⟩
    have := lts_lt hE h
    rw [hb, hx] at this
    exact Option.some.inj this
   by_cases hz : cmpE z e = 0
   ·rw [decide_eq_true (hm.2 hz)]
    (conv => whnf)
    (repeat' ((first | refine ord_ok ?_ ?_ | refine at_da hxd rfl ?_ | refine call_eq rfl (hF z e) ?_ | refine ify ?_ | refine ifn ?_ | refine i6 ?_ | refine ati ?_ | refine mst ?_ | refine rmd ?_ | refine ibo (fun _ => ?_) (fun _ => ?_) | exact oend) <;> conv => whnf))
    show Da.plain (.tuple [_, .prop _ _]) = _
    simp [Da.plain, plains, hz]
   ·rw [decide_eq_false (fun h => hz (hm.1 h))]
    (conv => whnf)
    (repeat' ((first | refine ord_ok ?_ ?_ | refine at_da hxd rfl ?_ | refine call_eq rfl (hF z e) ?_ | refine ify ?_ | refine ifn ?_ | refine i6 ?_ | refine ati ?_ | refine mst ?_ | refine rmd ?_ | refine ibo (fun _ => ?_) (fun _ => ?_) | exact oend) <;> conv => whnf))
    show Da.plain (.tuple [_, .prop _ _]) = _
    simp [Da.plain, plains, hz]
  ·have hm : ¬ e ∈ E := fun h => by
    have := lts_lt hE h
    rw [hb, List.getElem?_eq_none (by omega)] at this
    cases this
   rw [decide_eq_false hm]
   ((conv => whnf); repeat' ((first | refine odw ?_ | refine ify ?_ | refine ifn ?_ | refine i6 ?_ | refine ati ?_ | refine mst ?_ | refine rmd ?_ | refine ibo (fun _ => ?_) (fun _ => ?_)) <;> conv => whnf))
   exact rfl
theorem bsearch_pure (E : List Edg) (hE : Strict E) (hl : E.length ≤ 16384) (e : Edg) : Pure C1 193 [dEs E, dE e, .func (.func 166) [] []] (fun y => y = .tuple [.int .i64 (ltsB E e), .bool (decide (e ∈ E))]) := bsearchO_pure _ order_pure E hE hl e
def pl_gid : List (Nat × Plan) := [(3, .leaf [0, 0, 0, 1, 0, 0, 0, 2, 2, 0, 0, 0, 0, 0] [0, 1, 2, 4, 5, 6, 3, 7, 8, 9, 10, 11, 12, 13] [0, 1, 3, 7, 0, 0, 48, 112, 255, 511, 1023, 1023, 2047, 8191])]
def G_gid : List FuncId := [165, 193]
theorem cok_gid : codeOk Tryz.prog G_gid pl_gid (Tryz.f196.body.getD .skip) = true := by kernel_rfl
theorem run_gid (vs : Array Value) (w : World) : (callFunc 196 vs).run C1.P w = .ok (.enter 196 vs) w := by kernel_rfl
theorem id_pure (G : Gr) (hG : G.Ok) (a b : Int) : Pure C1 196 [dG G, .int .i64 a, .int .i64 b] (fun y => y = .int .i64 (idV G.edges (turn ⟨a, b⟩))) := by
 refine pure_of c1_ok (pl := pl_gid) (G := G_gid) Tryz.func196 rfl Tryz.ntmps196 run_gid cok_gid (by simp) ?_
 have hc : Pure C1 165 [dE ⟨a, b⟩] (fun y => y = dE (turn ⟨a, b⟩)) := turned_pure ⟨a, b⟩
 by_cases h : turn ⟨a, b⟩ ∈ G.edges
 ·have hb := bsearch_pure G.edges hG.sorted hG.esize (turn ⟨a, b⟩)
  rw [decide_eq_true h] at hb
  rw [show idV G.edges (turn ⟨a, b⟩) = ltsB G.edges (turn ⟨a, b⟩) from if_pos h]
  (conv => whnf)
  (repeat' ((first | refine ord_ok ?_ ?_ | refine call_eq rfl hc ?_ | refine call_eq rfl hb ?_ | refine ify ?_ | refine ifn ?_ | refine i6 ?_ | refine ati ?_ | refine mst ?_ | refine rmd ?_ | refine ibo (fun _ => ?_) (fun _ => ?_) | exact oend) <;> conv => whnf))
  exact rfl
 ·have hb := bsearch_pure G.edges hG.sorted hG.esize (turn ⟨a, b⟩)
  rw [decide_eq_false h] at hb
  rw [idV_not h]
  (conv => whnf)
  (repeat' ((first | refine ord_ok ?_ ?_ | refine call_eq rfl hc ?_ | refine call_eq rfl hb ?_ | refine ify ?_ | refine ifn ?_ | refine i6 ?_ | refine ati ?_ | refine mst ?_ | refine rmd ?_ | refine ibo (fun _ => ?_) (fun _ => ?_) | exact oend) <;> conv => whnf))
  exact rfl
def pl_ghs : List (Nat × Plan) := []
def G_ghs : List FuncId := [196]
theorem cok_ghs : codeOk Tryz.prog G_ghs pl_ghs (Tryz.f132.body.getD .skip) = true := by kernel_rfl
theorem run_ghs (vs : Array Value) (w : World) : (callFunc 132 vs).run C1.P w = .ok (.enter 132 vs) w := by kernel_rfl
theorem hasE_pure (G : Gr) (hG : G.Ok) (a b : Int) : Pure C1 132 [dG G, .int .i64 a, .int .i64 b] (fun y => y = .bool (decide (turn ⟨a, b⟩ ∈ G.edges))) := by
 refine pure_of c1_ok (pl := pl_ghs) (G := G_ghs) Tryz.func132 rfl Tryz.ntmps132 run_ghs cok_ghs (by simp) ?_
 (conv => whnf)
 (repeat' ((first | refine ord_ok ?_ ?_ | refine call_eq rfl (id_pure G hG a b) ?_ | refine ify ?_ | refine ifn ?_ | refine i6 ?_ | refine ati ?_ | refine mst ?_ | refine rmd ?_ | refine ibo (fun _ => ?_) (fun _ => ?_) | exact oend) <;> conv => whnf))
 show Da.plain _ = _
 simp [Da.plain, idV_nn]
end Go.Proofs.YtjejpdfldmempaaGreatDoor
end
section
namespace Go.Gr
def optI : Option Nat → Int
 | some i => i
 | none => -1
def idxF (l : List Int) (p : Int → Bool) : Int := optI (l.findIdx? p)
theorem idxF_at {l : List Int} {p : Int → Bool} {i : Nat} {x : Int} (h : l[i]? = some x) (hx : p x = true) (hn : ∀ y ∈ l.take i, p y = false) : idxF l p = i := by
 unfold idxF
 have : l.findIdx? p = some i := by
  rw [List.findIdx?_eq_some_iff_getElem]
  obtain ⟨h1, h2⟩ := List.getElem?_eq_some_iff.1 h
  refine ⟨h1, by rw [h2]; exact hx, fun j hj => ?_⟩
  have := hn l[j] (List.mem_take_iff_getElem.2 ⟨j, by omega, rfl⟩)
  simp [this]
 rw [this]; rfl
theorem idxF_none {l : List Int} {p : Int → Bool} (h : ∀ y ∈ l, p y = false) : idxF l p = -1 := by
 unfold idxF
 have : l.findIdx? p = none := by rw [List.findIdx?_eq_none_iff]; exact fun y hy => by simp [h y hy]
 rw [this]; rfl
theorem idxF_nn (l : List Int) (p : Int → Bool) : 0 ≤ idxF l p ↔ l.any p = true := by
 unfold idxF
 cases h : l.findIdx? p with
 | none =>
   rw [List.findIdx?_eq_none_iff] at h
   simp only [optI]
   refine ⟨fun h => by omega, fun h2 => ?_⟩
   rw [List.any_eq_true] at h2
   obtain ⟨x, hx, hp⟩ := h2
   have := h x hx
   simp [hp] at this
 | some i =>
   rw [List.findIdx?_eq_some_iff_getElem] at h
   obtain ⟨h1, h2, _⟩ := h
   simp only [optI]
   exact ⟨fun _ => List.any_eq_true.2 ⟨_, List.getElem_mem h1, h2⟩, fun _ => by omega⟩
end Go.Gr
namespace Go.Sx
theorem allD_of (xs : List Da) : allD (datas xs) = some xs := by
 induction xs with
 | nil => rfl
 | cons x xs ih => simp [datas, allD, ih]
theorem allD_fn (x : Da) (xs : List Da) : allD (.d x :: datas xs) = some (x :: xs) := by simp [allD, allD_of]
end Go.Sx
namespace Go.Proofs.YtjejpdfldmempaaGreatDoor
open Go.Sx Go.RowKit Go.Reg Go.Gr
set_option maxRecDepth 100000
def pl_sixf : List (Nat × Plan) := []
def G_sixf : List FuncId := []
theorem cok_sixf : codeOk Tryz.prog G_sixf pl_sixf (Tryz.f231.body.getD .skip) = true := by kernel_rfl
theorem run_sixf (vs : Array Value) (w : World) : (callFunc 231 vs).run C1.P w = .ok (.enter 231 vs) w := by kernel_rfl
theorem indexF_pure (l : List Int) (g : FuncId) (cs : List Da) (p : Int → Bool) (hp : ∀ x ∈ l, Pure C1 g (.int .i64 x :: cs) (fun y => y = .bool (p x))) : Pure C1 231 [dIs l, .func (.func g) [] cs] (fun y => y = .int .i64 (idxF l p)) := by
 refine Pure.len1 fun hm => ?_
 have hl : (l.map dI).length = l.length := List.length_map _
 refine pure_of c1_ok (pl := pl_sixf) (G := G_sixf) Tryz.func231 rfl Tryz.ntmps231 run_sixf cok_sixf (by simp) ?_
 ((conv => whnf); repeat' ((first | refine odw ?_ | refine ify ?_ | refine ifn ?_ | refine i6 ?_ | refine ati ?_ | refine mst ?_ | refine rmd ?_ | refine ibo (fun _ => ?_) (fun _ => ?_)) <;> conv => whnf))
 refine loop_lo (ι := Nat) (fun i => i ≤ l.length ∧ ∀ y ∈ l.take i, p y = false) (fun i => [(8, .d (.int .i64 i)), (7, .d (.int .i64 (l.map dI).length)), (1, .d (.func (.func g) [] cs)), (0, .d (dIs l))]) (fun _ => []) (fun i => l.length - i) 0 (fun _ => rfl) ⟨Nat.zero_le _, by simp⟩ (.refl _ _) ⟨rfl, rfl, rfl, rfl, trivial⟩ trivial ?_
 rintro i ⟨hi, hne⟩
 refine sxCode_sound c1_ok (G := G_sixf) (pl := pl_sixf) _ _ _ _ (by kernel_rfl) ?_
 by_cases hlt : i < l.length
 ·have hx := List.getElem?_eq_getElem hlt
  generalize l[i] = y at hx
  have hxd : (l.map dI)[i]? = some (.int .i64 y) := by rw [List.getElem?_map, hx]; rfl
  have hpy := hp y (List.mem_of_getElem? hx)
  cases hy : p y with
  | true =>
    rw [hy] at hpy
    rw [idxF_at hx hy hne]
    (conv => whnf)
    (repeat' ((first | refine ord_ok ?_ ?_ | refine at_da hxd rfl ?_ | refine call_eq (allD_fn _ _) hpy ?_ | refine ify ?_ | refine ifn ?_ | refine i6 ?_ | refine ati ?_ | refine mst ?_ | refine rmd ?_ | refine ibo (fun _ => ?_) (fun _ => ?_) | exact oend) <;> conv => whnf))
    exact rfl
  | false =>
    rw [hy] at hpy
    (conv => whnf)
    (repeat' ((first | refine ord_ok ?_ ?_ | refine at_da hxd rfl ?_ | refine call_eq (allD_fn _ _) hpy ?_ | refine ify ?_ | refine ifn ?_ | refine i6 ?_ | refine ati ?_ | refine mst ?_ | refine rmd ?_ | refine ibo (fun _ => ?_) (fun _ => ?_) | exact oend) <;> conv => whnf))
    refine ⟨i + 1, _, _, ⟨hlt, ?_⟩, .refl _ _, ⟨rfl, rfl, rfl, rfl, trivial⟩, trivial, by omega⟩
    intro z hz
    rw [List.take_add_one, hx] at hz
    rcases List.mem_append.1 hz with hz | hz
    ·exact hne z hz
    ·simp at hz; subst hz; exact hy
 ·have hii : l.take i = l := List.take_of_length_le (by omega)
  rw [hii] at hne
  rw [idxF_none hne]
  ((conv => whnf); repeat' ((first | refine odw ?_ | refine ify ?_ | refine ifn ?_ | refine i6 ?_ | refine ati ?_ | refine mst ?_ | refine rmd ?_ | refine ibo (fun _ => ?_) (fun _ => ?_)) <;> conv => whnf))
  exact rfl
def pl_vhas : List (Nat × Plan) := []
def G_vhas : List FuncId := []
theorem cok_vhas : codeOk Tryz.prog G_vhas pl_vhas (Tryz.f184.body.getD .skip) = true := by kernel_rfl
theorem run_vhas (vs : Array Value) (w : World) : (callFunc 184 vs).run C1.P w = .ok (.enter 184 vs) w := by kernel_rfl
theorem vhas_pure (G : Gr) (v : Int) : Pure C1 184 [dG G, .int .i64 v] (fun y => y = .bool (hasV G v)) := by
 refine pure_of c1_ok (pl := pl_vhas) (G := G_vhas) Tryz.func184 rfl Tryz.ntmps184 run_vhas cok_vhas (by simp) ?_
 by_cases h0 : 0 ≤ v
 ·(conv => whnf)
  (repeat' ((first | refine ord_ok ?_ ?_ | refine call_eq rfl (len_pure G) ?_ | refine ify ?_ | refine ifn ?_ | refine i6 ?_ | refine ati ?_ | refine mst ?_ | refine rmd ?_ | refine ibo (fun _ => ?_) (fun _ => ?_) | exact oend) <;> conv => whnf))
  show Da.plain _ = _
  simp [Da.plain, hasV, h0]
 ·have : hasV G v = false := by simp [hasV, h0]
  rw [this]
  ((conv => whnf); repeat' ((first | refine odw ?_ | refine ify ?_ | refine ifn ?_ | refine i6 ?_ | refine ati ?_ | refine mst ?_ | refine rmd ?_ | refine ibo (fun _ => ?_) (fun _ => ?_)) <;> conv => whnf))
  exact rfl
def pl_vbs1 : List (Nat × Plan) := []
def G_vbs1 : List FuncId := [132]
theorem cok_vbs1 : codeOk Tryz.prog G_vbs1 pl_vbs1 (Tryz.f232.body.getD .skip) = true := by kernel_rfl
theorem run_vbs1 (vs : Array Value) (w : World) : (callFunc 232 vs).run C1.P w = .ok (.enter 232 vs) w := by kernel_rfl
def besP (E : List Edg) (v : Int) (u : Int) : Bool := decide (turn ⟨u, v⟩ ∈ E)
theorem bes1_pure (G : Gr) (hG : G.Ok) (v u : Int) : Pure C1 232 [.int .i64 u, .ref (dG G), .ref (.int .i64 v)] (fun y => y = .bool (besP G.edges v u)) := by
 refine pure_of c1_ok (pl := pl_vbs1) (G := G_vbs1) Tryz.func232 rfl Tryz.ntmps232 run_vbs1 cok_vbs1 (by simp) ?_
 (conv => whnf)
 (repeat' ((first | refine ord_ok ?_ ?_ | refine call_eq rfl (hasE_pure G hG u v) ?_ | refine ify ?_ | refine ifn ?_ | refine i6 ?_ | refine ati ?_ | refine mst ?_ | refine rmd ?_ | refine ibo (fun _ => ?_) (fun _ => ?_) | exact oend) <;> conv => whnf))
 exact rfl
def pl_vbs : List (Nat × Plan) := []
def G_vbs : List FuncId := [231]
theorem cok_vbs : codeOk Tryz.prog G_vbs pl_vbs (Tryz.f185.body.getD .skip) = true := by kernel_rfl
theorem run_vbs (vs : Array Value) (w : World) : (callFunc 185 vs).run C1.P w = .ok (.enter 185 vs) w := by kernel_rfl
def besV (E : List Edg) (l : List Int) (v : Int) : Int := idxF l (besP E v)
theorem bes_pure (G : Gr) (hG : G.Ok) (l : List Int) (v : Int) : Pure C1 185 [dG G, dIs l, .int .i64 v] (fun y => y = .int .i64 (besV G.edges l v)) := by
 refine pure_of c1_ok (pl := pl_vbs) (G := G_vbs) Tryz.func185 rfl Tryz.ntmps185 run_vbs cok_vbs (by simp) ?_
 (conv => whnf)
 (repeat' ((first | refine ord_ok ?_ ?_ | refine call_eqb tab rfl (indexF_pure l _ [.ref (dG G), .ref (.int .i64 v)] _ (fun u _ => bes1_pure G hG v u)) rfl ?_ | refine ify ?_ | refine ifn ?_ | refine i6 ?_ | refine ati ?_ | refine mst ?_ | refine rmd ?_ | refine ibo (fun _ => ?_) (fun _ => ?_) | exact oend) <;> conv => whnf))
 exact rfl
end Go.Proofs.YtjejpdfldmempaaGreatDoor
namespace Go.Proofs.YtjejpdfldmempaaGreatDoor
open Go.Sx Go.RowKit Go.Reg Go.Gr
set_option maxRecDepth 100000
def linkAt (G : Gr) (l : List Int) (i : Nat) (v : Int) : Bool := hasV G v && (!decide (v ∈ l.take i) && (decide (i = 0) || (l.take i).any (besP G.edges v)))
def linkedV (G : Gr) (l : List Int) : Bool := (List.range l.length).all fun i => match l[i]? with
 | some v => linkAt G l i v
 | none => true
theorem linkedV_no {G : Gr} {l : List Int} {i : Nat} {v : Int} (h : l[i]? = some v) (h2 : linkAt G l i v = false) : linkedV G l = false := by
 unfold linkedV
 rw [List.all_eq_false]
 exact ⟨i, by simp [(List.getElem?_eq_some_iff.1 h).1], by simp [h, h2]⟩
theorem linkedV_yes {G : Gr} {l : List Int} (h : ∀ (i : Nat) (v : Int), l[i]? = some v → linkAt G l i v = true) : linkedV G l = true := by
 unfold linkedV
 rw [List.all_eq_true]
 intro i _
 cases hx : l[i]? with
 | none => rfl
 | some v => exact h i v hx
theorem hi_is {len i : Nat} {n : Int} {K : Nat → Prop} (hn : n = i) (hi : i ≤ len) (hK : K i) : ∃ m : Nat, n = m ∧ m ≤ len ∧ K m := ⟨i, hn, hi, hK⟩
theorem dIs_take (l : List Int) (i : Nat) : dIs (l.take i) = .list 1 ((l.map dI).take i) := by unfold dIs; rw [List.map_take]
def pl_vlk : List (Nat × Plan) := []
def G_vlk : List FuncId := [184, 186, 185]
theorem cok_vlk : codeOk Tryz.prog G_vlk pl_vlk (Tryz.f131.body.getD .skip) = true := by kernel_rfl
theorem run_vlk (vs : Array Value) (w : World) : (callFunc 131 vs).run C1.P w = .ok (.enter 131 vs) w := by kernel_rfl
theorem linked_pure (G : Gr) (hG : G.Ok) (l : List Int) : Pure C1 131 [dG G, dIs l] (fun y => y = .bool (linkedV G l)) := by
 refine Pure.assume (fun O w us hr => by obtain ⟨v, vs, rfl, h1, h2⟩ := reps_inv hr; obtain ⟨v2, vs2, rfl, h3, _⟩ := reps_inv h2; exact ints_len h3) fun hm => ?_
 have hl : (l.map dI).length = l.length := List.length_map _
 refine pure_of c1_ok (pl := pl_vlk) (G := G_vlk) Tryz.func131 rfl Tryz.ntmps131 run_vlk cok_vlk (by simp) ?_
 ((conv => whnf); repeat' ((first | refine odw ?_ | refine ify ?_ | refine ifn ?_ | refine i6 ?_ | refine ati ?_ | refine mst ?_ | refine rmd ?_ | refine ibo (fun _ => ?_) (fun _ => ?_)) <;> conv => whnf))
 refine loop_lo (ι := Nat) (fun i => i ≤ l.length ∧ ∀ (j : Nat) (v : Int), j < i → l[j]? = some v → linkAt G l j v = true) (fun i => [(9, .d (.int .i64 i)), (8, .d (.int .i64 (l.map dI).length)), (7, .d (dIs l)), (1, .d (dIs l)), (0, .d (dG G))]) (fun _ => []) (fun i => l.length - i) 0 (fun _ => rfl) ⟨Nat.zero_le _, by intro j v h; omega⟩ (.refl _ _) ⟨rfl, rfl, rfl, rfl, rfl, trivial⟩ trivial ?_
 rintro i ⟨hi, hne⟩
 refine sxCode_sound c1_ok (G := G_vlk) (pl := pl_vlk) _ _ _ _ (by kernel_rfl) ?_
 by_cases hlt : i < l.length
 ·have hx := List.getElem?_eq_getElem hlt
  generalize l[i] = y at hx
  have hxd : (l.map dI)[i]? = some (.int .i64 y) := by rw [List.getElem?_map, hx]; rfl
  have h1 := vhas_pure G y
  have h2 := contains_pure (l.take i) y
  have h3 := bes_pure G hG (l.take i) y
  rw [dIs_take] at h2 h3
  have hi2 : i ≤ (l.map dI).length := by omega
  cases hv : hasV G y with
  | false =>
    rw [hv] at h1
    rw [linkedV_no hx (by simp [linkAt, hv])]
    (conv => whnf)
    (repeat' ((first | refine ord_ok ?_ ?_ | refine at_da hxd rfl ?_ | refine call_eq rfl h1 ?_ | refine ify ?_ | refine ifn ?_ | refine i6 ?_ | refine ati ?_ | refine mst ?_ | refine rmd ?_ | refine ibo (fun _ => ?_) (fun _ => ?_) | exact oend) <;> conv => whnf))
    exact rfl
  | true =>
    rw [hv] at h1
    by_cases hc : y ∈ l.take i
    ·rw [decide_eq_true hc] at h2
     rw [linkedV_no hx (by simp [linkAt, hc])]
     (conv => whnf)
     (repeat' ((first | refine ord_ok ?_ ?_ | refine at_da hxd rfl ?_ | refine call_eq rfl h1 ?_ | refine hi_is rfl hi2 ?_ | refine call_eq rfl h2 ?_ | refine ify ?_ | refine ifn ?_ | refine i6 ?_ | refine ati ?_ | refine mst ?_ | refine rmd ?_ | refine ibo (fun _ => ?_) (fun _ => ?_) | exact oend) <;> conv => whnf))
     exact rfl
    ·rw [decide_eq_false hc] at h2
     by_cases h0 : i = 0
     ·have hyes : linkAt G l i y = true := by simp [linkAt, hv, h0]
      (conv => whnf)
      (repeat' ((first | refine ord_ok ?_ ?_ | refine at_da hxd rfl ?_ | refine call_eq rfl h1 ?_ | refine hi_is rfl hi2 ?_ | refine call_eq rfl h2 ?_ | refine ify ?_ | refine ifn ?_ | refine i6 ?_ | refine ati ?_ | refine mst ?_ | refine rmd ?_ | refine ibo (fun _ => ?_) (fun _ => ?_) | exact oend) <;> conv => whnf))
      refine ⟨i + 1, _, _, ⟨hlt, ?_⟩, .refl _ _, ⟨rfl, rfl, rfl, rfl, rfl, trivial⟩, trivial, by omega⟩
      intro j v hj hjv
      by_cases hji : j = i
      ·subst hji; rw [hx] at hjv; cases hjv; exact hyes
      ·exact hne j v (by omega) hjv
     ·by_cases hb : (l.take i).any (besP G.edges y) = true
      ·have hyes : linkAt G l i y = true := by simp only [linkAt, hv, hb, decide_eq_false hc]; simp
       have hbn : ¬ besV G.edges (l.take i) y < 0 := by have := (idxF_nn (l.take i) (besP G.edges y)).2 hb; unfold besV; omega
       (conv => whnf)
       (repeat' ((first | refine ord_ok ?_ ?_ | refine at_da hxd rfl ?_ | refine call_eq rfl h1 ?_ | refine hi_is rfl hi2 ?_ | refine call_eq rfl h2 ?_ | refine call_eq rfl h3 ?_ | refine ify ?_ | refine ifn ?_ | refine i6 ?_ | refine ati ?_ | refine mst ?_ | refine rmd ?_ | refine ibo (fun _ => ?_) (fun _ => ?_) | exact oend) <;> conv => whnf))
       refine ⟨i + 1, _, _, ⟨hlt, ?_⟩, .refl _ _, ⟨rfl, rfl, rfl, rfl, rfl, trivial⟩, trivial, by omega⟩
       intro j v hj hjv
       by_cases hji : j = i
       ·subst hji; rw [hx] at hjv; cases hjv; exact hyes
       ·exact hne j v (by omega) hjv
      ·have hno : linkAt G l i y = false := by simp only [linkAt, hv, Bool.eq_false_iff.2 hb, decide_eq_false h0]; simp
       rw [linkedV_no hx hno]
       have hbn : besV G.edges (l.take i) y < 0 := by have : ¬ 0 ≤ idxF (l.take i) (besP G.edges y) := fun h => hb ((idxF_nn _ _).1 h)
                                                      unfold besV; omega
       (conv => whnf)
       (repeat' ((first | refine ord_ok ?_ ?_ | refine at_da hxd rfl ?_ | refine call_eq rfl h1 ?_ | refine hi_is rfl hi2 ?_ | refine call_eq rfl h2 ?_ | refine call_eq rfl h3 ?_ | refine ify ?_ | refine ifn ?_ | refine i6 ?_ | refine ati ?_ | refine mst ?_ | refine rmd ?_ | refine ibo (fun _ => ?_) (fun _ => ?_) | exact oend) <;> conv => whnf))
       exact rfl
 ·rw [linkedV_yes (fun j v h => hne j v (by have := (List.getElem?_eq_some_iff.1 h).1; omega) h)]
  ((conv => whnf); repeat' ((first | refine odw ?_ | refine ify ?_ | refine ifn ?_ | refine i6 ?_ | refine ati ?_ | refine mst ?_ | refine rmd ?_ | refine ibo (fun _ => ?_) (fun _ => ?_)) <;> conv => whnf))
  exact rfl
end Go.Proofs.YtjejpdfldmempaaGreatDoor
end
