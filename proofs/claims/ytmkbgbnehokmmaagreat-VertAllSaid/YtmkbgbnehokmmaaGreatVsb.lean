/- sets: Has (slices.BinarySearch at ints), kept, But; slices.ContainsFunc. -/
import Derived.Test.YtmkbgbnehokmmaaGreatSrp
import Derived.Test.YtmkbgbnehokmmaaGreatVla
namespace Go.Gr
theorem rise_get {l : List Int} (h : l.Pairwise (· < ·)) {i j : Nat} {x y : Int} (hi : l[i]? = some x) (hj : l[j]? = some y) (hij : i < j) : x < y := by
  obtain ⟨h1, rfl⟩ := List.getElem?_eq_some_iff.1 hi
  obtain ⟨h2, rfl⟩ := List.getElem?_eq_some_iff.1 hj
  exact List.pairwise_iff_getElem.1 h i j h1 h2 hij
theorem rise_take {l : List Int} (h : l.Pairwise (· < ·)) {m : Nat} {y e : Int} (hm : l[m]? = some y) (he : y < e) : ∀ x ∈ l.take (m + 1), x < e := by
  intro x hx
  obtain ⟨i, hi, rfl⟩ := List.mem_take_iff_getElem.1 hx
  by_cases h2 : i = m
  · subst h2
    rw [List.getElem?_eq_getElem (by omega)] at hm
    rw [Option.some.inj hm]; exact he
  · have := rise_get h (List.getElem?_eq_getElem (by omega)) hm (show i < m by omega)
    omega
theorem rise_drop {l : List Int} (h : l.Pairwise (· < ·)) {m : Nat} {y e : Int} (hm : l[m]? = some y) (he : ¬ y < e) : ∀ x ∈ l.drop m, ¬ x < e := by
  intro x hx hc
  obtain ⟨i, hi, rfl⟩ := List.mem_drop_iff_getElem.1 hx
  by_cases h2 : i = 0
  · subst h2
    rw [List.getElem?_eq_getElem (by omega)] at hm
    have := Option.some.inj hm
    simp only [Nat.add_zero] at hc
    rw [this] at hc; exact he hc
  · have := rise_get h hm (List.getElem?_eq_getElem (i := m + i) (by omega)) (by omega)
    omega
theorem rise_mem {l : List Int} (h : l.Pairwise (· < ·)) {m : Nat} {e : Int} (h1 : ∀ x ∈ l.take m, x < e) (h2 : ∀ x ∈ l.drop m, ¬ x < e) : e ∈ l ↔ l[m]? = some e := by
  refine ⟨fun he => ?_, fun h => List.mem_of_getElem? h⟩
  obtain ⟨i, hi⟩ := List.mem_iff_getElem?.1 he
  have hil := (List.getElem?_eq_some_iff.1 hi).1
  have hie := (List.getElem?_eq_some_iff.1 hi).2
  by_cases h3 : i < m
  · have := h1 e (hie ▸ List.mem_take_iff_getElem.2 ⟨i, by omega, rfl⟩); omega
  · by_cases h4 : i = m
    · subst h4; exact hi
    · have hm := List.getElem?_eq_getElem (l := l) (i := m) (by omega)
      have h5 := rise_get h hm hi (by omega)
      have := h2 _ (List.mem_drop_iff_getElem.2 ⟨0, by omega, rfl⟩)
      simp only [Nat.add_zero] at this
      omega
end Go.Gr
namespace Go.Proofs.YtmkbgbnehokmmaaGreat
open Go.Sx Go.RowKit Go.Reg Go.Gr

set_option maxRecDepth 100000
def pl_cless : List (Nat × Plan) := []
def G_cless : List FuncId := []
theorem cok_cless : codeOk Tryz.prog G_cless pl_cless (Tryz.f91.body.getD .skip) = true := by kernel_rfl
theorem run_cless (vs : Array Value) (w : World) : (callFunc 91 vs).run C1.P w = .ok (.enter 91 vs) w := by kernel_rfl
theorem less_pure (a b : Int) : Pure C1 91 [.int .i64 a, .int .i64 b] (fun y => y = .bool (decide (a < b))) := by
  refine pure_of c1_ok (pl := pl_cless) (G := G_cless) Tryz.func91 rfl Tryz.ntmps91 run_cless cok_cless (by simp) ?_
  (conv => whnf)
  (repeat' ((first | refine ord_ok (by (conv => whnf); (repeat' ((first | refine call_eq rfl (nan_pure a) ?_ | refine call_eq rfl (nan_pure b) ?_ | refine ify ?_ | refine ifn ?_ | refine i6 ?_ | refine ati ?_ | refine mst ?_ | refine rmd ?_ | refine ibo (fun _ => ?_) (fun _ => ?_)) <;> conv => whnf)); (all_goals (repeat' (first | exact trivial | exact rfl | refine And.intro ?_ ?_)))) ?_ | refine call_eq rfl (nan_pure a) ?_ | refine call_eq rfl (nan_pure b) ?_ | refine ify ?_ | refine ifn ?_ | refine i6 ?_ | refine ati ?_ | refine mst ?_ | refine rmd ?_ | refine ibo (fun _ => ?_) (fun _ => ?_)) <;> conv => whnf))
  exact rfl
def pl_snan : List (Nat × Plan) := []
def G_snan : List FuncId := []
theorem cok_snan : codeOk Tryz.prog G_snan pl_snan (Tryz.f92.body.getD .skip) = true := by kernel_rfl
theorem run_snan (vs : Array Value) (w : World) : (callFunc 92 vs).run C1.P w = .ok (.enter 92 vs) w := by kernel_rfl
theorem snan_pure (a : Int) : Pure C1 92 [.int .i64 a] (fun y => y = .bool false) := by
  refine pure_of c1_ok (pl := pl_snan) (G := G_snan) Tryz.func92 rfl Tryz.ntmps92 run_snan cok_snan (by simp) ?_
  ((conv => whnf); repeat' ((first | refine odw ?_ | refine ify ?_ | refine ifn ?_ | refine i6 ?_ | refine ati ?_ | refine mst ?_ | refine rmd ?_ | refine ibo (fun _ => ?_) (fun _ => ?_)) <;> conv => whnf))
  show Da.plain (.prop _ _) = _
  simp [Da.plain]
def pl_bsi : List (Nat × Plan) := []
def G_bsi : List FuncId := []
theorem cok_bsi : codeOk Tryz.prog G_bsi pl_bsi (Tryz.f76.body.getD .skip) = true := by kernel_rfl
theorem run_bsi (vs : Array Value) (w : World) : (callFunc 76 vs).run C1.P w = .ok (.enter 76 vs) w := by kernel_rfl
theorem bsi_pure (l : List Int) (hr : l.Pairwise (· < ·)) (hl : l.length ≤ 4294967296) (e : Int) : Pure C1 76 [dIs l, .int .i64 e] (fun y => ∃ m : Nat, y = .tuple [.int .i64 m, .bool (decide (e ∈ l))]) := by
  have hlm : (l.map dI).length = l.length := List.length_map _
  refine pure_of c1_ok (pl := pl_bsi) (G := G_bsi) Tryz.func76 rfl Tryz.ntmps76 run_bsi cok_bsi (by simp) ?_
  ((conv => whnf); repeat' ((first | refine odw ?_ | refine ify ?_ | refine ifn ?_ | refine i6 ?_ | refine ati ?_ | refine mst ?_ | refine rmd ?_ | refine ibo (fun _ => ?_) (fun _ => ?_)) <;> conv => whnf))
  refine loop_lo (ι := Nat × Nat) (fun x => x.1 ≤ x.2 ∧ x.2 ≤ l.length ∧ (∀ z ∈ l.take x.1, z < e) ∧ ∀ z ∈ l.drop x.2, ¬ z < e)
    (fun x => [(8, .d (.int .i64 x.2)), (7, .d (.int .i64 x.1)), (6, .d (.int .i64 (l.map dI).length)), (1, .d (.int .i64 e)), (0, .d (dIs l))])
    (fun _ => []) (fun x => x.2 - x.1) (0, (l.map dI).length) (fun _ => rfl) ⟨Nat.zero_le _, by rw [hlm]; exact Nat.le_refl _, by simp, by rw [hlm]; simp⟩ (.refl _ _) ⟨rfl, rfl, rfl, rfl, rfl, trivial⟩ trivial ?_
  rintro ⟨lo, hi⟩ ⟨h1, h2, h3, h4⟩
  dsimp only at h1 h2 h3 h4
  refine sxCode_sound c1_ok (G := G_bsi) (pl := pl_bsi) _ _ _ _ (by kernel_rfl) ?_
  by_cases hlt : lo < hi
  · have hx := List.getElem?_eq_getElem (l := l) (i := (lo + hi) / 2) (by omega)
    generalize l[(lo + hi) / 2]'(by omega) = z at hx
    have hxd : (l.map dI)[(lo + hi) / 2]? = some (.int .i64 z) := by rw [List.getElem?_map, hx]; rfl
    have hle := less_pure z e
    by_cases hz : z < e
    · rw [decide_eq_true hz] at hle
      (conv => whnf)
      (repeat' ((first | refine ord_ok (by (conv => whnf); (repeat' ((first | refine u64_is (by omega) ?_ | refine ify ?_ | refine ifn ?_ | refine i6 ?_ | refine ati ?_ | refine mst ?_ | refine rmd ?_ | refine ibo (fun _ => ?_) (fun _ => ?_)) <;> conv => whnf)); (all_goals (repeat' (first | exact trivial | exact rfl | refine And.intro ?_ ?_)))) ?_ | refine u64_is (by omega) ?_ | refine ify ?_ | refine ifn ?_ | refine i6 ?_ | refine ati ?_ | refine mst ?_ | refine rmd ?_ | refine ibo (fun _ => ?_) (fun _ => ?_)) <;> conv => whnf))
      refine op_shr 1 rfl rfl rfl (by decide) rfl rfl ?_
      (conv => whnf)
      (repeat' ((first | refine ord_ok (by (conv => whnf); (repeat' ((first | refine i64_eq ((lo + hi) / 2) (half_nat lo hi) (by omega) ?_ | refine at_da hxd rfl ?_ | refine call_eq rfl hle ?_ | refine ify ?_ | refine ifn ?_ | refine i6 ?_ | refine ati ?_ | refine mst ?_ | refine rmd ?_ | refine ibo (fun _ => ?_) (fun _ => ?_)) <;> conv => whnf)); (all_goals (repeat' (first | exact trivial | exact rfl | refine And.intro ?_ ?_)))) ?_ | refine i64_eq ((lo + hi) / 2) (half_nat lo hi) (by omega) ?_ | refine at_da hxd rfl ?_ | refine call_eq rfl hle ?_ | refine ify ?_ | refine ifn ?_ | refine i6 ?_ | refine ati ?_ | refine mst ?_ | refine rmd ?_ | refine ibo (fun _ => ?_) (fun _ => ?_)) <;> conv => whnf))
      exact ⟨((lo + hi) / 2 + 1, hi), _, _, ⟨by dsimp only; omega, h2, rise_take hr hx hz, h4⟩, .refl _ _, ⟨rfl, rfl, rfl, rfl, rfl, trivial⟩, trivial, by dsimp only; omega⟩
    · rw [decide_eq_false hz] at hle
      (conv => whnf)
      (repeat' ((first | refine ord_ok (by (conv => whnf); (repeat' ((first | refine u64_is (by omega) ?_ | refine ify ?_ | refine ifn ?_ | refine i6 ?_ | refine ati ?_ | refine mst ?_ | refine rmd ?_ | refine ibo (fun _ => ?_) (fun _ => ?_)) <;> conv => whnf)); (all_goals (repeat' (first | exact trivial | exact rfl | refine And.intro ?_ ?_)))) ?_ | refine u64_is (by omega) ?_ | refine ify ?_ | refine ifn ?_ | refine i6 ?_ | refine ati ?_ | refine mst ?_ | refine rmd ?_ | refine ibo (fun _ => ?_) (fun _ => ?_)) <;> conv => whnf))
      refine op_shr 1 rfl rfl rfl (by decide) rfl rfl ?_
      (conv => whnf)
      (repeat' ((first | refine ord_ok (by (conv => whnf); (repeat' ((first | refine i64_eq ((lo + hi) / 2) (half_nat lo hi) (by omega) ?_ | refine at_da hxd rfl ?_ | refine call_eq rfl hle ?_ | refine ify ?_ | refine ifn ?_ | refine i6 ?_ | refine ati ?_ | refine mst ?_ | refine rmd ?_ | refine ibo (fun _ => ?_) (fun _ => ?_)) <;> conv => whnf)); (all_goals (repeat' (first | exact trivial | exact rfl | refine And.intro ?_ ?_)))) ?_ | refine i64_eq ((lo + hi) / 2) (half_nat lo hi) (by omega) ?_ | refine at_da hxd rfl ?_ | refine call_eq rfl hle ?_ | refine ify ?_ | refine ifn ?_ | refine i6 ?_ | refine ati ?_ | refine mst ?_ | refine rmd ?_ | refine ibo (fun _ => ?_) (fun _ => ?_)) <;> conv => whnf))
      exact ⟨(lo, (lo + hi) / 2), _, _, ⟨by dsimp only; omega, by dsimp only; omega, h3, rise_drop hr hx hz⟩, .refl _ _, ⟨rfl, rfl, rfl, rfl, rfl, trivial⟩, trivial, by dsimp only; omega⟩
  · have hm := rise_mem hr h3 (by rw [show lo = hi by omega]; exact h4)
    by_cases hln : lo < l.length
    · have hx := List.getElem?_eq_getElem hln
      generalize l[lo] = z at hx
      have hxd : (l.map dI)[lo]? = some (.int .i64 z) := by rw [List.getElem?_map, hx]; rfl
      have hnz := snan_pure z
      by_cases hz : z = e
      · rw [decide_eq_true (hm.2 (by rw [hx, hz]))]
        (conv => whnf)
        (repeat' ((first | refine ord_ok (by (conv => whnf); (repeat' ((first | refine at_da hxd rfl ?_ | refine call_eq rfl hnz ?_ | refine ify ?_ | refine ifn ?_ | refine i6 ?_ | refine ati ?_ | refine mst ?_ | refine rmd ?_ | refine ibo (fun _ => ?_) (fun _ => ?_)) <;> conv => whnf)); (all_goals (repeat' (first | exact trivial | exact rfl | refine And.intro ?_ ?_)))) ?_ | refine at_da hxd rfl ?_ | refine call_eq rfl hnz ?_ | refine ify ?_ | refine ifn ?_ | refine i6 ?_ | refine ati ?_ | refine mst ?_ | refine rmd ?_ | refine ibo (fun _ => ?_) (fun _ => ?_)) <;> conv => whnf))
        exact ⟨lo, rfl⟩
      · rw [decide_eq_false (fun h => hz (by have := hm.1 h; rw [hx] at this; exact Option.some.inj this))]
        (conv => whnf)
        (repeat' ((first | refine ord_ok (by (conv => whnf); (repeat' ((first | refine at_da hxd rfl ?_ | refine call_eq rfl hnz ?_ | refine ify ?_ | refine ifn ?_ | refine i6 ?_ | refine ati ?_ | refine mst ?_ | refine rmd ?_ | refine ibo (fun _ => ?_) (fun _ => ?_)) <;> conv => whnf)); (all_goals (repeat' (first | exact trivial | exact rfl | refine And.intro ?_ ?_)))) ?_ | refine at_da hxd rfl ?_ | refine call_eq rfl hnz ?_ | refine ify ?_ | refine ifn ?_ | refine i6 ?_ | refine ati ?_ | refine mst ?_ | refine rmd ?_ | refine ibo (fun _ => ?_) (fun _ => ?_)) <;> conv => whnf))
        exact ⟨lo, rfl⟩
    · rw [decide_eq_false (fun h => by have := hm.1 h; rw [List.getElem?_eq_none (by omega)] at this; cases this)]
      ((conv => whnf); repeat' ((first | refine odw ?_ | refine ify ?_ | refine ifn ?_ | refine i6 ?_ | refine ati ?_ | refine mst ?_ | refine rmd ?_ | refine ibo (fun _ => ?_) (fun _ => ?_)) <;> conv => whnf))
      exact ⟨lo, rfl⟩
def pl_shas : List (Nat × Plan) := []
def G_shas : List FuncId := []
theorem cok_shas : codeOk Tryz.prog G_shas pl_shas (Tryz.f65.body.getD .skip) = true := by kernel_rfl
theorem run_shas (vs : Array Value) (w : World) : (callFunc 65 vs).run C1.P w = .ok (.enter 65 vs) w := by kernel_rfl
theorem shas_pure (l : List Int) (hr : l.Pairwise (· < ·)) (hl : l.length ≤ 4294967296) (e : Int) : Pure C1 65 [dIs l, .int .i64 e] (fun y => y = .bool (decide (e ∈ l))) := by
  refine pure_of c1_ok (pl := pl_shas) (G := G_shas) Tryz.func65 rfl Tryz.ntmps65 run_shas cok_shas (by simp) ?_
  ((conv => whnf); repeat' ((first | refine odw ?_ | refine ify ?_ | refine ifn ?_ | refine i6 ?_ | refine ati ?_ | refine mst ?_ | refine rmd ?_ | refine ibo (fun _ => ?_) (fun _ => ?_)) <;> conv => whnf))
  refine call_pure rfl (bsi_pure l hr hl e) ?_; rintro y ⟨m, rfl⟩
  ((conv => whnf); repeat' ((first | refine odw ?_ | refine ify ?_ | refine ifn ?_ | refine i6 ?_ | refine ati ?_ | refine mst ?_ | refine rmd ?_ | refine ibo (fun _ => ?_) (fun _ => ?_)) <;> conv => whnf))
  exact rfl
def pl_scf : List (Nat × Plan) := []
def G_scf : List FuncId := [33]
theorem cok_scf : codeOk Tryz.prog G_scf pl_scf (Tryz.f30.body.getD .skip) = true := by kernel_rfl
theorem run_scf (vs : Array Value) (w : World) : (callFunc 30 vs).run C1.P w = .ok (.enter 30 vs) w := by kernel_rfl
theorem containsF_pure (l : List Int) (g : FuncId) (cs : List Da) (p : Int → Bool) (hp : ∀ x ∈ l, Pure C1 g (.int .i64 x :: cs) (fun y => y = .bool (p x))) : Pure C1 30 [dIs l, .func (.func g) [] cs] (fun y => y = .bool (l.any p)) := by
  refine pure_of c1_ok (pl := pl_scf) (G := G_scf) Tryz.func30 rfl Tryz.ntmps30 run_scf cok_scf (by simp) ?_
  (conv => whnf)
  (repeat' ((first | refine ord_ok (by (conv => whnf); (repeat' ((first | refine call_eq rfl (indexF_pure l g cs p hp) ?_ | refine ify ?_ | refine ifn ?_ | refine i6 ?_ | refine ati ?_ | refine mst ?_ | refine rmd ?_ | refine ibo (fun _ => ?_) (fun _ => ?_)) <;> conv => whnf)); (all_goals (repeat' (first | exact trivial | exact rfl | refine And.intro ?_ ?_)))) ?_ | refine call_eq rfl (indexF_pure l g cs p hp) ?_ | refine ify ?_ | refine ifn ?_ | refine i6 ?_ | refine ati ?_ | refine mst ?_ | refine rmd ?_ | refine ibo (fun _ => ?_) (fun _ => ?_)) <;> conv => whnf))
  show Da.plain _ = _
  have := idxF_nn l p
  cases h : l.any p <;> simp [Da.plain, this, h]
def pl_skept : List (Nat × Plan) := []
def G_skept : List FuncId := []
theorem cok_skept : codeOk Tryz.prog G_skept pl_skept (Tryz.f63.body.getD .skip) = true := by kernel_rfl
theorem run_skept (vs : Array Value) (w : World) : (callFunc 63 vs).run C1.P w = .ok (.enter 63 vs) w := by kernel_rfl
theorem kept_mksl (l : List Int) (g : FuncId) (cs : List Da) (p : Int → Bool) (hl : l.length ≤ 4294967296) (hp : ∀ x ∈ l, Pure C1 g (.int .i64 x :: cs) (fun y => y = .bool (p x))) : MakeSl C1 63 [dIs l, .func (.func g) [] cs] 3 1 (fun ds => ds = (l.filter p).map dI) := by
  have hll : (l.map dI).length = l.length := List.length_map _
  refine mksl_of c1_ok (pl := pl_skept) (G := G_skept) Tryz.func63 rfl Tryz.ntmps63 run_skept cok_skept (by simp) ?_
  ((conv => whnf); repeat' ((first | refine odw ?_ | refine ify ?_ | refine ifn ?_ | refine i6 ?_ | refine ati ?_ | refine mst ?_ | refine rmd ?_ | refine ibo (fun _ => ?_) (fun _ => ?_)) <;> conv => whnf))
  refine loop_lo (ι := Nat) (fun i => i ≤ l.length) (fun i => [(10, .d (.int .i64 i)), (9, .d (.int .i64 (l.map dI).length)), (8, .d (dIs l)), (5, .own 300), (1, .d (.func (.func g) [] cs))]) (fun i => [(300, .slice 3 1 (((l.take i).filter p).map dI))])
    (fun i => l.length - i) 0 (fun _ => rfl) (Nat.zero_le _) (.own 5 300 3 1 rfl rfl (.refl _ _)) ⟨rfl, rfl, rfl, rfl, rfl, trivial⟩ ⟨rfl, trivial⟩ ?_
  intro i hi
  refine sxCode_sound c1_ok (G := G_skept) (pl := pl_skept) _ _ _ _ (by kernel_rfl) ?_
  by_cases hlt : i < l.length
  · have hx := List.getElem?_eq_getElem hlt
    have hpx := hp _ (List.getElem_mem hlt)
    generalize l[i] = x at hx hpx
    have hxd : (l.map dI)[i]? = some (.int .i64 x) := by rw [List.getElem?_map, hx]; rfl
    have hfl : ((l.take i).filter p).length ≤ i := by
      have := List.length_filter_le p (l.take i)
      rw [List.length_take] at this; omega
    cases hy : p x with
    | true =>
      rw [hy] at hpx
      have hfin : ((l.take i).filter p).map dI ++ [.int .i64 x] = ((l.take (i + 1)).filter p).map dI := by
        rw [List.take_add_one, hx, Option.toList_some, List.filter_append, List.map_append]
        simp [hy, dI]
      (conv => whnf)
      (repeat' ((first | refine ord_ok (by (conv => whnf); (repeat' ((first | refine at_da hxd rfl ?_ | refine call_eq (allD_fn _ _) hpx ?_ | refine ify ?_ | refine ifn ?_ | refine i6 ?_ | refine ati ?_ | refine mst ?_ | refine rmd ?_ | refine ibo (fun _ => ?_) (fun _ => ?_)) <;> conv => whnf)); (all_goals (repeat' (first | exact trivial | exact rfl | refine And.intro ?_ ?_)))) ?_ | refine at_da hxd rfl ?_ | refine call_eq (allD_fn _ _) hpx ?_ | refine ify ?_ | refine ifn ?_ | refine i6 ?_ | refine ati ?_ | refine mst ?_ | refine rmd ?_ | refine ibo (fun _ => ?_) (fun _ => ?_)) <;> conv => whnf))
      exact ⟨i + 1, _, _, hlt, .refl _ _, ⟨rfl, rfl, rfl, rfl, rfl, trivial⟩, ⟨slice_is hfin, trivial⟩, by omega⟩
    | false =>
      rw [hy] at hpx
      have hfin : ((l.take i).filter p).map dI = ((l.take (i + 1)).filter p).map dI := by
        rw [List.take_add_one, hx, Option.toList_some, List.filter_append]
        simp [hy]
      (conv => whnf)
      (repeat' ((first | refine ord_ok (by (conv => whnf); (repeat' ((first | refine at_da hxd rfl ?_ | refine call_eq (allD_fn _ _) hpx ?_ | refine ify ?_ | refine ifn ?_ | refine i6 ?_ | refine ati ?_ | refine mst ?_ | refine rmd ?_ | refine ibo (fun _ => ?_) (fun _ => ?_)) <;> conv => whnf)); (all_goals (repeat' (first | exact trivial | exact rfl | refine And.intro ?_ ?_)))) ?_ | refine at_da hxd rfl ?_ | refine call_eq (allD_fn _ _) hpx ?_ | refine ify ?_ | refine ifn ?_ | refine i6 ?_ | refine ati ?_ | refine mst ?_ | refine rmd ?_ | refine ibo (fun _ => ?_) (fun _ => ?_)) <;> conv => whnf))
      exact ⟨i + 1, _, _, hlt, .refl _ _, ⟨rfl, rfl, rfl, rfl, rfl, trivial⟩, ⟨slice_is hfin, trivial⟩, by omega⟩
  · have hii : l.take i = l := List.take_of_length_le (by omega)
    rw [hii]
    ((conv => whnf); repeat' ((first | refine odw ?_ | refine ify ?_ | refine ifn ?_ | refine i6 ?_ | refine ati ?_ | refine mst ?_ | refine rmd ?_ | refine ibo (fun _ => ?_) (fun _ => ?_)) <;> conv => whnf))
    exact ⟨rfl, rfl, rfl⟩
def pl_sbut1 : List (Nat × Plan) := []
def G_sbut1 : List FuncId := [65]
theorem cok_sbut1 : codeOk Tryz.prog G_sbut1 pl_sbut1 (Tryz.f64.body.getD .skip) = true := by kernel_rfl
theorem run_sbut1 (vs : Array Value) (w : World) : (callFunc 64 vs).run C1.P w = .ok (.enter 64 vs) w := by kernel_rfl
theorem but1_pure (b : List Int) (hr : b.Pairwise (· < ·)) (hl : b.length ≤ 4294967296) (x : Int) : Pure C1 64 [.int .i64 x, .ref (dIs b)] (fun y => y = .bool (!decide (x ∈ b))) := by
  refine pure_of c1_ok (pl := pl_sbut1) (G := G_sbut1) Tryz.func64 rfl Tryz.ntmps64 run_sbut1 cok_sbut1 (by simp) ?_
  (conv => whnf)
  (repeat' ((first | refine ord_ok (by (conv => whnf); (repeat' ((first | refine call_eq rfl (shas_pure b hr hl x) ?_ | refine ify ?_ | refine ifn ?_ | refine i6 ?_ | refine ati ?_ | refine mst ?_ | refine rmd ?_ | refine ibo (fun _ => ?_) (fun _ => ?_)) <;> conv => whnf)); (all_goals (repeat' (first | exact trivial | exact rfl | refine And.intro ?_ ?_)))) ?_ | refine call_eq rfl (shas_pure b hr hl x) ?_ | refine ify ?_ | refine ifn ?_ | refine i6 ?_ | refine ati ?_ | refine mst ?_ | refine rmd ?_ | refine ibo (fun _ => ?_) (fun _ => ?_)) <;> conv => whnf))
  exact rfl
def pl_sbut : List (Nat × Plan) := []
def G_sbut : List FuncId := []
theorem cok_sbut : codeOk Tryz.prog G_sbut pl_sbut (Tryz.f43.body.getD .skip) = true := by kernel_rfl
theorem run_sbut (vs : Array Value) (w : World) : (callFunc 43 vs).run C1.P w = .ok (.enter 43 vs) w := by kernel_rfl
theorem but_pure (a b : List Int) (ha : a.length ≤ 4294967296) (hr : b.Pairwise (· < ·)) (hl : b.length ≤ 4294967296) : Pure C1 43 [dIs a, dIs b] (fun y => y = dIs (a.filter fun x => !decide (x ∈ b))) := by
  refine pure_of c1_ok (pl := pl_sbut) (G := G_sbut) Tryz.func43 rfl Tryz.ntmps43 run_sbut cok_sbut (by simp) ?_
  (conv => whnf)
  refine call_mkslb tab 29 rfl rfl (kept_mksl a _ [.ref (dIs b)] _ ha (fun x _ => but1_pure b hr hl x)) (fun ds h => by subst h; exact flats_ints _) ?_; rintro ds rfl
  ((conv => whnf); repeat' ((first | refine odw ?_ | refine ify ?_ | refine ifn ?_ | refine i6 ?_ | refine ati ?_ | refine mst ?_ | refine rmd ?_ | refine ibo (fun _ => ?_) (fun _ => ?_)) <;> conv => whnf))
  exact rfl
end Go.Proofs.YtmkbgbnehokmmaaGreat
