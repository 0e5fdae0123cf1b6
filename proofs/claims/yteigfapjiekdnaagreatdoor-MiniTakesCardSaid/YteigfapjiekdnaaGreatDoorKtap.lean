/- Merged: Vla Vsb Mnb. -/
import Derived.Test.YteigfapjiekdnaaGreatDoorKtam
import Derived.Test.YteigfapjiekdnaaGreatDoorKtak
import Derived.Test.YteigfapjiekdnaaGreatDoorKtao
import Derived.Test.YteigfapjiekdnaaGreatDoorKtaa
section
/- sets: Has (slices.BinarySearch at ints), kept, But; slices.ContainsFunc. -/
namespace Go.Gr
theorem rise_get {l : List Int} (h : l.Pairwise (· < ·)) {i j : Nat} {x y : Int} (hi : l[i]? = some x) (hj : l[j]? = some y) (hij : i < j) : x < y := by
  obtain ⟨h1, rfl⟩ := List.getElem?_eq_some_iff.1 hi
  obtain ⟨h2, rfl⟩ := List.getElem?_eq_some_iff.1 hj
  exact List.pairwise_iff_getElem.1 h i j h1 h2 hij
theorem rise_take {l : List Int} (h : l.Pairwise (· < ·)) {m : Nat} {y e : Int} (hm : l[m]? = some y) (he : y < e) : ∀ x ∈ l.take (m + 1), x < e := by
  intro x hx
  obtain ⟨i, hi, rfl⟩ := List.mem_take_iff_getElem.1 hx
  by_cases h2 : i = m
  · subst h2
    rw [List.getElem?_eq_getElem (by omega)] at hm
    rw [Option.some.inj hm]; exact he
  · have := rise_get h (List.getElem?_eq_getElem (by omega)) hm (show i < m by omega)
    omega
theorem rise_drop {l : List Int} (h : l.Pairwise (· < ·)) {m : Nat} {y e : Int} (hm : l[m]? = some y) (he : ¬ y < e) : ∀ x ∈ l.drop m, ¬ x < e := by
  intro x hx hc
  obtain ⟨i, hi, rfl⟩ := List.mem_drop_iff_getElem.1 hx
  by_cases h2 : i = 0
  · subst h2
    rw [List.getElem?_eq_getElem (by omega)] at hm
    have := Option.some.inj hm
    simp only [Nat.add_zero] at hc
    rw [this] at hc; exact he hc
  · have := rise_get h hm (List.getElem?_eq_getElem (i := m + i) (by omega)) (by omega)
    omega
theorem rise_mem {l : List Int} (h : l.Pairwise (· < ·)) {m : Nat} {e : Int} (h1 : ∀ x ∈ l.take m, x < e) (h2 : ∀ x ∈ l.drop m, ¬ x < e) : e ∈ l ↔ l[m]? = some e := by
  refine ⟨fun he => ?_, fun h => List.mem_of_getElem? h⟩
  obtain ⟨i, hi⟩ := List.mem_iff_getElem?.1 he
  have hil := (List.getElem?_eq_some_iff.1 hi).1
  have hie := (List.getElem?_eq_some_iff.1 hi).2
  by_cases h3 : i < m
  · have := h1 e (hie ▸ List.mem_take_iff_getElem.2 ⟨i, by omega, rfl⟩); omega
  · by_cases h4 : i = m
    · subst h4; exact hi
    · have hm := List.getElem?_eq_getElem (l := l) (i := m) (by omega)
      have h5 := rise_get h hm hi (by omega)
      have := h2 _ (List.mem_drop_iff_getElem.2 ⟨0, by omega, rfl⟩)
      simp only [Nat.add_zero] at this
      omega
end Go.Gr
namespace Go.Proofs.YteigfapjiekdnaaGreatDoor
open Go.Sx Go.RowKit Go.Reg Go.Gr

set_option maxRecDepth 100000
def pl_cless : List (Nat × Plan) := []
def G_cless : List FuncId := []
theorem cok_cless : codeOk Tryz.prog G_cless pl_cless (Tryz.f145.body.getD .skip) = true := by kernel_rfl
theorem run_cless (vs : Array Value) (w : World) : (callFunc 145 vs).run C1.P w = .ok (.enter 145 vs) w := by kernel_rfl
theorem less_pure (a b : Int) : Pure C1 145 [.int .i64 a, .int .i64 b] (fun y => y = .bool (decide (a < b))) := by
  refine pure_of c1_ok (pl := pl_cless) (G := G_cless) Tryz.func145 rfl Tryz.ntmps145 run_cless cok_cless (by simp) ?_
  (conv => whnf)
  (repeat' ((first | refine ord_ok (by (conv => whnf); (repeat' ((first | refine call_eq rfl (nan_pure a) ?_ | refine call_eq rfl (nan_pure b) ?_ | refine ify ?_ | refine ifn ?_ | refine i6 ?_ | refine ati ?_ | refine mst ?_ | refine rmd ?_ | refine ibo (fun _ => ?_) (fun _ => ?_)) <;> conv => whnf)); (all_goals (repeat' (first | exact trivial | exact rfl | refine And.intro ?_ ?_)))) ?_ | refine call_eq rfl (nan_pure a) ?_ | refine call_eq rfl (nan_pure b) ?_ | refine ify ?_ | refine ifn ?_ | refine i6 ?_ | refine ati ?_ | refine mst ?_ | refine rmd ?_ | refine ibo (fun _ => ?_) (fun _ => ?_)) <;> conv => whnf))
  exact rfl
def pl_snan : List (Nat × Plan) := []
def G_snan : List FuncId := []
theorem cok_snan : codeOk Tryz.prog G_snan pl_snan (Tryz.f146.body.getD .skip) = true := by kernel_rfl
theorem run_snan (vs : Array Value) (w : World) : (callFunc 146 vs).run C1.P w = .ok (.enter 146 vs) w := by kernel_rfl
theorem snan_pure (a : Int) : Pure C1 146 [.int .i64 a] (fun y => y = .bool false) := by
  refine pure_of c1_ok (pl := pl_snan) (G := G_snan) Tryz.func146 rfl Tryz.ntmps146 run_snan cok_snan (by simp) ?_
  ((conv => whnf); repeat' ((first | refine odw ?_ | refine ify ?_ | refine ifn ?_ | refine i6 ?_ | refine ati ?_ | refine mst ?_ | refine rmd ?_ | refine ibo (fun _ => ?_) (fun _ => ?_)) <;> conv => whnf))
  show Da.plain (.prop _ _) = _
  simp [Da.plain]
def pl_bsi : List (Nat × Plan) := []
def G_bsi : List FuncId := []
theorem cok_bsi : codeOk Tryz.prog G_bsi pl_bsi (Tryz.f113.body.getD .skip) = true := by kernel_rfl
theorem run_bsi (vs : Array Value) (w : World) : (callFunc 113 vs).run C1.P w = .ok (.enter 113 vs) w := by kernel_rfl
end Go.Proofs.YteigfapjiekdnaaGreatDoor
end

section
/- slices.Grow, Concat at ints; sets.Add. -/
namespace Go.Proofs.YteigfapjiekdnaaGreatDoor
open Go.Sx Go.RowKit Go.Reg Go.Gr

set_option maxRecDepth 100000
theorem intInfo : (Tryz.prog.info? 3).map (fun i => (i.zero, i.size, i.bytes)) = some (some (.int .i64 0), 1, 8) := by kernel_rfl
theorem growI_mksl (m : Nat) (hm : m ≤ 2000000000) : MakeSl C1 147 [.nils, .int .i64 m] 3 1 (fun ds => ds = []) := by
  intro O w us hO hg hr
  obtain ⟨v, vs, rfl, h1, h2⟩ := reps_inv hr
  obtain ⟨v2, vs2, rfl, h3, h4⟩ := reps_inv h2
  obtain rfl := reps_inv0 h4
  have e1 : v = .slice none 0 0 := by
    obtain ⟨cs, r, e⟩ := h1
    simp only [RepC] at r
    subst r; exact e
  have e2 : v2 = .int .i64 m := by
    obtain ⟨cs, r, e⟩ := h3
    simp only [RepC] at r
    subst r; exact e
  subst e1 e2
  refine ⟨by kernel_rfl, ?_⟩
  obtain ⟨i0, hi0, ez, es, eb⟩ : ∃ i0, Tryz.prog.info? 3 = some i0 ∧ i0.zero = some (.int .i64 0) ∧ i0.size = 1 ∧ i0.bytes = 8 := by
    have := intInfo
    cases hq : Tryz.prog.info? 3 with
    | none => rw [hq] at this; cases this
    | some i => rw [hq] at this; simp only [Option.map_some, Option.some.injEq, Prod.mk.injEq] at this; exact ⟨i, rfl, this⟩
  by_cases h0 : m = 0
  · subst h0
    refine (Any8.slices_Grow_room Tryz.growI none 0 0 0 w (by omega) (by omega) (by omega) (by omega)).mono ?_
    rintro e w' ⟨rfl, rfl⟩
    exact ⟨_, [], [], rfl, rfl, World.ownsRow_nil _ 0 _ _, (fun b hb => by cases hb), rfl, (fun x hx => by cases hx), Tch.refl _ _⟩
  · refine (Any8.slices_Grow_grow Tryz.growI i0 (.int .i64 0) hi0 ez (by omega) none 0 0 m [] w (by omega) (by omega) (by rw [eb]; omega) (by omega) (by simp) (fun _ => rfl) (fun a ha => by cases ha)).mono ?_
    rintro e w' ⟨rfl, rfl⟩
    have hGn : 0 + m ≤ grownCap w (0 + m) 0 3 := grownCap_ge w _ _ _
    have hGm : grownCap w (0 + m) 0 3 ≤ maxLen := grownCap_le_maxLen w (0 + m) 0 _ (by unfold maxLen; omega)
    have hren : Tryz.growI_ren.t 25 = 3 := rfl
    rw [hren]
    generalize grownCap w (0 + m) 0 3 = G at hGn hGm ⊢
    obtain ⟨ROW, hROW⟩ : ∃ R, R = (([] : List Value).toArray ++ Builtin.zeroCells (Value.int .i64 0).cells (0 + m - 0) ++ Builtin.zeroCells (Value.int .i64 0).cells (G - (0 + m))) := ⟨_, rfl⟩
    have hs : ROW.size = G * 1 := by
      rw [hROW]
      simp only [Array.size_append, List.size_toArray, List.length_nil, size_zeroCells, Value.cells]
      simp; omega
    rw [← hROW]
    refine ⟨_, [], [], rfl, rfl, ?_, ?_, rfl, (fun x hx => by cases hx), (Tch.drew w []).trans0 (Tch.alloc _ _ _)⟩
    · exact ⟨rfl, .inr ⟨w.heap.size, G, ROW, rfl, Nat.zero_le _, (by show (w.heap.push (Obj.cells ROW 3))[w.heap.size]? = _; simp), Nat.zero_le _, hGm, hs, by simp⟩⟩
    · intro b hb
      simp only [Value.ownBlock, Option.some.injEq] at hb
      omega
theorem flatI_snoc {L : List (List Int)} {i : Nat} {l : List Int} (h : L[i]? = some l) : (L.take (i + 1)).flatten = (L.take i).flatten ++ l := by
  rw [List.take_add_one, h, Option.toList_some, List.flatten_append]; simp
theorem flatI_le (L : List (List Int)) (i : Nat) : (L.take i).flatten.length ≤ L.flatten.length := by
  conv => rhs; rw [← List.take_append_drop i L, List.flatten_append, List.length_append]
  omega
def pl_cci : List (Nat × Plan) := []
def G_cci : List FuncId := []
theorem cok_cci : codeOk Tryz.prog G_cci pl_cci (Tryz.f114.body.getD .skip) = true := by kernel_rfl
theorem run_cci (vs : Array Value) (w : World) : (callFunc 114 vs).run C1.P w = .ok (.enter 114 vs) w := by kernel_rfl
set_option maxHeartbeats 4000000 in
theorem concatI_pure (L : List (List Int)) (hL : L.length ≤ 1000) (hf : L.flatten.length ≤ 2000000000) : Pure C1 114 [.list 1 (L.map dIs)] (fun y => y = dIs L.flatten) := by
  have hdL : (L.map dIs).length = L.length := List.length_map _
  have hfl := flatI_le L
  refine pure_of c1_ok (pl := pl_cci) (G := G_cci) Tryz.func114 rfl Tryz.ntmps114 run_cci cok_cci (by simp) ?_
  ((conv => whnf); repeat' ((first | refine odw ?_ | refine ify ?_ | refine ifn ?_ | refine i6 ?_ | refine ati ?_ | refine mst ?_ | refine rmd ?_ | refine ibo (fun _ => ?_) (fun _ => ?_)) <;> conv => whnf))
  refine loop_lo (ι := Nat) (fun i => i ≤ L.length) (fun i => [(11, .d (.int .i64 i)), (10, .d (.int .i64 (L.map dIs).length)), (9, .d (.list 1 (L.map dIs))), (3, .d (.int .i64 ((L.take i).flatten.length : Nat))), (0, .d (.list 1 (L.map dIs)))]) (fun _ => []) (fun i => L.length - i) 0 (fun _ => rfl) (Nat.zero_le _) (.refl _ _) ⟨rfl, rfl, rfl, rfl, rfl, trivial⟩ trivial ?_
  intro i hi
  refine sxCode_sound c1_ok (G := G_cci) (pl := pl_cci) _ _ _ _ (by kernel_rfl) ?_
  by_cases hil : i < L.length
  · have hx := List.getElem?_eq_getElem hil
    generalize L[i] = x at hx
    have hxd : (L.map dIs)[i]? = some (dIs x) := by rw [List.getElem?_map, hx]; rfl
    have hdx : (x.map dI).length = x.length := List.length_map _
    have hst := congrArg List.length (flatI_snoc hx)
    rw [List.length_append] at hst
    have h1 := hfl (i + 1)
    (conv => whnf)
    (repeat' ((first | refine ord_ok (by (conv => whnf); (repeat' ((first | refine at_da hxd rfl ?_ | refine ify ?_ | refine ifn ?_ | refine i6 ?_ | refine ati ?_ | refine mst ?_ | refine rmd ?_ | refine ibo (fun _ => ?_) (fun _ => ?_)) <;> conv => whnf)); (all_goals (repeat' (first | exact trivial | exact rfl | refine And.intro ?_ ?_)))) ?_ | refine at_da hxd rfl ?_ | refine ify ?_ | refine ifn ?_ | refine i6 ?_ | refine ati ?_ | refine mst ?_ | refine rmd ?_ | refine ibo (fun _ => ?_) (fun _ => ?_)) <;> conv => whnf))
    exact ⟨i + 1, _, _, hil, .refl _ _, ⟨rfl, rfl, rfl, int_is (by omega), rfl, trivial⟩, trivial, by omega⟩
  · have e : L.take i = L := List.take_of_length_le (by omega)
    rw [e]
    ((conv => whnf); repeat' ((first | refine odw ?_ | refine ify ?_ | refine ifn ?_ | refine i6 ?_ | refine ati ?_ | refine mst ?_ | refine rmd ?_ | refine ibo (fun _ => ?_) (fun _ => ?_)) <;> conv => whnf))
    refine call_mksl 24 rfl rfl (growI_mksl _ hf) ?_; rintro ds rfl
    ((conv => whnf); repeat' ((first | refine odw ?_ | refine ify ?_ | refine ifn ?_ | refine i6 ?_ | refine ati ?_ | refine mst ?_ | refine rmd ?_ | refine ibo (fun _ => ?_) (fun _ => ?_)) <;> conv => whnf))
    refine loop_lo (ι := Nat) (fun i => i ≤ L.length) (fun i => [(27, .d (.int .i64 i)), (26, .d (.int .i64 (L.map dIs).length)), (25, .d (.list 1 (L.map dIs))), (6, .own 24)]) (fun i => [(24, .slice 3 1 ((L.take i).flatten.map dI))]) (fun i => L.length - i) 0 (fun _ => rfl) (Nat.zero_le _) (.refl _ _) ⟨rfl, rfl, rfl, rfl, trivial⟩ ⟨rfl, trivial⟩ ?_
    intro i hi
    refine sxCode_sound c1_ok (G := G_cci) (pl := pl_cci) _ _ _ _ (by kernel_rfl) ?_
    by_cases hil : i < L.length
    · have hx := List.getElem?_eq_getElem hil
      generalize L[i] = x at hx
      have hxd : (L.map dIs)[i]? = some (dIs x) := by rw [List.getElem?_map, hx]; rfl
      have hdx : (x.map dI).length = x.length := List.length_map _
      have hst := flatI_snoc hx
      have hsl := congrArg List.length hst
      rw [List.length_append] at hsl
      have h1 := hfl (i + 1)
      generalize (L.take i).flatten = Z at hst hsl ⊢
      have hdz : (Z.map dI).length = Z.length := List.length_map _
      (conv => whnf)
      (repeat' ((first | refine ord_ok (by (conv => whnf); (repeat' ((first | refine at_da hxd rfl ?_ | refine ify ?_ | refine ifn ?_ | refine i6 ?_ | refine ati ?_ | refine mst ?_ | refine rmd ?_ | refine ibo (fun _ => ?_) (fun _ => ?_)) <;> conv => whnf)); (all_goals (repeat' (first | exact trivial | exact rfl | refine And.intro ?_ ?_)))) ?_ | refine at_da hxd rfl ?_ | refine ify ?_ | refine ifn ?_ | refine i6 ?_ | refine ati ?_ | refine mst ?_ | refine rmd ?_ | refine ibo (fun _ => ?_) (fun _ => ?_)) <;> conv => whnf))
      exact ⟨i + 1, _, _, hil, .refl _ _, ⟨rfl, rfl, rfl, rfl, trivial⟩, ⟨slice_is (by rw [hst, List.map_append]), trivial⟩, by omega⟩
    · have e : L.take i = L := List.take_of_length_le (by omega)
      rw [e]
      ((conv => whnf); repeat' ((first | refine odw ?_ | refine ify ?_ | refine ifn ?_ | refine i6 ?_ | refine ati ?_ | refine mst ?_ | refine rmd ?_ | refine ibo (fun _ => ?_) (fun _ => ?_)) <;> conv => whnf))
      exact rfl
theorem bsw_pure (l : List Int) (hr : l.Pairwise (· < ·)) (hl : l.length ≤ 4294967296) (e : Int) : Pure C1 113 [dIs l, .int .i64 e] (fun y => ∃ m : Nat, (m ≤ l.length ∧ (∀ z ∈ l.take m, z < e) ∧ ∀ z ∈ l.drop m, ¬ z < e) ∧ y = .tuple [.int .i64 m, .bool (decide (e ∈ l))]) := by
  have hlm : (l.map dI).length = l.length := List.length_map _
  refine pure_of c1_ok (pl := pl_bsi) (G := G_bsi) Tryz.func113 rfl Tryz.ntmps113 run_bsi cok_bsi (by simp) ?_
  ((conv => whnf); repeat' ((first | refine odw ?_ | refine ify ?_ | refine ifn ?_ | refine i6 ?_ | refine ati ?_ | refine mst ?_ | refine rmd ?_ | refine ibo (fun _ => ?_) (fun _ => ?_)) <;> conv => whnf))
  refine loop_lo (ι := Nat × Nat) (fun x => x.1 ≤ x.2 ∧ x.2 ≤ l.length ∧ (∀ z ∈ l.take x.1, z < e) ∧ ∀ z ∈ l.drop x.2, ¬ z < e)
    (fun x => [(8, .d (.int .i64 x.2)), (7, .d (.int .i64 x.1)), (6, .d (.int .i64 (l.map dI).length)), (1, .d (.int .i64 e)), (0, .d (dIs l))])
    (fun _ => []) (fun x => x.2 - x.1) (0, (l.map dI).length) (fun _ => rfl) ⟨Nat.zero_le _, by rw [hlm]; exact Nat.le_refl _, by simp, by rw [hlm]; simp⟩ (.refl _ _) ⟨rfl, rfl, rfl, rfl, rfl, trivial⟩ trivial ?_
  rintro ⟨lo, hi⟩ ⟨h1, h2, h3, h4⟩
  dsimp only at h1 h2 h3 h4
  refine sxCode_sound c1_ok (G := G_bsi) (pl := pl_bsi) _ _ _ _ (by kernel_rfl) ?_
  by_cases hlt : lo < hi
  · have hx := List.getElem?_eq_getElem (l := l) (i := (lo + hi) / 2) (by omega)
    generalize l[(lo + hi) / 2]'(by omega) = z at hx
    have hxd : (l.map dI)[(lo + hi) / 2]? = some (.int .i64 z) := by rw [List.getElem?_map, hx]; rfl
    have hle := less_pure z e
    by_cases hz : z < e
    · rw [decide_eq_true hz] at hle
      (conv => whnf)
      (repeat' ((first | refine ord_ok (by (conv => whnf); (repeat' ((first | refine u64_is (by omega) ?_ | refine ify ?_ | refine ifn ?_ | refine i6 ?_ | refine ati ?_ | refine mst ?_ | refine rmd ?_ | refine ibo (fun _ => ?_) (fun _ => ?_)) <;> conv => whnf)); (all_goals (repeat' (first | exact trivial | exact rfl | refine And.intro ?_ ?_)))) ?_ | refine u64_is (by omega) ?_ | refine ify ?_ | refine ifn ?_ | refine i6 ?_ | refine ati ?_ | refine mst ?_ | refine rmd ?_ | refine ibo (fun _ => ?_) (fun _ => ?_)) <;> conv => whnf))
      refine op_shr 1 rfl rfl rfl (by decide) rfl rfl ?_
      (conv => whnf)
      (repeat' ((first | refine ord_ok (by (conv => whnf); (repeat' ((first | refine i64_eq ((lo + hi) / 2) (half_nat lo hi) (by omega) ?_ | refine at_da hxd rfl ?_ | refine call_eq rfl hle ?_ | refine ify ?_ | refine ifn ?_ | refine i6 ?_ | refine ati ?_ | refine mst ?_ | refine rmd ?_ | refine ibo (fun _ => ?_) (fun _ => ?_)) <;> conv => whnf)); (all_goals (repeat' (first | exact trivial | exact rfl | refine And.intro ?_ ?_)))) ?_ | refine i64_eq ((lo + hi) / 2) (half_nat lo hi) (by omega) ?_ | refine at_da hxd rfl ?_ | refine call_eq rfl hle ?_ | refine ify ?_ | refine ifn ?_ | refine i6 ?_ | refine ati ?_ | refine mst ?_ | refine rmd ?_ | refine ibo (fun _ => ?_) (fun _ => ?_)) <;> conv => whnf))
      exact ⟨((lo + hi) / 2 + 1, hi), _, _, ⟨by dsimp only; omega, h2, rise_take hr hx hz, h4⟩, .refl _ _, ⟨rfl, rfl, rfl, rfl, rfl, trivial⟩, trivial, by dsimp only; omega⟩
    · rw [decide_eq_false hz] at hle
      (conv => whnf)
      (repeat' ((first | refine ord_ok (by (conv => whnf); (repeat' ((first | refine u64_is (by omega) ?_ | refine ify ?_ | refine ifn ?_ | refine i6 ?_ | refine ati ?_ | refine mst ?_ | refine rmd ?_ | refine ibo (fun _ => ?_) (fun _ => ?_)) <;> conv => whnf)); (all_goals (repeat' (first | exact trivial | exact rfl | refine And.intro ?_ ?_)))) ?_ | refine u64_is (by omega) ?_ | refine ify ?_ | refine ifn ?_ | refine i6 ?_ | refine ati ?_ | refine mst ?_ | refine rmd ?_ | refine ibo (fun _ => ?_) (fun _ => ?_)) <;> conv => whnf))
      refine op_shr 1 rfl rfl rfl (by decide) rfl rfl ?_
      (conv => whnf)
      (repeat' ((first | refine ord_ok (by (conv => whnf); (repeat' ((first | refine i64_eq ((lo + hi) / 2) (half_nat lo hi) (by omega) ?_ | refine at_da hxd rfl ?_ | refine call_eq rfl hle ?_ | refine ify ?_ | refine ifn ?_ | refine i6 ?_ | refine ati ?_ | refine mst ?_ | refine rmd ?_ | refine ibo (fun _ => ?_) (fun _ => ?_)) <;> conv => whnf)); (all_goals (repeat' (first | exact trivial | exact rfl | refine And.intro ?_ ?_)))) ?_ | refine i64_eq ((lo + hi) / 2) (half_nat lo hi) (by omega) ?_ | refine at_da hxd rfl ?_ | refine call_eq rfl hle ?_ | refine ify ?_ | refine ifn ?_ | refine i6 ?_ | refine ati ?_ | refine mst ?_ | refine rmd ?_ | refine ibo (fun _ => ?_) (fun _ => ?_)) <;> conv => whnf))
      exact ⟨(lo, (lo + hi) / 2), _, _, ⟨by dsimp only; omega, by dsimp only; omega, h3, rise_drop hr hx hz⟩, .refl _ _, ⟨rfl, rfl, rfl, rfl, rfl, trivial⟩, trivial, by dsimp only; omega⟩
  · have h4' : ∀ z ∈ l.drop lo, ¬ z < e := by rw [show lo = hi by omega]; exact h4
    have hm := rise_mem hr h3 h4'
    by_cases hln : lo < l.length
    · have hx := List.getElem?_eq_getElem hln
      generalize l[lo] = z at hx
      have hxd : (l.map dI)[lo]? = some (.int .i64 z) := by rw [List.getElem?_map, hx]; rfl
      have hnz := snan_pure z
      by_cases hz : z = e
      · rw [decide_eq_true (hm.2 (by rw [hx, hz]))]
        (conv => whnf)
        (repeat' ((first | refine ord_ok (by (conv => whnf); (repeat' ((first | refine at_da hxd rfl ?_ | refine call_eq rfl hnz ?_ | refine ify ?_ | refine ifn ?_ | refine i6 ?_ | refine ati ?_ | refine mst ?_ | refine rmd ?_ | refine ibo (fun _ => ?_) (fun _ => ?_)) <;> conv => whnf)); (all_goals (repeat' (first | exact trivial | exact rfl | refine And.intro ?_ ?_)))) ?_ | refine at_da hxd rfl ?_ | refine call_eq rfl hnz ?_ | refine ify ?_ | refine ifn ?_ | refine i6 ?_ | refine ati ?_ | refine mst ?_ | refine rmd ?_ | refine ibo (fun _ => ?_) (fun _ => ?_)) <;> conv => whnf))
        exact ⟨lo, ⟨by omega, h3, h4'⟩, rfl⟩
      · rw [decide_eq_false (fun h => hz (by have := hm.1 h; rw [hx] at this; exact Option.some.inj this))]
        (conv => whnf)
        (repeat' ((first | refine ord_ok (by (conv => whnf); (repeat' ((first | refine at_da hxd rfl ?_ | refine call_eq rfl hnz ?_ | refine ify ?_ | refine ifn ?_ | refine i6 ?_ | refine ati ?_ | refine mst ?_ | refine rmd ?_ | refine ibo (fun _ => ?_) (fun _ => ?_)) <;> conv => whnf)); (all_goals (repeat' (first | exact trivial | exact rfl | refine And.intro ?_ ?_)))) ?_ | refine at_da hxd rfl ?_ | refine call_eq rfl hnz ?_ | refine ify ?_ | refine ifn ?_ | refine i6 ?_ | refine ati ?_ | refine mst ?_ | refine rmd ?_ | refine ibo (fun _ => ?_) (fun _ => ?_)) <;> conv => whnf))
        exact ⟨lo, ⟨by omega, h3, h4'⟩, rfl⟩
    · rw [decide_eq_false (fun h => by have := hm.1 h; rw [List.getElem?_eq_none (by omega)] at this; cases this)]
      ((conv => whnf); repeat' ((first | refine odw ?_ | refine ify ?_ | refine ifn ?_ | refine i6 ?_ | refine ati ?_ | refine mst ?_ | refine rmd ?_ | refine ibo (fun _ => ?_) (fun _ => ?_)) <;> conv => whnf))
      exact ⟨lo, ⟨by omega, h3, h4'⟩, rfl⟩
theorem clone1_pure (x : Int) (l : List Int) (hl : (x :: l).length ≤ 2000000000) : Pure C1 55 [dIs (x :: l)] (fun y => y = dIs (x :: l)) := by
  have hlm : ((x :: l).map dI).length = (x :: l).length := List.length_map _
  refine pure_of c1_ok (pl := pl_clone) (G := G_clone) Tryz.func55 rfl Tryz.ntmps55 run_clone cok_clone (by simp) ?_
  have hlm2 : (([] : List Da).length + ((x :: l).map dI).length) ≤ 4294967296 := by rw [hlm]; simp at hl ⊢; omega
  ((conv => whnf); repeat' ((first | refine odw ?_ | refine ify ?_ | refine ifn ?_ | refine i6 ?_ | refine ati ?_ | refine mst ?_ | refine rmd ?_ | refine ibo (fun _ => ?_) (fun _ => ?_)) <;> conv => whnf))
  all_goals first | exact rfl | (refine most_ok hlm2 ?_; ((conv => whnf); repeat' ((first | refine odw ?_ | refine ify ?_ | refine ifn ?_ | refine i6 ?_ | refine ati ?_ | refine mst ?_ | refine rmd ?_ | refine ibo (fun _ => ?_) (fun _ => ?_)) <;> conv => whnf)); exact rfl)
theorem addS_has {s : List Int} {n : Int} (hs : s.Pairwise (· < ·)) (h : n ∈ s) : addS s n = s := rise_eq (setOf_spec _).1 hs fun x => by
  rw [mem_addS]
  exact ⟨fun h' => h'.elim (fun e => e ▸ h) id, .inr⟩
theorem addS_cut {s : List Int} {n : Int} {m : Nat} (hs : s.Pairwise (· < ·)) (hn : n ∉ s) (h1 : ∀ z ∈ s.take m, z < n) (h2 : ∀ z ∈ s.drop m, ¬ z < n) : addS s n = s.take m ++ ([n] ++ s.drop m) := by
  refine rise_eq (setOf_spec _).1 ?_ fun x => ?_
  · rw [List.pairwise_append, List.pairwise_append]
    refine ⟨hs.sublist (List.take_sublist _ _), ⟨by simp, hs.sublist (List.drop_sublist _ _), fun a ha b hb => ?_⟩, fun a ha b hb => ?_⟩
    · rw [List.mem_singleton] at ha; subst ha
      have := h2 b hb
      have hne : b ≠ a := fun e => hn (e ▸ List.mem_of_mem_drop hb)
      omega
    · have h3 := h1 a ha
      rcases List.mem_append.1 hb with hb | hb
      · rw [List.mem_singleton] at hb; subst hb; exact h3
      · have := h2 b hb; omega
  · rw [mem_addS]
    have : x ∈ s ↔ x ∈ s.take m ∨ x ∈ s.drop m := by rw [← List.mem_append, List.take_append_drop]
    rw [this]
    simp only [List.mem_append, List.mem_singleton]
    constructor
    · rintro (h | h | h)
      · exact .inr (.inl h)
      · exact .inl h
      · exact .inr (.inr h)
    · rintro (h | h | h)
      · exact .inr (.inl h)
      · exact .inl h
      · exact .inr (.inr h)
def pl_sadd : List (Nat × Plan) := [(4, .leaf [0, 0, 0, 0, 6, 0, 0, 0, 6, 2, 0] [0, 1, 2, 3, 5, 6, 7, 4, 8, 9, 10] [0, 0, 3, 0, 8, 0, 0, 96, 255, 511, 1023])]
def G_sadd : List FuncId := [113, 55, 114]
theorem cok_sadd : codeOk Tryz.prog G_sadd pl_sadd (Tryz.f54.body.getD .skip) = true := by kernel_rfl
theorem run_sadd (vs : Array Value) (w : World) : (callFunc 54 vs).run C1.P w = .ok (.enter 54 vs) w := by kernel_rfl
set_option maxHeartbeats 4000000 in
theorem sadd_pure (s : List Int) (hs : s.Pairwise (· < ·)) (hl : s.length ≤ 1000000000) (n : Int) : Pure C1 54 [dIs s, .int .i64 n] (fun y => y = dIs (addS s n)) := by
  have hsl : (s.map dI).length = s.length := List.length_map _
  have hb := bsw_pure s hs (by omega) n
  refine pure_of c1_ok (pl := pl_sadd) (G := G_sadd) Tryz.func54 rfl Tryz.ntmps54 run_sadd cok_sadd (by simp) ?_
  by_cases hn : n ∈ s
  · rw [decide_eq_true hn] at hb
    rw [addS_has hs hn]
    have hcl : Pure C1 55 [dIs s] (fun y => y = dIs s) := by
      cases s with
      | nil => cases hn
      | cons x l => exact clone1_pure x l (by omega)
    (conv => whnf)
    refine call_pure rfl hb ?_; rintro y ⟨m, _, rfl⟩
    (conv => whnf)
    (repeat' ((first | refine ord_ok (by (conv => whnf); (repeat' ((first | refine call_eq rfl hcl ?_ | refine ify ?_ | refine ifn ?_ | refine i6 ?_ | refine ati ?_ | refine mst ?_ | refine rmd ?_ | refine ibo (fun _ => ?_) (fun _ => ?_)) <;> conv => whnf)); (all_goals (repeat' (first | exact trivial | exact rfl | refine And.intro ?_ ?_)))) ?_ | refine call_eq rfl hcl ?_ | refine ify ?_ | refine ifn ?_ | refine i6 ?_ | refine ati ?_ | refine mst ?_ | refine rmd ?_ | refine ibo (fun _ => ?_) (fun _ => ?_)) <;> conv => whnf))
    exact rfl
  · rw [decide_eq_false hn] at hb
    (conv => whnf)
    refine call_pure rfl hb ?_; rintro y ⟨m, ⟨hm, h1, h2⟩, rfl⟩
    rw [addS_cut hs hn h1 h2]
    have hcc : Pure C1 114 [.list 1 [.list 1 ((s.map dI).take m), .list 1 [.int .i64 n], .list 1 ((s.map dI).drop m)]] (fun y => y = dIs (s.take m ++ ([n] ++ s.drop m))) := by
      have := concatI_pure [s.take m, [n], s.drop m] (by simp) (by simp; omega)
      simp only [List.map_cons, List.map_nil, List.flatten_cons, List.flatten_nil, List.append_nil] at this
      rw [← List.map_take, ← List.map_drop]
      exact this
    (conv => whnf)
    (repeat' ((first | refine ord_ok (by (conv => whnf); (repeat' ((first | refine upto_is rfl (show m ≤ (s.map dI).length by omega) ?_ | refine sl_is m rfl (by omega) ?_ | refine ify ?_ | refine ifn ?_ | refine i6 ?_ | refine ati ?_ | refine mst ?_ | refine rmd ?_ | refine ibo (fun _ => ?_) (fun _ => ?_)) <;> conv => whnf)); (all_goals (repeat' (first | exact trivial | exact rfl | refine And.intro ?_ ?_)))) ?_ | refine upto_is rfl (show m ≤ (s.map dI).length by omega) ?_ | refine sl_is m rfl (by omega) ?_ | refine ify ?_ | refine ifn ?_ | refine i6 ?_ | refine ati ?_ | refine mst ?_ | refine rmd ?_ | refine ibo (fun _ => ?_) (fun _ => ?_)) <;> conv => whnf))
    refine op_again c1_ok (G := []) (.frz 20 rfl (.refl _ _)) (.inl rfl) ?_
    (conv => whnf)
    (repeat' ((first | refine ord_ok (by (conv => whnf); (repeat' ((first | refine call_frz 24 rfl ?_ | refine call_eq rfl hcc ?_ | refine ify ?_ | refine ifn ?_ | refine i6 ?_ | refine ati ?_ | refine mst ?_ | refine rmd ?_ | refine ibo (fun _ => ?_) (fun _ => ?_)) <;> conv => whnf)); (all_goals (repeat' (first | exact trivial | exact rfl | refine And.intro ?_ ?_)))) ?_ | refine call_frz 24 rfl ?_ | refine call_eq rfl hcc ?_ | refine ify ?_ | refine ifn ?_ | refine i6 ?_ | refine ati ?_ | refine mst ?_ | refine rmd ?_ | refine ibo (fun _ => ?_) (fun _ => ?_)) <;> conv => whnf))
    exact rfl
end Go.Proofs.YteigfapjiekdnaaGreatDoor
end
