/- Merged: Dow Pso Bit. -/
import Derived.Test.YteigfapjiekdnaaGreatDoorKtaq
import Derived.Test.YteigfapjiekdnaaGreatDoorKtag
import Derived.Test.YteigfapjiekdnaaGreatDoorKtaf
import Derived.Test.YteigfapjiekdnaaGreatDoorSxu
section
/- mini.Domains behind a merge: Sets, Support; sets.Union of a set with itself; sizes' sum. -/
namespace Go.Gr
open Go.Proofs.YteigfapjiekdnaaGreatDoor
def sumL (S : List (List Int)) : Nat := (S.map List.length).sum
theorem sumL_step {S : List (List Int)} {i : Nat} {s : List Int} (h : S[i]? = some s) : sumL (S.take (i + 1)) = sumL (S.take i) + s.length := by
  unfold sumL
  rw [List.take_add_one, h, Option.toList_some, List.map_append, List.sum_append]; simp
theorem sumL_le {b : Nat} : ∀ {S : List (List Int)}, (∀ s ∈ S, s.length ≤ b) → sumL S ≤ S.length * b
  | [], _ => Nat.zero_le _
  | s :: S, h => by
    have h1 := h s (by simp)
    have h2 := sumL_le (S := S) fun t ht => h t (by simp [ht])
    unfold sumL at h2 ⊢
    rw [List.map_cons, List.sum_cons, List.length_cons, Nat.add_mul, Nat.one_mul]; omega
theorem sumL_mem {s : List Int} : ∀ {S : List (List Int)}, s ∈ S → s.length ≤ sumL S
  | t :: S, h => by
    unfold sumL
    rw [List.map_cons, List.sum_cons]
    rcases List.mem_cons.1 h with rfl | h
    · omega
    · have := sumL_mem h
      unfold sumL at this; omega
theorem sumL_mono {f g : Nat → List Int} : ∀ {R : List Nat}, (∀ v ∈ R, (f v).length ≤ (g v).length) → sumL (R.map f) ≤ sumL (R.map g)
  | [], _ => Nat.le_refl _
  | v :: R, h => by
    have h1 := h v (by simp)
    have h2 := sumL_mono (R := R) (f := f) (g := g) fun u hu => h u (by simp [hu])
    unfold sumL at h2 ⊢
    simp only [List.map_cons, List.sum_cons]; omega
theorem least_sum {S : List (List Int)} (h : S ≠ []) : leastL S ≤ sumL S := by
  obtain ⟨s, hs, e, _⟩ := leastL_mem h
  rw [e]; exact sumL_mem hs
theorem setOf_self {s : List Int} (h : s.Pairwise (· < ·)) : setOf (s ++ s) = s := rise_eq (setOf_spec _).1 h fun x => by
  rw [(setOf_spec _).2]; simp
end Go.Gr
namespace Go.Proofs.YteigfapjiekdnaaGreatDoor
open Go.Sx Go.RowKit Go.Reg Go.Gr

set_option maxRecDepth 100000
theorem least1d_pure (a b : List Int) (ha : a.length ≤ 1000000000) (hb : b.length ≤ 1000000000) : Pure C1 112 [dIs a, dIs b] (fun y => y = .int .i64 ((a.length : Int) - b.length)) := by
  have hda : (a.map dI).length = a.length := List.length_map _
  have hdb : (b.map dI).length = b.length := List.length_map _
  refine pure_of c1_ok (pl := pl_ml1) (G := G_ml1) Tryz.func112 rfl Tryz.ntmps112 run_ml1 cok_ml1 (by simp) ?_
  ((conv => whnf); repeat' ((first | refine odw ?_ | refine ify ?_ | refine ifn ?_ | refine i6 ?_ | refine ati ?_ | refine mst ?_ | refine rmd ?_ | refine ibo (fun _ => ?_) (fun _ => ?_)) <;> conv => whnf))
  exact congrArg (Da.int .i64) (by omega)
set_option maxHeartbeats 4000000 in
theorem minfd_pure (l : List (List Int)) (h0 : l ≠ []) (hm : l.length ≤ 1000) (hs : ∀ s ∈ l, s.length ≤ 1000000000) : Pure C1 111 [.list 1 (l.map dIs), .func (.func 112) [] []] (fun y => ∃ s ∈ l, y = dIs s ∧ ∀ t ∈ l, s.length ≤ t.length) := by
  have hdl : (l.map dIs).length = l.length := List.length_map _
  have hpos : 0 < l.length := List.length_pos_iff.2 h0
  have hx := List.getElem?_eq_getElem hpos
  have hxm := List.getElem_mem hpos
  generalize l[0] = s0 at hx hxm
  have hxd : (l.map dIs)[0]? = some (dIs s0) := by rw [List.getElem?_map, hx]; rfl
  refine pure_of c1_ok (pl := pl_mnf) (G := G_mnf) Tryz.func111 rfl Tryz.ntmps111 run_mnf cok_mnf (by simp) ?_
  (conv => whnf)
  (repeat' ((first | refine ord_ok (by (conv => whnf); (repeat' ((first | refine at_da hxd rfl ?_ | refine ify ?_ | refine ifn ?_ | refine i6 ?_ | refine ati ?_ | refine mst ?_ | refine rmd ?_ | refine ibo (fun _ => ?_) (fun _ => ?_)) <;> conv => whnf)); (all_goals (repeat' (first | exact trivial | exact rfl | refine And.intro ?_ ?_)))) ?_ | refine at_da hxd rfl ?_ | refine ify ?_ | refine ifn ?_ | refine i6 ?_ | refine ati ?_ | refine mst ?_ | refine rmd ?_ | refine ibo (fun _ => ?_) (fun _ => ?_)) <;> conv => whnf))
  refine loop_lo (ι := Nat × List Int) (fun x => (1 ≤ x.1 ∧ x.1 ≤ l.length) ∧ x.2 ∈ l ∧ ∀ k t, k < x.1 → l[k]? = some t → x.2.length ≤ t.length) (fun x => [(6, .d (.int .i64 x.1)), (5, .d (dIs x.2)), (1, .d (.func (.func 112) [] [])), (0, .d (.list 1 (l.map dIs)))]) (fun _ => []) (fun x => l.length - x.1) (1, s0) (fun _ => rfl) ⟨⟨Nat.le_refl _, hpos⟩, hxm, fun k t hk ht => by rw [show k = 0 by omega, hx] at ht; cases ht; exact Nat.le_refl _⟩ (.refl _ _) ⟨rfl, rfl, rfl, rfl, trivial⟩ trivial ?_
  rintro ⟨i, s⟩ ⟨⟨h1, h2⟩, hsm, hle⟩
  dsimp only at h1 h2 hsm hle
  refine sxCode_sound c1_ok (G := G_mnf) (pl := pl_mnf) _ _ _ _ (by kernel_rfl) ?_
  by_cases hlt : i < l.length
  · have hy := List.getElem?_eq_getElem hlt
    have hym := List.getElem_mem hlt
    generalize l[i] = x at hy hym
    have hyd : (l.map dIs)[i]? = some (dIs x) := by rw [List.getElem?_map, hy]; rfl
    have hc := least1d_pure x s (hs x hym) (hs s hsm)
    have hst : ∀ z, (∀ k t, k < i → l[k]? = some t → z ≤ t.length) → z ≤ x.length → ∀ k t, k < i + 1 → l[k]? = some t → z ≤ t.length := by
      intro z hz hzx k t hk ht
      rcases Nat.lt_or_ge k i with h | h
      · exact hz k t h ht
      · rw [show k = i by omega, hy] at ht; cases ht; exact hzx
    by_cases hxs : x.length < s.length
    · have hneg : (x.length : Int) - s.length < 0 := by omega
      (conv => whnf)
      (repeat' ((first | refine ord_ok (by (conv => whnf); (repeat' ((first | refine at_da hyd rfl ?_ | refine call_eq rfl hc ?_ | refine ify ?_ | refine ifn ?_ | refine i6 ?_ | refine ati ?_ | refine mst ?_ | refine rmd ?_ | refine ibo (fun _ => ?_) (fun _ => ?_)) <;> conv => whnf)); (all_goals (repeat' (first | exact trivial | exact rfl | refine And.intro ?_ ?_)))) ?_ | refine at_da hyd rfl ?_ | refine call_eq rfl hc ?_ | refine ify ?_ | refine ifn ?_ | refine i6 ?_ | refine ati ?_ | refine mst ?_ | refine rmd ?_ | refine ibo (fun _ => ?_) (fun _ => ?_)) <;> conv => whnf))
      exact ⟨(i + 1, x), _, _, ⟨⟨by dsimp only; omega, hlt⟩, hym, hst x.length (fun k t hk ht => Nat.le_trans (Nat.le_of_lt hxs) (hle k t hk ht)) (Nat.le_refl _)⟩, .refl _ _, ⟨rfl, rfl, rfl, rfl, trivial⟩, trivial, by dsimp only; omega⟩
    · (conv => whnf)
      (repeat' ((first | refine ord_ok (by (conv => whnf); (repeat' ((first | refine at_da hyd rfl ?_ | refine call_eq rfl hc ?_ | refine ify ?_ | refine ifn ?_ | refine i6 ?_ | refine ati ?_ | refine mst ?_ | refine rmd ?_ | refine ibo (fun _ => ?_) (fun _ => ?_)) <;> conv => whnf)); (all_goals (repeat' (first | exact trivial | exact rfl | refine And.intro ?_ ?_)))) ?_ | refine at_da hyd rfl ?_ | refine call_eq rfl hc ?_ | refine ify ?_ | refine ifn ?_ | refine i6 ?_ | refine ati ?_ | refine mst ?_ | refine rmd ?_ | refine ibo (fun _ => ?_) (fun _ => ?_)) <;> conv => whnf))
      exact ⟨(i + 1, s), _, _, ⟨⟨by dsimp only; omega, hlt⟩, hsm, hst s.length hle (by omega)⟩, .refl _ _, ⟨rfl, rfl, rfl, rfl, trivial⟩, trivial, by dsimp only; omega⟩
  · ((conv => whnf); repeat' ((first | refine odw ?_ | refine ify ?_ | refine ifn ?_ | refine i6 ?_ | refine ati ?_ | refine mst ?_ | refine rmd ?_ | refine ibo (fun _ => ?_) (fun _ => ?_)) <;> conv => whnf))
    refine ⟨s, hsm, rfl, fun t ht => ?_⟩
    obtain ⟨k, hk⟩ := List.mem_iff_getElem?.1 ht
    have := (List.getElem?_eq_some_iff.1 hk).1
    exact hle k t (by omega) hk
theorem leastd_pure (l : List (List Int)) (h0 : l ≠ []) (hm : l.length ≤ 1000) (hs : ∀ s ∈ l, s.length ≤ 1000000000) : Pure C1 52 [.list 1 (l.map dIs)] (fun y => y = .int .i64 (leastL l : Nat)) := by
  have hdl : (l.map dIs).length = l.length := List.length_map _
  have hpos : 0 < l.length := List.length_pos_iff.2 h0
  refine pure_of c1_ok (pl := pl_mlt) (G := G_mlt) Tryz.func52 rfl Tryz.ntmps52 run_mlt cok_mlt (by simp) ?_
  ((conv => whnf); repeat' ((first | refine odw ?_ | refine ify ?_ | refine ifn ?_ | refine i6 ?_ | refine ati ?_ | refine mst ?_ | refine rmd ?_ | refine ibo (fun _ => ?_) (fun _ => ?_)) <;> conv => whnf))
  refine call_pure rfl (minfd_pure l h0 hm hs) ?_; rintro y ⟨s, hsm, rfl, hle⟩
  rw [leastL_is hsm hle]
  have hds : (s.map dI).length = s.length := List.length_map _
  ((conv => whnf); repeat' ((first | refine odw ?_ | refine ify ?_ | refine ifn ?_ | refine i6 ?_ | refine ati ?_ | refine mst ?_ | refine rmd ?_ | refine ibo (fun _ => ?_) (fun _ => ?_)) <;> conv => whnf))
  exact congrArg (Da.int .i64) (by omega)
/-- domains, given up, that were merged -/
def dDd (p : Pt) (O S : List (List Int)) : Da := .ref (.agg [dPt p, dLL O, dLL S])
theorem dsetsd_pure (p : Pt) (O S : List (List Int)) (h0 : S ≠ []) (hm : S.length ≤ 1000) (hs : ∀ s ∈ S, s.length ≤ 1000000000) : Pure C1 26 [dDd p O S] (fun y => y = dLL S) := by
  have hdS : (S.map dIs).length = S.length := List.length_map _
  have hpos : 0 < S.length := List.length_pos_iff.2 h0
  refine pure_of c1_ok (pl := pl_dse) (G := G_dse) Tryz.func26 rfl Tryz.ntmps26 run_dse cok_dse (by simp) ?_
  ((conv => whnf); repeat' ((first | refine odw ?_ | refine ify ?_ | refine ifn ?_ | refine i6 ?_ | refine ati ?_ | refine mst ?_ | refine rmd ?_ | refine ibo (fun _ => ?_) (fun _ => ?_)) <;> conv => whnf))
  refine loop_lo (ι := Nat) (fun i => i ≤ S.length) (fun i => [(13, .d (.int .i64 i)), (12, .d (.int .i64 S.length)), (11, .d (dLL S)), (3, .own 300)]) (fun i => [(300, .slice 22 1 ((S.take i).map dIs))]) (fun i => S.length - i) 0 (fun _ => rfl) (Nat.zero_le _) (.own 3 300 22 1 rfl rfl (.refl _ _)) ⟨rfl, by rw [← hdS]; rfl, rfl, rfl, trivial⟩ ⟨rfl, trivial⟩ ?_
  intro i hi
  refine sxCode_sound c1_ok (G := G_dse) (pl := pl_dse) _ _ _ _ (by kernel_rfl) ?_
  by_cases hil : i < S.length
  · have hx := List.getElem?_eq_getElem hil
    have hxm := List.getElem_mem hil
    generalize S[i] = x at hx hxm
    have hxl := hs x hxm
    have hdx : (x.map dI).length = x.length := List.length_map _
    have hxd : (S.map dIs)[i]? = some (dIs x) := by rw [List.getElem?_map, hx]; rfl
    have hfin : (S.take i).map dIs ++ [dIs x] = (S.take (i + 1)).map dIs := by rw [List.take_add_one, hx, List.map_append]; rfl
    have htl : ((S.take i).map dIs).length = i := by rw [List.length_map, List.length_take]; omega
    generalize (S.take i).map dIs = Z at htl hfin ⊢
    (conv => whnf)
    (repeat' ((first | refine ord_ok (by (conv => whnf); (repeat' ((first | refine at_da hxd rfl ?_ | refine ify ?_ | refine ifn ?_ | refine i6 ?_ | refine ati ?_ | refine mst ?_ | refine rmd ?_ | refine ibo (fun _ => ?_) (fun _ => ?_)) <;> conv => whnf)); (all_goals (repeat' (first | exact trivial | exact rfl | refine And.intro ?_ ?_)))) ?_ | refine at_da hxd rfl ?_ | refine ify ?_ | refine ifn ?_ | refine i6 ?_ | refine ati ?_ | refine mst ?_ | refine rmd ?_ | refine ibo (fun _ => ?_) (fun _ => ?_)) <;> conv => whnf))
    refine call_mksl 19 rfl rfl (clone_sl x (by omega)) ?_
    rintro ds rfl
    ((conv => whnf); repeat' ((first | refine odw ?_ | refine ify ?_ | refine ifn ?_ | refine i6 ?_ | refine ati ?_ | refine mst ?_ | refine rmd ?_ | refine ibo (fun _ => ?_) (fun _ => ?_)) <;> conv => whnf))
    refine op_again c1_ok (G := []) (.frz 19 rfl (.refl _ _)) (.inr rfl) ?_
    ((conv => whnf); repeat' ((first | refine odw ?_ | refine ify ?_ | refine ifn ?_ | refine i6 ?_ | refine ati ?_ | refine mst ?_ | refine rmd ?_ | refine ibo (fun _ => ?_) (fun _ => ?_)) <;> conv => whnf))
    exact ⟨i + 1, _, _, hil, .refl _ _, ⟨rfl, rfl, rfl, rfl, trivial⟩, ⟨slice_is hfin, trivial⟩, by omega⟩
  · rw [List.take_of_length_le (show S.length ≤ i by omega)]
    ((conv => whnf); repeat' ((first | refine odw ?_ | refine ify ?_ | refine ifn ?_ | refine i6 ?_ | refine ati ?_ | refine mst ?_ | refine rmd ?_ | refine ibo (fun _ => ?_) (fun _ => ?_)) <;> conv => whnf))
    exact rfl
theorem dsupportd_pure (p : Pt) (O S : List (List Int)) (h0 : S ≠ []) (hm : S.length ≤ 1000) (hs : ∀ s ∈ S, s.length ≤ 1000000000) : Pure C1 27 [dDd p O S] (fun y => y = .int .i64 (leastL S : Nat)) := by
  have h1 := dsetsd_pure p O S h0 hm hs
  have h2 := leastd_pure S h0 hm hs
  refine pure_of c1_ok (pl := pl_dsu) (G := G_dsu) Tryz.func27 rfl Tryz.ntmps27 run_dsu cok_dsu (by simp) ?_
  (conv => whnf)
  (repeat' ((first | refine ord_ok (by (conv => whnf); (repeat' ((first | refine call_eq rfl h1 ?_ | refine call_eq rfl h2 ?_ | refine ify ?_ | refine ifn ?_ | refine i6 ?_ | refine ati ?_ | refine mst ?_ | refine rmd ?_ | refine ibo (fun _ => ?_) (fun _ => ?_)) <;> conv => whnf)); (all_goals (repeat' (first | exact trivial | exact rfl | refine And.intro ?_ ?_)))) ?_ | refine call_eq rfl h1 ?_ | refine call_eq rfl h2 ?_ | refine ify ?_ | refine ifn ?_ | refine i6 ?_ | refine ati ?_ | refine mst ?_ | refine rmd ?_ | refine ibo (fun _ => ?_) (fun _ => ?_)) <;> conv => whnf))
  exact rfl
def pl_sun : List (Nat × Plan) := []
def G_sun : List FuncId := [114, 66]
theorem cok_sun : codeOk Tryz.prog G_sun pl_sun (Tryz.f85.body.getD .skip) = true := by kernel_rfl
theorem run_sun (vs : Array Value) (w : World) : (callFunc 85 vs).run C1.P w = .ok (.enter 85 vs) w := by kernel_rfl
theorem union_self (s : List Int) (hr : s.Pairwise (· < ·)) (hl : s.length ≤ 1000000000) : Pure C1 85 [dN s, dN s] (fun y => y = dIs s) := by
  refine Sx.Pure.lax (.cons (laxN s) (.cons (laxN s) .nil)) ?_
  have hcc := concatI_pure [s, s] (by simp) (by simp; omega)
  simp only [List.map_cons, List.map_nil, List.flatten_cons, List.flatten_nil, List.append_nil] at hcc
  have hof := of_pure (s ++ s) (by simp; omega)
  rw [setOf_self hr] at hof
  refine pure_of c1_ok (pl := pl_sun) (G := G_sun) Tryz.func85 rfl Tryz.ntmps85 run_sun cok_sun (by simp) ?_
  (conv => whnf)
  (repeat' ((first | refine ord_ok (by (conv => whnf); (repeat' ((first | refine call_frz 7 rfl ?_ | refine call_eq rfl hcc ?_ | refine call_eq rfl hof ?_ | refine ify ?_ | refine ifn ?_ | refine i6 ?_ | refine ati ?_ | refine mst ?_ | refine rmd ?_ | refine ibo (fun _ => ?_) (fun _ => ?_)) <;> conv => whnf)); (all_goals (repeat' (first | exact trivial | exact rfl | refine And.intro ?_ ?_)))) ?_ | refine call_frz 7 rfl ?_ | refine call_eq rfl hcc ?_ | refine call_eq rfl hof ?_ | refine ify ?_ | refine ifn ?_ | refine i6 ?_ | refine ati ?_ | refine mst ?_ | refine rmd ?_ | refine ibo (fun _ => ?_) (fun _ => ?_)) <;> conv => whnf))
  exact rfl
end Go.Proofs.YteigfapjiekdnaaGreatDoor
end

section
/- Patterns: edges put in order in their place by slices.SortFunc with pat.order (as Gre, with graph.order). -/
namespace Go.Proofs.YteigfapjiekdnaaGreatDoor
open Go.Sx Go.RowKit Go.Reg Go.Gr

open Go.Sort Go.Proofs in
set_option maxRecDepth 100000 in
set_option maxHeartbeats 1000000 in
theorem paorder_ok (x y : Edg) (W : World) : Calls Tryz.prog 74 #[valE x, valE y] W fun e w' => e = .returned (.int .i64 (cmpE x y)) ∧ ∃ q os', w' = grow (W.drewN q) os' := by
  unfold valE
  go_enter Tryz.func74, Tryz.ntmps74
  go_wp2_with fail
  refine wp_region_t [121] [0, 1, 0, 1, 2, 0, 1, 0, 1, 2, 6, 3, 0] [0, 2, 5, 7, 1, 3, 6, 8, 4, 9, 10, 11, 12] [0, 1, 0, 4, 15, 0, 32, 0, 128, 511, 1023, 2047, 4095] (by kernel_rfl) (by kernel_rfl) ?_
  go_wp2_with (first | (refine wpT_pure rfl rfl rfl rfl (fun _ _ => ?_)) | (refine wpT_look rfl rfl rfl (fun _ _ => ?_)))
  refine wpT_call rfl rfl rfl (fun K1 hK1 => ?_)
  go_wp2_with (go_at_call 121; refine (compare_ok _ _ _).mono ?_; rintro e w' ⟨rfl, rfl⟩)
  refine hK1 _ _ (Ext.refl _) ?_
  go_wp2_with (first | (refine wpT_pure rfl rfl rfl rfl (fun _ _ => ?_)) | (refine wpT_look rfl rfl rfl (fun _ _ => ?_)))
  refine wpT_call rfl rfl rfl (fun K2 hK2 => ?_)
  go_wp2_with (go_at_call 121; refine (compare_ok _ _ _).mono ?_; rintro e w' ⟨rfl, rfl⟩)
  refine hK2 _ _ (Ext.refl _) ?_
  go_wp2_with (first | (refine wpT_pure rfl rfl rfl rfl (fun _ _ => ?_)) | (refine wpT_look rfl rfl rfl (fun _ _ => ?_)))
  refine wpT_one rfl rfl rfl (fun K3 hK3 => ?_)
  go_wp2_with fail
  refine (or_ok _ _ _ _ (cell_new _ _ _ (by simp) rfl) (cell_new _ _ _ (by simp) rfl)).mono ?_
  rintro e w' ⟨rfl, rfl⟩
  refine hK3 _ _ ?_
  go_wp2_with (first | (refine wpT_pure rfl rfl rfl rfl (fun _ _ => ?_)) | (refine wpT_look rfl rfl rfl (fun _ _ => ?_)) | refine wpT_nil ?_)
  go_ret
  have e : orI (cmpI x.a y.a) (cmpI x.b y.b) = cmpE x y := by
    unfold orI cmpE
    by_cases h : cmpI x.a y.a = 0 <;> simp [h]
  exact ⟨by rw [← e]; rfl, 1, _, by rw [alloc_eq_grow, alloc_eq_grow, alloc_eq_grow, grow_grow, grow_grow]; rfl⟩

open Go.Sort in
theorem pasort_ok (v : Value) (l : List Edg) (w : World) (h : Sl 40 2 encE w v l) (hl : l.length ≤ 4294967296) :
    Calls Tryz.prog 81 #[v, .func (.func 74) #[] #[]] w fun e w' => e = .returned (.tuple #[]) ∧ ∃ out, Sl 40 2 encE w' v out ∧ out.Perm l ∧
      out.Pairwise (fun a b => ¬ cmpE b a < 0) ∧ Tch v.ownBlock.toList w w' := by
  rcases h.shape with ⟨rfl, rfl⟩ | ⟨g, cap, rfl, hc⟩
  · refine (AnyF.slices_SortFunc_none Tryz.sortE none 0 _ w).mono ?_
    rintro e w' ⟨rfl, rfl⟩
    exact ⟨rfl, [], h, List.Perm.refl _, List.Pairwise.nil, Tch.refl _ _⟩
  · refine (AnyQ.slices_SortFunc Tryz.sortE 2 Tryz.isAgg40 Tryz.sizeOf40 encE (fun _ => rfl) encE_one cmpE cmpE_swo 74 #[] g 0 cap l.toArray w
      (enters_of Tryz.func74 (by kernel_rfl) rfl) (fun m os dk hs x y => paorder_ok x y _) (h.holdsK encE_len (by decide)) (h.lt rfl) (by simp; omega)).mono ?_
    rintro e w' ⟨rfl, d, n, os, hp, hs, rfl⟩
    obtain ⟨hp1, hp2, hp3⟩ := hp
    have hd : d.size = l.length := by simpa using hp1
    obtain ⟨hS, hT⟩ := h.sorted encE_len (by decide) d hd n os
    refine ⟨rfl, d.toList, hS, ?_, ?_, hT⟩
    · have e1 : d.extract 0 l.toArray.size = d := by rw [← hp1]; exact Array.extract_size
      have e2 : l.toArray.extract 0 l.toArray.size = l.toArray := Array.extract_size
      rw [e1, e2] at hp3
      exact hp3
    · rw [List.pairwise_iff_getElem]
      intro i j hi hj hij
      have hj' : j < l.length := by rw [← hd]; simpa using hj
      have hi' : i < l.length := by omega
      have := hs i j (Nat.zero_le _) hij (by simpa using hj')
      rw [getElem!_pos d j (by omega), getElem!_pos d i (by omega)] at this
      simpa [ltOf] using this
theorem pasort_tsl (l : List Edg) (hl : l.length ≤ 4294967296) : TurnSl C1 81 40 2 (l.map dE) [.func (.func 74) [] []] (fun _ ds => ∃ out : List Edg, ds = out.map dE ∧ out.Perm l ∧ out.Pairwise (fun a b => ¬ cmpE b a < 0)) := by
  intro O w v css us hs hb hO hr hk hg hus
  obtain ⟨u, us', rfl, h1, h2⟩ := reps_inv hus
  obtain rfl := reps_inv0 h2
  obtain ⟨cs, r, rfl⟩ := h1
  simp only [RepC, RepCss] at r
  obtain ⟨_, _, rfl, rfl, rfl⟩ := r
  obtain rfl := edges_cs hr
  refine ⟨by kernel_rfl, (pasort_ok v l w (edges_sl.1 hs) hl).mono ?_⟩
  rintro e w' ⟨rfl, out, hs', hp, ho, ht⟩
  refine ⟨.tuple #[], .tuple [], _, out.map encE, rfl, ⟨out, rfl, hp, ho⟩, edges_sl.2 hs', edges_rep _ _ _, ?_, ⟨[.tuple #[]], by simp only [RepC, RepCss]; exact ⟨[], rfl, rfl⟩, rfl⟩, ht⟩
  intro x hx
  obtain ⟨e, _, rfl⟩ := List.mem_map.1 hx
  exact ⟨rfl, encE_one e⟩
end Go.Proofs.YteigfapjiekdnaaGreatDoor
end

section
/- The engine's rules of '&', '|', '<<' on numbers from 0 on; a set of places as bits. -/
namespace Go.Sx
open Go Go.RowKit Go.Reg
theorem i64_and_nat (a b : Nat) (ha : a < 9223372036854775808) (hb : b < 9223372036854775808) : IntKind.i64.wrap ((BitVec.ofInt 64 (a : Int) &&& BitVec.ofInt 64 (b : Int)).toNat : Int) = ((a &&& b : Nat) : Int) := by
  have hx : a &&& b < 2 ^ 63 := Nat.and_lt_two_pow _ (by omega)
  have h1 : (BitVec.ofInt 64 (a : Int)).toNat = a := by rw [BitVec.ofInt_natCast, BitVec.toNat_ofNat]; exact Nat.mod_eq_of_lt (by omega)
  have h2 : (BitVec.ofInt 64 (b : Int)).toNat = b := by rw [BitVec.ofInt_natCast, BitVec.toNat_ofNat]; exact Nat.mod_eq_of_lt (by omega)
  rw [BitVec.toNat_and, h1, h2, IntKind.wrap_i64]
  omega
theorem i64_or_nat (a b : Nat) (ha : a < 9223372036854775808) (hb : b < 9223372036854775808) : IntKind.i64.wrap ((BitVec.ofInt 64 (a : Int) ||| BitVec.ofInt 64 (b : Int)).toNat : Int) = ((a ||| b : Nat) : Int) := by
  have hx : a ||| b < 2 ^ 63 := Nat.or_lt_two_pow (by omega) (by omega)
  have h1 : (BitVec.ofInt 64 (a : Int)).toNat = a := by rw [BitVec.ofInt_natCast, BitVec.toNat_ofNat]; exact Nat.mod_eq_of_lt (by omega)
  have h2 : (BitVec.ofInt 64 (b : Int)).toNat = b := by rw [BitVec.ofInt_natCast, BitVec.toNat_ofNat]; exact Nat.mod_eq_of_lt (by omega)
  rw [BitVec.toNat_or, h1, h2, IntKind.wrap_i64]
  omega
section
variable {C : Cx} {fr : Fr} {σ : Sg}
/-- 'x & y' -/
theorem op_and (a b z : Nat) (hz : a &&& b = z) {n kd : Nat} {o : Oper} {K : Fr → Sg → Prop} {t ty : Nat} {x y : Operand} (ho : o.op = .binOp .and t x y ty) (hx : ev C.Γ fr x = .d (.int .i64 (a : Int))) (hy : ev C.Γ fr y = .d (.int .i64 (b : Int))) (ha : a < 9223372036854775808) (hb : b < 9223372036854775808) (hkd : kd = 3) (hd : dstOk o.dst n = true)
    (hK : K (putF o.dst (.d (.int .i64 (z : Int))) fr) σ) : OpSem C n kd o K fr σ := by
  subst hkd hz
  refine opSem_calc (by decide) (by decide) hd fun B S w0 η φ a' w hM => ?_
  have e1 := rep_int (rd_da (ev_rep hM x) hx)
  have e2 := rep_int (rd_da (ev_rep hM y) hy)
  refine .inr ⟨_, _, hK, ?_, rd_int _ _, fun h => by cases h⟩
  simp only [execOp, ho]
  rw [e1, e2]
  refine run_v ?_
  have := i64_and_nat a b ha hb
  rw [BitVec.ofInt_natCast, BitVec.ofInt_natCast] at this
  simp [eqGuard, binOp, Op.intBits]
  exact this
/-- 'x | y' -/
theorem op_or (a b z : Nat) (hz : a ||| b = z) {n kd : Nat} {o : Oper} {K : Fr → Sg → Prop} {t ty : Nat} {x y : Operand} (ho : o.op = .binOp .or t x y ty) (hx : ev C.Γ fr x = .d (.int .i64 (a : Int))) (hy : ev C.Γ fr y = .d (.int .i64 (b : Int))) (ha : a < 9223372036854775808) (hb : b < 9223372036854775808) (hkd : kd = 3) (hd : dstOk o.dst n = true)
    (hK : K (putF o.dst (.d (.int .i64 (z : Int))) fr) σ) : OpSem C n kd o K fr σ := by
  subst hkd hz
  refine opSem_calc (by decide) (by decide) hd fun B S w0 η φ a' w hM => ?_
  have e1 := rep_int (rd_da (ev_rep hM x) hx)
  have e2 := rep_int (rd_da (ev_rep hM y) hy)
  refine .inr ⟨_, _, hK, ?_, rd_int _ _, fun h => by cases h⟩
  simp only [execOp, ho]
  rw [e1, e2]
  refine run_v ?_
  have := i64_or_nat a b ha hb
  rw [BitVec.ofInt_natCast, BitVec.ofInt_natCast] at this
  simp [eqGuard, binOp, Op.intBits]
  exact this
/-- '1 << b' -/
theorem op_bit (b : Nat) {n kd : Nat} {o : Oper} {K : Fr → Sg → Prop} {t ty : Nat} {x y : Operand} {yk : IntKind} (ho : o.op = .binOp .shl t x y ty) (hx : ev C.Γ fr x = .d (.int .i64 1)) (hy : ev C.Γ fr y = .d (.int yk (b : Int))) (hb : b ≤ 30) (hkd : kd = 3) (hd : dstOk o.dst n = true)
    (hK : K (putF o.dst (.d (.int .i64 ((2 ^ b : Nat) : Int))) fr) σ) : OpSem C n kd o K fr σ := by
  subst hkd
  refine opSem_calc (by decide) (by decide) hd fun B S w0 η φ a' w hM => ?_
  have e1 := rep_int (rd_da (ev_rep hM x) hx)
  have e2 := rep_int (rd_da (ev_rep hM y) hy)
  refine .inr ⟨_, _, hK, ?_, rd_int _ _, fun h => by cases h⟩
  simp only [execOp, ho]
  rw [e1, e2]
  refine run_v ?_
  have h1 : (2 : Nat) ^ b ≤ 2 ^ 30 := Nat.pow_le_pow_right (by decide) hb
  have h3 : ((2 ^ b : Nat) : Int) = (2 : Int) ^ b := by norm_cast
  have h2 : IntKind.i64.wrap ((2 : Int) ^ b) = (2 : Int) ^ b := by
    rw [← h3]
    generalize (2 : Nat) ^ b = q at h1
    exact wrap64_in ⟨by omega, by omega⟩
  simp [eqGuard, binOp, h2]
/-- 'x >> b' of a number from 0 on -/
theorem op_shrz (b m z : Nat) (hz : m / 2 ^ b = z) {n kd : Nat} {o : Oper} {K : Fr → Sg → Prop} {t ty : Nat} {x y : Operand} {k yk : IntKind} (ho : o.op = .binOp .shr t x y ty) (hx : ev C.Γ fr x = .d (.int k (m : Int))) (hy : ev C.Γ fr y = .d (.int yk (b : Int))) (hb : b ≤ 8) (hkd : kd = 3) (hd : dstOk o.dst n = true)
    (hK : K (putF o.dst (.d (.int k (z : Int))) fr) σ) : OpSem C n kd o K fr σ := by
  subst hz
  refine op_shr b ho hx hy hb hkd hd ?_
  have : (m : Int).fdiv (2 ^ b) = ((m / 2 ^ b : Nat) : Int) := by
    rw [Int.fdiv_eq_ediv_of_nonneg _ (Int.pow_nonneg (by decide))]
    simp
  rw [this]; exact hK
end
end Go.Sx
namespace Go.Gr
/-- places as bits -/
def maskOf (l : List Nat) : Nat := l.foldl (fun s x => s ||| 2 ^ x) 0
theorem mask_snoc (l : List Nat) (x : Nat) : maskOf (l ++ [x]) = maskOf l ||| 2 ^ x := by simp [maskOf, List.foldl_append]
theorem mask_bit (l : List Nat) (k : Nat) : (maskOf l).testBit k = decide (k ∈ l) := by
  suffices h : ∀ l : List Nat, (maskOf l.reverse).testBit k = decide (k ∈ l) by
    have := h l.reverse
    rw [List.reverse_reverse] at this
    rw [this]; simp
  intro l
  induction l with
  | nil => simp [maskOf]
  | cons x l ih =>
    rw [List.reverse_cons, mask_snoc, Nat.testBit_or, ih, Nat.testBit_two_pow]
    by_cases h : x = k
    · subst h; simp
    · simp [h, Ne.symm h]
theorem mask_lt (l : List Nat) (n : Nat) (h : ∀ x ∈ l, x < n) : maskOf l < 2 ^ n := by
  suffices hh : ∀ l : List Nat, (∀ x ∈ l, x < n) → maskOf l.reverse < 2 ^ n by
    have := hh l.reverse (by simpa using h)
    rwa [List.reverse_reverse] at this
  intro l
  induction l with
  | nil => intro _; simp [maskOf]; exact Nat.pos_of_ne_zero (by simp)
  | cons x l ih =>
    intro h
    rw [List.reverse_cons, mask_snoc]
    exact Nat.or_lt_two_pow (ih fun y hy => h y (by simp [hy])) (Nat.pow_lt_pow_right (by decide) (h x (by simp)))
theorem bit_of (m k : Nat) : (m / 2 ^ k) &&& 1 = if m.testBit k then 1 else 0 := by
  rw [Nat.and_one_is_mod, Nat.testBit_eq_decide_div_mod_eq]
  by_cases h : m / 2 ^ k % 2 = 1
  · simp [h]
  · simp [h]; omega
end Go.Gr
end
