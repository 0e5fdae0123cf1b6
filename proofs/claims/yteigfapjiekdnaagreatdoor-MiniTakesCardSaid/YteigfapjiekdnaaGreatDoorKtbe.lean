/- Merged: Mtk. -/
import Derived.Test.YteigfapjiekdnaaGreatDoorKtar
import Derived.Test.YteigfapjiekdnaaGreatDoorKtbc
import Derived.Test.YteigfapjiekdnaaGreatDoorKtbd
section
/- law15: MiniTakes: the walk (printed by Mtk.gen.py). -/
namespace Go.Gr
open Go.Proofs.YteigfapjiekdnaaGreatDoor
/-- a list that can be taken in -/
def okT (n : Nat) (L : List Int) : Bool := decide (L.length = n ∧ L.Nodup)
theorem okT_step {l : List (List Int)} {n i : Nat} {L : List Int} (h : l[i]? = some L) : (l.take (i + 1)).filter (okT n) = (l.take i).filter (okT n) ++ if okT n L = true then [L] else [] := by
  rw [List.take_add_one, h, List.filter_append]
  congr 1
  by_cases hh : okT n L = true <;> simp [hh]
theorem ownI_snoc (p : Pt) (X : List (List Int)) (L : List Int) : ownI p (X ++ [L]) = ownI p X ++ (mapsP p p).map fun o => mvI o L := by
  unfold ownI; rw [List.flatMap_append]; simp
theorem dup_len {L : List Int} (h : (setOf L).length = L.length) : L.Nodup :=
  (perm_of_sub (rise_nodup (setOf_spec L).1) (fun x hx => ((setOf_spec L).2 x).1 hx) (by omega)).nodup_iff.1 (rise_nodup (setOf_spec L).1)
end Go.Gr
namespace Go.Proofs.YteigfapjiekdnaaGreatDoor
open Go.Sx Go.RowKit Go.Reg Go.Gr

set_option maxRecDepth 100000
def verticesS : ByteArray := ⟨#[118, 101, 114, 116, 105, 99, 101, 115]⟩
theorem dN_or2 (s : List Int) : (dN s = .nils ∧ s.length = 0) ∨ dN s = dIs s := by
  unfold dN; split
  · rename_i h; subst h; exact .inl ⟨rfl, rfl⟩
  · exact .inr rfl
theorem mright_bad {p : Pt} {c : Int} {i : Nat} {s : ByteArray} (h : rightP p = dF c i s) (hm : p.labels.length ≤ 1000) (hme : p.edges.length ≤ 1000) : Pure C1 53 [dPt p] (fun y => y = dF c i s) := by
  have hr := pright_pure p (by omega) (by omega)
  rw [h] at hr
  refine pure_of c1_ok (pl := pl_mri) (G := G_mri) Tryz.func53 rfl Tryz.ntmps53 run_mri cok_mri (by simp) ?_
  (conv => whnf)
  (repeat' ((first | refine ord_ok (by (conv => whnf); (repeat' ((first | refine call_eq rfl hr ?_ | refine ify ?_ | refine ifn ?_ | refine i6 ?_ | refine ati ?_ | refine mst ?_ | refine rmd ?_ | refine ibo (fun _ => ?_) (fun _ => ?_)) <;> conv => whnf)); (all_goals (repeat' (first | exact trivial | exact rfl | refine And.intro ?_ ?_)))) ?_ | refine call_eq rfl hr ?_ | refine ify ?_ | refine ifn ?_ | refine i6 ?_ | refine ati ?_ | refine mst ?_ | refine rmd ?_ | refine ibo (fun _ => ?_) (fun _ => ?_)) <;> conv => whnf))
  exact rfl
theorem mnew_bad {p : Pt} (h : ¬ (pErr p = none ∧ p.labels ≠ [] ∧ formP p = p)) (hm : p.labels.length ≤ 1000) (hme : p.edges.length ≤ 1000) : Pure C1 21 [dPt p] (fun y => ∃ c i s, y = .tuple [.nilp, dF c i s]) := by
  cases hp : pErr p with
  | some x =>
    obtain ⟨c, i⟩ := x
    obtain ⟨s, hs⟩ := rightP_some hp
    have hr := mright_bad hs hm hme
    refine pure_of c1_ok (pl := pl_mnz) (G := G_mnz) Tryz.func21 rfl Tryz.ntmps21 run_mnz cok_mnz (by simp) ?_
    (conv => whnf)
    (repeat' ((first | refine ord_ok (by (conv => whnf); (repeat' ((first | refine call_eq rfl hr ?_ | refine ify ?_ | refine ifn ?_ | refine i6 ?_ | refine ati ?_ | refine mst ?_ | refine rmd ?_ | refine ibo (fun _ => ?_) (fun _ => ?_)) <;> conv => whnf)); (all_goals (repeat' (first | exact trivial | exact rfl | refine And.intro ?_ ?_)))) ?_ | refine call_eq rfl hr ?_ | refine ify ?_ | refine ifn ?_ | refine i6 ?_ | refine ati ?_ | refine mst ?_ | refine rmd ?_ | refine ibo (fun _ => ?_) (fun _ => ?_)) <;> conv => whnf))
    exact ⟨c, i, s, rfl⟩
  | none =>
    by_cases h0 : p.labels = []
    · have he : p.edges = [] := List.eq_nil_iff_forall_not_mem.2 fun e he => by
        have := (pt_of hp).edge e he
        rw [h0] at this
        simp at this; omega
      have e : p = ⟨[], []⟩ := by cases p; simp only at h0 he; rw [h0, he]
      rw [e]
      have hr := mright_empty
      refine pure_of c1_ok (pl := pl_mnz) (G := G_mnz) Tryz.func21 rfl Tryz.ntmps21 run_mnz cok_mnz (by simp) ?_
      (conv => whnf)
      (repeat' ((first | refine ord_ok (by (conv => whnf); (repeat' ((first | refine call_eq rfl hr ?_ | refine ify ?_ | refine ifn ?_ | refine i6 ?_ | refine ati ?_ | refine mst ?_ | refine rmd ?_ | refine ibo (fun _ => ?_) (fun _ => ?_)) <;> conv => whnf)); (all_goals (repeat' (first | exact trivial | exact rfl | refine And.intro ?_ ?_)))) ?_ | refine call_eq rfl hr ?_ | refine ify ?_ | refine ifn ?_ | refine i6 ?_ | refine ati ?_ | refine mst ?_ | refine rmd ?_ | refine ibo (fun _ => ?_) (fun _ => ?_)) <;> conv => whnf))
      exact ⟨2, 0, patternS, rfl⟩
    · have hF : formP p ≠ p := fun e => h ⟨hp, h0, e⟩
      have hr := mright_pure hp h0 hm hme
      have hi := is_pure hp hme
      rw [decide_eq_false hF] at hi
      have hf := fnew_pure 2 0 patternS
      refine pure_of c1_ok (pl := pl_mnz) (G := G_mnz) Tryz.func21 rfl Tryz.ntmps21 run_mnz cok_mnz (by simp) ?_
      (conv => whnf)
      (repeat' ((first | refine ord_ok (by (conv => whnf); (repeat' ((first | refine call_eq rfl hr ?_ | refine call_eq rfl hi ?_ | refine call_eq rfl hf ?_ | refine ify ?_ | refine ifn ?_ | refine i6 ?_ | refine ati ?_ | refine mst ?_ | refine rmd ?_ | refine ibo (fun _ => ?_) (fun _ => ?_)) <;> conv => whnf)); (all_goals (repeat' (first | exact trivial | exact rfl | refine And.intro ?_ ?_)))) ?_ | refine call_eq rfl hr ?_ | refine call_eq rfl hi ?_ | refine call_eq rfl hf ?_ | refine ify ?_ | refine ifn ?_ | refine i6 ?_ | refine ati ?_ | refine mst ?_ | refine rmd ?_ | refine ibo (fun _ => ?_) (fun _ => ?_)) <;> conv => whnf))
      exact ⟨2, 0, patternS, rfl⟩
def pl_mmg : List (Nat × Plan) := [(3, .leaf [0, 0, 0, 1, 0, 0, 0, 1, 2, 0, 0] [0, 1, 2, 4, 5, 6, 3, 7, 8, 9, 10] [0, 1, 3, 7, 0, 16, 48, 112, 255, 511, 1023]),
  (8, .leaf [0, 0, 0, 1, 0, 0, 0, 0, 1, 0, 0, 1, 0, 2, 0, 3] [0, 1, 2, 4, 5, 6, 7, 9, 12, 3, 8, 10, 11, 13, 14, 15] [0, 1, 3, 7, 0, 0, 32, 96, 224, 0, 992, 2016, 0, 8160, 16383, 32767])]
def G_mmg : List FuncId := [62, 85]
theorem cok_mmg : codeOk Tryz.prog G_mmg pl_mmg (Tryz.f37.body.getD .skip) = true := by kernel_rfl
theorem run_mmg (vs : Array Value) (w : World) : (callFunc 37 vs).run C1.P w = .ok (.enter 37 vs) w := by kernel_rfl
def pl_mtt : List (Nat × Plan) := [(21, .leaf [0, 0, 0, 0, 0, 0, 1, 0, 0, 0, 1, 0, 0, 1, 2, 0, 0] [0, 1, 2, 3, 4, 5, 7, 8, 9, 11, 6, 10, 12, 13, 14, 15, 16] [0, 1, 3, 7, 7, 31, 63, 7, 7, 391, 903, 7, 3975, 8071, 16383, 32767, 65535]),
  (33, .leaf [0, 0, 0, 0, 1, 0, 1, 0, 1, 0, 0, 0, 0, 1, 0, 0, 1, 0, 1, 2, 0] [0, 1, 2, 3, 9, 10, 11, 12, 14, 4, 5, 6, 7, 8, 13, 15, 16, 17, 18, 19, 20] [0, 0, 0, 6, 14, 30, 62, 127, 255, 0, 0, 0, 3072, 7168, 0, 31744, 64512, 130560, 261632, 524287, 1048575])]
def G_mtt : List FuncId := [9, 19, 35, 17, 36, 25]
theorem cok_mtt : codeOk Tryz.prog G_mtt pl_mtt (Tryz.f6.body.getD .skip) = true := by kernel_rfl
theorem run_mtt (vs : Array Value) (w : World) : (callFunc 6 vs).run C1.P w = .ok (.enter 6 vs) w := by kernel_rfl
set_option maxHeartbeats 64000000 in
theorem mtakes_pure (p : Pt) (l : List (List Int)) (hpe : p.edges.length ≤ 8796093022207) : Pure C1 6 [dPt p, dLL l] (fun y => y = .bool true) := by
  have hdp : (p.labels.map dI).length = p.labels.length := List.length_map _
  have hde : (p.edges.map dE).length = p.edges.length := List.length_map _
  have hdl : (l.map dIs).length = l.length := List.length_map _
  have hal := malive_pure
  have hof := lawptL_pure p hpe
  refine pure_of c1_ok (pl := pl_mtt) (G := G_mtt) Tryz.func6 rfl Tryz.ntmps6 run_mtt cok_mtt (by simp) ?_
  by_cases h5 : 5 < p.labels.length
  · (conv => whnf)
    (repeat' ((first | refine ord_ok (by (conv => whnf); (repeat' ((first | refine call_eq rfl hal ?_ | refine call_eq rfl hof ?_ | refine ify ?_ | refine ifn ?_ | refine i6 ?_ | refine ati ?_ | refine mst ?_ | refine rmd ?_ | refine ibo (fun _ => ?_) (fun _ => ?_)) <;> conv => whnf)); (all_goals (repeat' (first | exact trivial | exact rfl | refine And.intro ?_ ?_)))) ?_ | refine call_eq rfl hal ?_ | refine call_eq rfl hof ?_ | refine ify ?_ | refine ifn ?_ | refine i6 ?_ | refine ati ?_ | refine mst ?_ | refine rmd ?_ | refine ibo (fun _ => ?_) (fun _ => ?_)) <;> conv => whnf))
    exact rfl
  by_cases h20 : 20 < p.edges.length
  · (conv => whnf)
    (repeat' ((first | refine ord_ok (by (conv => whnf); (repeat' ((first | refine call_eq rfl hal ?_ | refine call_eq rfl hof ?_ | refine ify ?_ | refine ifn ?_ | refine i6 ?_ | refine ati ?_ | refine mst ?_ | refine rmd ?_ | refine ibo (fun _ => ?_) (fun _ => ?_)) <;> conv => whnf)); (all_goals (repeat' (first | exact trivial | exact rfl | refine And.intro ?_ ?_)))) ?_ | refine call_eq rfl hal ?_ | refine call_eq rfl hof ?_ | refine ify ?_ | refine ifn ?_ | refine i6 ?_ | refine ati ?_ | refine mst ?_ | refine rmd ?_ | refine ibo (fun _ => ?_) (fun _ => ?_)) <;> conv => whnf))
    exact rfl
  by_cases h8 : 8 < l.length
  · (conv => whnf)
    (repeat' ((first | refine ord_ok (by (conv => whnf); (repeat' ((first | refine call_eq rfl hal ?_ | refine call_eq rfl hof ?_ | refine ify ?_ | refine ifn ?_ | refine i6 ?_ | refine ati ?_ | refine mst ?_ | refine rmd ?_ | refine ibo (fun _ => ?_) (fun _ => ?_)) <;> conv => whnf)); (all_goals (repeat' (first | exact trivial | exact rfl | refine And.intro ?_ ?_)))) ?_ | refine call_eq rfl hal ?_ | refine call_eq rfl hof ?_ | refine ify ?_ | refine ifn ?_ | refine i6 ?_ | refine ati ?_ | refine mst ?_ | refine rmd ?_ | refine ibo (fun _ => ?_) (fun _ => ?_)) <;> conv => whnf))
    exact rfl
  by_cases hok : ¬ (pErr p = none ∧ p.labels ≠ [] ∧ formP p = p)
  · have hnb := mnew_bad hok (by omega) (by omega)
    (conv => whnf)
    (repeat' ((first | refine ord_ok (by (conv => whnf); (repeat' ((first | refine call_eq rfl hal ?_ | refine call_eq rfl hof ?_ | refine ify ?_ | refine ifn ?_ | refine i6 ?_ | refine ati ?_ | refine mst ?_ | refine rmd ?_ | refine ibo (fun _ => ?_) (fun _ => ?_)) <;> conv => whnf)); (all_goals (repeat' (first | exact trivial | exact rfl | refine And.intro ?_ ?_)))) ?_ | refine call_eq rfl hal ?_ | refine call_eq rfl hof ?_ | refine ify ?_ | refine ifn ?_ | refine i6 ?_ | refine ati ?_ | refine mst ?_ | refine rmd ?_ | refine ibo (fun _ => ?_) (fun _ => ?_)) <;> conv => whnf))
    refine call_pure rfl hnb ?_; rintro y ⟨c, i, s, rfl⟩
    ((conv => whnf); repeat' ((first | refine odw ?_ | refine ify ?_ | refine ifn ?_ | refine i6 ?_ | refine ati ?_ | refine mst ?_ | refine rmd ?_ | refine ibo (fun _ => ?_) (fun _ => ?_)) <;> conv => whnf))
    exact rfl
  obtain ⟨hp, hne, hFF⟩ := Decidable.not_not.1 hok
  have hpos := List.length_pos_iff.2 hne
  have hri2 := mright_pure hp hne (by omega) (by omega)
  have his := is_pure hp (by omega)
  rw [decide_eq_true hFF] at his
  have hown := own_pure hp (by omega)
  have hpo := pt_of hp
  have hcm := cmp_same hp
  obtain ⟨n, hn⟩ : ∃ n, p.labels.length = n := ⟨_, rfl⟩
  rw [hn] at hpo
  have horb := orbits_pure hp hn
  have hOl := own_le hpo (by omega)
  have hOo : ∀ o ∈ mapsP p p, IsOrd n o := fun o ho => own_ord hpo ho
  have hRa : ∀ k r, (orbsU p n)[k]? = some r → ∃ w, w < n ∧ r[0]? = some ((w : Nat) : Int) ∧ ∀ x ∈ r, ∃ u : Nat, x = (u : Int) ∧ InOrb p w u := fun k r hr => by
    obtain ⟨w, _, hw, hf, rfl⟩ := orbs_at hr
    exact ⟨w, hw, orbS_head hpo hw hf, fun x hx => (mem_orbS hpo hw).1 hx⟩
  have hRl : ∀ r ∈ orbsU p n, r.length ≤ 40320 := fun r hr => by
    obtain ⟨k, hk⟩ := List.mem_iff_getElem?.1 hr
    obtain ⟨w, _, _, _, rfl⟩ := orbs_at hk
    have := setOf_len ((mapsP p p).map fun o => (o[w]?).getD 0)
    rw [List.length_map] at this
    exact Nat.le_trans this hOl
  have hRn : (orbsU p n).length ≤ 5 := by
    unfold orbsU
    rw [List.length_map]
    exact Nat.le_trans (List.length_filter_le _ _) (by rw [List.length_range]; omega)
  have hcol0 : ∀ v, v < n → colS (ownI p ((l.take 0).filter (okT n))) v = [] := fun v _ => colS_nil v
  have hst : List.replicate n Da.nils = (colsS n (ownI p ((l.take 0).filter (okT n)))).map dN := by
    refine List.ext_getElem? fun v => ?_
    rw [List.getElem?_map]
    by_cases hv : v < n
    · rw [colsS_at hv, hcol0 v hv, List.getElem?_replicate, if_pos hv]; rfl
    · rw [List.getElem?_eq_none (by rw [List.length_replicate]; omega), List.getElem?_eq_none (by rw [colsS_len]; omega)]; rfl
  have hz0 : sumL (colsS n (ownI p ((l.take 0).filter (okT n)))) = 0 := by
    have := sumL_le (b := 0) (S := colsS n (ownI p ((l.take 0).filter (okT n)))) fun s hs => by
      obtain ⟨v, hv, rfl⟩ := mem_colsS.1 hs
      rw [hcol0 v hv]; exact Nat.le_refl _
    omega
  obtain ⟨O, hO⟩ : ∃ O, mapsP p p = O := ⟨_, rfl⟩
  obtain ⟨R, hR⟩ : ∃ R, orbsU p n = R := ⟨_, rfl⟩
  rw [hO] at hown hOl hOo
  rw [hR] at horb hRa hRl hRn
  have hdO : (O.map dInts).length = O.length := List.length_map _
  have hdR : (R.map dIs).length = R.length := List.length_map _
  (conv => whnf)
  (repeat' ((first | refine ord_ok (by (conv => whnf); (repeat' ((first | refine call_eq rfl hal ?_ | refine call_eq rfl hof ?_ | refine ify ?_ | refine ifn ?_ | refine i6 ?_ | refine ati ?_ | refine mst ?_ | refine rmd ?_ | refine ibo (fun _ => ?_) (fun _ => ?_)) <;> conv => whnf)); (all_goals (repeat' (first | exact trivial | exact rfl | refine And.intro ?_ ?_)))) ?_ | refine call_eq rfl hal ?_ | refine call_eq rfl hof ?_ | refine ify ?_ | refine ifn ?_ | refine i6 ?_ | refine ati ?_ | refine mst ?_ | refine rmd ?_ | refine ibo (fun _ => ?_) (fun _ => ?_)) <;> conv => whnf))
  refine call_inline 200 [(5, .own 5), (1, .d (dLL l))] c1_ok (pl := pl_mnz) (G := G_mnz) Tryz.func21 rfl Tryz.ntmps21 run_mnz cok_mnz (Nat.le_of_ble_eq_true rfl) rfl ⟨rfl, rfl, trivial⟩ rfl ?_
  intro us
  (conv => whnf)
  (repeat' ((first | refine ord_ok (by (conv => whnf); (repeat' ((first | refine call_eq rfl hri2 ?_ | refine call_eq rfl his ?_ | refine call_eq rfl hown ?_ | refine mk_ok n (by omega) (by omega) (by omega) ?_ | refine same_ok ?_ | refine call_eq rfl horb ?_ | refine ify ?_ | refine ifn ?_ | refine i6 ?_ | refine ati ?_ | refine mst ?_ | refine rmd ?_ | refine ibo (fun _ => ?_) (fun _ => ?_)) <;> conv => whnf)); (all_goals (repeat' (first | exact trivial | exact rfl | refine And.intro ?_ ?_)))) ?_ | refine call_eq rfl hri2 ?_ | refine call_eq rfl his ?_ | refine call_eq rfl hown ?_ | refine mk_ok n (by omega) (by omega) (by omega) ?_ | refine same_ok ?_ | refine call_eq rfl horb ?_ | refine ify ?_ | refine ifn ?_ | refine i6 ?_ | refine ati ?_ | refine mst ?_ | refine rmd ?_ | refine ibo (fun _ => ?_) (fun _ => ?_)) <;> conv => whnf))
  refine loop_lo (ι := Nat) (fun i => i ≤ l.length) (fun i => [(11, .d (.int .i64 i)), (10, .d (.int .i64 (sumL (colsS n (ownI p ((l.take i).filter (okT n)))) : Nat))), (8, .d (.list 1 (R.map dIs))), (6, .own 31), (1, .d (dLL l))]) (fun i => [(31, .cells 110 [.d (dPt p), .d (.list 1 (O.map dInts)), .own 29]), (29, .slice 22 1 ((colsS n (ownI p ((l.take i).filter (okT n)))).map dN))]) (fun i => l.length - i) 0 (fun _ => rfl) (Nat.zero_le _) (.refl _ _) ⟨rfl, int_is (by rw [hz0]; rfl), rfl, rfl, rfl, trivial⟩ ⟨rfl, slice_is hst, trivial⟩ ?_
  intro i hi
  refine sxCode_sound c1_ok (G := G_mtt) (pl := pl_mtt) _ _ _ _ (by kernel_rfl) ?_
  by_cases hil : ¬ i < l.length
  · rw [List.take_of_length_le (show l.length ≤ i by omega)]
    have hYl : (ownI p (l.filter (okT n))).length ≤ 8 * 40320 := by
      rw [ownI_len, hO]
      exact Nat.mul_le_mul (Nat.le_trans (List.length_filter_le _ _) (by omega)) hOl
    obtain ⟨S, hS⟩ : ∃ S, colsS n (ownI p (l.filter (okT n))) = S := ⟨_, rfl⟩
    rw [hS]
    have hSlen : S.length = n := by rw [← hS, colsS_len]
    have hSr : ∀ s ∈ S, s.Pairwise (· < ·) := fun s hs => by
      rw [← hS] at hs
      obtain ⟨v, _, rfl⟩ := mem_colsS.1 hs
      exact colS_rise _ _
    have hSb : ∀ s ∈ S, s.length ≤ 8 * 40320 := fun s hs => by
      rw [← hS] at hs
      obtain ⟨v, _, rfl⟩ := mem_colsS.1 hs
      exact Nat.le_trans (colS_len _ _) hYl
    have hSne : S ≠ [] := fun e => by rw [e] at hSlen; simp at hSlen; omega
    have hsup := dsupportd_pure p O S hSne (by omega) (fun s hs => Nat.le_trans (hSb s hs) (by omega))
    have hle := least_sum hSne
    have hsb := sumL_le hSb
    have hsb2 : S.length * (8 * 40320) ≤ 5 * (8 * 40320) := Nat.mul_le_mul_right _ (by omega)
    have hcn : (S.map dN).length = n := by rw [List.length_map]; exact hSlen
    ((conv => whnf); repeat' ((first | refine odw ?_ | refine ify ?_ | refine ifn ?_ | refine i6 ?_ | refine ati ?_ | refine mst ?_ | refine rmd ?_ | refine ibo (fun _ => ?_) (fun _ => ?_)) <;> conv => whnf))
    refine call_inline 200 [(10, .d (.int .i64 (sumL S : Nat))), (6, .own 31)] c1_ok (pl := pl_mmg) (G := G_mmg) Tryz.func37 rfl Tryz.ntmps37 run_mmg cok_mmg (Nat.le_of_ble_eq_true rfl) rfl ⟨rfl, rfl, trivial⟩ rfl ?_
    intro us5
    (conv => whnf)
    (repeat' ((first | refine ord_ok (by (conv => whnf); (repeat' ((first | refine call_eq rfl hcm ?_ | refine ify ?_ | refine ifn ?_ | refine i6 ?_ | refine ati ?_ | refine mst ?_ | refine rmd ?_ | refine ibo (fun _ => ?_) (fun _ => ?_)) <;> conv => whnf)); (all_goals (repeat' (first | exact trivial | exact rfl | refine And.intro ?_ ?_)))) ?_ | refine call_eq rfl hcm ?_ | refine ify ?_ | refine ifn ?_ | refine i6 ?_ | refine ati ?_ | refine mst ?_ | refine rmd ?_ | refine ibo (fun _ => ?_) (fun _ => ?_)) <;> conv => whnf))
    refine loop_lo (ι := Nat) (fun j => j ≤ n) (fun j => [(32, .d (.int .i64 j)), (31, .d (.int .i64 (S.map dN).length)), (30, .own 29), (1, .own 31), (0, .own 31)]) (fun j => [(31, .cells 110 [.d (dPt p), .d (.list 1 (O.map dInts)), .own 29]), (200, .ghost us5 [.d (.int .i64 (sumL S : Nat)), .own 31]), (29, .slice 22 1 ((S.take j).map dIs ++ (S.drop j).map dN))]) (fun j => n - j) 0 (fun _ => rfl) (Nat.zero_le _) (.refl _ _) ⟨rfl, rfl, rfl, rfl, rfl, trivial⟩ ⟨rfl, rfl, rfl, trivial⟩ ?_
    intro j hj
    refine sxCode_sound c1_ok (G := G_mmg) (pl := pl_mmg) _ _ _ _ (by kernel_rfl) ?_
    by_cases hjl : j < n
    · have hx := List.getElem?_eq_getElem (l := S) (i := j) (by omega)
      have hxm := List.getElem_mem (l := S) (n := j) (by omega)
      generalize hxe : S[j]'(by omega) = x at hx hxm
      have hun := union_self x (hSr x hxm) (Nat.le_trans (hSb x hxm) (by omega))
      have hlt : ((S.take j).map dIs).length = j := by rw [List.length_map, List.length_take]; omega
      have hxd : ((S.take j).map dIs ++ (S.drop j).map dN)[j]? = some (dN x) := by
        rw [List.getElem?_append_right (by omega), hlt, Nat.sub_self, List.getElem?_map, List.getElem?_drop, Nat.add_zero, hx]; rfl
      have hset : ((S.take j).map dIs ++ (S.drop j).map dN).set j (dIs x) = (S.take (j + 1)).map dIs ++ (S.drop (j + 1)).map dN := by
        have hd : S.drop j = x :: S.drop (j + 1) := by rw [← hxe]; exact List.drop_eq_getElem_cons (by omega)
        rw [hd, List.set_append_right _ _ (by omega), hlt, Nat.sub_self, List.map_cons, List.set_cons_zero, List.take_add_one, hx, List.map_append, List.append_assoc]; rfl
      have hlen : ((S.take j).map dIs ++ (S.drop j).map dN).length = n := by rw [List.length_append, hlt, List.length_map, List.length_drop]; omega
      generalize (S.take j).map dIs ++ (S.drop j).map dN = Z at hxd hset hlen ⊢
      have hxx := dN_or x
      generalize dN x = xd at hun hxd hxx
      rcases hxx with rfl | rfl <;> (conv => whnf) <;> (repeat' ((first | refine ord_ok (by (conv => whnf); (repeat' ((first | refine el_at (i := j) rfl (by omega) ?_ | refine el_is hxd ?_ | refine call_eq rfl hun ?_ | refine ify ?_ | refine ifn ?_ | refine i6 ?_ | refine ati ?_ | refine mst ?_ | refine rmd ?_ | refine ibo (fun _ => ?_) (fun _ => ?_)) <;> conv => whnf)); (all_goals (repeat' (first | exact trivial | exact rfl | refine And.intro ?_ ?_)))) ?_ | refine el_at (i := j) rfl (by omega) ?_ | refine el_is hxd ?_ | refine call_eq rfl hun ?_ | refine ify ?_ | refine ifn ?_ | refine i6 ?_ | refine ati ?_ | refine mst ?_ | refine rmd ?_ | refine ibo (fun _ => ?_) (fun _ => ?_)) <;> conv => whnf))
      all_goals exact ⟨j + 1, _, _, hjl, .refl _ _, ⟨rfl, rfl, rfl, rfl, rfl, trivial⟩, ⟨rfl, rfl, slice_is hset, trivial⟩, by omega⟩
    · rw [List.take_of_length_le (show S.length ≤ j by omega), List.drop_eq_nil_of_le (show S.length ≤ j by omega), List.map_nil, List.append_nil]
      (conv => whnf)
      (repeat' ((first | refine ord_ok (by (conv => whnf); (repeat' ((first | refine same_ok ?_ | refine call_frz 29 rfl ?_ | refine call_frzR 31 rfl rfl ?_ | refine call_eq (xs := [dDd p O S]) rfl hsup ?_ | refine ify ?_ | refine ifn ?_ | refine i6 ?_ | refine ati ?_ | refine mst ?_ | refine rmd ?_ | refine ibo (fun _ => ?_) (fun _ => ?_)) <;> conv => whnf)); (all_goals (repeat' (first | exact trivial | exact rfl | refine And.intro ?_ ?_)))) ?_ | refine same_ok ?_ | refine call_frz 29 rfl ?_ | refine call_frzR 31 rfl rfl ?_ | refine call_eq (xs := [dDd p O S]) rfl hsup ?_ | refine ify ?_ | refine ifn ?_ | refine i6 ?_ | refine ati ?_ | refine mst ?_ | refine rmd ?_ | refine ibo (fun _ => ?_) (fun _ => ?_)) <;> conv => whnf))
      exact congrArg Da.bool (decide_eq_true (by omega))
  have hil := Decidable.not_not.1 hil
  have hx0 := List.getElem?_eq_getElem hil
  generalize l[i] = L at hx0
  have hld : (l.map dIs)[i]? = some (dIs L) := by rw [List.getElem?_map, hx0]; rfl
  have hdL : (L.map dI).length = L.length := List.length_map _
  obtain ⟨Y, hY⟩ : ∃ Y, ownI p ((l.take i).filter (okT n)) = Y := ⟨_, rfl⟩
  have hYl : Y.length ≤ 8 * 40320 := by
    rw [← hY, ownI_len, hO]
    exact Nat.mul_le_mul (Nat.le_trans (List.length_filter_le _ _) (by rw [List.length_take]; omega)) hOl
  rw [hY]
  obtain ⟨z, hz⟩ : ∃ z, z = sumL (colsS n Y) := ⟨_, rfl⟩
  rw [← hz]
  by_cases hLn : L.length = n
  · by_cases hLd : L.Nodup
    · have hso := of_pure L (by omega)
      have hsl : ((setOf L).map dI).length = L.length := by rw [List.length_map, setOf_same_len hLd]
      have hTs : (l.take (i + 1)).filter (okT n) = (l.take i).filter (okT n) ++ [L] := by rw [okT_step hx0, if_pos (show okT n L = true from decide_eq_true ⟨hLn, hLd⟩)]
      obtain ⟨Y1, hY1e⟩ : ∃ Y1, Y1 = Y ++ O.map fun o => mvI o L := ⟨_, rfl⟩
      have hY1o : ownI p ((l.take (i + 1)).filter (okT n)) = Y1 := by rw [hTs, ownI_snoc, hO, hY, hY1e]
      obtain ⟨S1, hS1⟩ : ∃ S1, S1 = colsS n Y1 := ⟨_, rfl⟩
      have hY1 : colsS n (Y ++ O.map fun o => mvI o L) = S1 := by rw [hS1, hY1e]
      have hY2 : colsS n (Y1 ++ O.map fun o => mvI o L) = S1 := by
        rw [hS1]
        refine colsS_same (fun M => ?_) n
        rw [List.mem_append, hY1e, List.mem_append]
        exact ⟨fun h => h.elim id .inr, .inl⟩
      have hSn : colsS n (ownI p ((l.take (i + 1)).filter (okT n))) = S1 := by rw [hY1o, hS1]
      have hTn : ∀ M ∈ (l.take (i + 1)).filter (okT n), M.length = n := fun M hM => (of_decide_eq_true (List.mem_filter.1 hM).2).1
      have hCo : ∀ w u, w < n → InOrb p w u → colS Y1 u = colS Y1 w := fun w u hw h => by
        rw [← hY1o]; exact (col_orb hpo hTn hw h).symm
      have hYl1 : Y1.length ≤ 9 * 40320 := by rw [hY1e, List.length_append, List.length_map]; omega
      have hIn : ∀ v y x, v < n → L[v]? = some y → S1[v]? = some x → y ∈ x := fun v y x hv hy hx => by
        rw [hS1, colsS_at hv] at hx
        cases hx
        refine mem_colS.2 ⟨L, ?_, by rw [hy]; rfl⟩
        rw [hY1e]
        refine List.mem_append_right _ (List.mem_map.2 ⟨idL n, ?_, mvI_id hLn⟩)
        rw [← hO]; exact id_own hpo
      have hzs : z ≤ sumL S1 := by
        rw [hz, hS1]
        refine sumL_mono fun v _ => ?_
        rw [hY1e]
        exact colS_mono (fun M hM => List.mem_append_left _ hM) v
      have hSlen : S1.length = n := by rw [hS1, colsS_len]
      have hSl : ∀ s ∈ S1, s.length ≤ 1000000000 := fun s hs => by
        rw [hS1] at hs
        obtain ⟨v, _, rfl⟩ := mem_colsS.1 hs
        have := colS_len Y1 v
        omega
      have hSu : ∀ v, sumL (S1.take v) ≤ 5 * (9 * 40320) := fun v => by
        refine Nat.le_trans (sumL_le (b := 9 * 40320) fun s hs => ?_) ?_
        · have hs := List.mem_of_mem_take hs
          rw [hS1] at hs
          obtain ⟨v, _, rfl⟩ := mem_colsS.1 hs
          exact Nat.le_trans (colS_len Y1 v) hYl1
        · exact Nat.mul_le_mul_right _ (by rw [List.length_take]; omega)
      have hSs : sumL S1 ≤ 5 * (9 * 40320) := by have := hSu n; rwa [List.take_of_length_le (by omega)] at this
      have hsam := same15_pure S1 (by omega)
      have hcn : (S1.map dN).length = n := by rw [List.length_map]; exact hSlen
      have hcn0 : ((colsS n Y).map dN).length = n := by rw [List.length_map, colsS_len]
      (conv => whnf)
      (repeat' ((first | refine ord_ok (by (conv => whnf); (repeat' ((first | refine at_da hld rfl ?_ | refine ify ?_ | refine ifn ?_ | refine i6 ?_ | refine ati ?_ | refine mst ?_ | refine rmd ?_ | refine ibo (fun _ => ?_) (fun _ => ?_)) <;> conv => whnf)); (all_goals (repeat' (first | exact trivial | exact rfl | refine And.intro ?_ ?_)))) ?_ | refine at_da hld rfl ?_ | refine ify ?_ | refine ifn ?_ | refine i6 ?_ | refine ati ?_ | refine mst ?_ | refine rmd ?_ | refine ibo (fun _ => ?_) (fun _ => ?_)) <;> conv => whnf))
      refine call_inline 200 [(11, .d (.int .i64 i)), (10, .d (.int .i64 (z : Nat))), (8, .d (.list 1 (R.map dIs))), (6, .own 31), (1, .d (dLL l))] c1_ok (pl := pl_mtk) (G := G_mtk) Tryz.func24 rfl Tryz.ntmps24 run_mtk cok_mtk (Nat.le_of_ble_eq_true rfl) rfl ⟨rfl, rfl, rfl, rfl, rfl, trivial⟩ rfl ?_
      intro us1
      (conv => whnf)
      (repeat' ((first | refine ord_ok (by (conv => whnf); (repeat' ((first | refine call_eq rfl hso ?_ | refine ify ?_ | refine ifn ?_ | refine i6 ?_ | refine ati ?_ | refine mst ?_ | refine rmd ?_ | refine ibo (fun _ => ?_) (fun _ => ?_)) <;> conv => whnf)); (all_goals (repeat' (first | exact trivial | exact rfl | refine And.intro ?_ ?_)))) ?_ | refine call_eq rfl hso ?_ | refine ify ?_ | refine ifn ?_ | refine i6 ?_ | refine ati ?_ | refine mst ?_ | refine rmd ?_ | refine ibo (fun _ => ?_) (fun _ => ?_)) <;> conv => whnf))
      refine loop_lo (ι := Nat) (fun a => a ≤ O.length) (fun a => [(36, .d (.int .i64 a)), (35, .d (.int .i64 O.length)), (34, .d (.list 1 (O.map dInts))), (1, .d (dIs L)), (0, .own 31)]) (fun a => [(31, .cells 110 [.d (dPt p), .d (.list 1 (O.map dInts)), .own 29]), (200, .ghost us1 [.d (.int .i64 i), .d (.int .i64 (z : Nat)), .d (.list 1 (R.map dIs)), .own 31, .d (dLL l)]), (29, .slice 22 1 ((colsS n (Y ++ (O.take a).map fun o => mvI o L)).map dN))]) (fun a => O.length - a) 0 (fun _ => rfl) (Nat.zero_le _) (.refl _ _) ⟨rfl, by rw [← hdO]; rfl, rfl, rfl, rfl, trivial⟩ ⟨rfl, rfl, slice_is (by rw [List.take_zero, List.map_nil, List.append_nil]; try rw [hS1]), trivial⟩ ?_
      intro a ha
      refine sxCode_sound c1_ok (G := G_mtk) (pl := pl_mtk) _ _ _ _ (by kernel_rfl) ?_
      by_cases hal' : a < O.length
      · have ho := List.getElem?_eq_getElem hal'
        have hom := hOo _ (List.getElem_mem hal')
        generalize O[a] = o at ho hom
        have hod : (O.map dInts)[a]? = some (dIs o) := by rw [List.getElem?_map, ho]; rfl
        have hta : (O.take (a + 1)).map (fun o => mvI o L) = (O.take a).map (fun o => mvI o L) ++ [mvI o L] := by rw [List.take_add_one, ho, List.map_append]; rfl
        have hol : o.length = n := hom.1
        have hdo : (o.map dI).length = o.length := List.length_map _
        have hYa : (Y ++ (O.take a).map fun o => mvI o L).length ≤ 900000000 := by
          rw [List.length_append, List.length_map, List.length_take]; omega
        have hYn : (Y ++ (O.take (a + 1)).map fun o => mvI o L) = (Y ++ (O.take a).map fun o => mvI o L) ++ [mvI o L] := by rw [hta, List.append_assoc]
        generalize (Y ++ (O.take a).map fun o => mvI o L) = V at hYa hYn ⊢
        (conv => whnf)
        (repeat' ((first | refine ord_ok (by (conv => whnf); (repeat' ((first | refine at_da hod rfl ?_ | refine ify ?_ | refine ifn ?_ | refine i6 ?_ | refine ati ?_ | refine mst ?_ | refine rmd ?_ | refine ibo (fun _ => ?_) (fun _ => ?_)) <;> conv => whnf)); (all_goals (repeat' (first | exact trivial | exact rfl | refine And.intro ?_ ?_)))) ?_ | refine at_da hod rfl ?_ | refine ify ?_ | refine ifn ?_ | refine i6 ?_ | refine ati ?_ | refine mst ?_ | refine rmd ?_ | refine ibo (fun _ => ?_) (fun _ => ?_)) <;> conv => whnf))
        refine loop_lo (ι := Nat) (fun j => j ≤ n) (fun j => [(42, .d (.int .i64 j)), (41, .d (.int .i64 L.length)), (40, .d (dIs L)), (6, .d (dIs o)), (36, .d (.int .i64 a)), (35, .d (.int .i64 O.length)), (34, .d (.list 1 (O.map dInts))), (1, .d (dIs L)), (0, .own 31)]) (fun j => [(31, .cells 110 [.d (dPt p), .d (.list 1 (O.map dInts)), .own 29]), (200, .ghost us1 [.d (.int .i64 i), .d (.int .i64 (z : Nat)), .d (.list 1 (R.map dIs)), .own 31, .d (dLL l)]), (29, .slice 22 1 ((midS n V (mvI o L) (doneB o j)).map dN))]) (fun j => n - j) 0 (fun _ => rfl) (Nat.zero_le _) (.refl _ _) ⟨rfl, by rw [← hdL]; rfl, rfl, rfl, rfl, rfl, rfl, rfl, rfl, trivial⟩ ⟨rfl, rfl, slice_is (by rw [midS_start _ _ _ (fun v _ => doneB_zero o v)]), trivial⟩ ?_
        intro j hj
        refine sxCode_sound c1_ok (G := G_mtk) (pl := pl_mtk) _ _ _ _ (by kernel_rfl) ?_
        by_cases hjl : j < n
        · have hy := List.getElem?_eq_getElem (l := L) (i := j) (by omega)
          generalize L[j]'(by omega) = v at hy
          have hyd : (L.map dI)[j]? = some (.int .i64 v) := by rw [List.getElem?_map, hy]; rfl
          have hpi := pl_at hom hjl
          have hpl := pl_lt hom hjl
          have hpd : (o.map dI)[j]? = some (.int .i64 (pl o j : Nat)) := by rw [List.getElem?_map, hpi]; rfl
          have hmv := mvI_at hom hLn hjl
          rw [hy] at hmv
          have hno := doneB_no hom hjl
          have hstp := congrArg (List.map dN) (midS_step (k := n) (Y := V) (done := doneB o j) (done' := doneB o (j + 1)) hmv (fun u _ => doneB_step o j u))
          rw [List.map_set, dN_ne (addS_ne _ _)] at hstp
          have hud : ((midS n V (mvI o L) (doneB o j)).map dN)[pl o j]? = some (dN (colS V (pl o j))) := by
            rw [List.getElem?_map, midS_at hpl, hno]; rfl
          have hul : ((midS n V (mvI o L) (doneB o j)).map dN).length = n := by rw [List.length_map, midS_len]
          have had := sadd_nil (colS V (pl o j)) (colS_rise _ _) (by have := colS_len V (pl o j); omega) v
          generalize (midS n V (mvI o L) (doneB o j)).map dN = U at hstp hud hul ⊢
          generalize pl o j = w at hstp hud had hpd hpl
          generalize hX2 : dN (colS V w) = xd at hud had
          have hxx := dN_or (colS V w)
          rw [hX2] at hxx
          rcases hxx with rfl | rfl <;> (conv => whnf) <;> (repeat' ((first | refine ord_ok (by (conv => whnf); (repeat' ((first | refine at_da hyd rfl ?_ | refine at_da hpd rfl ?_ | refine el_at (i := w) rfl (by omega) ?_ | refine el_is hud ?_ | refine call_eq rfl had ?_ | refine ify ?_ | refine ifn ?_ | refine i6 ?_ | refine ati ?_ | refine mst ?_ | refine rmd ?_ | refine ibo (fun _ => ?_) (fun _ => ?_)) <;> conv => whnf)); (all_goals (repeat' (first | exact trivial | exact rfl | refine And.intro ?_ ?_)))) ?_ | refine at_da hyd rfl ?_ | refine at_da hpd rfl ?_ | refine el_at (i := w) rfl (by omega) ?_ | refine el_is hud ?_ | refine call_eq rfl had ?_ | refine ify ?_ | refine ifn ?_ | refine i6 ?_ | refine ati ?_ | refine mst ?_ | refine rmd ?_ | refine ibo (fun _ => ?_) (fun _ => ?_)) <;> conv => whnf))
          all_goals exact ⟨j + 1, _, _, hjl, .refl _ _, ⟨rfl, rfl, rfl, rfl, rfl, rfl, rfl, rfl, rfl, trivial⟩, ⟨rfl, rfl, slice_is hstp, trivial⟩, by omega⟩
        · have hje : j = n := by omega
          rw [hje, midS_end _ _ _ (fun v hv => doneB_all hom v hv)]
          ((conv => whnf); repeat' ((first | refine odw ?_ | refine ify ?_ | refine ifn ?_ | refine i6 ?_ | refine ati ?_ | refine mst ?_ | refine rmd ?_ | refine ibo (fun _ => ?_) (fun _ => ?_)) <;> conv => whnf))
          exact ⟨a + 1, _, _, hal', .refl _ _, ⟨rfl, rfl, rfl, rfl, rfl, trivial⟩, ⟨rfl, rfl, slice_is (by rw [hYn]), trivial⟩, by omega⟩
      · have hOe : O.take a = O := List.take_of_length_le (by omega)
        rw [hOe, hY1]
        (conv => whnf)
        (repeat' ((first | refine ord_ok (by (conv => whnf); (repeat' ((first | refine same_ok ?_ | refine ify ?_ | refine ifn ?_ | refine i6 ?_ | refine ati ?_ | refine mst ?_ | refine rmd ?_ | refine ibo (fun _ => ?_) (fun _ => ?_)) <;> conv => whnf)); (all_goals (repeat' (first | exact trivial | exact rfl | refine And.intro ?_ ?_)))) ?_ | refine same_ok ?_ | refine ify ?_ | refine ifn ?_ | refine i6 ?_ | refine ati ?_ | refine mst ?_ | refine rmd ?_ | refine ibo (fun _ => ?_) (fun _ => ?_)) <;> conv => whnf))
        refine call_inline 200 [(12, .d .nili), (11, .d (.int .i64 i)), (10, .d (.int .i64 (z : Nat))), (8, .d (.list 1 (R.map dIs))), (6, .own 31), (1, .d (dLL l))] c1_ok (pl := pl_dse) (G := G_dse) Tryz.func26 rfl Tryz.ntmps26 run_dse cok_dse (Nat.le_of_ble_eq_true rfl) rfl ⟨rfl, rfl, rfl, rfl, rfl, rfl, trivial⟩ rfl ?_
        intro us2
        ((conv => whnf); repeat' ((first | refine odw ?_ | refine ify ?_ | refine ifn ?_ | refine i6 ?_ | refine ati ?_ | refine mst ?_ | refine rmd ?_ | refine ibo (fun _ => ?_) (fun _ => ?_)) <;> conv => whnf))
        refine loop_lo (ι := Nat) (fun j => j ≤ n) (fun j => [(13, .d (.int .i64 j)), (12, .d (.int .i64 (S1.map dN).length)), (11, .own 29), (3, .own 300)]) (fun j => [(31, .cells 110 [.d (dPt p), .d (.list 1 (O.map dInts)), .own 29]), (200, .ghost us2 [.d .nili, .d (.int .i64 i), .d (.int .i64 (z : Nat)), .d (.list 1 (R.map dIs)), .own 31, .d (dLL l)]), (29, .slice 22 1 (S1.map dN)), (300, .slice 22 1 ((S1.take j).map dN))]) (fun j => n - j) 0 (fun _ => rfl) (Nat.zero_le _) (.own 3 300 22 1 rfl rfl (.refl _ _)) ⟨rfl, rfl, rfl, rfl, trivial⟩ ⟨rfl, rfl, rfl, rfl, trivial⟩ ?_
        intro j hj
        refine sxCode_sound c1_ok (G := G_dse) (pl := pl_dse) _ _ _ _ (by kernel_rfl) ?_
        by_cases hjl : j < n
        · have hx := List.getElem?_eq_getElem (l := S1) (i := j) (by omega)
          have hxm := List.getElem_mem (l := S1) (n := j) (by omega)
          generalize S1[j]'(by omega) = x at hx hxm
          have hcl := cloneN_pure x (hSl x hxm)
          have hxd : (S1.map dN)[j]? = some (dN x) := by rw [List.getElem?_map, hx]; rfl
          have hfin : (S1.take j).map dN ++ [dN x] = (S1.take (j + 1)).map dN := by rw [List.take_add_one, hx, List.map_append]; rfl
          have htl : ((S1.take j).map dN).length = j := by rw [List.length_map, List.length_take]; omega
          generalize (S1.take j).map dN = Z at htl hfin ⊢
          have hxx := dN_or x
          generalize dN x = xd at hcl hxd hfin hxx
          rcases hxx with rfl | rfl <;> (conv => whnf) <;> (repeat' ((first | refine ord_ok (by (conv => whnf); (repeat' ((first | refine el_at (i := j) rfl (by omega) ?_ | refine el_is hxd ?_ | refine call_eq rfl hcl ?_ | refine ify ?_ | refine ifn ?_ | refine i6 ?_ | refine ati ?_ | refine mst ?_ | refine rmd ?_ | refine ibo (fun _ => ?_) (fun _ => ?_)) <;> conv => whnf)); (all_goals (repeat' (first | exact trivial | exact rfl | refine And.intro ?_ ?_)))) ?_ | refine el_at (i := j) rfl (by omega) ?_ | refine el_is hxd ?_ | refine call_eq rfl hcl ?_ | refine ify ?_ | refine ifn ?_ | refine i6 ?_ | refine ati ?_ | refine mst ?_ | refine rmd ?_ | refine ibo (fun _ => ?_) (fun _ => ?_)) <;> conv => whnf))
          all_goals exact ⟨j + 1, _, _, hjl, .refl _ _, ⟨rfl, rfl, rfl, rfl, trivial⟩, ⟨rfl, rfl, rfl, slice_is hfin, trivial⟩, by omega⟩
        · rw [List.take_of_length_le (show S1.length ≤ j by omega)]
          (conv => whnf)
          (repeat' ((first | refine ord_ok (by (conv => whnf); (repeat' ((first | refine same_ok ?_ | refine ify ?_ | refine ifn ?_ | refine i6 ?_ | refine ati ?_ | refine mst ?_ | refine rmd ?_ | refine ibo (fun _ => ?_) (fun _ => ?_)) <;> conv => whnf)); (all_goals (repeat' (first | exact trivial | exact rfl | refine And.intro ?_ ?_)))) ?_ | refine same_ok ?_ | refine ify ?_ | refine ifn ?_ | refine i6 ?_ | refine ati ?_ | refine mst ?_ | refine rmd ?_ | refine ibo (fun _ => ?_) (fun _ => ?_)) <;> conv => whnf))
          refine loop_lo (ι := Nat) (fun v => v ≤ n) (fun v => [(15, .d (.int .i64 v)), (14, .d (.int .i64 (sumL (S1.take v) : Nat))), (13, .d (.list 1 (S1.map dN))), (12, .d .nili), (11, .d (.int .i64 i)), (10, .d (.int .i64 (z : Nat))), (8, .d (.list 1 (R.map dIs))), (6, .own 31), (1, .d (dLL l))]) (fun _ => [(31, .cells 110 [.d (dPt p), .d (.list 1 (O.map dInts)), .own 29]), (29, .slice 22 1 (S1.map dN))]) (fun v => n - v) 0 (fun _ => rfl) (Nat.zero_le _) (.frz 300 rfl (.refl _ _)) ⟨rfl, rfl, rfl, rfl, rfl, rfl, rfl, rfl, rfl, trivial⟩ ⟨rfl, rfl, trivial⟩ ?_
          intro v hv
          refine sxCode_sound c1_ok (G := G_mtt) (pl := pl_mtt) _ _ _ _ (by kernel_rfl) ?_
          by_cases hvl : v < n
          · have hx := List.getElem?_eq_getElem (l := S1) (i := v) (by omega)
            have hst := sumL_step hx
            have hsb := hSu (v + 1)
            generalize hxe : S1[v]'(by omega) = x at hx hst
            have hxd : (S1.map dN)[v]? = some (dN x) := by rw [List.getElem?_map, hx]; rfl
            have hdx : (x.map dI).length = x.length := List.length_map _
            have hy := List.getElem?_eq_getElem (l := L) (i := v) (by omega)
            generalize L[v]'(by omega) = y at hy
            have hyd : (L.map dI)[v]? = some (.int .i64 y) := by rw [List.getElem?_map, hy]; rfl
            have h6 : Pure C1 17 [dN x, .int .i64 y] (fun y => y = .bool true) := by
              have := has06_pure x y
              rw [decide_eq_true (hIn v y x hvl hy hx)] at this
              exact Sx.Pure.lax (.cons (laxN x) (.cons (.refl _) .nil)) this
            have hxx := dN_or2 x
            generalize dN x = xd at hxd hxx h6
            rcases hxx with ⟨rfl, hx0⟩ | rfl <;> (conv => whnf) <;> (repeat' ((first | refine ord_ok (by (conv => whnf); (repeat' ((first | refine at_da hxd rfl ?_ | refine at_da hld rfl ?_ | refine at_da hyd rfl ?_ | refine call_eq rfl h6 ?_ | refine ify ?_ | refine ifn ?_ | refine i6 ?_ | refine ati ?_ | refine mst ?_ | refine rmd ?_ | refine ibo (fun _ => ?_) (fun _ => ?_)) <;> conv => whnf)); (all_goals (repeat' (first | exact trivial | exact rfl | refine And.intro ?_ ?_)))) ?_ | refine at_da hxd rfl ?_ | refine at_da hld rfl ?_ | refine at_da hyd rfl ?_ | refine call_eq rfl h6 ?_ | refine ify ?_ | refine ifn ?_ | refine i6 ?_ | refine ati ?_ | refine mst ?_ | refine rmd ?_ | refine ibo (fun _ => ?_) (fun _ => ?_)) <;> conv => whnf))
            all_goals exact ⟨v + 1, _, _, hvl, .refl _ _, ⟨rfl, int_is (by (try simp only [List.length_nil]); omega), rfl, rfl, rfl, rfl, rfl, rfl, rfl, trivial⟩, ⟨rfl, rfl, trivial⟩, by omega⟩
          · rw [List.take_of_length_le (show S1.length ≤ v by omega)]
            (conv => whnf)
            (repeat' ((first | refine ord_ok (by (conv => whnf); (repeat' ((first | refine at_da hld rfl ?_ | refine ify ?_ | refine ifn ?_ | refine i6 ?_ | refine ati ?_ | refine mst ?_ | refine rmd ?_ | refine ibo (fun _ => ?_) (fun _ => ?_)) <;> conv => whnf)); (all_goals (repeat' (first | exact trivial | exact rfl | refine And.intro ?_ ?_)))) ?_ | refine at_da hld rfl ?_ | refine ify ?_ | refine ifn ?_ | refine i6 ?_ | refine ati ?_ | refine mst ?_ | refine rmd ?_ | refine ibo (fun _ => ?_) (fun _ => ?_)) <;> conv => whnf))
            refine call_inline 200 [(14, .d (.int .i64 (sumL S1 : Nat))), (13, .d (.list 1 (S1.map dN))), (11, .d (.int .i64 i)), (10, .d (.int .i64 (z : Nat))), (8, .d (.list 1 (R.map dIs))), (6, .own 31), (1, .d (dLL l))] c1_ok (pl := pl_mtk) (G := G_mtk) Tryz.func24 rfl Tryz.ntmps24 run_mtk cok_mtk (Nat.le_of_ble_eq_true rfl) rfl ⟨rfl, rfl, rfl, rfl, rfl, rfl, rfl, trivial⟩ rfl ?_
            intro us3
            (conv => whnf)
            (repeat' ((first | refine ord_ok (by (conv => whnf); (repeat' ((first | refine call_eq rfl hso ?_ | refine ify ?_ | refine ifn ?_ | refine i6 ?_ | refine ati ?_ | refine mst ?_ | refine rmd ?_ | refine ibo (fun _ => ?_) (fun _ => ?_)) <;> conv => whnf)); (all_goals (repeat' (first | exact trivial | exact rfl | refine And.intro ?_ ?_)))) ?_ | refine call_eq rfl hso ?_ | refine ify ?_ | refine ifn ?_ | refine i6 ?_ | refine ati ?_ | refine mst ?_ | refine rmd ?_ | refine ibo (fun _ => ?_) (fun _ => ?_)) <;> conv => whnf))
            refine loop_lo (ι := Nat) (fun a => a ≤ O.length) (fun a => [(36, .d (.int .i64 a)), (35, .d (.int .i64 O.length)), (34, .d (.list 1 (O.map dInts))), (1, .d (dIs L)), (0, .own 31)]) (fun a => [(31, .cells 110 [.d (dPt p), .d (.list 1 (O.map dInts)), .own 29]), (200, .ghost us3 [.d (.int .i64 (sumL S1 : Nat)), .d (.list 1 (S1.map dN)), .d (.int .i64 i), .d (.int .i64 (z : Nat)), .d (.list 1 (R.map dIs)), .own 31, .d (dLL l)]), (29, .slice 22 1 ((colsS n (Y1 ++ (O.take a).map fun o => mvI o L)).map dN))]) (fun a => O.length - a) 0 (fun _ => rfl) (Nat.zero_le _) (.refl _ _) ⟨rfl, by rw [← hdO]; rfl, rfl, rfl, rfl, trivial⟩ ⟨rfl, rfl, slice_is (by rw [List.take_zero, List.map_nil, List.append_nil]; try rw [hS1]), trivial⟩ ?_
            intro a ha
            refine sxCode_sound c1_ok (G := G_mtk) (pl := pl_mtk) _ _ _ _ (by kernel_rfl) ?_
            by_cases hal' : a < O.length
            · have ho := List.getElem?_eq_getElem hal'
              have hom := hOo _ (List.getElem_mem hal')
              generalize O[a] = o at ho hom
              have hod : (O.map dInts)[a]? = some (dIs o) := by rw [List.getElem?_map, ho]; rfl
              have hta : (O.take (a + 1)).map (fun o => mvI o L) = (O.take a).map (fun o => mvI o L) ++ [mvI o L] := by rw [List.take_add_one, ho, List.map_append]; rfl
              have hol : o.length = n := hom.1
              have hdo : (o.map dI).length = o.length := List.length_map _
              have hYa : (Y1 ++ (O.take a).map fun o => mvI o L).length ≤ 900000000 := by
                rw [List.length_append, List.length_map, List.length_take]; omega
              have hYn : (Y1 ++ (O.take (a + 1)).map fun o => mvI o L) = (Y1 ++ (O.take a).map fun o => mvI o L) ++ [mvI o L] := by rw [hta, List.append_assoc]
              generalize (Y1 ++ (O.take a).map fun o => mvI o L) = V at hYa hYn ⊢
              (conv => whnf)
              (repeat' ((first | refine ord_ok (by (conv => whnf); (repeat' ((first | refine at_da hod rfl ?_ | refine ify ?_ | refine ifn ?_ | refine i6 ?_ | refine ati ?_ | refine mst ?_ | refine rmd ?_ | refine ibo (fun _ => ?_) (fun _ => ?_)) <;> conv => whnf)); (all_goals (repeat' (first | exact trivial | exact rfl | refine And.intro ?_ ?_)))) ?_ | refine at_da hod rfl ?_ | refine ify ?_ | refine ifn ?_ | refine i6 ?_ | refine ati ?_ | refine mst ?_ | refine rmd ?_ | refine ibo (fun _ => ?_) (fun _ => ?_)) <;> conv => whnf))
              refine loop_lo (ι := Nat) (fun j => j ≤ n) (fun j => [(42, .d (.int .i64 j)), (41, .d (.int .i64 L.length)), (40, .d (dIs L)), (6, .d (dIs o)), (36, .d (.int .i64 a)), (35, .d (.int .i64 O.length)), (34, .d (.list 1 (O.map dInts))), (1, .d (dIs L)), (0, .own 31)]) (fun j => [(31, .cells 110 [.d (dPt p), .d (.list 1 (O.map dInts)), .own 29]), (200, .ghost us3 [.d (.int .i64 (sumL S1 : Nat)), .d (.list 1 (S1.map dN)), .d (.int .i64 i), .d (.int .i64 (z : Nat)), .d (.list 1 (R.map dIs)), .own 31, .d (dLL l)]), (29, .slice 22 1 ((midS n V (mvI o L) (doneB o j)).map dN))]) (fun j => n - j) 0 (fun _ => rfl) (Nat.zero_le _) (.refl _ _) ⟨rfl, by rw [← hdL]; rfl, rfl, rfl, rfl, rfl, rfl, rfl, rfl, trivial⟩ ⟨rfl, rfl, slice_is (by rw [midS_start _ _ _ (fun v _ => doneB_zero o v)]), trivial⟩ ?_
              intro j hj
              refine sxCode_sound c1_ok (G := G_mtk) (pl := pl_mtk) _ _ _ _ (by kernel_rfl) ?_
              by_cases hjl : j < n
              · have hy := List.getElem?_eq_getElem (l := L) (i := j) (by omega)
                generalize L[j]'(by omega) = v at hy
                have hyd : (L.map dI)[j]? = some (.int .i64 v) := by rw [List.getElem?_map, hy]; rfl
                have hpi := pl_at hom hjl
                have hpl := pl_lt hom hjl
                have hpd : (o.map dI)[j]? = some (.int .i64 (pl o j : Nat)) := by rw [List.getElem?_map, hpi]; rfl
                have hmv := mvI_at hom hLn hjl
                rw [hy] at hmv
                have hno := doneB_no hom hjl
                have hstp := congrArg (List.map dN) (midS_step (k := n) (Y := V) (done := doneB o j) (done' := doneB o (j + 1)) hmv (fun u _ => doneB_step o j u))
                rw [List.map_set, dN_ne (addS_ne _ _)] at hstp
                have hud : ((midS n V (mvI o L) (doneB o j)).map dN)[pl o j]? = some (dN (colS V (pl o j))) := by
                  rw [List.getElem?_map, midS_at hpl, hno]; rfl
                have hul : ((midS n V (mvI o L) (doneB o j)).map dN).length = n := by rw [List.length_map, midS_len]
                have had := sadd_nil (colS V (pl o j)) (colS_rise _ _) (by have := colS_len V (pl o j); omega) v
                generalize (midS n V (mvI o L) (doneB o j)).map dN = U at hstp hud hul ⊢
                generalize pl o j = w at hstp hud had hpd hpl
                generalize hX2 : dN (colS V w) = xd at hud had
                have hxx := dN_or (colS V w)
                rw [hX2] at hxx
                rcases hxx with rfl | rfl <;> (conv => whnf) <;> (repeat' ((first | refine ord_ok (by (conv => whnf); (repeat' ((first | refine at_da hyd rfl ?_ | refine at_da hpd rfl ?_ | refine el_at (i := w) rfl (by omega) ?_ | refine el_is hud ?_ | refine call_eq rfl had ?_ | refine ify ?_ | refine ifn ?_ | refine i6 ?_ | refine ati ?_ | refine mst ?_ | refine rmd ?_ | refine ibo (fun _ => ?_) (fun _ => ?_)) <;> conv => whnf)); (all_goals (repeat' (first | exact trivial | exact rfl | refine And.intro ?_ ?_)))) ?_ | refine at_da hyd rfl ?_ | refine at_da hpd rfl ?_ | refine el_at (i := w) rfl (by omega) ?_ | refine el_is hud ?_ | refine call_eq rfl had ?_ | refine ify ?_ | refine ifn ?_ | refine i6 ?_ | refine ati ?_ | refine mst ?_ | refine rmd ?_ | refine ibo (fun _ => ?_) (fun _ => ?_)) <;> conv => whnf))
                all_goals exact ⟨j + 1, _, _, hjl, .refl _ _, ⟨rfl, rfl, rfl, rfl, rfl, rfl, rfl, rfl, rfl, trivial⟩, ⟨rfl, rfl, slice_is hstp, trivial⟩, by omega⟩
              · have hje : j = n := by omega
                rw [hje, midS_end _ _ _ (fun v hv => doneB_all hom v hv)]
                ((conv => whnf); repeat' ((first | refine odw ?_ | refine ify ?_ | refine ifn ?_ | refine i6 ?_ | refine ati ?_ | refine mst ?_ | refine rmd ?_ | refine ibo (fun _ => ?_) (fun _ => ?_)) <;> conv => whnf))
                exact ⟨a + 1, _, _, hal', .refl _ _, ⟨rfl, rfl, rfl, rfl, rfl, trivial⟩, ⟨rfl, rfl, slice_is (by rw [hYn]), trivial⟩, by omega⟩
            · have hOe : O.take a = O := List.take_of_length_le (by omega)
              rw [hOe, hY2]
              (conv => whnf)
              (repeat' ((first | refine ord_ok (by (conv => whnf); (repeat' ((first | refine same_ok ?_ | refine ify ?_ | refine ifn ?_ | refine i6 ?_ | refine ati ?_ | refine mst ?_ | refine rmd ?_ | refine ibo (fun _ => ?_) (fun _ => ?_)) <;> conv => whnf)); (all_goals (repeat' (first | exact trivial | exact rfl | refine And.intro ?_ ?_)))) ?_ | refine same_ok ?_ | refine ify ?_ | refine ifn ?_ | refine i6 ?_ | refine ati ?_ | refine mst ?_ | refine rmd ?_ | refine ibo (fun _ => ?_) (fun _ => ?_)) <;> conv => whnf))
              refine call_inline 200 [(102, .d (.bool false)), (14, .d (.int .i64 (sumL S1 : Nat))), (13, .d (.list 1 (S1.map dN))), (11, .d (.int .i64 i)), (10, .d (.int .i64 (z : Nat))), (8, .d (.list 1 (R.map dIs))), (6, .own 31), (1, .d (dLL l))] c1_ok (pl := pl_dse) (G := G_dse) Tryz.func26 rfl Tryz.ntmps26 run_dse cok_dse (Nat.le_of_ble_eq_true rfl) rfl ⟨rfl, rfl, rfl, rfl, rfl, rfl, rfl, rfl, trivial⟩ rfl ?_
              intro us4
              ((conv => whnf); repeat' ((first | refine odw ?_ | refine ify ?_ | refine ifn ?_ | refine i6 ?_ | refine ati ?_ | refine mst ?_ | refine rmd ?_ | refine ibo (fun _ => ?_) (fun _ => ?_)) <;> conv => whnf))
              refine loop_lo (ι := Nat) (fun j => j ≤ n) (fun j => [(13, .d (.int .i64 j)), (12, .d (.int .i64 (S1.map dN).length)), (11, .own 29), (3, .own 300)]) (fun j => [(31, .cells 110 [.d (dPt p), .d (.list 1 (O.map dInts)), .own 29]), (200, .ghost us4 [.d (.bool false), .d (.int .i64 (sumL S1 : Nat)), .d (.list 1 (S1.map dN)), .d (.int .i64 i), .d (.int .i64 (z : Nat)), .d (.list 1 (R.map dIs)), .own 31, .d (dLL l)]), (29, .slice 22 1 (S1.map dN)), (300, .slice 22 1 ((S1.take j).map dN))]) (fun j => n - j) 0 (fun _ => rfl) (Nat.zero_le _) (.own 3 300 22 1 rfl rfl (.refl _ _)) ⟨rfl, rfl, rfl, rfl, trivial⟩ ⟨rfl, rfl, rfl, rfl, trivial⟩ ?_
              intro j hj
              refine sxCode_sound c1_ok (G := G_dse) (pl := pl_dse) _ _ _ _ (by kernel_rfl) ?_
              by_cases hjl : j < n
              · have hx := List.getElem?_eq_getElem (l := S1) (i := j) (by omega)
                have hxm := List.getElem_mem (l := S1) (n := j) (by omega)
                generalize S1[j]'(by omega) = x at hx hxm
                have hcl := cloneN_pure x (hSl x hxm)
                have hxd : (S1.map dN)[j]? = some (dN x) := by rw [List.getElem?_map, hx]; rfl
                have hfin : (S1.take j).map dN ++ [dN x] = (S1.take (j + 1)).map dN := by rw [List.take_add_one, hx, List.map_append]; rfl
                have htl : ((S1.take j).map dN).length = j := by rw [List.length_map, List.length_take]; omega
                generalize (S1.take j).map dN = Z at htl hfin ⊢
                have hxx := dN_or x
                generalize dN x = xd at hcl hxd hfin hxx
                rcases hxx with rfl | rfl <;> (conv => whnf) <;> (repeat' ((first | refine ord_ok (by (conv => whnf); (repeat' ((first | refine el_at (i := j) rfl (by omega) ?_ | refine el_is hxd ?_ | refine call_eq rfl hcl ?_ | refine ify ?_ | refine ifn ?_ | refine i6 ?_ | refine ati ?_ | refine mst ?_ | refine rmd ?_ | refine ibo (fun _ => ?_) (fun _ => ?_)) <;> conv => whnf)); (all_goals (repeat' (first | exact trivial | exact rfl | refine And.intro ?_ ?_)))) ?_ | refine el_at (i := j) rfl (by omega) ?_ | refine el_is hxd ?_ | refine call_eq rfl hcl ?_ | refine ify ?_ | refine ifn ?_ | refine i6 ?_ | refine ati ?_ | refine mst ?_ | refine rmd ?_ | refine ibo (fun _ => ?_) (fun _ => ?_)) <;> conv => whnf))
                all_goals exact ⟨j + 1, _, _, hjl, .refl _ _, ⟨rfl, rfl, rfl, rfl, trivial⟩, ⟨rfl, rfl, rfl, slice_is hfin, trivial⟩, by omega⟩
              · rw [List.take_of_length_le (show S1.length ≤ j by omega)]
                (conv => whnf)
                (repeat' ((first | refine ord_ok (by (conv => whnf); (repeat' ((first | refine same_ok ?_ | refine call_frz 300 rfl ?_ | refine call_eq rfl hsam ?_ | refine ify ?_ | refine ifn ?_ | refine i6 ?_ | refine ati ?_ | refine mst ?_ | refine rmd ?_ | refine ibo (fun _ => ?_) (fun _ => ?_)) <;> conv => whnf)); (all_goals (repeat' (first | exact trivial | exact rfl | refine And.intro ?_ ?_)))) ?_ | refine same_ok ?_ | refine call_frz 300 rfl ?_ | refine call_eq rfl hsam ?_ | refine ify ?_ | refine ifn ?_ | refine i6 ?_ | refine ati ?_ | refine mst ?_ | refine rmd ?_ | refine ibo (fun _ => ?_) (fun _ => ?_)) <;> conv => whnf))
                refine loop_lo (ι := Nat) (fun k => k ≤ R.length) (fun k => [(16, .d (.int .i64 k)), (13, .d (.list 1 (S1.map dN))), (11, .d (.int .i64 i)), (10, .d (.int .i64 (sumL S1 : Nat))), (8, .d (.list 1 (R.map dIs))), (6, .own 31), (1, .d (dLL l))]) (fun _ => [(31, .cells 110 [.d (dPt p), .d (.list 1 (O.map dInts)), .own 29]), (29, .slice 22 1 (S1.map dN))]) (fun k => R.length - k) 0 (fun _ => rfl) (Nat.zero_le _) (.refl _ _) ⟨rfl, rfl, rfl, rfl, rfl, rfl, rfl, trivial⟩ ⟨rfl, rfl, trivial⟩ ?_
                intro k hk
                refine sxCode_sound c1_ok (G := G_mtt) (pl := pl_mtt) _ _ _ _ (by kernel_rfl) ?_
                by_cases hkl : k < R.length
                · have hr := List.getElem?_eq_getElem hkl
                  generalize R[k] = r at hr
                  have hrd : (R.map dIs)[k]? = some (dIs r) := by rw [List.getElem?_map, hr]; rfl
                  obtain ⟨w, hw, hr0, hrm⟩ := hRa k r hr
                  have hdr : (r.map dI).length = r.length := List.length_map _
                  have hr0d : (r.map dI)[0]? = some (.int .i64 (w : Nat)) := by rw [List.getElem?_map, hr0]; rfl
                  have hwd : (S1.map dN)[w]? = some (dN (colS Y1 w)) := by rw [List.getElem?_map, hS1, colsS_at hw]; rfl
                  (conv => whnf)
                  (repeat' ((first | refine ord_ok (by (conv => whnf); (repeat' ((first | refine at_da hrd rfl ?_ | refine ify ?_ | refine ifn ?_ | refine i6 ?_ | refine ati ?_ | refine mst ?_ | refine rmd ?_ | refine ibo (fun _ => ?_) (fun _ => ?_)) <;> conv => whnf)); (all_goals (repeat' (first | exact trivial | exact rfl | refine And.intro ?_ ?_)))) ?_ | refine at_da hrd rfl ?_ | refine ify ?_ | refine ifn ?_ | refine i6 ?_ | refine ati ?_ | refine mst ?_ | refine rmd ?_ | refine ibo (fun _ => ?_) (fun _ => ?_)) <;> conv => whnf))
                  refine loop_lo (ι := Nat) (fun v => 1 ≤ v) (fun v => [(17, .d (.int .i64 v)), (16, .d (.int .i64 k)), (13, .d (.list 1 (S1.map dN))), (11, .d (.int .i64 i)), (10, .d (.int .i64 (sumL S1 : Nat))), (8, .d (.list 1 (R.map dIs))), (6, .own 31), (1, .d (dLL l))]) (fun _ => [(31, .cells 110 [.d (dPt p), .d (.list 1 (O.map dInts)), .own 29]), (29, .slice 22 1 (S1.map dN))]) (fun v => r.length - v) 1 (fun _ => rfl) (Nat.le_refl _) (.refl _ _) ⟨rfl, rfl, rfl, rfl, rfl, rfl, rfl, rfl, trivial⟩ ⟨rfl, rfl, trivial⟩ ?_
                  intro v hv1
                  refine sxCode_sound c1_ok (G := G_mtt) (pl := pl_mtt) _ _ _ _ (by kernel_rfl) ?_
                  by_cases hvl : v < r.length
                  · have hu := List.getElem?_eq_getElem hvl
                    obtain ⟨u, hue, huo⟩ := hrm _ (List.getElem_mem hvl)
                    rw [hue] at hu
                    have hul := orb_lt hpo hw huo
                    have hud : (r.map dI)[v]? = some (.int .i64 (u : Nat)) := by rw [List.getElem?_map, hu]; rfl
                    have huS : (S1.map dN)[u]? = some (dN (colS Y1 w)) := by rw [List.getElem?_map, hS1, colsS_at hul, hCo w u hw huo]; rfl
                    have hsm := sameN (colS Y1 w)
                    have hxx := dN_or (colS Y1 w)
                    generalize dN (colS Y1 w) = xd at hwd huS hsm hxx
                    have hrb := hRl r (List.mem_of_getElem? hr)
                    rcases hxx with rfl | rfl <;> (conv => whnf) <;> (repeat' ((first | refine ord_ok (by (conv => whnf); (repeat' ((first | refine at_da hrd rfl ?_ | refine at_da hr0d rfl ?_ | refine at_da hud rfl ?_ | refine at_da hwd rfl ?_ | refine at_da huS rfl ?_ | refine call_eq rfl hsm ?_ | refine ify ?_ | refine ifn ?_ | refine i6 ?_ | refine ati ?_ | refine mst ?_ | refine rmd ?_ | refine ibo (fun _ => ?_) (fun _ => ?_)) <;> conv => whnf)); (all_goals (repeat' (first | exact trivial | exact rfl | refine And.intro ?_ ?_)))) ?_ | refine at_da hrd rfl ?_ | refine at_da hr0d rfl ?_ | refine at_da hud rfl ?_ | refine at_da hwd rfl ?_ | refine at_da huS rfl ?_ | refine call_eq rfl hsm ?_ | refine ify ?_ | refine ifn ?_ | refine i6 ?_ | refine ati ?_ | refine mst ?_ | refine rmd ?_ | refine ibo (fun _ => ?_) (fun _ => ?_)) <;> conv => whnf))
                    all_goals exact ⟨v + 1, _, _, by omega, .refl _ _, ⟨rfl, rfl, rfl, rfl, rfl, rfl, rfl, rfl, trivial⟩, ⟨rfl, rfl, trivial⟩, by omega⟩
                  · (conv => whnf)
                    (repeat' ((first | refine ord_ok (by (conv => whnf); (repeat' ((first | refine at_da hrd rfl ?_ | refine ify ?_ | refine ifn ?_ | refine i6 ?_ | refine ati ?_ | refine mst ?_ | refine rmd ?_ | refine ibo (fun _ => ?_) (fun _ => ?_)) <;> conv => whnf)); (all_goals (repeat' (first | exact trivial | exact rfl | refine And.intro ?_ ?_)))) ?_ | refine at_da hrd rfl ?_ | refine ify ?_ | refine ifn ?_ | refine i6 ?_ | refine ati ?_ | refine mst ?_ | refine rmd ?_ | refine ibo (fun _ => ?_) (fun _ => ?_)) <;> conv => whnf))
                    exact ⟨k + 1, _, _, hkl, .refl _ _, ⟨rfl, rfl, rfl, rfl, rfl, rfl, rfl, trivial⟩, ⟨rfl, rfl, trivial⟩, by omega⟩
                · ((conv => whnf); repeat' ((first | refine odw ?_ | refine ify ?_ | refine ifn ?_ | refine i6 ?_ | refine ati ?_ | refine mst ?_ | refine rmd ?_ | refine ibo (fun _ => ?_) (fun _ => ?_)) <;> conv => whnf))
                  exact ⟨i + 1, _, _, hil, .refl _ _, ⟨rfl, int_is (by rw [hSn]), rfl, rfl, rfl, trivial⟩, ⟨rfl, slice_is (by rw [hSn]), trivial⟩, by omega⟩
    · have hTs : (l.take (i + 1)).filter (okT n) = (l.take i).filter (okT n) := by rw [okT_step hx0, if_neg (show ¬ okT n L = true from fun h => hLd (of_decide_eq_true (show decide (L.length = n ∧ L.Nodup) = true from h)).2), List.append_nil]
      obtain ⟨Y1, hY1e⟩ : ∃ Y1, Y1 = Y := ⟨_, rfl⟩
      have hY1o : ownI p ((l.take (i + 1)).filter (okT n)) = Y1 := by rw [hTs, hY, hY1e]
      obtain ⟨S1, hS1⟩ : ∃ S1, S1 = colsS n Y1 := ⟨_, rfl⟩
      have hS0 : colsS n Y = S1 := by rw [hS1, hY1e]
      have hSn : colsS n (ownI p ((l.take (i + 1)).filter (okT n))) = S1 := by rw [hY1o, hS1]
      have hTn : ∀ M ∈ (l.take (i + 1)).filter (okT n), M.length = n := fun M hM => (of_decide_eq_true (List.mem_filter.1 hM).2).1
      have hCo : ∀ w u, w < n → InOrb p w u → colS Y1 u = colS Y1 w := fun w u hw h => by
        rw [← hY1o]; exact (col_orb hpo hTn hw h).symm
      have hYl1 : Y1.length ≤ 9 * 40320 := by rw [hY1e]; omega
      have hzs : z ≤ sumL S1 := by rw [hz, hS0]; exact Nat.le_refl _
      have hSlen : S1.length = n := by rw [hS1, colsS_len]
      have hSl : ∀ s ∈ S1, s.length ≤ 1000000000 := fun s hs => by
        rw [hS1] at hs
        obtain ⟨v, _, rfl⟩ := mem_colsS.1 hs
        have := colS_len Y1 v
        omega
      have hSu : ∀ v, sumL (S1.take v) ≤ 5 * (9 * 40320) := fun v => by
        refine Nat.le_trans (sumL_le (b := 9 * 40320) fun s hs => ?_) ?_
        · have hs := List.mem_of_mem_take hs
          rw [hS1] at hs
          obtain ⟨v, _, rfl⟩ := mem_colsS.1 hs
          exact Nat.le_trans (colS_len Y1 v) hYl1
        · exact Nat.mul_le_mul_right _ (by rw [List.length_take]; omega)
      have hSs : sumL S1 ≤ 5 * (9 * 40320) := by have := hSu n; rwa [List.take_of_length_le (by omega)] at this
      have hsam := same15_pure S1 (by omega)
      have hcn : (S1.map dN).length = n := by rw [List.length_map]; exact hSlen
      have hnw := fnew_pure 1 0 verticesS
      rw [hS0]
      have hso := of_pure L (by omega)
      have hsl : ((setOf L).map dI).length ≠ L.length := by rw [List.length_map]; exact fun h => hLd (dup_len h)
      (conv => whnf)
      (repeat' ((first | refine ord_ok (by (conv => whnf); (repeat' ((first | refine at_da hld rfl ?_ | refine ify ?_ | refine ifn ?_ | refine i6 ?_ | refine ati ?_ | refine mst ?_ | refine rmd ?_ | refine ibo (fun _ => ?_) (fun _ => ?_)) <;> conv => whnf)); (all_goals (repeat' (first | exact trivial | exact rfl | refine And.intro ?_ ?_)))) ?_ | refine at_da hld rfl ?_ | refine ify ?_ | refine ifn ?_ | refine i6 ?_ | refine ati ?_ | refine mst ?_ | refine rmd ?_ | refine ibo (fun _ => ?_) (fun _ => ?_)) <;> conv => whnf))
      refine call_inline 200 [(11, .d (.int .i64 i)), (10, .d (.int .i64 (z : Nat))), (8, .d (.list 1 (R.map dIs))), (6, .own 31), (1, .d (dLL l))] c1_ok (pl := pl_mtk) (G := G_mtk) Tryz.func24 rfl Tryz.ntmps24 run_mtk cok_mtk (Nat.le_of_ble_eq_true rfl) rfl ⟨rfl, rfl, rfl, rfl, rfl, trivial⟩ rfl ?_
      intro us1
      (conv => whnf)
      (repeat' ((first | refine ord_ok (by (conv => whnf); (repeat' ((first | refine call_eq rfl hso ?_ | refine call_eq rfl hnw ?_ | refine same_ok ?_ | refine ify ?_ | refine ifn ?_ | refine i6 ?_ | refine ati ?_ | refine mst ?_ | refine rmd ?_ | refine ibo (fun _ => ?_) (fun _ => ?_)) <;> conv => whnf)); (all_goals (repeat' (first | exact trivial | exact rfl | refine And.intro ?_ ?_)))) ?_ | refine call_eq rfl hso ?_ | refine call_eq rfl hnw ?_ | refine same_ok ?_ | refine ify ?_ | refine ifn ?_ | refine i6 ?_ | refine ati ?_ | refine mst ?_ | refine rmd ?_ | refine ibo (fun _ => ?_) (fun _ => ?_)) <;> conv => whnf))
      refine call_inline 200 [(12, .d (dF 1 0 verticesS)), (11, .d (.int .i64 i)), (10, .d (.int .i64 (z : Nat))), (8, .d (.list 1 (R.map dIs))), (6, .own 31), (1, .d (dLL l))] c1_ok (pl := pl_dse) (G := G_dse) Tryz.func26 rfl Tryz.ntmps26 run_dse cok_dse (Nat.le_of_ble_eq_true rfl) rfl ⟨rfl, rfl, rfl, rfl, rfl, rfl, trivial⟩ rfl ?_
      intro us2
      ((conv => whnf); repeat' ((first | refine odw ?_ | refine ify ?_ | refine ifn ?_ | refine i6 ?_ | refine ati ?_ | refine mst ?_ | refine rmd ?_ | refine ibo (fun _ => ?_) (fun _ => ?_)) <;> conv => whnf))
      refine loop_lo (ι := Nat) (fun j => j ≤ n) (fun j => [(13, .d (.int .i64 j)), (12, .d (.int .i64 (S1.map dN).length)), (11, .own 29), (3, .own 300)]) (fun j => [(31, .cells 110 [.d (dPt p), .d (.list 1 (O.map dInts)), .own 29]), (200, .ghost us2 [.d (dF 1 0 verticesS), .d (.int .i64 i), .d (.int .i64 (z : Nat)), .d (.list 1 (R.map dIs)), .own 31, .d (dLL l)]), (29, .slice 22 1 (S1.map dN)), (300, .slice 22 1 ((S1.take j).map dN))]) (fun j => n - j) 0 (fun _ => rfl) (Nat.zero_le _) (.own 3 300 22 1 rfl rfl (.refl _ _)) ⟨rfl, rfl, rfl, rfl, trivial⟩ ⟨rfl, rfl, rfl, rfl, trivial⟩ ?_
      intro j hj
      refine sxCode_sound c1_ok (G := G_dse) (pl := pl_dse) _ _ _ _ (by kernel_rfl) ?_
      by_cases hjl : j < n
      · have hx := List.getElem?_eq_getElem (l := S1) (i := j) (by omega)
        have hxm := List.getElem_mem (l := S1) (n := j) (by omega)
        generalize S1[j]'(by omega) = x at hx hxm
        have hcl := cloneN_pure x (hSl x hxm)
        have hxd : (S1.map dN)[j]? = some (dN x) := by rw [List.getElem?_map, hx]; rfl
        have hfin : (S1.take j).map dN ++ [dN x] = (S1.take (j + 1)).map dN := by rw [List.take_add_one, hx, List.map_append]; rfl
        have htl : ((S1.take j).map dN).length = j := by rw [List.length_map, List.length_take]; omega
        generalize (S1.take j).map dN = Z at htl hfin ⊢
        have hxx := dN_or x
        generalize dN x = xd at hcl hxd hfin hxx
        rcases hxx with rfl | rfl <;> (conv => whnf) <;> (repeat' ((first | refine ord_ok (by (conv => whnf); (repeat' ((first | refine el_at (i := j) rfl (by omega) ?_ | refine el_is hxd ?_ | refine call_eq rfl hcl ?_ | refine ify ?_ | refine ifn ?_ | refine i6 ?_ | refine ati ?_ | refine mst ?_ | refine rmd ?_ | refine ibo (fun _ => ?_) (fun _ => ?_)) <;> conv => whnf)); (all_goals (repeat' (first | exact trivial | exact rfl | refine And.intro ?_ ?_)))) ?_ | refine el_at (i := j) rfl (by omega) ?_ | refine el_is hxd ?_ | refine call_eq rfl hcl ?_ | refine ify ?_ | refine ifn ?_ | refine i6 ?_ | refine ati ?_ | refine mst ?_ | refine rmd ?_ | refine ibo (fun _ => ?_) (fun _ => ?_)) <;> conv => whnf))
        all_goals exact ⟨j + 1, _, _, hjl, .refl _ _, ⟨rfl, rfl, rfl, rfl, trivial⟩, ⟨rfl, rfl, rfl, slice_is hfin, trivial⟩, by omega⟩
      · rw [List.take_of_length_le (show S1.length ≤ j by omega)]
        (conv => whnf)
        (repeat' ((first | refine ord_ok (by (conv => whnf); (repeat' ((first | refine same_ok ?_ | refine ify ?_ | refine ifn ?_ | refine i6 ?_ | refine ati ?_ | refine mst ?_ | refine rmd ?_ | refine ibo (fun _ => ?_) (fun _ => ?_)) <;> conv => whnf)); (all_goals (repeat' (first | exact trivial | exact rfl | refine And.intro ?_ ?_)))) ?_ | refine same_ok ?_ | refine ify ?_ | refine ifn ?_ | refine i6 ?_ | refine ati ?_ | refine mst ?_ | refine rmd ?_ | refine ibo (fun _ => ?_) (fun _ => ?_)) <;> conv => whnf))
        refine loop_lo (ι := Nat) (fun v => v ≤ n) (fun v => [(15, .d (.int .i64 v)), (14, .d (.int .i64 (sumL (S1.take v) : Nat))), (13, .d (.list 1 (S1.map dN))), (12, .d (dF 1 0 verticesS)), (11, .d (.int .i64 i)), (10, .d (.int .i64 (z : Nat))), (8, .d (.list 1 (R.map dIs))), (6, .own 31), (1, .d (dLL l))]) (fun _ => [(31, .cells 110 [.d (dPt p), .d (.list 1 (O.map dInts)), .own 29]), (29, .slice 22 1 (S1.map dN))]) (fun v => n - v) 0 (fun _ => rfl) (Nat.zero_le _) (.frz 300 rfl (.refl _ _)) ⟨rfl, rfl, rfl, rfl, rfl, rfl, rfl, rfl, rfl, trivial⟩ ⟨rfl, rfl, trivial⟩ ?_
        intro v hv
        refine sxCode_sound c1_ok (G := G_mtt) (pl := pl_mtt) _ _ _ _ (by kernel_rfl) ?_
        by_cases hvl : v < n
        · have hx := List.getElem?_eq_getElem (l := S1) (i := v) (by omega)
          have hst := sumL_step hx
          have hsb := hSu (v + 1)
          generalize hxe : S1[v]'(by omega) = x at hx hst
          have hxd : (S1.map dN)[v]? = some (dN x) := by rw [List.getElem?_map, hx]; rfl
          have hdx : (x.map dI).length = x.length := List.length_map _
          have hxx := dN_or2 x
          generalize dN x = xd at hxd hxx
          rcases hxx with ⟨rfl, hx0⟩ | rfl <;> (conv => whnf) <;> (repeat' ((first | refine ord_ok (by (conv => whnf); (repeat' ((first | refine at_da hxd rfl ?_ | refine ify ?_ | refine ifn ?_ | refine i6 ?_ | refine ati ?_ | refine mst ?_ | refine rmd ?_ | refine ibo (fun _ => ?_) (fun _ => ?_)) <;> conv => whnf)); (all_goals (repeat' (first | exact trivial | exact rfl | refine And.intro ?_ ?_)))) ?_ | refine at_da hxd rfl ?_ | refine ify ?_ | refine ifn ?_ | refine i6 ?_ | refine ati ?_ | refine mst ?_ | refine rmd ?_ | refine ibo (fun _ => ?_) (fun _ => ?_)) <;> conv => whnf))
          all_goals exact ⟨v + 1, _, _, hvl, .refl _ _, ⟨rfl, int_is (by (try simp only [List.length_nil]); omega), rfl, rfl, rfl, rfl, rfl, rfl, rfl, trivial⟩, ⟨rfl, rfl, trivial⟩, by omega⟩
        · rw [List.take_of_length_le (show S1.length ≤ v by omega)]
          (conv => whnf)
          (repeat' ((first | refine ord_ok (by (conv => whnf); (repeat' ((first | refine at_da hld rfl ?_ | refine ify ?_ | refine ifn ?_ | refine i6 ?_ | refine ati ?_ | refine mst ?_ | refine rmd ?_ | refine ibo (fun _ => ?_) (fun _ => ?_)) <;> conv => whnf)); (all_goals (repeat' (first | exact trivial | exact rfl | refine And.intro ?_ ?_)))) ?_ | refine at_da hld rfl ?_ | refine ify ?_ | refine ifn ?_ | refine i6 ?_ | refine ati ?_ | refine mst ?_ | refine rmd ?_ | refine ibo (fun _ => ?_) (fun _ => ?_)) <;> conv => whnf))
          refine call_inline 200 [(14, .d (.int .i64 (sumL S1 : Nat))), (13, .d (.list 1 (S1.map dN))), (11, .d (.int .i64 i)), (10, .d (.int .i64 (z : Nat))), (8, .d (.list 1 (R.map dIs))), (6, .own 31), (1, .d (dLL l))] c1_ok (pl := pl_mtk) (G := G_mtk) Tryz.func24 rfl Tryz.ntmps24 run_mtk cok_mtk (Nat.le_of_ble_eq_true rfl) rfl ⟨rfl, rfl, rfl, rfl, rfl, rfl, rfl, trivial⟩ rfl ?_
          intro us3
          (conv => whnf)
          (repeat' ((first | refine ord_ok (by (conv => whnf); (repeat' ((first | refine call_eq rfl hso ?_ | refine call_eq rfl hnw ?_ | refine same_ok ?_ | refine ify ?_ | refine ifn ?_ | refine i6 ?_ | refine ati ?_ | refine mst ?_ | refine rmd ?_ | refine ibo (fun _ => ?_) (fun _ => ?_)) <;> conv => whnf)); (all_goals (repeat' (first | exact trivial | exact rfl | refine And.intro ?_ ?_)))) ?_ | refine call_eq rfl hso ?_ | refine call_eq rfl hnw ?_ | refine same_ok ?_ | refine ify ?_ | refine ifn ?_ | refine i6 ?_ | refine ati ?_ | refine mst ?_ | refine rmd ?_ | refine ibo (fun _ => ?_) (fun _ => ?_)) <;> conv => whnf))
          refine call_inline 200 [(102, .d (.bool false)), (14, .d (.int .i64 (sumL S1 : Nat))), (13, .d (.list 1 (S1.map dN))), (11, .d (.int .i64 i)), (10, .d (.int .i64 (z : Nat))), (8, .d (.list 1 (R.map dIs))), (6, .own 31), (1, .d (dLL l))] c1_ok (pl := pl_dse) (G := G_dse) Tryz.func26 rfl Tryz.ntmps26 run_dse cok_dse (Nat.le_of_ble_eq_true rfl) rfl ⟨rfl, rfl, rfl, rfl, rfl, rfl, rfl, rfl, trivial⟩ rfl ?_
          intro us4
          ((conv => whnf); repeat' ((first | refine odw ?_ | refine ify ?_ | refine ifn ?_ | refine i6 ?_ | refine ati ?_ | refine mst ?_ | refine rmd ?_ | refine ibo (fun _ => ?_) (fun _ => ?_)) <;> conv => whnf))
          refine loop_lo (ι := Nat) (fun j => j ≤ n) (fun j => [(13, .d (.int .i64 j)), (12, .d (.int .i64 (S1.map dN).length)), (11, .own 29), (3, .own 300)]) (fun j => [(31, .cells 110 [.d (dPt p), .d (.list 1 (O.map dInts)), .own 29]), (200, .ghost us4 [.d (.bool false), .d (.int .i64 (sumL S1 : Nat)), .d (.list 1 (S1.map dN)), .d (.int .i64 i), .d (.int .i64 (z : Nat)), .d (.list 1 (R.map dIs)), .own 31, .d (dLL l)]), (29, .slice 22 1 (S1.map dN)), (300, .slice 22 1 ((S1.take j).map dN))]) (fun j => n - j) 0 (fun _ => rfl) (Nat.zero_le _) (.own 3 300 22 1 rfl rfl (.refl _ _)) ⟨rfl, rfl, rfl, rfl, trivial⟩ ⟨rfl, rfl, rfl, rfl, trivial⟩ ?_
          intro j hj
          refine sxCode_sound c1_ok (G := G_dse) (pl := pl_dse) _ _ _ _ (by kernel_rfl) ?_
          by_cases hjl : j < n
          · have hx := List.getElem?_eq_getElem (l := S1) (i := j) (by omega)
            have hxm := List.getElem_mem (l := S1) (n := j) (by omega)
            generalize S1[j]'(by omega) = x at hx hxm
            have hcl := cloneN_pure x (hSl x hxm)
            have hxd : (S1.map dN)[j]? = some (dN x) := by rw [List.getElem?_map, hx]; rfl
            have hfin : (S1.take j).map dN ++ [dN x] = (S1.take (j + 1)).map dN := by rw [List.take_add_one, hx, List.map_append]; rfl
            have htl : ((S1.take j).map dN).length = j := by rw [List.length_map, List.length_take]; omega
            generalize (S1.take j).map dN = Z at htl hfin ⊢
            have hxx := dN_or x
            generalize dN x = xd at hcl hxd hfin hxx
            rcases hxx with rfl | rfl <;> (conv => whnf) <;> (repeat' ((first | refine ord_ok (by (conv => whnf); (repeat' ((first | refine el_at (i := j) rfl (by omega) ?_ | refine el_is hxd ?_ | refine call_eq rfl hcl ?_ | refine ify ?_ | refine ifn ?_ | refine i6 ?_ | refine ati ?_ | refine mst ?_ | refine rmd ?_ | refine ibo (fun _ => ?_) (fun _ => ?_)) <;> conv => whnf)); (all_goals (repeat' (first | exact trivial | exact rfl | refine And.intro ?_ ?_)))) ?_ | refine el_at (i := j) rfl (by omega) ?_ | refine el_is hxd ?_ | refine call_eq rfl hcl ?_ | refine ify ?_ | refine ifn ?_ | refine i6 ?_ | refine ati ?_ | refine mst ?_ | refine rmd ?_ | refine ibo (fun _ => ?_) (fun _ => ?_)) <;> conv => whnf))
            all_goals exact ⟨j + 1, _, _, hjl, .refl _ _, ⟨rfl, rfl, rfl, rfl, trivial⟩, ⟨rfl, rfl, rfl, slice_is hfin, trivial⟩, by omega⟩
          · rw [List.take_of_length_le (show S1.length ≤ j by omega)]
            (conv => whnf)
            (repeat' ((first | refine ord_ok (by (conv => whnf); (repeat' ((first | refine same_ok ?_ | refine call_frz 300 rfl ?_ | refine call_eq rfl hsam ?_ | refine ify ?_ | refine ifn ?_ | refine i6 ?_ | refine ati ?_ | refine mst ?_ | refine rmd ?_ | refine ibo (fun _ => ?_) (fun _ => ?_)) <;> conv => whnf)); (all_goals (repeat' (first | exact trivial | exact rfl | refine And.intro ?_ ?_)))) ?_ | refine same_ok ?_ | refine call_frz 300 rfl ?_ | refine call_eq rfl hsam ?_ | refine ify ?_ | refine ifn ?_ | refine i6 ?_ | refine ati ?_ | refine mst ?_ | refine rmd ?_ | refine ibo (fun _ => ?_) (fun _ => ?_)) <;> conv => whnf))
            refine loop_lo (ι := Nat) (fun k => k ≤ R.length) (fun k => [(16, .d (.int .i64 k)), (13, .d (.list 1 (S1.map dN))), (11, .d (.int .i64 i)), (10, .d (.int .i64 (sumL S1 : Nat))), (8, .d (.list 1 (R.map dIs))), (6, .own 31), (1, .d (dLL l))]) (fun _ => [(31, .cells 110 [.d (dPt p), .d (.list 1 (O.map dInts)), .own 29]), (29, .slice 22 1 (S1.map dN))]) (fun k => R.length - k) 0 (fun _ => rfl) (Nat.zero_le _) (.refl _ _) ⟨rfl, rfl, rfl, rfl, rfl, rfl, rfl, trivial⟩ ⟨rfl, rfl, trivial⟩ ?_
            intro k hk
            refine sxCode_sound c1_ok (G := G_mtt) (pl := pl_mtt) _ _ _ _ (by kernel_rfl) ?_
            by_cases hkl : k < R.length
            · have hr := List.getElem?_eq_getElem hkl
              generalize R[k] = r at hr
              have hrd : (R.map dIs)[k]? = some (dIs r) := by rw [List.getElem?_map, hr]; rfl
              obtain ⟨w, hw, hr0, hrm⟩ := hRa k r hr
              have hdr : (r.map dI).length = r.length := List.length_map _
              have hr0d : (r.map dI)[0]? = some (.int .i64 (w : Nat)) := by rw [List.getElem?_map, hr0]; rfl
              have hwd : (S1.map dN)[w]? = some (dN (colS Y1 w)) := by rw [List.getElem?_map, hS1, colsS_at hw]; rfl
              (conv => whnf)
              (repeat' ((first | refine ord_ok (by (conv => whnf); (repeat' ((first | refine at_da hrd rfl ?_ | refine ify ?_ | refine ifn ?_ | refine i6 ?_ | refine ati ?_ | refine mst ?_ | refine rmd ?_ | refine ibo (fun _ => ?_) (fun _ => ?_)) <;> conv => whnf)); (all_goals (repeat' (first | exact trivial | exact rfl | refine And.intro ?_ ?_)))) ?_ | refine at_da hrd rfl ?_ | refine ify ?_ | refine ifn ?_ | refine i6 ?_ | refine ati ?_ | refine mst ?_ | refine rmd ?_ | refine ibo (fun _ => ?_) (fun _ => ?_)) <;> conv => whnf))
              refine loop_lo (ι := Nat) (fun v => 1 ≤ v) (fun v => [(17, .d (.int .i64 v)), (16, .d (.int .i64 k)), (13, .d (.list 1 (S1.map dN))), (11, .d (.int .i64 i)), (10, .d (.int .i64 (sumL S1 : Nat))), (8, .d (.list 1 (R.map dIs))), (6, .own 31), (1, .d (dLL l))]) (fun _ => [(31, .cells 110 [.d (dPt p), .d (.list 1 (O.map dInts)), .own 29]), (29, .slice 22 1 (S1.map dN))]) (fun v => r.length - v) 1 (fun _ => rfl) (Nat.le_refl _) (.refl _ _) ⟨rfl, rfl, rfl, rfl, rfl, rfl, rfl, rfl, trivial⟩ ⟨rfl, rfl, trivial⟩ ?_
              intro v hv1
              refine sxCode_sound c1_ok (G := G_mtt) (pl := pl_mtt) _ _ _ _ (by kernel_rfl) ?_
              by_cases hvl : v < r.length
              · have hu := List.getElem?_eq_getElem hvl
                obtain ⟨u, hue, huo⟩ := hrm _ (List.getElem_mem hvl)
                rw [hue] at hu
                have hul := orb_lt hpo hw huo
                have hud : (r.map dI)[v]? = some (.int .i64 (u : Nat)) := by rw [List.getElem?_map, hu]; rfl
                have huS : (S1.map dN)[u]? = some (dN (colS Y1 w)) := by rw [List.getElem?_map, hS1, colsS_at hul, hCo w u hw huo]; rfl
                have hsm := sameN (colS Y1 w)
                have hxx := dN_or (colS Y1 w)
                generalize dN (colS Y1 w) = xd at hwd huS hsm hxx
                have hrb := hRl r (List.mem_of_getElem? hr)
                rcases hxx with rfl | rfl <;> (conv => whnf) <;> (repeat' ((first | refine ord_ok (by (conv => whnf); (repeat' ((first | refine at_da hrd rfl ?_ | refine at_da hr0d rfl ?_ | refine at_da hud rfl ?_ | refine at_da hwd rfl ?_ | refine at_da huS rfl ?_ | refine call_eq rfl hsm ?_ | refine ify ?_ | refine ifn ?_ | refine i6 ?_ | refine ati ?_ | refine mst ?_ | refine rmd ?_ | refine ibo (fun _ => ?_) (fun _ => ?_)) <;> conv => whnf)); (all_goals (repeat' (first | exact trivial | exact rfl | refine And.intro ?_ ?_)))) ?_ | refine at_da hrd rfl ?_ | refine at_da hr0d rfl ?_ | refine at_da hud rfl ?_ | refine at_da hwd rfl ?_ | refine at_da huS rfl ?_ | refine call_eq rfl hsm ?_ | refine ify ?_ | refine ifn ?_ | refine i6 ?_ | refine ati ?_ | refine mst ?_ | refine rmd ?_ | refine ibo (fun _ => ?_) (fun _ => ?_)) <;> conv => whnf))
                all_goals exact ⟨v + 1, _, _, by omega, .refl _ _, ⟨rfl, rfl, rfl, rfl, rfl, rfl, rfl, rfl, trivial⟩, ⟨rfl, rfl, trivial⟩, by omega⟩
              · (conv => whnf)
                (repeat' ((first | refine ord_ok (by (conv => whnf); (repeat' ((first | refine at_da hrd rfl ?_ | refine ify ?_ | refine ifn ?_ | refine i6 ?_ | refine ati ?_ | refine mst ?_ | refine rmd ?_ | refine ibo (fun _ => ?_) (fun _ => ?_)) <;> conv => whnf)); (all_goals (repeat' (first | exact trivial | exact rfl | refine And.intro ?_ ?_)))) ?_ | refine at_da hrd rfl ?_ | refine ify ?_ | refine ifn ?_ | refine i6 ?_ | refine ati ?_ | refine mst ?_ | refine rmd ?_ | refine ibo (fun _ => ?_) (fun _ => ?_)) <;> conv => whnf))
                exact ⟨k + 1, _, _, hkl, .refl _ _, ⟨rfl, rfl, rfl, rfl, rfl, rfl, rfl, trivial⟩, ⟨rfl, rfl, trivial⟩, by omega⟩
            · ((conv => whnf); repeat' ((first | refine odw ?_ | refine ify ?_ | refine ifn ?_ | refine i6 ?_ | refine ati ?_ | refine mst ?_ | refine rmd ?_ | refine ibo (fun _ => ?_) (fun _ => ?_)) <;> conv => whnf))
              exact ⟨i + 1, _, _, hil, .refl _ _, ⟨rfl, int_is (by rw [hSn]), rfl, rfl, rfl, trivial⟩, ⟨rfl, slice_is (by rw [hSn]), trivial⟩, by omega⟩
  · have hTs : (l.take (i + 1)).filter (okT n) = (l.take i).filter (okT n) := by rw [okT_step hx0, if_neg (show ¬ okT n L = true from fun h => hLn (of_decide_eq_true (show decide (L.length = n ∧ L.Nodup) = true from h)).1), List.append_nil]
    obtain ⟨Y1, hY1e⟩ : ∃ Y1, Y1 = Y := ⟨_, rfl⟩
    have hY1o : ownI p ((l.take (i + 1)).filter (okT n)) = Y1 := by rw [hTs, hY, hY1e]
    obtain ⟨S1, hS1⟩ : ∃ S1, S1 = colsS n Y1 := ⟨_, rfl⟩
    have hS0 : colsS n Y = S1 := by rw [hS1, hY1e]
    have hSn : colsS n (ownI p ((l.take (i + 1)).filter (okT n))) = S1 := by rw [hY1o, hS1]
    have hTn : ∀ M ∈ (l.take (i + 1)).filter (okT n), M.length = n := fun M hM => (of_decide_eq_true (List.mem_filter.1 hM).2).1
    have hCo : ∀ w u, w < n → InOrb p w u → colS Y1 u = colS Y1 w := fun w u hw h => by
      rw [← hY1o]; exact (col_orb hpo hTn hw h).symm
    have hYl1 : Y1.length ≤ 9 * 40320 := by rw [hY1e]; omega
    have hzs : z ≤ sumL S1 := by rw [hz, hS0]; exact Nat.le_refl _
    have hSlen : S1.length = n := by rw [hS1, colsS_len]
    have hSl : ∀ s ∈ S1, s.length ≤ 1000000000 := fun s hs => by
      rw [hS1] at hs
      obtain ⟨v, _, rfl⟩ := mem_colsS.1 hs
      have := colS_len Y1 v
      omega
    have hSu : ∀ v, sumL (S1.take v) ≤ 5 * (9 * 40320) := fun v => by
      refine Nat.le_trans (sumL_le (b := 9 * 40320) fun s hs => ?_) ?_
      · have hs := List.mem_of_mem_take hs
        rw [hS1] at hs
        obtain ⟨v, _, rfl⟩ := mem_colsS.1 hs
        exact Nat.le_trans (colS_len Y1 v) hYl1
      · exact Nat.mul_le_mul_right _ (by rw [List.length_take]; omega)
    have hSs : sumL S1 ≤ 5 * (9 * 40320) := by have := hSu n; rwa [List.take_of_length_le (by omega)] at this
    have hsam := same15_pure S1 (by omega)
    have hcn : (S1.map dN).length = n := by rw [List.length_map]; exact hSlen
    have hnw := fnew_pure 1 0 verticesS
    rw [hS0]
    (conv => whnf)
    (repeat' ((first | refine ord_ok (by (conv => whnf); (repeat' ((first | refine at_da hld rfl ?_ | refine ify ?_ | refine ifn ?_ | refine i6 ?_ | refine ati ?_ | refine mst ?_ | refine rmd ?_ | refine ibo (fun _ => ?_) (fun _ => ?_)) <;> conv => whnf)); (all_goals (repeat' (first | exact trivial | exact rfl | refine And.intro ?_ ?_)))) ?_ | refine at_da hld rfl ?_ | refine ify ?_ | refine ifn ?_ | refine i6 ?_ | refine ati ?_ | refine mst ?_ | refine rmd ?_ | refine ibo (fun _ => ?_) (fun _ => ?_)) <;> conv => whnf))
    refine call_inline 200 [(11, .d (.int .i64 i)), (10, .d (.int .i64 (z : Nat))), (8, .d (.list 1 (R.map dIs))), (6, .own 31), (1, .d (dLL l))] c1_ok (pl := pl_mtk) (G := G_mtk) Tryz.func24 rfl Tryz.ntmps24 run_mtk cok_mtk (Nat.le_of_ble_eq_true rfl) rfl ⟨rfl, rfl, rfl, rfl, rfl, trivial⟩ rfl ?_
    intro us1
    (conv => whnf)
    (repeat' ((first | refine ord_ok (by (conv => whnf); (repeat' ((first | refine call_eq rfl hnw ?_ | refine call_eq rfl hnw ?_ | refine same_ok ?_ | refine ify ?_ | refine ifn ?_ | refine i6 ?_ | refine ati ?_ | refine mst ?_ | refine rmd ?_ | refine ibo (fun _ => ?_) (fun _ => ?_)) <;> conv => whnf)); (all_goals (repeat' (first | exact trivial | exact rfl | refine And.intro ?_ ?_)))) ?_ | refine call_eq rfl hnw ?_ | refine call_eq rfl hnw ?_ | refine same_ok ?_ | refine ify ?_ | refine ifn ?_ | refine i6 ?_ | refine ati ?_ | refine mst ?_ | refine rmd ?_ | refine ibo (fun _ => ?_) (fun _ => ?_)) <;> conv => whnf))
    refine call_inline 200 [(12, .d (dF 1 0 verticesS)), (11, .d (.int .i64 i)), (10, .d (.int .i64 (z : Nat))), (8, .d (.list 1 (R.map dIs))), (6, .own 31), (1, .d (dLL l))] c1_ok (pl := pl_dse) (G := G_dse) Tryz.func26 rfl Tryz.ntmps26 run_dse cok_dse (Nat.le_of_ble_eq_true rfl) rfl ⟨rfl, rfl, rfl, rfl, rfl, rfl, trivial⟩ rfl ?_
    intro us2
    ((conv => whnf); repeat' ((first | refine odw ?_ | refine ify ?_ | refine ifn ?_ | refine i6 ?_ | refine ati ?_ | refine mst ?_ | refine rmd ?_ | refine ibo (fun _ => ?_) (fun _ => ?_)) <;> conv => whnf))
    refine loop_lo (ι := Nat) (fun j => j ≤ n) (fun j => [(13, .d (.int .i64 j)), (12, .d (.int .i64 (S1.map dN).length)), (11, .own 29), (3, .own 300)]) (fun j => [(31, .cells 110 [.d (dPt p), .d (.list 1 (O.map dInts)), .own 29]), (200, .ghost us2 [.d (dF 1 0 verticesS), .d (.int .i64 i), .d (.int .i64 (z : Nat)), .d (.list 1 (R.map dIs)), .own 31, .d (dLL l)]), (29, .slice 22 1 (S1.map dN)), (300, .slice 22 1 ((S1.take j).map dN))]) (fun j => n - j) 0 (fun _ => rfl) (Nat.zero_le _) (.own 3 300 22 1 rfl rfl (.refl _ _)) ⟨rfl, rfl, rfl, rfl, trivial⟩ ⟨rfl, rfl, rfl, rfl, trivial⟩ ?_
    intro j hj
    refine sxCode_sound c1_ok (G := G_dse) (pl := pl_dse) _ _ _ _ (by kernel_rfl) ?_
    by_cases hjl : j < n
    · have hx := List.getElem?_eq_getElem (l := S1) (i := j) (by omega)
      have hxm := List.getElem_mem (l := S1) (n := j) (by omega)
      generalize S1[j]'(by omega) = x at hx hxm
      have hcl := cloneN_pure x (hSl x hxm)
      have hxd : (S1.map dN)[j]? = some (dN x) := by rw [List.getElem?_map, hx]; rfl
      have hfin : (S1.take j).map dN ++ [dN x] = (S1.take (j + 1)).map dN := by rw [List.take_add_one, hx, List.map_append]; rfl
      have htl : ((S1.take j).map dN).length = j := by rw [List.length_map, List.length_take]; omega
      generalize (S1.take j).map dN = Z at htl hfin ⊢
      have hxx := dN_or x
      generalize dN x = xd at hcl hxd hfin hxx
      rcases hxx with rfl | rfl <;> (conv => whnf) <;> (repeat' ((first | refine ord_ok (by (conv => whnf); (repeat' ((first | refine el_at (i := j) rfl (by omega) ?_ | refine el_is hxd ?_ | refine call_eq rfl hcl ?_ | refine ify ?_ | refine ifn ?_ | refine i6 ?_ | refine ati ?_ | refine mst ?_ | refine rmd ?_ | refine ibo (fun _ => ?_) (fun _ => ?_)) <;> conv => whnf)); (all_goals (repeat' (first | exact trivial | exact rfl | refine And.intro ?_ ?_)))) ?_ | refine el_at (i := j) rfl (by omega) ?_ | refine el_is hxd ?_ | refine call_eq rfl hcl ?_ | refine ify ?_ | refine ifn ?_ | refine i6 ?_ | refine ati ?_ | refine mst ?_ | refine rmd ?_ | refine ibo (fun _ => ?_) (fun _ => ?_)) <;> conv => whnf))
      all_goals exact ⟨j + 1, _, _, hjl, .refl _ _, ⟨rfl, rfl, rfl, rfl, trivial⟩, ⟨rfl, rfl, rfl, slice_is hfin, trivial⟩, by omega⟩
    · rw [List.take_of_length_le (show S1.length ≤ j by omega)]
      (conv => whnf)
      (repeat' ((first | refine ord_ok (by (conv => whnf); (repeat' ((first | refine same_ok ?_ | refine ify ?_ | refine ifn ?_ | refine i6 ?_ | refine ati ?_ | refine mst ?_ | refine rmd ?_ | refine ibo (fun _ => ?_) (fun _ => ?_)) <;> conv => whnf)); (all_goals (repeat' (first | exact trivial | exact rfl | refine And.intro ?_ ?_)))) ?_ | refine same_ok ?_ | refine ify ?_ | refine ifn ?_ | refine i6 ?_ | refine ati ?_ | refine mst ?_ | refine rmd ?_ | refine ibo (fun _ => ?_) (fun _ => ?_)) <;> conv => whnf))
      refine loop_lo (ι := Nat) (fun v => v ≤ n) (fun v => [(15, .d (.int .i64 v)), (14, .d (.int .i64 (sumL (S1.take v) : Nat))), (13, .d (.list 1 (S1.map dN))), (12, .d (dF 1 0 verticesS)), (11, .d (.int .i64 i)), (10, .d (.int .i64 (z : Nat))), (8, .d (.list 1 (R.map dIs))), (6, .own 31), (1, .d (dLL l))]) (fun _ => [(31, .cells 110 [.d (dPt p), .d (.list 1 (O.map dInts)), .own 29]), (29, .slice 22 1 (S1.map dN))]) (fun v => n - v) 0 (fun _ => rfl) (Nat.zero_le _) (.frz 300 rfl (.refl _ _)) ⟨rfl, rfl, rfl, rfl, rfl, rfl, rfl, rfl, rfl, trivial⟩ ⟨rfl, rfl, trivial⟩ ?_
      intro v hv
      refine sxCode_sound c1_ok (G := G_mtt) (pl := pl_mtt) _ _ _ _ (by kernel_rfl) ?_
      by_cases hvl : v < n
      · have hx := List.getElem?_eq_getElem (l := S1) (i := v) (by omega)
        have hst := sumL_step hx
        have hsb := hSu (v + 1)
        generalize hxe : S1[v]'(by omega) = x at hx hst
        have hxd : (S1.map dN)[v]? = some (dN x) := by rw [List.getElem?_map, hx]; rfl
        have hdx : (x.map dI).length = x.length := List.length_map _
        have hxx := dN_or2 x
        generalize dN x = xd at hxd hxx
        rcases hxx with ⟨rfl, hx0⟩ | rfl <;> (conv => whnf) <;> (repeat' ((first | refine ord_ok (by (conv => whnf); (repeat' ((first | refine at_da hxd rfl ?_ | refine ify ?_ | refine ifn ?_ | refine i6 ?_ | refine ati ?_ | refine mst ?_ | refine rmd ?_ | refine ibo (fun _ => ?_) (fun _ => ?_)) <;> conv => whnf)); (all_goals (repeat' (first | exact trivial | exact rfl | refine And.intro ?_ ?_)))) ?_ | refine at_da hxd rfl ?_ | refine ify ?_ | refine ifn ?_ | refine i6 ?_ | refine ati ?_ | refine mst ?_ | refine rmd ?_ | refine ibo (fun _ => ?_) (fun _ => ?_)) <;> conv => whnf))
        all_goals exact ⟨v + 1, _, _, hvl, .refl _ _, ⟨rfl, int_is (by (try simp only [List.length_nil]); omega), rfl, rfl, rfl, rfl, rfl, rfl, rfl, trivial⟩, ⟨rfl, rfl, trivial⟩, by omega⟩
      · rw [List.take_of_length_le (show S1.length ≤ v by omega)]
        (conv => whnf)
        (repeat' ((first | refine ord_ok (by (conv => whnf); (repeat' ((first | refine at_da hld rfl ?_ | refine ify ?_ | refine ifn ?_ | refine i6 ?_ | refine ati ?_ | refine mst ?_ | refine rmd ?_ | refine ibo (fun _ => ?_) (fun _ => ?_)) <;> conv => whnf)); (all_goals (repeat' (first | exact trivial | exact rfl | refine And.intro ?_ ?_)))) ?_ | refine at_da hld rfl ?_ | refine ify ?_ | refine ifn ?_ | refine i6 ?_ | refine ati ?_ | refine mst ?_ | refine rmd ?_ | refine ibo (fun _ => ?_) (fun _ => ?_)) <;> conv => whnf))
        refine call_inline 200 [(14, .d (.int .i64 (sumL S1 : Nat))), (13, .d (.list 1 (S1.map dN))), (11, .d (.int .i64 i)), (10, .d (.int .i64 (z : Nat))), (8, .d (.list 1 (R.map dIs))), (6, .own 31), (1, .d (dLL l))] c1_ok (pl := pl_mtk) (G := G_mtk) Tryz.func24 rfl Tryz.ntmps24 run_mtk cok_mtk (Nat.le_of_ble_eq_true rfl) rfl ⟨rfl, rfl, rfl, rfl, rfl, rfl, rfl, trivial⟩ rfl ?_
        intro us3
        (conv => whnf)
        (repeat' ((first | refine ord_ok (by (conv => whnf); (repeat' ((first | refine call_eq rfl hnw ?_ | refine call_eq rfl hnw ?_ | refine same_ok ?_ | refine ify ?_ | refine ifn ?_ | refine i6 ?_ | refine ati ?_ | refine mst ?_ | refine rmd ?_ | refine ibo (fun _ => ?_) (fun _ => ?_)) <;> conv => whnf)); (all_goals (repeat' (first | exact trivial | exact rfl | refine And.intro ?_ ?_)))) ?_ | refine call_eq rfl hnw ?_ | refine call_eq rfl hnw ?_ | refine same_ok ?_ | refine ify ?_ | refine ifn ?_ | refine i6 ?_ | refine ati ?_ | refine mst ?_ | refine rmd ?_ | refine ibo (fun _ => ?_) (fun _ => ?_)) <;> conv => whnf))
        refine call_inline 200 [(102, .d (.bool false)), (14, .d (.int .i64 (sumL S1 : Nat))), (13, .d (.list 1 (S1.map dN))), (11, .d (.int .i64 i)), (10, .d (.int .i64 (z : Nat))), (8, .d (.list 1 (R.map dIs))), (6, .own 31), (1, .d (dLL l))] c1_ok (pl := pl_dse) (G := G_dse) Tryz.func26 rfl Tryz.ntmps26 run_dse cok_dse (Nat.le_of_ble_eq_true rfl) rfl ⟨rfl, rfl, rfl, rfl, rfl, rfl, rfl, rfl, trivial⟩ rfl ?_
        intro us4
        ((conv => whnf); repeat' ((first | refine odw ?_ | refine ify ?_ | refine ifn ?_ | refine i6 ?_ | refine ati ?_ | refine mst ?_ | refine rmd ?_ | refine ibo (fun _ => ?_) (fun _ => ?_)) <;> conv => whnf))
        refine loop_lo (ι := Nat) (fun j => j ≤ n) (fun j => [(13, .d (.int .i64 j)), (12, .d (.int .i64 (S1.map dN).length)), (11, .own 29), (3, .own 300)]) (fun j => [(31, .cells 110 [.d (dPt p), .d (.list 1 (O.map dInts)), .own 29]), (200, .ghost us4 [.d (.bool false), .d (.int .i64 (sumL S1 : Nat)), .d (.list 1 (S1.map dN)), .d (.int .i64 i), .d (.int .i64 (z : Nat)), .d (.list 1 (R.map dIs)), .own 31, .d (dLL l)]), (29, .slice 22 1 (S1.map dN)), (300, .slice 22 1 ((S1.take j).map dN))]) (fun j => n - j) 0 (fun _ => rfl) (Nat.zero_le _) (.own 3 300 22 1 rfl rfl (.refl _ _)) ⟨rfl, rfl, rfl, rfl, trivial⟩ ⟨rfl, rfl, rfl, rfl, trivial⟩ ?_
        intro j hj
        refine sxCode_sound c1_ok (G := G_dse) (pl := pl_dse) _ _ _ _ (by kernel_rfl) ?_
        by_cases hjl : j < n
        · have hx := List.getElem?_eq_getElem (l := S1) (i := j) (by omega)
          have hxm := List.getElem_mem (l := S1) (n := j) (by omega)
          generalize S1[j]'(by omega) = x at hx hxm
          have hcl := cloneN_pure x (hSl x hxm)
          have hxd : (S1.map dN)[j]? = some (dN x) := by rw [List.getElem?_map, hx]; rfl
          have hfin : (S1.take j).map dN ++ [dN x] = (S1.take (j + 1)).map dN := by rw [List.take_add_one, hx, List.map_append]; rfl
          have htl : ((S1.take j).map dN).length = j := by rw [List.length_map, List.length_take]; omega
          generalize (S1.take j).map dN = Z at htl hfin ⊢
          have hxx := dN_or x
          generalize dN x = xd at hcl hxd hfin hxx
          rcases hxx with rfl | rfl <;> (conv => whnf) <;> (repeat' ((first | refine ord_ok (by (conv => whnf); (repeat' ((first | refine el_at (i := j) rfl (by omega) ?_ | refine el_is hxd ?_ | refine call_eq rfl hcl ?_ | refine ify ?_ | refine ifn ?_ | refine i6 ?_ | refine ati ?_ | refine mst ?_ | refine rmd ?_ | refine ibo (fun _ => ?_) (fun _ => ?_)) <;> conv => whnf)); (all_goals (repeat' (first | exact trivial | exact rfl | refine And.intro ?_ ?_)))) ?_ | refine el_at (i := j) rfl (by omega) ?_ | refine el_is hxd ?_ | refine call_eq rfl hcl ?_ | refine ify ?_ | refine ifn ?_ | refine i6 ?_ | refine ati ?_ | refine mst ?_ | refine rmd ?_ | refine ibo (fun _ => ?_) (fun _ => ?_)) <;> conv => whnf))
          all_goals exact ⟨j + 1, _, _, hjl, .refl _ _, ⟨rfl, rfl, rfl, rfl, trivial⟩, ⟨rfl, rfl, rfl, slice_is hfin, trivial⟩, by omega⟩
        · rw [List.take_of_length_le (show S1.length ≤ j by omega)]
          (conv => whnf)
          (repeat' ((first | refine ord_ok (by (conv => whnf); (repeat' ((first | refine same_ok ?_ | refine call_frz 300 rfl ?_ | refine call_eq rfl hsam ?_ | refine ify ?_ | refine ifn ?_ | refine i6 ?_ | refine ati ?_ | refine mst ?_ | refine rmd ?_ | refine ibo (fun _ => ?_) (fun _ => ?_)) <;> conv => whnf)); (all_goals (repeat' (first | exact trivial | exact rfl | refine And.intro ?_ ?_)))) ?_ | refine same_ok ?_ | refine call_frz 300 rfl ?_ | refine call_eq rfl hsam ?_ | refine ify ?_ | refine ifn ?_ | refine i6 ?_ | refine ati ?_ | refine mst ?_ | refine rmd ?_ | refine ibo (fun _ => ?_) (fun _ => ?_)) <;> conv => whnf))
          refine loop_lo (ι := Nat) (fun k => k ≤ R.length) (fun k => [(16, .d (.int .i64 k)), (13, .d (.list 1 (S1.map dN))), (11, .d (.int .i64 i)), (10, .d (.int .i64 (sumL S1 : Nat))), (8, .d (.list 1 (R.map dIs))), (6, .own 31), (1, .d (dLL l))]) (fun _ => [(31, .cells 110 [.d (dPt p), .d (.list 1 (O.map dInts)), .own 29]), (29, .slice 22 1 (S1.map dN))]) (fun k => R.length - k) 0 (fun _ => rfl) (Nat.zero_le _) (.refl _ _) ⟨rfl, rfl, rfl, rfl, rfl, rfl, rfl, trivial⟩ ⟨rfl, rfl, trivial⟩ ?_
          intro k hk
          refine sxCode_sound c1_ok (G := G_mtt) (pl := pl_mtt) _ _ _ _ (by kernel_rfl) ?_
          by_cases hkl : k < R.length
          · have hr := List.getElem?_eq_getElem hkl
            generalize R[k] = r at hr
            have hrd : (R.map dIs)[k]? = some (dIs r) := by rw [List.getElem?_map, hr]; rfl
            obtain ⟨w, hw, hr0, hrm⟩ := hRa k r hr
            have hdr : (r.map dI).length = r.length := List.length_map _
            have hr0d : (r.map dI)[0]? = some (.int .i64 (w : Nat)) := by rw [List.getElem?_map, hr0]; rfl
            have hwd : (S1.map dN)[w]? = some (dN (colS Y1 w)) := by rw [List.getElem?_map, hS1, colsS_at hw]; rfl
            (conv => whnf)
            (repeat' ((first | refine ord_ok (by (conv => whnf); (repeat' ((first | refine at_da hrd rfl ?_ | refine ify ?_ | refine ifn ?_ | refine i6 ?_ | refine ati ?_ | refine mst ?_ | refine rmd ?_ | refine ibo (fun _ => ?_) (fun _ => ?_)) <;> conv => whnf)); (all_goals (repeat' (first | exact trivial | exact rfl | refine And.intro ?_ ?_)))) ?_ | refine at_da hrd rfl ?_ | refine ify ?_ | refine ifn ?_ | refine i6 ?_ | refine ati ?_ | refine mst ?_ | refine rmd ?_ | refine ibo (fun _ => ?_) (fun _ => ?_)) <;> conv => whnf))
            refine loop_lo (ι := Nat) (fun v => 1 ≤ v) (fun v => [(17, .d (.int .i64 v)), (16, .d (.int .i64 k)), (13, .d (.list 1 (S1.map dN))), (11, .d (.int .i64 i)), (10, .d (.int .i64 (sumL S1 : Nat))), (8, .d (.list 1 (R.map dIs))), (6, .own 31), (1, .d (dLL l))]) (fun _ => [(31, .cells 110 [.d (dPt p), .d (.list 1 (O.map dInts)), .own 29]), (29, .slice 22 1 (S1.map dN))]) (fun v => r.length - v) 1 (fun _ => rfl) (Nat.le_refl _) (.refl _ _) ⟨rfl, rfl, rfl, rfl, rfl, rfl, rfl, rfl, trivial⟩ ⟨rfl, rfl, trivial⟩ ?_
            intro v hv1
            refine sxCode_sound c1_ok (G := G_mtt) (pl := pl_mtt) _ _ _ _ (by kernel_rfl) ?_
            by_cases hvl : v < r.length
            · have hu := List.getElem?_eq_getElem hvl
              obtain ⟨u, hue, huo⟩ := hrm _ (List.getElem_mem hvl)
              rw [hue] at hu
              have hul := orb_lt hpo hw huo
              have hud : (r.map dI)[v]? = some (.int .i64 (u : Nat)) := by rw [List.getElem?_map, hu]; rfl
              have huS : (S1.map dN)[u]? = some (dN (colS Y1 w)) := by rw [List.getElem?_map, hS1, colsS_at hul, hCo w u hw huo]; rfl
              have hsm := sameN (colS Y1 w)
              have hxx := dN_or (colS Y1 w)
              generalize dN (colS Y1 w) = xd at hwd huS hsm hxx
              have hrb := hRl r (List.mem_of_getElem? hr)
              rcases hxx with rfl | rfl <;> (conv => whnf) <;> (repeat' ((first | refine ord_ok (by (conv => whnf); (repeat' ((first | refine at_da hrd rfl ?_ | refine at_da hr0d rfl ?_ | refine at_da hud rfl ?_ | refine at_da hwd rfl ?_ | refine at_da huS rfl ?_ | refine call_eq rfl hsm ?_ | refine ify ?_ | refine ifn ?_ | refine i6 ?_ | refine ati ?_ | refine mst ?_ | refine rmd ?_ | refine ibo (fun _ => ?_) (fun _ => ?_)) <;> conv => whnf)); (all_goals (repeat' (first | exact trivial | exact rfl | refine And.intro ?_ ?_)))) ?_ | refine at_da hrd rfl ?_ | refine at_da hr0d rfl ?_ | refine at_da hud rfl ?_ | refine at_da hwd rfl ?_ | refine at_da huS rfl ?_ | refine call_eq rfl hsm ?_ | refine ify ?_ | refine ifn ?_ | refine i6 ?_ | refine ati ?_ | refine mst ?_ | refine rmd ?_ | refine ibo (fun _ => ?_) (fun _ => ?_)) <;> conv => whnf))
              all_goals exact ⟨v + 1, _, _, by omega, .refl _ _, ⟨rfl, rfl, rfl, rfl, rfl, rfl, rfl, rfl, trivial⟩, ⟨rfl, rfl, trivial⟩, by omega⟩
            · (conv => whnf)
              (repeat' ((first | refine ord_ok (by (conv => whnf); (repeat' ((first | refine at_da hrd rfl ?_ | refine ify ?_ | refine ifn ?_ | refine i6 ?_ | refine ati ?_ | refine mst ?_ | refine rmd ?_ | refine ibo (fun _ => ?_) (fun _ => ?_)) <;> conv => whnf)); (all_goals (repeat' (first | exact trivial | exact rfl | refine And.intro ?_ ?_)))) ?_ | refine at_da hrd rfl ?_ | refine ify ?_ | refine ifn ?_ | refine i6 ?_ | refine ati ?_ | refine mst ?_ | refine rmd ?_ | refine ibo (fun _ => ?_) (fun _ => ?_)) <;> conv => whnf))
              exact ⟨k + 1, _, _, hkl, .refl _ _, ⟨rfl, rfl, rfl, rfl, rfl, rfl, rfl, trivial⟩, ⟨rfl, rfl, trivial⟩, by omega⟩
          · ((conv => whnf); repeat' ((first | refine odw ?_ | refine ify ?_ | refine ifn ?_ | refine i6 ?_ | refine ati ?_ | refine mst ?_ | refine rmd ?_ | refine ibo (fun _ => ?_) (fun _ => ?_)) <;> conv => whnf))
            exact ⟨i + 1, _, _, hil, .refl _ _, ⟨rfl, int_is (by rw [hSn]), rfl, rfl, rfl, trivial⟩, ⟨rfl, slice_is (by rw [hSn]), trivial⟩, by omega⟩
end Go.Proofs.YteigfapjiekdnaaGreatDoor
end
