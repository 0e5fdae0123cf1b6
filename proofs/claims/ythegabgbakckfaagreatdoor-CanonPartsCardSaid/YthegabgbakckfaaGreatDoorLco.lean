/- CanonOrbits: the walk. -/
import Derived.Test.YthegabgbakckfaaGreatDoorOrb
namespace Go.Gr
open Go.Proofs.YthegabgbakckfaaGreatDoor Go.Sx
/-- which vertices stand in Z -/
def seenD (n : Nat) (Z : List Int) : List Da := (List.range n).map fun u : Nat => Da.bool (decide ((u : Int) ∈ Z))
theorem seenD_len (n : Nat) (Z : List Int) : (seenD n Z).length = n := by unfold seenD; simp
theorem seenD_at {n : Nat} {Z : List Int} {u : Nat} (h : u < n) : (seenD n Z)[u]? = some (.bool (decide ((u : Int) ∈ Z))) := by unfold seenD; simp [h]
theorem seenD_set {n : Nat} {Z : List Int} {u : Nat} (h : u < n) : (seenD n Z).set u (.bool true) = seenD n (Z ++ [(u : Int)]) := by
  unfold seenD
  apply List.ext_getElem?
  intro i
  rw [List.getElem?_set]
  by_cases hi : u = i
  · subst hi
    rw [if_pos rfl]
    simp [h]
  · rw [if_neg hi]
    by_cases hin : i < n
    · have : (i : Int) ≠ u := by omega
      simp [hin, this]
    · simp [hin]
theorem seen_no {O : List (List Int)} {i k : Nat} {l : List Int} {v : Int} (hn : O.flatten.Nodup) (hl : O[i]? = some l) (hv : l[k]? = some v) : v ∉ (O.take i).flatten ++ l.take k := by
  obtain ⟨hi, e⟩ := List.getElem?_eq_some_iff.1 hl
  obtain ⟨hk, e2⟩ := List.getElem?_eq_some_iff.1 hv
  have h1 : O.flatten = (O.take i).flatten ++ (l ++ (O.drop (i + 1)).flatten) := by
    conv => lhs; rw [← List.take_append_drop i O, List.drop_eq_getElem_cons hi, e]
    rw [List.flatten_append, List.flatten_cons]
  have h2 : l = l.take k ++ (v :: l.drop (k + 1)) := by
    conv => lhs; rw [← List.take_append_drop k l, List.drop_eq_getElem_cons hk, e2]
  rw [h1] at hn
  have h3 : ((O.take i).flatten ++ l).Nodup := by
    rw [← List.append_assoc] at hn
    exact (List.nodup_append.1 hn).1
  rw [h2, ← List.append_assoc] at h3
  intro hm
  exact (List.nodup_append.1 h3).2.2 v hm v (by simp) rfl
theorem flat_snoc {O : List (List Int)} {i : Nat} {l : List Int} (hl : O[i]? = some l) : (O.take (i + 1)).flatten = (O.take i).flatten ++ l := by
  rw [List.take_add_one, hl, Option.toList_some, List.flatten_append]; simp
def memT (X : List (List Int)) (b : List Int) (k : Nat) : Bool := decide (b ∈ X.take k)
theorem memT_succ {X : List (List Int)} {b x : List Int} {k : Nat} (h : X[k]? = some x) : memT X b (k + 1) = (memT X b k || decide (x = b)) := by
  unfold memT
  rw [List.take_add_one, h, Option.toList_some]
  by_cases e : x = b
  · subst e; simp
  · have : b ≠ x := fun h => e h.symm
    simp [e, this]
theorem memT_all {X : List (List Int)} {b : List Int} {k : Nat} (h : b ∈ X) (hk : X.length ≤ k) : memT X b k = true := by
  unfold memT; rw [List.take_of_length_le hk]; exact decide_eq_true h
theorem idL_nodup (n : Nat) : (idL n).Nodup := (idL_ord n).2.2
end Go.Gr
namespace Go.Proofs.YthegabgbakckfaaGreatDoor
open Go.Sx Go.RowKit Go.Reg Go.Gr

set_option maxRecDepth 100000
def pl_lob : List (Nat × Plan) := [(8, .leaf [0, 0, 0, 0, 0, 0, 0, 0, 0, 0, 0, 0, 0, 0, 1, 0, 1, 0, 2, 2, 0, 0] [0, 1, 2, 3, 4, 5, 6, 7, 8, 9, 10, 11, 12, 13, 15, 14, 16, 17, 18, 19, 20, 21] [0, 1, 3, 7, 15, 31, 63, 127, 255, 511, 1023, 2047, 4095, 8191, 16383, 4095, 36863, 102399, 233471, 524287, 1048575, 2097151]),
  (18, .leaf [0, 0, 0, 1, 0, 0, 1, 0, 0, 1, 0, 1, 0, 0, 0, 1, 0, 1, 0, 1, 0, 0, 0, 1, 0, 2, 1, 0, 0, 0, 1, 0, 1, 2, 0, 0, 0, 0, 0, 0, 0, 0, 1, 0, 0, 0, 0] [0, 1, 2, 3, 4, 5, 7, 10, 12, 13, 14, 6, 8, 9, 11, 15, 16, 17, 18, 19, 20, 21, 22, 24, 27, 28, 29, 23, 26, 30, 31, 32, 25, 33, 34, 35, 36, 37, 38, 39, 40, 41, 42, 43, 44, 45, 46] [0, 0, 3, 7, 15, 31, 63, 31, 255, 511, 31, 1055, 31, 31, 12319, 28703, 61471, 127007, 261151, 523295, 1048575, 2097151, 4194303, 8388607, 8388607, 33554431, 8388607, 8388607, 8388607, 411041791, 947912703, 2021654527, 4169138175, 8589934591, 17179869183, 34359738367, 68719476735, 137438953471, 274877906943, 137438953471, 137438953471, 1786706395135, 3985729650687, 8383776161791, 17592186044415, 35184372088831, 70368744177663]),
  (25, .leaf [0, 0, 0, 1, 0, 0, 0, 0, 0, 1, 2, 0, 0, 0, 0, 0] [0, 1, 2, 4, 5, 6, 7, 8, 3, 9, 10, 11, 12, 13, 14, 15] [0, 0, 3, 7, 0, 0, 32, 96, 240, 496, 1023, 2047, 4095, 4095, 8191, 32767])]
def G_lob : List FuncId := [20, 21, 16, 39, 41, 19, 46, 44, 47, 48]
theorem cok_lob : codeOk Tryz.prog G_lob pl_lob (Tryz.f9.body.getD .skip) = true := by kernel_rfl
theorem run_lob (vs : Array Value) (w : World) : (callFunc 9 vs).run C1.P w = .ok (.enter 9 vs) w := by kernel_rfl
set_option maxHeartbeats 16000000 in
theorem lorbits_pure (p : Pt) : Sx.Pure C3 9 [dPt p] (fun y => y = .bool true) := by
  have hal := lalive_pure
  have hsm := Pure.up3 (lsmall_pure p 6)
  refine pure_of c3_ok (pl := pl_lob) (G := G_lob) Tryz.func9 rfl Tryz.ntmps9 run_lob cok_lob (by simp) ?_
  by_cases hs : pErr p = none ∧ (p.labels.length : Int) ≤ 6
  · rw [decide_eq_true hs] at hsm
    obtain ⟨hp, h6⟩ := hs
    have hE := pt_edges hp
    have hof := Pure.up3 (lawpt_pure p (by omega))
    have hpo := pt_of hp
    have hdl : (p.labels.map dI).length = p.labels.length := List.length_map _
    have w1 := Pure.up3 (own_pure hp (by omega))
    have w2 := Pure.up3 (orbits_pure hp rfl)
    obtain ⟨n, hn⟩ : ∃ n, p.labels.length = n := ⟨_, rfl⟩
    rw [hn] at hpo w2
    have hid : Sx.Pure C3 46 [.int .i64 (p.labels.map dI).length] (fun y => y = dIs (idL n)) := by rw [hdl, hn]; exact Pure.up3 (permid_pure _ (by omega))
    have hsa := Pure.up3 (same_pure (idL n) (idL n))
    rw [decide_eq_true rfl] at hsa
    have hXo : ∀ o ∈ mapsP p p, IsOrd n o := fun o ho => own_ord hpo ho
    have hXb : ∀ o ∈ mapsP p p, backL o ∈ mapsP p p := fun o ho => own_back hpo ho
    have hXt : ∀ o ∈ mapsP p p, ∀ u ∈ mapsP p p, thenL o u ∈ mapsP p p := fun o ho u hu => own_then hpo ho hu
    have hXc : ∀ {v : Nat}, v < n → ∃ k, (mapsP p p).length = (orbS p v).length * k := fun hv => orbS_count hpo hv
    have hX0 := own_first hpo
    have hlp := maps_le p p (by omega)
    have hOa : ∀ {i : Nat} {l : List Int}, (orbsU p n)[i]? = some l → ∃ w : Nat, w < n ∧ firstV p w = true ∧ l = orbS p w := fun h => by
      obtain ⟨w, _, h1, h2, h3⟩ := orbs_at h; exact ⟨w, h1, h2, h3⟩
    have hOn : (orbsU p n).flatten.Nodup := (orbs_all hpo).nodup_iff.2 (idL_nodup n)
    have hOl := orbsU_len p n
    generalize mapsP p p = X at w1 hXo hXb hXt hXc hX0 hlp
    generalize orbsU p n = O at w2 hOa hOn hOl
    have hdX : (X.map dInts).length = X.length := List.length_map _
    have hdO : (O.map dIs).length = O.length := List.length_map _
    have hXp : 0 < X.length := (List.getElem?_eq_some_iff.1 hX0).1
    have h0d : (X.map dInts)[0]? = some (dIs (idL n)) := by rw [List.getElem?_map, hX0]; rfl
    (conv => whnf)
    (repeat' ((first | refine ord_ok (by (conv => whnf); (repeat' ((first | refine call_eq rfl hal ?_ | refine call_eq rfl hsm ?_ | refine call_eq rfl hof ?_ | refine call_eq rfl w1 ?_ | refine call_eq rfl w2 ?_ | refine at_da h0d rfl ?_ | refine call_eq rfl hid ?_ | refine call_eq rfl hsa ?_ | refine mk_ok n (by omega) (by omega) (by omega) ?_ | refine ify ?_ | refine ifn ?_ | refine i6 ?_ | refine ati ?_ | refine mst ?_ | refine rmd ?_ | refine ibo (fun _ => ?_) (fun _ => ?_)) <;> conv => whnf)); (all_goals (repeat' (first | exact trivial | exact rfl | refine And.intro ?_ ?_)))) ?_ | refine call_eq rfl hal ?_ | refine call_eq rfl hsm ?_ | refine call_eq rfl hof ?_ | refine call_eq rfl w1 ?_ | refine call_eq rfl w2 ?_ | refine at_da h0d rfl ?_ | refine call_eq rfl hid ?_ | refine call_eq rfl hsa ?_ | refine mk_ok n (by omega) (by omega) (by omega) ?_ | refine ify ?_ | refine ifn ?_ | refine i6 ?_ | refine ati ?_ | refine mst ?_ | refine rmd ?_ | refine ibo (fun _ => ?_) (fun _ => ?_)) <;> conv => whnf))
    refine loop_lo (ι := Nat) (fun i => i ≤ O.length) (fun i => [(9, .d (.int .i64 i)), (8, .own 62), (6, .d (.list 1 (O.map dIs))), (4, .d (.list 1 (X.map dInts))), (3, .own 3), (1, .own 1)]) (fun i => [(1, .cells 25 [.d (dIs p.labels), .d (dEs p.edges)]), (3, .cells 35 [.d (dIs p.labels), .d (dEs p.edges)]), (62, .slice 4 1 (seenD n (O.take i).flatten))]) (fun i => O.length - i) 0 (fun _ => rfl) (Nat.zero_le _) (.refl _ _) ⟨rfl, rfl, rfl, rfl, rfl, rfl, trivial⟩ ⟨rfl, rfl, slice_is (by apply List.ext_getElem?; intro i; by_cases hi : i < n <;> simp [hi, seenD]), trivial⟩ ?_
    intro i hi
    refine sxCode_sound c3_ok (G := G_lob) (pl := pl_lob) _ _ _ _ (by kernel_rfl) ?_
    by_cases hil : i < O.length
    · have hx := List.getElem?_eq_getElem hil
      generalize O[i] = l at hx
      obtain ⟨w, hw, hf, rfl⟩ := hOa hx
      have hxd : (O.map dIs)[i]? = some (dIs (orbS p w)) := by rw [List.getElem?_map, hx]; rfl
      have hhd := orbS_head hpo hw hf
      have hlm : ∀ x ∈ orbS p w, ∃ u : Nat, x = u ∧ InOrb p w u := fun x hx => (mem_orbS hpo hw).1 hx
      obtain ⟨c, hc⟩ := hXc hw
      have hno := fun {k : Nat} {v : Int} => seen_no (k := k) (v := v) hOn hx
      have hfl := flat_snoc hx
      generalize orbS p w = l at hx hxd hhd hlm hc hno hfl
      have hdL : (l.map dI).length = l.length := List.length_map _
      have hll : 0 < l.length := (List.getElem?_eq_some_iff.1 hhd).1
      have hlX : l.length ≤ X.length := by
        rw [hc]
        exact Nat.le_mul_of_pos_right _ (Nat.pos_of_ne_zero fun h => by rw [h] at hc; omega)
      have hmod : ((X.map dInts).length : Int).tmod ((l.map dI).length : Int) = 0 := by
        rw [hdX, hdL, Int.tmod_eq_emod_of_nonneg (by omega), ← Int.natCast_emod, hc, Nat.mul_mod_right]; rfl
      have hhdd : (l.map dI)[0]? = some (.int .i64 w) := by rw [List.getElem?_map, hhd]; rfl
      (conv => whnf)
      (repeat' ((first | refine ord_ok (by (conv => whnf); (repeat' ((first | refine at_da hxd rfl ?_ | refine ify ?_ | refine ifn ?_ | refine i6 ?_ | refine ati ?_ | refine mst ?_ | refine rmd ?_ | refine ibo (fun _ => ?_) (fun _ => ?_)) <;> conv => whnf)); (all_goals (repeat' (first | exact trivial | exact rfl | refine And.intro ?_ ?_)))) ?_ | refine at_da hxd rfl ?_ | refine ify ?_ | refine ifn ?_ | refine i6 ?_ | refine ati ?_ | refine mst ?_ | refine rmd ?_ | refine ibo (fun _ => ?_) (fun _ => ?_)) <;> conv => whnf))
      refine loop_lo (ι := Nat) (fun k => k ≤ l.length) (fun k => [(10, .d (.int .i64 k)), (9, .d (.int .i64 i)), (8, .own 62), (6, .d (.list 1 (O.map dIs))), (4, .d (.list 1 (X.map dInts))), (3, .own 3), (1, .own 1)]) (fun k => [(1, .cells 25 [.d (dIs p.labels), .d (dEs p.edges)]), (3, .cells 35 [.d (dIs p.labels), .d (dEs p.edges)]), (62, .slice 4 1 (seenD n ((O.take i).flatten ++ l.take k)))]) (fun k => l.length - k) 0 (fun _ => rfl) (Nat.zero_le _) (.refl _ _) ⟨rfl, rfl, rfl, rfl, rfl, rfl, rfl, trivial⟩ ⟨rfl, rfl, slice_is (by rw [List.take_zero, List.append_nil]), trivial⟩ ?_
      intro k hk
      refine sxCode_sound c3_ok (G := G_lob) (pl := pl_lob) _ _ _ _ (by kernel_rfl) ?_
      by_cases hkl : k < l.length
      · have hv := List.getElem?_eq_getElem hkl
        obtain ⟨u, hu, ho⟩ := hlm _ (List.getElem_mem hkl)
        generalize l[k] = v at hv hu
        subst hu
        have hul := orb_lt hpo hw ho
        have hvd : (l.map dI)[k]? = some (.int .i64 u) := by rw [List.getElem?_map, hv]; rfl
        have hlab := orb_label hpo hw ho
        have hy := List.getElem?_eq_getElem (l := p.labels) (i := w) (by omega)
        generalize p.labels[w]'(by omega) = y at hy
        have hyw : (p.labels.map dI)[w]? = some (.int .i64 y) := by rw [List.getElem?_map, hy]; rfl
        have hyu : (p.labels.map dI)[u]? = some (.int .i64 y) := by rw [List.getElem?_map, hlab, hy]; rfl
        have d1 := Pure.up3 (pdegree_pure p u (by omega))
        have d2 := Pure.up3 (pdegree_pure p w (by omega))
        rw [orb_deg hpo hw ho] at d1
        generalize degE p.edges w = dg at d1 d2
        have hsl := seenD_len n ((O.take i).flatten ++ l.take k)
        have hsd := seenD_at (Z := (O.take i).flatten ++ l.take k) hul
        have hset := seenD_set (Z := (O.take i).flatten ++ l.take k) hul
        rw [decide_eq_false (hno hv)] at hsd
        have htk : l.take (k + 1) = l.take k ++ [(u : Int)] := by rw [List.take_add_one, hv]; rfl
        generalize hZ : (O.take i).flatten ++ l.take k = Z at hsl hsd hset ⊢
        have hfin : (seenD n Z).set u (.bool true) = seenD n ((O.take i).flatten ++ l.take (k + 1)) := by
          rw [hset, htk, ← List.append_assoc, hZ]
        (conv => whnf)
        (repeat' ((first | refine ord_ok (by (conv => whnf); (repeat' ((first | refine at_da hxd rfl ?_ | refine at_da hvd rfl ?_ | refine at_da hhdd rfl ?_ | refine el_at (i := u) rfl (by omega) ?_ | refine el_is hsd ?_ | refine at_da hyu rfl ?_ | refine at_da hyw rfl ?_ | refine call_eq rfl d1 ?_ | refine call_eq rfl d2 ?_ | refine ify ?_ | refine ifn ?_ | refine i6 ?_ | refine ati ?_ | refine mst ?_ | refine rmd ?_ | refine ibo (fun _ => ?_) (fun _ => ?_)) <;> conv => whnf)); (all_goals (repeat' (first | exact trivial | exact rfl | refine And.intro ?_ ?_)))) ?_ | refine at_da hxd rfl ?_ | refine at_da hvd rfl ?_ | refine at_da hhdd rfl ?_ | refine el_at (i := u) rfl (by omega) ?_ | refine el_is hsd ?_ | refine at_da hyu rfl ?_ | refine at_da hyw rfl ?_ | refine call_eq rfl d1 ?_ | refine call_eq rfl d2 ?_ | refine ify ?_ | refine ifn ?_ | refine i6 ?_ | refine ati ?_ | refine mst ?_ | refine rmd ?_ | refine ibo (fun _ => ?_) (fun _ => ?_)) <;> conv => whnf))
        exact ⟨k + 1, _, _, hkl, .refl _ _, ⟨rfl, rfl, rfl, rfl, rfl, rfl, rfl, trivial⟩, ⟨rfl, rfl, slice_is hfin, trivial⟩, by omega⟩
      · have e : l.take k = l := List.take_of_length_le (by omega)
        rw [e, ← hfl]
        (conv => whnf)
        (repeat' ((first | refine ord_ok (by (conv => whnf); (repeat' ((first | refine at_da hxd rfl ?_ | refine ify ?_ | refine ifn ?_ | refine i6 ?_ | refine ati ?_ | refine mst ?_ | refine rmd ?_ | refine ibo (fun _ => ?_) (fun _ => ?_)) <;> conv => whnf)); (all_goals (repeat' (first | exact trivial | exact rfl | refine And.intro ?_ ?_)))) ?_ | refine at_da hxd rfl ?_ | refine ify ?_ | refine ifn ?_ | refine i6 ?_ | refine ati ?_ | refine mst ?_ | refine rmd ?_ | refine ibo (fun _ => ?_) (fun _ => ?_)) <;> conv => whnf))
        exact ⟨i + 1, _, _, hil, .refl _ _, ⟨rfl, rfl, rfl, rfl, rfl, rfl, trivial⟩, ⟨rfl, rfl, rfl, trivial⟩, by omega⟩
    · clear hOa hOn w2 hXc hid hsa hal hof hsm
      ((conv => whnf); repeat' ((first | refine odw ?_ | refine ify ?_ | refine ifn ?_ | refine i6 ?_ | refine ati ?_ | refine mst ?_ | refine rmd ?_ | refine ibo (fun _ => ?_) (fun _ => ?_)) <;> conv => whnf))
      refine loop_lo (ι := Nat) (fun i => i ≤ X.length) (fun i => [(12, .d (.int .i64 i)), (4, .d (.list 1 (X.map dInts)))]) (fun _ => []) (fun i => X.length - i) 0 (fun _ => rfl) (Nat.zero_le _) (.refl _ _) ⟨rfl, rfl, trivial⟩ trivial ?_
      intro j hj
      refine sxCode_sound c3_ok (G := G_lob) (pl := pl_lob) _ _ _ _ (by kernel_rfl) ?_
      by_cases hjl : j < X.length
      · by_cases hj12 : j < 12
        · have hx := List.getElem?_eq_getElem hjl
          have hxm := List.getElem_mem hjl
          generalize X[j] = o at hx hxm
          have hz := List.getElem?_eq_getElem (l := X) (i := X.length - 1) (by omega)
          have hzm := List.getElem_mem (l := X) (n := X.length - 1) (by omega)
          generalize X[X.length - 1]'(by omega) = z at hz hzm
          have hxd : (X.map dInts)[j]? = some (dIs o) := by rw [List.getElem?_map, hx]; rfl
          have hzd : (X.map dInts)[X.length - 1]? = some (dIs z) := by rw [List.getElem?_map, hz]; rfl
          have b1 := Pure.up3 (permback_pure (hXo o hxm) (by omega))
          have b2 := Pure.up3 (permthen_pure (hXo o hxm) (hXo z hzm) (by omega))
          have m1 := hXb o hxm
          have m2 := hXt o hxm z hzm
          generalize backL o = bk at b1 m1
          generalize thenL o z = bo at b2 m2
          (conv => whnf)
          (repeat' ((first | refine ord_ok (by (conv => whnf); (repeat' ((first | refine at_da hxd rfl ?_ | refine at_da hzd (by omega) ?_ | refine call_eq rfl b1 ?_ | refine call_eq rfl b2 ?_ | refine ify ?_ | refine ifn ?_ | refine i6 ?_ | refine ati ?_ | refine mst ?_ | refine rmd ?_ | refine ibo (fun _ => ?_) (fun _ => ?_)) <;> conv => whnf)); (all_goals (repeat' (first | exact trivial | exact rfl | refine And.intro ?_ ?_)))) ?_ | refine at_da hxd rfl ?_ | refine at_da hzd (by omega) ?_ | refine call_eq rfl b1 ?_ | refine call_eq rfl b2 ?_ | refine ify ?_ | refine ifn ?_ | refine i6 ?_ | refine ati ?_ | refine mst ?_ | refine rmd ?_ | refine ibo (fun _ => ?_) (fun _ => ?_)) <;> conv => whnf))
          refine loop_lo (ι := Nat) (fun k => k ≤ X.length) (fun k => [(19, .d (.int .i64 k)), (18, .d (.bool (memT X bo k))), (17, .d (.bool (memT X bk k))), (15, .d (dIs bo)), (13, .d (dIs bk)), (12, .d (.int .i64 j)), (4, .d (.list 1 (X.map dInts)))]) (fun _ => []) (fun k => X.length - k) 0 (fun _ => rfl) (Nat.zero_le _) (.refl _ _) ⟨rfl, rfl, rfl, rfl, rfl, rfl, rfl, trivial⟩ trivial ?_
          intro k hk
          refine sxCode_sound c3_ok (G := G_lob) (pl := pl_lob) _ _ _ _ (by kernel_rfl) ?_
          by_cases hkl : k < X.length
          · have hq := List.getElem?_eq_getElem hkl
            generalize X[k] = q at hq
            have hqd : (X.map dInts)[k]? = some (dIs q) := by rw [List.getElem?_map, hq]; rfl
            have s1 := Pure.up3 (same_pure q bk)
            have s2 := Pure.up3 (same_pure q bo)
            have e1 := memT_succ (b := bk) hq
            have e2 := memT_succ (b := bo) hq
            generalize decide (q = bk) = t1 at s1 e1
            generalize decide (q = bo) = t2 at s2 e2
            generalize memT X bk k = u1 at e1 ⊢
            generalize memT X bo k = u2 at e2 ⊢
            cases u1 <;> cases u2 <;> simp only [Bool.true_or, Bool.false_or] at e1 e2
            all_goals (conv => whnf)
            all_goals (repeat' ((first | refine ord_ok (by (conv => whnf); (repeat' ((first | refine at_da hqd rfl ?_ | refine call_eq rfl s1 ?_ | refine call_eq rfl s2 ?_ | refine ify ?_ | refine ifn ?_ | refine i6 ?_ | refine ati ?_ | refine mst ?_ | refine rmd ?_ | refine ibo (fun _ => ?_) (fun _ => ?_)) <;> conv => whnf)); (all_goals (repeat' (first | exact trivial | exact rfl | refine And.intro ?_ ?_)))) ?_ | refine at_da hqd rfl ?_ | refine call_eq rfl s1 ?_ | refine call_eq rfl s2 ?_ | refine ify ?_ | refine ifn ?_ | refine i6 ?_ | refine ati ?_ | refine mst ?_ | refine rmd ?_ | refine ibo (fun _ => ?_) (fun _ => ?_)) <;> conv => whnf))
            all_goals exact ⟨k + 1, _, _, hkl, .refl _ _, ⟨rfl, by dsimp only; rw [e2]; rfl, by dsimp only; rw [e1]; rfl, rfl, rfl, rfl, rfl, trivial⟩, trivial, by omega⟩
          · rw [memT_all m1 (by omega), memT_all m2 (by omega)]
            ((conv => whnf); repeat' ((first | refine odw ?_ | refine ify ?_ | refine ifn ?_ | refine i6 ?_ | refine ati ?_ | refine mst ?_ | refine rmd ?_ | refine ibo (fun _ => ?_) (fun _ => ?_)) <;> conv => whnf))
            exact ⟨j + 1, _, _, hjl, .refl _ _, ⟨rfl, rfl, trivial⟩, trivial, by omega⟩
        · ((conv => whnf); repeat' ((first | refine odw ?_ | refine ify ?_ | refine ifn ?_ | refine i6 ?_ | refine ati ?_ | refine mst ?_ | refine rmd ?_ | refine ibo (fun _ => ?_) (fun _ => ?_)) <;> conv => whnf))
          exact rfl
      · ((conv => whnf); repeat' ((first | refine odw ?_ | refine ify ?_ | refine ifn ?_ | refine i6 ?_ | refine ati ?_ | refine mst ?_ | refine rmd ?_ | refine ibo (fun _ => ?_) (fun _ => ?_)) <;> conv => whnf))
        exact rfl
  · rw [decide_eq_false hs] at hsm
    (conv => whnf)
    (repeat' ((first | refine ord_ok (by (conv => whnf); (repeat' ((first | refine call_eq rfl hal ?_ | refine call_eq rfl hsm ?_ | refine ify ?_ | refine ifn ?_ | refine i6 ?_ | refine ati ?_ | refine mst ?_ | refine rmd ?_ | refine ibo (fun _ => ?_) (fun _ => ?_)) <;> conv => whnf)); (all_goals (repeat' (first | exact trivial | exact rfl | refine And.intro ?_ ?_)))) ?_ | refine call_eq rfl hal ?_ | refine call_eq rfl hsm ?_ | refine ify ?_ | refine ifn ?_ | refine i6 ?_ | refine ati ?_ | refine mst ?_ | refine rmd ?_ | refine ibo (fun _ => ?_) (fun _ => ?_)) <;> conv => whnf))
    exact rfl
end Go.Proofs.YthegabgbakckfaaGreatDoor
