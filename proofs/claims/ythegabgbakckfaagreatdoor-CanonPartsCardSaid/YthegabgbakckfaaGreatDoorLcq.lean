/- CanonMaps: the walk. -/
import Derived.Test.YthegabgbakckfaaGreatDoorRmp
import Derived.Test.YthegabgbakckfaaGreatDoorLco
namespace Go.Gr
open Go.Proofs.YthegabgbakckfaaGreatDoor
theorem maps_len_ne {p q : Pt} (h : p.labels.length ≠ q.labels.length) : mapsP p q = [] := by
  unfold mapsP
  rw [List.filter_eq_nil_iff]
  intro o _ hh
  have h1 := (torP.eq0 _ _).1 (of_decide_eq_true hh)
  exact h (by rw [← h1, turnP_len])
theorem want_maps {n m : Nat} {p q : Pt} (hp : PtOk n p) (hq : PtOk m q) : (allO n).filter (fun o => decide (n = m ∧ cmpP (turnP p o) q = 0)) = mapsP p q := by
  by_cases h : n = m
  · subst h
    rw [maps_all hp hq]
    refine List.filter_congr fun o _ => ?_
    simp
  · rw [maps_len_ne (by rw [hp.len, hq.len]; exact h), List.filter_eq_nil_iff]
    intro o _
    simp [h]
theorem alike_nil {n m : Nat} {p q : Pt} (hp : PtOk n p) (hq : PtOk m q) (h : mapsP p q = []) : formP p ≠ formP q := by
  intro e
  by_cases hnm : n = m
  · subst hnm
    obtain ⟨x, hx⟩ := (alike_iff hp hq).1 e
    rw [h] at hx; cases hx
  · obtain ⟨_, _, e1, _⟩ := form_spec hp
    obtain ⟨_, _, e2, _⟩ := form_spec hq
    rw [e1, e2] at e
    have := congrArg (fun p : Pt => p.labels.length) e
    simp only [turnP_len, hp.len, hq.len] at this
    exact hnm this
theorem alike_cons {n m : Nat} {p q : Pt} (hp : PtOk n p) (hq : PtOk m q) {x : List Int} {t : List (List Int)} (h : mapsP p q = x :: t) : formP p = formP q := by
  by_cases hnm : n = m
  · subst hnm
    exact (alike_iff hp hq).2 ⟨x, by rw [h]; simp⟩
  · rw [maps_len_ne (by rw [hp.len, hq.len]; exact hnm)] at h; cases h
end Go.Gr
namespace Go.Proofs.YthegabgbakckfaaGreatDoor
open Go.Sx Go.RowKit Go.Reg Go.Gr

set_option maxRecDepth 100000
def pl_lmp : List (Nat × Plan) := [(5, .split 1 4 (.split 1 5 (.split 3 4 (.split 3 5 (.split 4 5 (.leaf [1, 2, 1, 2, 6, 6, 3, 3] [0, 2, 1, 3, 4, 5, 6, 7] [0, 1, 0, 7, 15, 31, 63, 127]) (.leaf [1, 2, 1, 2, 6, 6, 3, 3] [0, 2, 1, 3, 5, 4, 6, 7] [0, 1, 0, 7, 47, 15, 63, 127])) (.leaf [1, 2, 1, 2, 6, 6, 3, 3] [0, 2, 1, 5, 3, 4, 6, 7] [0, 1, 0, 39, 47, 3, 63, 127])) (.split 4 5 (.split 3 5 (.leaf [1, 2, 1, 2, 6, 6, 3, 3] [0, 2, 1, 4, 3, 5, 6, 7] [0, 1, 0, 23, 3, 31, 63, 127]) (.leaf [1, 2, 1, 2, 6, 6, 3, 3] [0, 2, 1, 4, 5, 3, 6, 7] [0, 1, 0, 55, 3, 19, 63, 127])) (.leaf [1, 2, 1, 2, 6, 6, 3, 3] [0, 2, 1, 5, 4, 3, 6, 7] [0, 1, 0, 55, 35, 3, 63, 127]))) (.split 3 4 (.leaf [1, 2, 1, 2, 6, 6, 3, 3] [0, 2, 5, 1, 3, 4, 6, 7] [0, 33, 0, 39, 47, 0, 63, 127]) (.leaf [1, 2, 1, 2, 6, 6, 3, 3] [0, 2, 5, 1, 4, 3, 6, 7] [0, 33, 0, 55, 35, 0, 63, 127]))) (.split 4 5 (.split 1 5 (.split 3 5 (.leaf [1, 2, 1, 2, 6, 6, 3, 3] [0, 2, 4, 1, 3, 5, 6, 7] [0, 17, 0, 23, 0, 31, 63, 127]) (.leaf [1, 2, 1, 2, 6, 6, 3, 3] [0, 2, 4, 1, 5, 3, 6, 7] [0, 17, 0, 55, 0, 19, 63, 127])) (.leaf [1, 2, 1, 2, 6, 6, 3, 3] [0, 2, 4, 5, 1, 3, 6, 7] [0, 49, 0, 55, 0, 16, 63, 127])) (.leaf [1, 2, 1, 2, 6, 6, 3, 3] [0, 2, 5, 4, 1, 3, 6, 7] [0, 49, 0, 55, 32, 0, 63, 127]))),
  (17, .leaf [0, 0, 0, 1, 0, 0, 0, 1, 2, 0] [0, 1, 2, 4, 5, 6, 3, 7, 8, 9] [0, 0, 3, 7, 0, 0, 48, 112, 255, 511]),
  (24, .leaf [0, 0, 0, 0, 0, 0, 1, 0, 0, 0, 0, 0, 0, 0, 1, 1, 0, 0, 0, 1, 0, 1, 2, 2, 0, 0, 0, 0, 0, 0, 0, 0, 0, 0, 1, 0, 1, 0, 0, 0, 1, 0, 1, 0, 0, 0] [0, 1, 2, 3, 4, 5, 6, 7, 8, 9, 10, 11, 12, 13, 16, 17, 18, 14, 15, 19, 20, 21, 22, 23, 24, 25, 26, 27, 28, 29, 30, 31, 32, 33, 37, 38, 39, 34, 35, 36, 40, 41, 42, 43, 44, 45] [0, 1, 3, 7, 7, 31, 63, 127, 255, 511, 1023, 2047, 2047, 8191, 16383, 2047, 2047, 2047, 198655, 460799, 985087, 2033663, 4163583, 8388607, 16777215, 33554431, 67108863, 134217727, 268435455, 536870911, 1073741823, 1073741823, 3221225471, 8589934591, 17179869183, 34359738367, 68719476735, 1073741823, 1073741823, 413390602239, 963146416127, 2062658043903, 4261681299455, 8796093022207, 17592186044415, 35184372088831])]
def G_lmp : List FuncId := [20, 21, 16, 38, 40, 19, 27, 39, 41, 42]
theorem cok_lmp : codeOk Tryz.prog G_lmp pl_lmp (Tryz.f7.body.getD .skip) = true := by kernel_rfl
theorem run_lmp (vs : Array Value) (w : World) : (callFunc 7 vs).run C1.P w = .ok (.enter 7 vs) w := by kernel_rfl
set_option maxHeartbeats 16000000 in
theorem lmaps_pure (p q : Pt) : Sx.Pure C3 7 [dPt p, dPt q] (fun y => y = .bool true) := by
  have hal := lalive_pure
  have hsm := Pure.up3 (lsmall_pure p 5)
  have hsq := Pure.up3 (lsmall_pure q 5)
  refine pure_of c3_ok (pl := pl_lmp) (G := G_lmp) Tryz.func7 rfl Tryz.ntmps7 run_lmp cok_lmp (by simp) ?_
  by_cases hs : pErr p = none ∧ (p.labels.length : Int) ≤ 5
  · rw [decide_eq_true hs] at hsm
    by_cases hs2 : pErr q = none ∧ (q.labels.length : Int) ≤ 5
    · rw [decide_eq_true hs2] at hsq
      obtain ⟨hp, h5⟩ := hs
      obtain ⟨hq, h5'⟩ := hs2
      have hE := pt_edges hp
      have hF := pt_edges hq
      have hof := Pure.up3 (lawpt_pure p (by omega))
      have hog := Pure.up3 (lawpt_pure q (by omega))
      have hpo := pt_of hp
      have hqo := pt_of hq
      have hdl : (p.labels.map dI).length = p.labels.length := List.length_map _
      have w1 := Pure.up3 (own_pure hp (by omega))
      have w2 := Pure.up3 (orbits_pure hp rfl)
      have w3 := Pure.up3 (map_pure hp hq (by omega) (by omega))
      have w4 := Pure.up3 (rmaps_pure hpo hqo (by omega) (by omega) hE hF)
      have w5 := Pure.up3 (rmaps_pure hpo hpo (by omega) (by omega) hE hE)
      have w6 := Pure.up3 (alike_pure hp hq (by omega) (by omega))
      have hro := fun {v : Nat} (hv : v < p.labels.length) => Pure.up3 (rorbit_pure hpo (by omega) hE hv)
      rw [want_maps hpo hqo] at w4
      rw [want_maps hpo hpo] at w5
      have hnil := alike_nil hpo hqo
      have hcons := fun {x t} => alike_cons (x := x) (t := t) hpo hqo
      unfold mapY at w3
      obtain ⟨n, hn⟩ : ∃ n, p.labels.length = n := ⟨_, rfl⟩
      rw [hn] at hpo w2 hro
      have hXl := maps_le p p (by omega)
      have hOa : ∀ {i : Nat} {l : List Int}, (orbsU p n)[i]? = some l → ∃ w : Nat, ((List.range n).filter fun v => firstV p v)[i]? = some w ∧ w < n ∧ (l[0]? = some (w : Int) ∧ l = orbS p w) := fun h => by
        obtain ⟨w, h0, h1, h2, h3⟩ := orbs_at h; exact ⟨w, h0, h1, by rw [h3]; exact orbS_head hpo h1 h2, h3⟩
      have hOf : (orbsU p n).flatten.length = n := by rw [(orbs_all hpo).length_eq, idL_len]
      have hOl := orbsU_len p n
      have hff : ∀ {i j v w : Nat}, i < j → ((List.range n).filter fun v => firstV p v)[i]? = some v → ((List.range n).filter fun v => firstV p v)[j]? = some w → v < w := fun h1 h2 h3 => firsts_lt h1 h2 h3
      generalize orbsU p n = O at w2 hOa hOf hOl
      generalize (List.range n).filter (fun v => firstV p v) = Fs at hOa hff
      generalize hX : mapsP p p = X at w1 w5 hXl
      have hdX : (X.map dInts).length = X.length := List.length_map _
      have hdX2 : (X.map dIs).length = X.length := List.length_map _
      have hdO : (O.map dIs).length = O.length := List.length_map _
      have hOo : ∀ {i : Nat} {l : List Int}, O[i]? = some l → ∃ w : Nat, Fs[i]? = some w ∧ w < n ∧ l[0]? = some (w : Int) ∧ Sx.Pure C3 42 [dPt p, .int .i64 w] (fun y => y = dIs l) := fun h => by
        obtain ⟨w, h0, h1, h2, h3⟩ := hOa h
        exact ⟨w, h0, h1, h2, by rw [h3]; exact hro h1⟩
      clear hOa hro
      cases hM : mapsP p q with
      | nil =>
        rw [hM] at w3 w4
        simp only at w3
        rw [decide_eq_false (hnil hM)] at w6
        have hb1 : (false = true ↔ (0 : Int) < ((([] : List (List Int)).map dIs).length : Int)) := ⟨(fun h => by cases h), (fun h => absurd h (by decide))⟩
        clear hnil hcons
        (conv => whnf)
        (repeat' ((first | refine ord_ok (by (conv => whnf); (repeat' ((first | refine call_eq rfl hal ?_ | refine call_eq rfl hsm ?_ | refine call_eq rfl hsq ?_ | refine call_eq rfl hof ?_ | refine call_eq rfl hog ?_ | refine call_eq rfl w3 ?_ | refine call_eq rfl w4 ?_ | refine call_eq rfl w6 ?_ | refine call_eq rfl w1 ?_ | refine call_eq rfl w5 ?_ | refine if_no (fun h => h hb1) ?_ | refine if_no (fun h => h Iff.rfl) ?_ | refine ify ?_ | refine ifn ?_ | refine i6 ?_ | refine ati ?_ | refine mst ?_ | refine rmd ?_ | refine ibo (fun _ => ?_) (fun _ => ?_)) <;> conv => whnf)); (all_goals (repeat' (first | exact trivial | exact rfl | refine And.intro ?_ ?_)))) ?_ | refine call_eq rfl hal ?_ | refine call_eq rfl hsm ?_ | refine call_eq rfl hsq ?_ | refine call_eq rfl hof ?_ | refine call_eq rfl hog ?_ | refine call_eq rfl w3 ?_ | refine call_eq rfl w4 ?_ | refine call_eq rfl w6 ?_ | refine call_eq rfl w1 ?_ | refine call_eq rfl w5 ?_ | refine if_no (fun h => h hb1) ?_ | refine if_no (fun h => h Iff.rfl) ?_ | refine ify ?_ | refine ifn ?_ | refine i6 ?_ | refine ati ?_ | refine mst ?_ | refine rmd ?_ | refine ibo (fun _ => ?_) (fun _ => ?_)) <;> conv => whnf))
        refine loop_lo (ι := Nat) (fun i => i ≤ X.length) (fun i => [(13, .d (.int .i64 i)), (12, .d (.list 1 (X.map dIs))), (10, .d (.list 1 (X.map dInts))), (5, .own 5), (2, .own 2)]) (fun _ => [(2, .cells 25 [.d (dIs p.labels), .d (dEs p.edges)]), (5, .cells 35 [.d (dIs p.labels), .d (dEs p.edges)])]) (fun i => X.length - i) 0 (fun _ => rfl) (Nat.zero_le _) (.refl _ _) ⟨rfl, rfl, rfl, rfl, rfl, trivial⟩ ⟨rfl, rfl, trivial⟩ ?_
        intro i hi
        refine sxCode_sound c3_ok (G := G_lmp) (pl := pl_lmp) _ _ _ _ (by kernel_rfl) ?_
        by_cases hil : i < X.length
        · have hx := List.getElem?_eq_getElem hil
          generalize X[i] = o at hx
          have hxd : (X.map dInts)[i]? = some (dIs o) := by rw [List.getElem?_map, hx]; rfl
          have hxd2 : (X.map dIs)[i]? = some (dIs o) := by rw [List.getElem?_map, hx]; rfl
          have hso := Pure.up3 (same_pure o o)
          rw [decide_eq_true rfl] at hso
          (conv => whnf)
          (repeat' ((first | refine ord_ok (by (conv => whnf); (repeat' ((first | refine at_da hxd rfl ?_ | refine at_da hxd2 rfl ?_ | refine call_eq rfl hso ?_ | refine ify ?_ | refine ifn ?_ | refine i6 ?_ | refine ati ?_ | refine mst ?_ | refine rmd ?_ | refine ibo (fun _ => ?_) (fun _ => ?_)) <;> conv => whnf)); (all_goals (repeat' (first | exact trivial | exact rfl | refine And.intro ?_ ?_)))) ?_ | refine at_da hxd rfl ?_ | refine at_da hxd2 rfl ?_ | refine call_eq rfl hso ?_ | refine ify ?_ | refine ifn ?_ | refine i6 ?_ | refine ati ?_ | refine mst ?_ | refine rmd ?_ | refine ibo (fun _ => ?_) (fun _ => ?_)) <;> conv => whnf))
          exact ⟨i + 1, _, _, hil, .refl _ _, ⟨rfl, rfl, rfl, rfl, rfl, trivial⟩, ⟨rfl, rfl, trivial⟩, by omega⟩
        · (conv => whnf)
          (repeat' ((first | refine ord_ok (by (conv => whnf); (repeat' ((first | refine call_eq rfl w2 ?_ | refine ify ?_ | refine ifn ?_ | refine i6 ?_ | refine ati ?_ | refine mst ?_ | refine rmd ?_ | refine ibo (fun _ => ?_) (fun _ => ?_)) <;> conv => whnf)); (all_goals (repeat' (first | exact trivial | exact rfl | refine And.intro ?_ ?_)))) ?_ | refine call_eq rfl w2 ?_ | refine ify ?_ | refine ifn ?_ | refine i6 ?_ | refine ati ?_ | refine mst ?_ | refine rmd ?_ | refine ibo (fun _ => ?_) (fun _ => ?_)) <;> conv => whnf))
          refine loop_lo (ι := Nat) (fun j => j ≤ O.length) (fun j => [(17, .d (.int .i64 j)), (16, .d (.int .i64 ((O.take j).flatten.length : Nat))), (15, .d .nili), (14, .d (.list 1 (O.map dIs))), (2, .own 2)]) (fun _ => [(2, .cells 25 [.d (dIs p.labels), .d (dEs p.edges)])]) (fun j => O.length - j) 0 (fun _ => rfl) (Nat.zero_le _) (.refl _ _) ⟨rfl, rfl, rfl, rfl, rfl, trivial⟩ ⟨rfl, trivial⟩ ?_
          intro j hj
          refine sxCode_sound c3_ok (G := G_lmp) (pl := pl_lmp) _ _ _ _ (by kernel_rfl) ?_
          by_cases hjl : j < O.length
          · have hx := List.getElem?_eq_getElem hjl
            generalize O[j] = l at hx
            obtain ⟨w, hFw, hw, hhd, hor⟩ := hOo hx
            have hxd : (O.map dIs)[j]? = some (dIs l) := by rw [List.getElem?_map, hx]; rfl
            have hhdd : (l.map dI)[0]? = some (.int .i64 w) := by rw [List.getElem?_map, hhd]; rfl
            have hso := Pure.up3 (same_pure l l)
            rw [decide_eq_true rfl] at hso
            have hfl := congrArg List.length (flat_snoc hx)
            rw [List.length_append] at hfl
            have hfb : (O.take (j + 1)).flatten.length ≤ n := by
              rw [← hOf]
              conv => rhs; rw [← List.take_append_drop (j + 1) O, List.flatten_append, List.length_append]
              omega
            have hdL : (l.map dI).length = l.length := List.length_map _
            have hll : 0 < l.length := (List.getElem?_eq_some_iff.1 hhd).1
            by_cases hj0 : 0 < j
            · have hx' := List.getElem?_eq_getElem (l := O) (i := j - 1) (by omega)
              generalize O[j - 1]'(by omega) = l' at hx'
              obtain ⟨w', hFw', _, hhd', _⟩ := hOo hx'
              have hxd' : (O.map dIs)[j - 1]? = some (dIs l') := by rw [List.getElem?_map, hx']; rfl
              have hhdd' : (l'.map dI)[0]? = some (.int .i64 w') := by rw [List.getElem?_map, hhd']; rfl
              have hlt := hff (show j - 1 < j by omega) hFw' hFw
              (conv => whnf)
              (repeat' ((first | refine ord_ok (by (conv => whnf); (repeat' ((first | refine at_da hxd rfl ?_ | refine at_da hxd' (by omega) ?_ | refine at_da hhdd rfl ?_ | refine at_da hhdd' rfl ?_ | refine call_eq rfl hor ?_ | refine call_eq rfl hso ?_ | refine ify ?_ | refine ifn ?_ | refine i6 ?_ | refine ati ?_ | refine mst ?_ | refine rmd ?_ | refine ibo (fun _ => ?_) (fun _ => ?_)) <;> conv => whnf)); (all_goals (repeat' (first | exact trivial | exact rfl | refine And.intro ?_ ?_)))) ?_ | refine at_da hxd rfl ?_ | refine at_da hxd' (by omega) ?_ | refine at_da hhdd rfl ?_ | refine at_da hhdd' rfl ?_ | refine call_eq rfl hor ?_ | refine call_eq rfl hso ?_ | refine ify ?_ | refine ifn ?_ | refine i6 ?_ | refine ati ?_ | refine mst ?_ | refine rmd ?_ | refine ibo (fun _ => ?_) (fun _ => ?_)) <;> conv => whnf))
              exact ⟨j + 1, _, _, hjl, .refl _ _, ⟨rfl, int_is (by omega), rfl, rfl, rfl, trivial⟩, ⟨rfl, trivial⟩, by omega⟩
            · (conv => whnf)
              (repeat' ((first | refine ord_ok (by (conv => whnf); (repeat' ((first | refine at_da hxd rfl ?_ | refine at_da hhdd rfl ?_ | refine call_eq rfl hor ?_ | refine call_eq rfl hso ?_ | refine ify ?_ | refine ifn ?_ | refine i6 ?_ | refine ati ?_ | refine mst ?_ | refine rmd ?_ | refine ibo (fun _ => ?_) (fun _ => ?_)) <;> conv => whnf)); (all_goals (repeat' (first | exact trivial | exact rfl | refine And.intro ?_ ?_)))) ?_ | refine at_da hxd rfl ?_ | refine at_da hhdd rfl ?_ | refine call_eq rfl hor ?_ | refine call_eq rfl hso ?_ | refine ify ?_ | refine ifn ?_ | refine i6 ?_ | refine ati ?_ | refine mst ?_ | refine rmd ?_ | refine ibo (fun _ => ?_) (fun _ => ?_)) <;> conv => whnf))
              exact ⟨j + 1, _, _, hjl, .refl _ _, ⟨rfl, int_is (by omega), rfl, rfl, rfl, trivial⟩, ⟨rfl, trivial⟩, by omega⟩
          · have e : O.take j = O := List.take_of_length_le (by omega)
            rw [e, hOf]
            (conv => whnf)
            (repeat' ((first | refine ord_ok (by (conv => whnf); (repeat' ((first | refine call_eq rfl w2 ?_ | refine ify ?_ | refine ifn ?_ | refine i6 ?_ | refine ati ?_ | refine mst ?_ | refine rmd ?_ | refine ibo (fun _ => ?_) (fun _ => ?_)) <;> conv => whnf)); (all_goals (repeat' (first | exact trivial | exact rfl | refine And.intro ?_ ?_)))) ?_ | refine call_eq rfl w2 ?_ | refine ify ?_ | refine ifn ?_ | refine i6 ?_ | refine ati ?_ | refine mst ?_ | refine rmd ?_ | refine ibo (fun _ => ?_) (fun _ => ?_)) <;> conv => whnf))
            exact congrArg Da.bool (decide_eq_true (by omega))
      | cons m0 t =>
        rw [hM] at w3 w4
        simp only at w3
        rw [decide_eq_true (hcons hM)] at w6
        have hs0 := Pure.up3 (same_pure m0 m0)
        rw [decide_eq_true rfl] at hs0
        have hdT : ((m0 :: t).map dIs).length = t.length + 1 := by rw [List.length_map]; rfl
        have h0d : ((m0 :: t).map dIs)[0]? = some (dIs m0) := rfl
        generalize (m0 :: t).map dIs = TT at w4 hdT h0d
        have hb1 : (true = true ↔ (0 : Int) < (TT.length : Int)) := ⟨fun _ => by omega, fun _ => rfl⟩
        clear hnil hcons
        (conv => whnf)
        (repeat' ((first | refine ord_ok (by (conv => whnf); (repeat' ((first | refine call_eq rfl hal ?_ | refine call_eq rfl hsm ?_ | refine call_eq rfl hsq ?_ | refine call_eq rfl hof ?_ | refine call_eq rfl hog ?_ | refine call_eq rfl w3 ?_ | refine call_eq rfl w4 ?_ | refine call_eq rfl w6 ?_ | refine at_da h0d rfl ?_ | refine call_eq rfl hs0 ?_ | refine call_eq rfl w1 ?_ | refine call_eq rfl w5 ?_ | refine if_no (fun h => h hb1) ?_ | refine if_no (fun h => h Iff.rfl) ?_ | refine ify ?_ | refine ifn ?_ | refine i6 ?_ | refine ati ?_ | refine mst ?_ | refine rmd ?_ | refine ibo (fun _ => ?_) (fun _ => ?_)) <;> conv => whnf)); (all_goals (repeat' (first | exact trivial | exact rfl | refine And.intro ?_ ?_)))) ?_ | refine call_eq rfl hal ?_ | refine call_eq rfl hsm ?_ | refine call_eq rfl hsq ?_ | refine call_eq rfl hof ?_ | refine call_eq rfl hog ?_ | refine call_eq rfl w3 ?_ | refine call_eq rfl w4 ?_ | refine call_eq rfl w6 ?_ | refine at_da h0d rfl ?_ | refine call_eq rfl hs0 ?_ | refine call_eq rfl w1 ?_ | refine call_eq rfl w5 ?_ | refine if_no (fun h => h hb1) ?_ | refine if_no (fun h => h Iff.rfl) ?_ | refine ify ?_ | refine ifn ?_ | refine i6 ?_ | refine ati ?_ | refine mst ?_ | refine rmd ?_ | refine ibo (fun _ => ?_) (fun _ => ?_)) <;> conv => whnf))
        refine loop_lo (ι := Nat) (fun i => i ≤ X.length) (fun i => [(13, .d (.int .i64 i)), (12, .d (.list 1 (X.map dIs))), (10, .d (.list 1 (X.map dInts))), (5, .own 5), (2, .own 2)]) (fun _ => [(2, .cells 25 [.d (dIs p.labels), .d (dEs p.edges)]), (5, .cells 35 [.d (dIs p.labels), .d (dEs p.edges)])]) (fun i => X.length - i) 0 (fun _ => rfl) (Nat.zero_le _) (.refl _ _) ⟨rfl, rfl, rfl, rfl, rfl, trivial⟩ ⟨rfl, rfl, trivial⟩ ?_
        intro i hi
        refine sxCode_sound c3_ok (G := G_lmp) (pl := pl_lmp) _ _ _ _ (by kernel_rfl) ?_
        by_cases hil : i < X.length
        · have hx := List.getElem?_eq_getElem hil
          generalize X[i] = o at hx
          have hxd : (X.map dInts)[i]? = some (dIs o) := by rw [List.getElem?_map, hx]; rfl
          have hxd2 : (X.map dIs)[i]? = some (dIs o) := by rw [List.getElem?_map, hx]; rfl
          have hso := Pure.up3 (same_pure o o)
          rw [decide_eq_true rfl] at hso
          (conv => whnf)
          (repeat' ((first | refine ord_ok (by (conv => whnf); (repeat' ((first | refine at_da hxd rfl ?_ | refine at_da hxd2 rfl ?_ | refine call_eq rfl hso ?_ | refine ify ?_ | refine ifn ?_ | refine i6 ?_ | refine ati ?_ | refine mst ?_ | refine rmd ?_ | refine ibo (fun _ => ?_) (fun _ => ?_)) <;> conv => whnf)); (all_goals (repeat' (first | exact trivial | exact rfl | refine And.intro ?_ ?_)))) ?_ | refine at_da hxd rfl ?_ | refine at_da hxd2 rfl ?_ | refine call_eq rfl hso ?_ | refine ify ?_ | refine ifn ?_ | refine i6 ?_ | refine ati ?_ | refine mst ?_ | refine rmd ?_ | refine ibo (fun _ => ?_) (fun _ => ?_)) <;> conv => whnf))
          exact ⟨i + 1, _, _, hil, .refl _ _, ⟨rfl, rfl, rfl, rfl, rfl, trivial⟩, ⟨rfl, rfl, trivial⟩, by omega⟩
        · (conv => whnf)
          (repeat' ((first | refine ord_ok (by (conv => whnf); (repeat' ((first | refine call_eq rfl w2 ?_ | refine ify ?_ | refine ifn ?_ | refine i6 ?_ | refine ati ?_ | refine mst ?_ | refine rmd ?_ | refine ibo (fun _ => ?_) (fun _ => ?_)) <;> conv => whnf)); (all_goals (repeat' (first | exact trivial | exact rfl | refine And.intro ?_ ?_)))) ?_ | refine call_eq rfl w2 ?_ | refine ify ?_ | refine ifn ?_ | refine i6 ?_ | refine ati ?_ | refine mst ?_ | refine rmd ?_ | refine ibo (fun _ => ?_) (fun _ => ?_)) <;> conv => whnf))
          refine loop_lo (ι := Nat) (fun j => j ≤ O.length) (fun j => [(17, .d (.int .i64 j)), (16, .d (.int .i64 ((O.take j).flatten.length : Nat))), (15, .d .nili), (14, .d (.list 1 (O.map dIs))), (2, .own 2)]) (fun _ => [(2, .cells 25 [.d (dIs p.labels), .d (dEs p.edges)])]) (fun j => O.length - j) 0 (fun _ => rfl) (Nat.zero_le _) (.refl _ _) ⟨rfl, rfl, rfl, rfl, rfl, trivial⟩ ⟨rfl, trivial⟩ ?_
          intro j hj
          refine sxCode_sound c3_ok (G := G_lmp) (pl := pl_lmp) _ _ _ _ (by kernel_rfl) ?_
          by_cases hjl : j < O.length
          · have hx := List.getElem?_eq_getElem hjl
            generalize O[j] = l at hx
            obtain ⟨w, hFw, hw, hhd, hor⟩ := hOo hx
            have hxd : (O.map dIs)[j]? = some (dIs l) := by rw [List.getElem?_map, hx]; rfl
            have hhdd : (l.map dI)[0]? = some (.int .i64 w) := by rw [List.getElem?_map, hhd]; rfl
            have hso := Pure.up3 (same_pure l l)
            rw [decide_eq_true rfl] at hso
            have hfl := congrArg List.length (flat_snoc hx)
            rw [List.length_append] at hfl
            have hfb : (O.take (j + 1)).flatten.length ≤ n := by
              rw [← hOf]
              conv => rhs; rw [← List.take_append_drop (j + 1) O, List.flatten_append, List.length_append]
              omega
            have hdL : (l.map dI).length = l.length := List.length_map _
            have hll : 0 < l.length := (List.getElem?_eq_some_iff.1 hhd).1
            by_cases hj0 : 0 < j
            · have hx' := List.getElem?_eq_getElem (l := O) (i := j - 1) (by omega)
              generalize O[j - 1]'(by omega) = l' at hx'
              obtain ⟨w', hFw', _, hhd', _⟩ := hOo hx'
              have hxd' : (O.map dIs)[j - 1]? = some (dIs l') := by rw [List.getElem?_map, hx']; rfl
              have hhdd' : (l'.map dI)[0]? = some (.int .i64 w') := by rw [List.getElem?_map, hhd']; rfl
              have hlt := hff (show j - 1 < j by omega) hFw' hFw
              (conv => whnf)
              (repeat' ((first | refine ord_ok (by (conv => whnf); (repeat' ((first | refine at_da hxd rfl ?_ | refine at_da hxd' (by omega) ?_ | refine at_da hhdd rfl ?_ | refine at_da hhdd' rfl ?_ | refine call_eq rfl hor ?_ | refine call_eq rfl hso ?_ | refine ify ?_ | refine ifn ?_ | refine i6 ?_ | refine ati ?_ | refine mst ?_ | refine rmd ?_ | refine ibo (fun _ => ?_) (fun _ => ?_)) <;> conv => whnf)); (all_goals (repeat' (first | exact trivial | exact rfl | refine And.intro ?_ ?_)))) ?_ | refine at_da hxd rfl ?_ | refine at_da hxd' (by omega) ?_ | refine at_da hhdd rfl ?_ | refine at_da hhdd' rfl ?_ | refine call_eq rfl hor ?_ | refine call_eq rfl hso ?_ | refine ify ?_ | refine ifn ?_ | refine i6 ?_ | refine ati ?_ | refine mst ?_ | refine rmd ?_ | refine ibo (fun _ => ?_) (fun _ => ?_)) <;> conv => whnf))
              exact ⟨j + 1, _, _, hjl, .refl _ _, ⟨rfl, int_is (by omega), rfl, rfl, rfl, trivial⟩, ⟨rfl, trivial⟩, by omega⟩
            · (conv => whnf)
              (repeat' ((first | refine ord_ok (by (conv => whnf); (repeat' ((first | refine at_da hxd rfl ?_ | refine at_da hhdd rfl ?_ | refine call_eq rfl hor ?_ | refine call_eq rfl hso ?_ | refine ify ?_ | refine ifn ?_ | refine i6 ?_ | refine ati ?_ | refine mst ?_ | refine rmd ?_ | refine ibo (fun _ => ?_) (fun _ => ?_)) <;> conv => whnf)); (all_goals (repeat' (first | exact trivial | exact rfl | refine And.intro ?_ ?_)))) ?_ | refine at_da hxd rfl ?_ | refine at_da hhdd rfl ?_ | refine call_eq rfl hor ?_ | refine call_eq rfl hso ?_ | refine ify ?_ | refine ifn ?_ | refine i6 ?_ | refine ati ?_ | refine mst ?_ | refine rmd ?_ | refine ibo (fun _ => ?_) (fun _ => ?_)) <;> conv => whnf))
              exact ⟨j + 1, _, _, hjl, .refl _ _, ⟨rfl, int_is (by omega), rfl, rfl, rfl, trivial⟩, ⟨rfl, trivial⟩, by omega⟩
          · have e : O.take j = O := List.take_of_length_le (by omega)
            rw [e, hOf]
            (conv => whnf)
            (repeat' ((first | refine ord_ok (by (conv => whnf); (repeat' ((first | refine call_eq rfl w2 ?_ | refine ify ?_ | refine ifn ?_ | refine i6 ?_ | refine ati ?_ | refine mst ?_ | refine rmd ?_ | refine ibo (fun _ => ?_) (fun _ => ?_)) <;> conv => whnf)); (all_goals (repeat' (first | exact trivial | exact rfl | refine And.intro ?_ ?_)))) ?_ | refine call_eq rfl w2 ?_ | refine ify ?_ | refine ifn ?_ | refine i6 ?_ | refine ati ?_ | refine mst ?_ | refine rmd ?_ | refine ibo (fun _ => ?_) (fun _ => ?_)) <;> conv => whnf))
            exact congrArg Da.bool (decide_eq_true (by omega))
    · rw [decide_eq_false hs2] at hsq
      (conv => whnf)
      (repeat' ((first | refine ord_ok (by (conv => whnf); (repeat' ((first | refine call_eq rfl hal ?_ | refine call_eq rfl hsm ?_ | refine call_eq rfl hsq ?_ | refine ify ?_ | refine ifn ?_ | refine i6 ?_ | refine ati ?_ | refine mst ?_ | refine rmd ?_ | refine ibo (fun _ => ?_) (fun _ => ?_)) <;> conv => whnf)); (all_goals (repeat' (first | exact trivial | exact rfl | refine And.intro ?_ ?_)))) ?_ | refine call_eq rfl hal ?_ | refine call_eq rfl hsm ?_ | refine call_eq rfl hsq ?_ | refine ify ?_ | refine ifn ?_ | refine i6 ?_ | refine ati ?_ | refine mst ?_ | refine rmd ?_ | refine ibo (fun _ => ?_) (fun _ => ?_)) <;> conv => whnf))
      exact rfl
  · rw [decide_eq_false hs] at hsm
    (conv => whnf)
    (repeat' ((first | refine ord_ok (by (conv => whnf); (repeat' ((first | refine call_eq rfl hal ?_ | refine call_eq rfl hsm ?_ | refine ify ?_ | refine ifn ?_ | refine i6 ?_ | refine ati ?_ | refine mst ?_ | refine rmd ?_ | refine ibo (fun _ => ?_) (fun _ => ?_)) <;> conv => whnf)); (all_goals (repeat' (first | exact trivial | exact rfl | refine And.intro ?_ ?_)))) ?_ | refine call_eq rfl hal ?_ | refine call_eq rfl hsm ?_ | refine ify ?_ | refine ifn ?_ | refine i6 ?_ | refine ati ?_ | refine mst ?_ | refine rmd ?_ | refine ibo (fun _ => ?_) (fun _ => ?_)) <;> conv => whnf))
    exact rfl
end Go.Proofs.YthegabgbakckfaaGreatDoor
