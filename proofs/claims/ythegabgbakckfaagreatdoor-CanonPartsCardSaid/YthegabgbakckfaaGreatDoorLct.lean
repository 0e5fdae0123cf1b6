/- CanonTurns: the walk. -/
import Derived.Test.YthegabgbakckfaaGreatDoorZcd
import Derived.Test.YthegabgbakckfaaGreatDoorZpi
namespace Go.Gr
open Go.Proofs.YthegabgbakckfaaGreatDoor
theorem pErr_of {n : Nat} {p : Pt} (hp : PtOk n p) (h8 : n ≤ 8) (hl : ∀ x ∈ p.labels, 0 ≤ x ∧ x ≤ 255) : pErr p = none := by
  unfold pErr
  have h1 : lErr p.labels = none := by
    refine lErr_no (by rw [hp.len]; omega) fun k y hk hy => ?_
    have := hl y (List.mem_of_getElem? hy)
    unfold badLabel
    simp; omega
  rw [h1]
  refine findSome_no fun i hi => ?_
  have hx := List.getElem?_eq_getElem hi
  have he := hp.edge _ (List.getElem_mem hi)
  generalize hE : p.edges[i] = e at hx he
  unfold eAt
  rw [hx]
  simp only
  rw [Option.map_eq_none_iff]
  unfold eBad
  rw [if_neg (by rw [hp.len]; simp; omega), if_neg (by omega)]
  by_cases h0 : i = 0
  · rw [if_pos h0]
  · rw [if_neg h0]
    have hj : i - 1 < p.edges.length := by omega
    rw [List.getElem?_eq_getElem hj]
    simp only
    rw [if_pos]
    have := List.pairwise_iff_getElem.1 hp.strict (i - 1) i hj hi (by omega)
    rwa [hE] at this
theorem pErr_turn {p : Pt} (hp : pErr p = none) {b : List Int} (hb : IsOrd p.labels.length b) : pErr (turnP p b) = none := by
  have hl := lErr_none (pErr_none hp).1
  exact pErr_of (turnP_ok hb (pt_of hp)) hl.1 fun x hx => hl.2 x ((turnP_labels (pt_of hp) hb).mem_iff.1 hx)
theorem form_le {p : Pt} (hp : pErr p = none) : cmpP (formP p) p ≤ 0 := by
  have := (form_spec (pt_of hp)).2.2.2.2 (idL p.labels.length) (idL_ord _)
  rwa [turn_id (pt_of hp)] at this
end Go.Gr
namespace Go.Proofs.YthegabgbakckfaaGreatDoor
open Go.Sx Go.RowKit Go.Reg Go.Gr

set_option maxRecDepth 100000
theorem turn_by {p : Pt} (hp : pErr p = none) {b : List Int} (hb : IsOrd p.labels.length b) : Pure C1 24 [dPt p, dIs b] (fun y => y = .tuple [dPt (turnP p b), .nili]) :=
  pturn_pure p hp (by have := pt_edges hp; omega) b ((ordR_is (by have := (lErr_none (pErr_none hp).1).1; rw [hb.1]; omega)).2 (by rw [hb.1]; exact hb)) hb.1
theorem map_some {p q : Pt} (hp : pErr p = none) (hq : pErr q = none) {b : List Int} (h : b ∈ mapsP p q) : ∃ m, m ∈ mapsP p q ∧ Pure C1 38 [dPt p, dPt q] (fun y => y = .tuple [dIs m, .bool true]) := by
  have hm := map_pure hp hq (by have := pt_edges hp; omega) (by have := pt_edges hq; omega)
  unfold mapY at hm
  cases hx : mapsP p q with
  | nil => rw [hx] at h; simp at h
  | cons m t =>
    rw [hx] at hm
    exact ⟨m, by simp, hm⟩
theorem cmp_by {p q : Pt} (hp : pErr p = none) (hq : pErr q = none) : Pure C1 26 [dPt p, dPt q] (fun y => y = .int .i64 (cmpP p q)) := by
  have h1 := (lErr_none (pErr_none hp).1).1
  have h2 := (lErr_none (pErr_none hq).1).1
  have h3 := pt_edges hp
  have h4 := pt_edges hq
  exact ptcompare_pure p q (by omega) (by omega) (by omega) (by omega)
theorem cmp_same {p : Pt} (hp : pErr p = none) : Pure C1 26 [dPt p, dPt p] (fun y => y = .int .i64 0) := by
  have := cmp_by hp hp
  rwa [torP.self p] at this
def pl_lct : List (Nat × Plan) := []
def G_lct : List FuncId := [20, 21, 16, 23, 24, 22, 26, 38, 27, 39]
theorem cok_lct : codeOk Tryz.prog G_lct pl_lct (Tryz.f6.body.getD .skip) = true := by kernel_rfl
theorem run_lct (vs : Array Value) (w : World) : (callFunc 6 vs).run C1.P w = .ok (.enter 6 vs) w := by kernel_rfl
set_option maxHeartbeats 4000000 in
theorem lturns_pure (p : Pt) (a : Int) (ha : 0 ≤ a ∧ a ≤ 65535) : Sx.Pure C3 6 [dPt p, .int .u16 a] (fun y => y = .bool true) := by
  have hal := lalive_pure
  have hsm := Pure.up3 (lsmall_pure p 7)
  refine pure_of c3_ok (pl := pl_lct) (G := G_lct) Tryz.func6 rfl Tryz.ntmps6 run_lct cok_lct (by simp) ?_
  by_cases hs : pErr p = none ∧ (p.labels.length : Int) ≤ 7
  · rw [decide_eq_true hs] at hsm
    obtain ⟨hp, h7⟩ := hs
    have hdl : (p.labels.map dI).length = p.labels.length := List.length_map _
    have hof := Pure.up3 (lawpt_pure p (by have := pt_edges hp; omega))
    (conv => whnf)
    (repeat' ((first | refine ord_ok (by (conv => whnf); (repeat' ((first | refine call_eq rfl hal ?_ | refine call_eq rfl hsm ?_ | refine call_eq rfl hof ?_ | refine ify ?_ | refine ifn ?_ | refine i6 ?_ | refine ati ?_ | refine mst ?_ | refine rmd ?_ | refine ibo (fun _ => ?_) (fun _ => ?_)) <;> conv => whnf)); (all_goals (repeat' (first | exact trivial | exact rfl | refine And.intro ?_ ?_)))) ?_ | refine call_eq rfl hal ?_ | refine call_eq rfl hsm ?_ | refine call_eq rfl hof ?_ | refine ify ?_ | refine ifn ?_ | refine i6 ?_ | refine ati ?_ | refine mst ?_ | refine rmd ?_ | refine ibo (fun _ => ?_) (fun _ => ?_)) <;> conv => whnf))
    have hn7 : p.labels.length ≤ 7 := by omega
    have hE := pt_edges hp
    have hpo := pt_of hp
    refine loop_lo (ι := Nat) (fun i => i + 1 ≤ p.labels.length ∨ i = 1 ∨ i = p.labels.length) (fun i => [(8, .d (.int .i64 (i + 1 : Nat))), (7, .d (.int .i64 (facN i : Nat))), (6, .d (.int .i64 (p.labels.map dI).length)), (5, .own 5), (1, .d (.int .u16 a))]) (fun _ => [(5, .cells 35 [.d (dIs p.labels), .d (dEs p.edges)])]) (fun i => p.labels.length + 1 - i) 1 (fun _ => rfl) (.inr (.inl rfl)) (.refl _ _) ⟨rfl, rfl, rfl, rfl, rfl, trivial⟩ ⟨rfl, trivial⟩ ?_
    intro i hi
    refine sxCode_sound c3_ok (G := G_lct) (pl := pl_lct) _ _ _ _ (by kernel_rfl) ?_
    by_cases hlt : i + 1 ≤ p.labels.length
    · have hf := facN_le (i + 1) (by omega)
      have hm : (facN i : Int) * ((i + 1 : Nat) : Int) = ((facN (i + 1) : Nat) : Int) := by
        rw [show facN (i + 1) = (i + 1) * facN i from rfl, Int.natCast_mul, Int.mul_comm]
      have hw : IntKind.i64.wrap ((facN i : Int) * ((i + 1 : Nat) : Int)) = ((facN (i + 1) : Nat) : Int) := by
        rw [hm]; exact wrap64_in ⟨by omega, by omega⟩
      (conv => whnf)
      (repeat' ((first | refine ord_ok (by (conv => whnf); (repeat' ((first | refine int_to hw ?_ | refine ify ?_ | refine ifn ?_ | refine i6 ?_ | refine ati ?_ | refine mst ?_ | refine rmd ?_ | refine ibo (fun _ => ?_) (fun _ => ?_)) <;> conv => whnf)); (all_goals (repeat' (first | exact trivial | exact rfl | refine And.intro ?_ ?_)))) ?_ | refine int_to hw ?_ | refine ify ?_ | refine ifn ?_ | refine i6 ?_ | refine ati ?_ | refine mst ?_ | refine rmd ?_ | refine ibo (fun _ => ?_) (fun _ => ?_)) <;> conv => whnf))
      exact ⟨i + 1, _, _, by omega, .refl _ _, ⟨int_is (by omega), rfl, rfl, rfl, rfl, trivial⟩, ⟨rfl, trivial⟩, by omega⟩
    · have hfi : facN i = facN p.labels.length := by
        have hi2 : i = p.labels.length ∨ (i = 1 ∧ p.labels.length = 0) := by omega
        rcases hi2 with rfl | ⟨rfl, h0⟩
        · rfl
        · rw [h0]; rfl
      have hfp := facN_pos p.labels.length
      have hfl := facN_le p.labels.length (by omega)
      obtain ⟨r, hr⟩ := Int.eq_ofNat_of_zero_le ha.1
      subst hr
      have hrm : (r : Int).tmod (facN i : Int) = ((r % facN p.labels.length : Nat) : Int) := by rw [hfi, Int.tmod_eq_emod_of_nonneg (by omega), ← Int.natCast_emod]
      have hrl := Nat.mod_lt r hfp
      (conv => whnf)
      (repeat' ((first | refine ord_ok (by (conv => whnf); (repeat' ((first | refine call_eq rfl hof ?_ | refine ify ?_ | refine ifn ?_ | refine i6 ?_ | refine ati ?_ | refine mst ?_ | refine rmd ?_ | refine ibo (fun _ => ?_) (fun _ => ?_)) <;> conv => whnf)); (all_goals (repeat' (first | exact trivial | exact rfl | refine And.intro ?_ ?_)))) ?_ | refine call_eq rfl hof ?_ | refine ify ?_ | refine ifn ?_ | refine i6 ?_ | refine ati ?_ | refine mst ?_ | refine rmd ?_ | refine ibo (fun _ => ?_) (fun _ => ?_)) <;> conv => whnf))
      have hpf : Sx.Pure C3 23 [.int .i64 ((p.labels.map dI).length : Nat), .int .i64 ((r : Int).tmod (facN i : Int))] (fun y => ∃ b, IsOrd p.labels.length b ∧ y = .tuple [dIs b, .nili]) := by
        rw [hrm, hdl]
        exact Pure.up3 (permof_pure _ _ (by omega) hrl)
      refine call_pure rfl hpf ?_; rintro y ⟨b, hb, rfl⟩
      have hq := pErr_turn hp hb
      have hEq := pt_edges hq
      have hqo := pt_of hq
      have t1 := Pure.up3 (turn_by hp hb)
      have f1 := Pure.up3 (form_pure p hp (by omega))
      have f2 := Pure.up3 (form_pure (turnP p b) hq (by omega))
      obtain ⟨_, o1, e1, _⟩ := form_spec hpo
      obtain ⟨_, o2, e2, _⟩ := form_spec hqo
      have t2 := Pure.up3 (turn_by hp o1)
      have t3 := Pure.up3 (turn_by hq o2)
      have hff : formP (turnP p b) = formP p := form_turn hpo hb
      have hF : pErr (formP p) = none := by rw [e1]; exact pErr_turn hp o1
      rw [← e1] at t2
      rw [← e2, hff] at t3
      rw [hff] at f2
      have c1 := Pure.up3 (cmp_same hF)
      have hle := form_le hp
      have c2 := Pure.up3 (cmp_by hF hp)
      have hbm : b ∈ mapsP p (turnP p b) := (mem_maps hpo (by have := turnP_ok hb hpo; exact this)).2 ⟨hb, rfl⟩
      obtain ⟨m, hm1, hm2⟩ := map_some hp hq hbm
      have hm2 := Pure.up3 hm2
      obtain ⟨om, em⟩ := (mem_maps hpo (turnP_ok hb hpo)).1 hm1
      have t4 := Pure.up3 (turn_by hp om)
      rw [em] at t4
      have c3 := Pure.up3 (cmp_same hq)
      have hak := Pure.up3 (alike_pure hp hq (by omega) (by omega))
      rw [decide_eq_true hff.symm] at hak
      have w1 := Pure.up3 (own_pure hp (by omega))
      have w2 := Pure.up3 (own_pure hq (by omega))
      have hlen := own_turn hpo hb
      have hpos := own_pos hpo
      obtain ⟨cc, hcc⟩ := own_all hpo
      have hlp := maps_le p p (by omega)
      generalize mapsP (turnP p b) (turnP p b) = X2 at w2 hlen
      generalize mapsP p p = X1 at w1 hlen hpos hcc hlp
      have hd1 : (X1.map dInts).length = X1.length := List.length_map _
      have hd2 : (X2.map dInts).length = X2.length := List.length_map _
      have hmod : (facN i : Int).tmod ((X1.map dInts).length : Int) = 0 := by
        rw [hfi, hd1, Int.tmod_eq_emod_of_nonneg (by omega), ← Int.natCast_emod, hcc, Nat.mul_mod_left]; rfl
      generalize cmpP (formP p) p = z at c2 hle
      generalize formP p = F at f1 f2 t2 t3 c1 c2
      generalize turnP p b = q at t1 f2 t3 hm2 t4 c3 hak w2
      generalize byP p = B1 at f1 t2
      generalize byP q = B2 at f2 t3
      clear hof hal hsm hpf hcc hbm hm1 e1 e2 em
      (conv => whnf)
      (repeat' ((first | refine ord_ok (by (conv => whnf); (repeat' ((first | refine call_eq rfl t1 ?_ | refine call_eq rfl f1 ?_ | refine call_eq rfl f2 ?_ | refine call_eq rfl c1 ?_ | refine call_eq rfl t2 ?_ | refine call_eq rfl t3 ?_ | refine call_eq rfl hm2 ?_ | refine call_eq rfl c2 ?_ | refine call_eq rfl hak ?_ | refine call_eq rfl t4 ?_ | refine call_eq rfl w1 ?_ | refine call_eq rfl w2 ?_ | refine call_eq rfl c3 ?_ | refine ify ?_ | refine ifn ?_ | refine i6 ?_ | refine ati ?_ | refine mst ?_ | refine rmd ?_ | refine ibo (fun _ => ?_) (fun _ => ?_)) <;> conv => whnf)); (all_goals (repeat' (first | exact trivial | exact rfl | refine And.intro ?_ ?_)))) ?_ | refine call_eq rfl t1 ?_ | refine call_eq rfl f1 ?_ | refine call_eq rfl f2 ?_ | refine call_eq rfl c1 ?_ | refine call_eq rfl t2 ?_ | refine call_eq rfl t3 ?_ | refine call_eq rfl hm2 ?_ | refine call_eq rfl c2 ?_ | refine call_eq rfl hak ?_ | refine call_eq rfl t4 ?_ | refine call_eq rfl w1 ?_ | refine call_eq rfl w2 ?_ | refine call_eq rfl c3 ?_ | refine ify ?_ | refine ifn ?_ | refine i6 ?_ | refine ati ?_ | refine mst ?_ | refine rmd ?_ | refine ibo (fun _ => ?_) (fun _ => ?_)) <;> conv => whnf))
      exact congrArg Da.bool (decide_eq_true hmod)
  · rw [decide_eq_false hs] at hsm
    (conv => whnf)
    (repeat' ((first | refine ord_ok (by (conv => whnf); (repeat' ((first | refine call_eq rfl hal ?_ | refine call_eq rfl hsm ?_ | refine ify ?_ | refine ifn ?_ | refine i6 ?_ | refine ati ?_ | refine mst ?_ | refine rmd ?_ | refine ibo (fun _ => ?_) (fun _ => ?_)) <;> conv => whnf)); (all_goals (repeat' (first | exact trivial | exact rfl | refine And.intro ?_ ?_)))) ?_ | refine call_eq rfl hal ?_ | refine call_eq rfl hsm ?_ | refine ify ?_ | refine ifn ?_ | refine i6 ?_ | refine ati ?_ | refine mst ?_ | refine rmd ?_ | refine ibo (fun _ => ?_) (fun _ => ?_)) <;> conv => whnf))
    exact rfl
end Go.Proofs.YthegabgbakckfaaGreatDoor
