/- Merged: Qcn. -/
import Derived.Test.YteigfapjiekdnaaGreatDoorKcav
import Derived.Test.YteigfapjiekdnaaGreatDoorKcbc
import Derived.Test.YteigfapjiekdnaaGreatDoorKcbf
section
/- law12: QuickCounts: the walk. -/
namespace Go.Gr
open Go.Proofs.YteigfapjiekdnaaGreatDoor
theorem one_pErr {x : Int} (h : 0 ≤ x ∧ x ≤ 255) : pErr ⟨[x], []⟩ = none :=
  pErr_of (n := 1) ⟨rfl, (fun e he => by cases he), List.Pairwise.nil⟩ (by decide) fun y hy => by rw [List.mem_singleton.1 hy]; exact h
end Go.Gr
namespace Go.Proofs.YteigfapjiekdnaaGreatDoor
open Go.Sx Go.RowKit Go.Reg Go.Gr

set_option maxRecDepth 100000
theorem images_at (G : Gr) (hG : G.Ok) {p : Pt} (hp : pErr p = none) (h0 : p.labels ≠ []) (whole : Bool) (hG10 : G.labels.length ≤ 10) (h8 : p.labels.length ≤ 8) (hme : p.edges.length ≤ 1000) : Pure C1 28 [dG G, dPt p, .bool whole] (fun y => y = dLL (imgP G p whole)) := by
  have him := qimages_pure G hG p whole hG10 (by omega) (by omega)
  have ei : imagesY G p whole = dLL (imgP G p whole) := by unfold imagesY; rw [if_pos ⟨hp, h0⟩]; rfl
  rwa [ei] at him
theorem img_le (G : Gr) {p : Pt} (whole : Bool) (hG10 : G.labels.length ≤ 10) (h8 : p.labels.length ≤ 8) : (imgP G p whole).length ≤ 100000000 := Nat.le_trans (imgs_len _ _) (pow_le8 hG10 h8)
def pl_qco : List (Nat × Plan) := [(15, .leaf [0, 1, 2, 0, 1, 2, 0, 1, 2, 0, 0, 0] [0, 3, 6, 1, 4, 7, 2, 5, 8, 9, 10, 11] [0, 0, 3, 0, 0, 31, 0, 0, 255, 511, 1023, 2047]),
  (24, .leaf [0, 0, 2, 0, 1, 0, 1, 0] [0, 1, 3, 4, 5, 6, 2, 7] [0, 0, 3, 0, 8, 24, 56, 127]),
  (30, .split 11 15 (.leaf [1, 0, 1, 0, 0, 0, 1, 0, 0, 0, 1, 2, 0, 0, 0, 6, 3, 0] [1, 3, 4, 5, 0, 2, 6, 7, 8, 9, 10, 11, 12, 13, 14, 15, 16, 17] [0, 0, 2, 0, 8, 0, 32, 96, 248, 510, 1022, 2047, 4095, 8191, 8191, 4095, 49151, 131071]) (.leaf [1, 0, 1, 0, 0, 0, 1, 0, 0, 0, 1, 2, 0, 0, 0, 6, 3, 0] [1, 3, 4, 5, 0, 2, 6, 7, 8, 9, 10, 15, 11, 12, 13, 14, 16, 17] [0, 0, 2, 0, 8, 0, 32, 96, 248, 510, 1022, 34815, 36863, 40959, 40959, 0, 49151, 131071]))]
def G_qco : List FuncId := [30, 10, 19, 31, 32, 33, 28, 34, 12, 13, 29]
theorem cok_qco : codeOk Tryz.prog G_qco pl_qco (Tryz.f5.body.getD .skip) = true := by kernel_rfl
theorem run_qco (vs : Array Value) (w : World) : (callFunc 5 vs).run C1.P w = .ok (.enter 5 vs) w := by kernel_rfl
set_option maxHeartbeats 16000000 in
theorem qcounts_pure (labels : List Int) (edges : List Edg) (p : Pt) (a b : Int) (hpe : p.edges.length ≤ 8796093022207) (ha : 0 ≤ a ∧ a ≤ 65535) (hb : 0 ≤ b ∧ b ≤ 255) : Sx.Pure C3 5 [dIs labels, dEs edges, dPt p, .int .u16 a, .int .u8 b] (fun y => y = .bool true) := by
  have hdl : (labels.map dI).length = labels.length := List.length_map _
  have hdp : (p.labels.map dI).length = p.labels.length := List.length_map _
  have hde : (p.edges.map dE).length = p.edges.length := List.length_map _
  have hal := qalive_pure
  have hmd := Pure.up3 (made_pure labels edges)
  have hof := Pure.up3 (lawptL_pure p hpe)
  refine pure_of c3_ok (pl := pl_qco) (G := G_qco) Tryz.func5 rfl Tryz.ntmps5 run_qco cok_qco (by simp) ?_
  rcases made_case labels edges with e | ⟨G, e, hG, hn, hm, hGe, _, hlen⟩
  · rw [e] at hmd
    (conv => whnf)
    (repeat' ((first | refine ord_ok (by (conv => whnf); (repeat' ((first | refine call_eq rfl hal ?_ | refine call_eq rfl hmd ?_ | refine call_eq rfl hof ?_ | refine ify ?_ | refine ifn ?_ | refine i6 ?_ | refine ati ?_ | refine mst ?_ | refine rmd ?_ | refine ibo (fun _ => ?_) (fun _ => ?_)) <;> conv => whnf)); (all_goals (repeat' (first | exact trivial | exact rfl | refine And.intro ?_ ?_)))) ?_ | refine call_eq rfl hal ?_ | refine call_eq rfl hmd ?_ | refine call_eq rfl hof ?_ | refine ify ?_ | refine ifn ?_ | refine i6 ?_ | refine ati ?_ | refine mst ?_ | refine rmd ?_ | refine ibo (fun _ => ?_) (fun _ => ?_)) <;> conv => whnf))
    exact rfl
  rw [e] at hmd
  by_cases h7 : 7 < labels.length
  · (conv => whnf)
    (repeat' ((first | refine ord_ok (by (conv => whnf); (repeat' ((first | refine call_eq rfl hal ?_ | refine call_eq rfl hmd ?_ | refine call_eq rfl hof ?_ | refine ify ?_ | refine ifn ?_ | refine i6 ?_ | refine ati ?_ | refine mst ?_ | refine rmd ?_ | refine ibo (fun _ => ?_) (fun _ => ?_)) <;> conv => whnf)); (all_goals (repeat' (first | exact trivial | exact rfl | refine And.intro ?_ ?_)))) ?_ | refine call_eq rfl hal ?_ | refine call_eq rfl hmd ?_ | refine call_eq rfl hof ?_ | refine ify ?_ | refine ifn ?_ | refine i6 ?_ | refine ati ?_ | refine mst ?_ | refine rmd ?_ | refine ibo (fun _ => ?_) (fun _ => ?_)) <;> conv => whnf))
    exact rfl
  by_cases h4 : 4 < p.labels.length
  · (conv => whnf)
    (repeat' ((first | refine ord_ok (by (conv => whnf); (repeat' ((first | refine call_eq rfl hal ?_ | refine call_eq rfl hmd ?_ | refine call_eq rfl hof ?_ | refine ify ?_ | refine ifn ?_ | refine i6 ?_ | refine ati ?_ | refine mst ?_ | refine rmd ?_ | refine ibo (fun _ => ?_) (fun _ => ?_)) <;> conv => whnf)); (all_goals (repeat' (first | exact trivial | exact rfl | refine And.intro ?_ ?_)))) ?_ | refine call_eq rfl hal ?_ | refine call_eq rfl hmd ?_ | refine call_eq rfl hof ?_ | refine ify ?_ | refine ifn ?_ | refine i6 ?_ | refine ati ?_ | refine mst ?_ | refine rmd ?_ | refine ibo (fun _ => ?_) (fun _ => ?_)) <;> conv => whnf))
    exact rfl
  by_cases h0 : p.labels.length = 0
  · (conv => whnf)
    (repeat' ((first | refine ord_ok (by (conv => whnf); (repeat' ((first | refine call_eq rfl hal ?_ | refine call_eq rfl hmd ?_ | refine call_eq rfl hof ?_ | refine ify ?_ | refine ifn ?_ | refine i6 ?_ | refine ati ?_ | refine mst ?_ | refine rmd ?_ | refine ibo (fun _ => ?_) (fun _ => ?_)) <;> conv => whnf)); (all_goals (repeat' (first | exact trivial | exact rfl | refine And.intro ?_ ?_)))) ?_ | refine call_eq rfl hal ?_ | refine call_eq rfl hmd ?_ | refine call_eq rfl hof ?_ | refine ify ?_ | refine ifn ?_ | refine i6 ?_ | refine ati ?_ | refine mst ?_ | refine rmd ?_ | refine ibo (fun _ => ?_) (fun _ => ?_)) <;> conv => whnf))
    exact rfl
  have hri := Pure.up3 (pright_pure p (by omega) (by omega))
  cases hp : pErr p with
  | some x =>
    obtain ⟨c, i⟩ := x
    obtain ⟨s, hs⟩ := rightP_some hp
    rw [hs] at hri
    (conv => whnf)
    (repeat' ((first | refine ord_ok (by (conv => whnf); (repeat' ((first | refine call_eq rfl hal ?_ | refine call_eq rfl hmd ?_ | refine call_eq rfl hof ?_ | refine call_eq rfl hri ?_ | refine ify ?_ | refine ifn ?_ | refine i6 ?_ | refine ati ?_ | refine mst ?_ | refine rmd ?_ | refine ibo (fun _ => ?_) (fun _ => ?_)) <;> conv => whnf)); (all_goals (repeat' (first | exact trivial | exact rfl | refine And.intro ?_ ?_)))) ?_ | refine call_eq rfl hal ?_ | refine call_eq rfl hmd ?_ | refine call_eq rfl hof ?_ | refine call_eq rfl hri ?_ | refine ify ?_ | refine ifn ?_ | refine i6 ?_ | refine ati ?_ | refine mst ?_ | refine rmd ?_ | refine ibo (fun _ => ?_) (fun _ => ?_)) <;> conv => whnf))
    exact rfl
  | none =>
    rw [rightP_none hp] at hri
    (conv => whnf)
    (repeat' ((first | refine ord_ok (by (conv => whnf); (repeat' ((first | refine call_eq rfl hal ?_ | refine call_eq rfl hmd ?_ | refine call_eq rfl hof ?_ | refine call_eq rfl hri ?_ | refine ify ?_ | refine ifn ?_ | refine i6 ?_ | refine ati ?_ | refine mst ?_ | refine rmd ?_ | refine ibo (fun _ => ?_) (fun _ => ?_)) <;> conv => whnf)); (all_goals (repeat' (first | exact trivial | exact rfl | refine And.intro ?_ ?_)))) ?_ | refine call_eq rfl hal ?_ | refine call_eq rfl hmd ?_ | refine call_eq rfl hof ?_ | refine call_eq rfl hri ?_ | refine ify ?_ | refine ifn ?_ | refine i6 ?_ | refine ati ?_ | refine mst ?_ | refine rmd ?_ | refine ibo (fun _ => ?_) (fun _ => ?_)) <;> conv => whnf))
    have hE := pt_edges hp
    have hpo := pt_of hp
    have hlr := (lErr_none (pErr_none hp).1).2
    clear hpe
    obtain ⟨l0, ls, hpl⟩ : ∃ l0 ls, p.labels = l0 :: ls := by
      cases hl : p.labels with
      | nil => rw [hl] at h0; exact absurd rfl h0
      | cons x l => exact ⟨x, l, rfl⟩
    have hone := one_pErr (hlr l0 (by rw [hpl]; simp))
    have h0d : (p.labels.map dI)[0]? = some (.int .i64 l0) := by rw [hpl]; rfl
    have ht1 : (p.labels.map dI).take 1 = [dI l0] := by rw [hpl]; rfl
    have hne : p.labels ≠ [] := by rw [hpl]; simp
    obtain ⟨n, hnn⟩ : ∃ n, p.labels.length = n := ⟨_, rfl⟩
    refine loop_lo (ι := Nat) (fun i => i + 1 ≤ n ∨ i = n) (fun i => [(17, .d (.int .i64 (i + 1 : Nat))), (16, .d (.int .i64 (facN i : Nat))), (15, .d (.int .i64 (p.labels.map dI).length)), (14, .own 14), (11, .d (dG G)), (7, .own 7), (4, .d (.int .u8 b)), (3, .d (.int .u16 a))]) (fun _ => [(7, .cells 47 [.d (dIs p.labels), .d (dEs p.edges)]), (14, .cells 38 [.d (dIs p.labels), .d (dEs p.edges)])]) (fun i => n + 1 - i) 1 (fun _ => rfl) (by omega) (.refl _ _) ⟨rfl, rfl, rfl, rfl, rfl, rfl, rfl, rfl, trivial⟩ ⟨rfl, rfl, trivial⟩ ?_
    intro i hi
    refine sxCode_sound c3_ok (G := G_qco) (pl := pl_qco) _ _ _ _ (by kernel_rfl) ?_
    by_cases hlt : i + 1 ≤ n
    · have hf := facN_le (i + 1) (by omega)
      have hm : (facN i : Int) * ((i + 1 : Nat) : Int) = ((facN (i + 1) : Nat) : Int) := by
        rw [show facN (i + 1) = (i + 1) * facN i from rfl, Int.natCast_mul, Int.mul_comm]
      have hw : IntKind.i64.wrap ((facN i : Int) * ((i + 1 : Nat) : Int)) = ((facN (i + 1) : Nat) : Int) := by
        rw [hm]; exact wrap64_in ⟨by omega, by omega⟩
      (conv => whnf)
      (repeat' ((first | refine ord_ok (by (conv => whnf); (repeat' ((first | refine int_to hw ?_ | refine ify ?_ | refine ifn ?_ | refine i6 ?_ | refine ati ?_ | refine mst ?_ | refine rmd ?_ | refine ibo (fun _ => ?_) (fun _ => ?_)) <;> conv => whnf)); (all_goals (repeat' (first | exact trivial | exact rfl | refine And.intro ?_ ?_)))) ?_ | refine int_to hw ?_ | refine ify ?_ | refine ifn ?_ | refine i6 ?_ | refine ati ?_ | refine mst ?_ | refine rmd ?_ | refine ibo (fun _ => ?_) (fun _ => ?_)) <;> conv => whnf))
      exact ⟨i + 1, _, _, by omega, .refl _ _, ⟨int_is (by omega), rfl, rfl, rfl, rfl, rfl, rfl, rfl, trivial⟩, ⟨rfl, rfl, trivial⟩, by omega⟩
    · have hin : i = n := by omega
      subst hin
      have hfp := facN_pos i
      have hfl := facN_le i (by omega)
      obtain ⟨r, hr⟩ := Int.eq_ofNat_of_zero_le ha.1
      subst hr
      have hrm : (r : Int).tmod (facN i : Int) = ((r % facN i : Nat) : Int) := by rw [Int.tmod_eq_emod_of_nonneg (by omega), ← Int.natCast_emod]
      have hrl := Nat.mod_lt r hfp
      rw [hnn] at hpo
      have hpf : Sx.Pure C3 32 [.int .i64 ((p.labels.map dI).length : Nat), .int .i64 ((r : Int).tmod (facN i : Int))] (fun y => ∃ b, IsOrd i b ∧ y = .tuple [dIs b, .nili]) := by
        rw [hrm, hdp, hnn]
        exact Pure.up3 (permof_pure _ _ (by omega) hrl)
      ((conv => whnf); repeat' ((first | refine odw ?_ | refine ify ?_ | refine ifn ?_ | refine i6 ?_ | refine ati ?_ | refine mst ?_ | refine rmd ?_ | refine ibo (fun _ => ?_) (fun _ => ?_)) <;> conv => whnf))
      refine call_pure rfl hpf ?_; rintro y ⟨o, ho, rfl⟩
      have ho' : IsOrd p.labels.length o := by rw [hnn]; exact ho
      have hq := pErr_turn hp ho'
      have hEq := pt_edges hq
      have hql : (turnP p o).labels.length = p.labels.length := turnP_len _ _
      have hqne : (turnP p o).labels ≠ [] := fun e => by rw [e] at hql; simp at hql; omega
      have t1 := Pure.up3 (turn_by hp ho')
      have g1 := Pure.up3 (images_at G hG hp hne false hn (by omega) (by omega))
      have g2 := Pure.up3 (images_at G hG hq hqne false hn (by omega) (by omega))
      have g3 := Pure.up3 (images_at G hG hp hne true hn (by omega) (by omega))
      have g4 := Pure.up3 (own_pure hp (by omega))
      have g5 := Pure.up3 (images_at G hG hone (by simp) false hn (by simp) (by simp))
      have g5 : Sx.Pure C3 28 [dG G, .agg [.list 1 ((p.labels.map dI).take 1), .nils], .bool false] (fun y => y = dLL (imgP G ⟨[l0], []⟩ false)) := by
        rw [ht1]
        exact Sx.Pure.lax (.cons (.refl _) (.cons (.agg (.cons (.refl _) (.cons (.nils 2) .nil))) (.cons (.refl _) .nil))) g5
      have k1 := imgP_turn (G := G) (w := false) ho hpo
      have k2 := imgP_le (G := G) (p := p) (q := p) (w := true) (v := false) fun L h => img_loose h
      obtain ⟨c1, k3⟩ := own_divides (G := G) (w := false) hpo
      obtain ⟨c2, k4⟩ := own_divides (G := G) (w := true) hpo
      have k5 := own_pos hpo
      have k6 := imgP_one_len G l0 false
      have m1 := img_le G (p := p) false hn (by omega)
      have m2 := cntL_le G l0 G.labels.length
      have hless : ∀ k e, p.edges[k]? = some e → Sx.Pure C3 29 [dPt p, dE e] (fun y => y = .tuple [dPt (lessP p k), .nili]) ∧ Sx.Pure C3 28 [dG G, dPt (lessP p k), .bool false] (fun y => y = dLL (imgP G (lessP p k) false)) ∧ (imgP G p false).length ≤ (imgP G (lessP p k) false).length ∧ (imgP G (lessP p k) false).length ≤ 100000000 := by
        intro k e he
        have hpe := pErr_less hp (by omega) k
        have hEl := pt_edges hpe
        exact ⟨Pure.up3 (ptless_pure hp he), Pure.up3 (images_at G hG hpe hne false hn (by show p.labels.length ≤ 8; omega) (by omega)), imgP_le fun L h => img_less k h, img_le G (p := lessP p k) false hn (by show p.labels.length ≤ 8; omega)⟩
      generalize imgP G (turnP p o) false = Y at g2 k1
      generalize imgP G p false = X at g1 k1 k2 k3 m1 hless
      generalize imgP G p true = Z at g3 k2 k4
      generalize imgP G ⟨[l0], []⟩ false = V at g5 k6
      generalize mapsP p p = O at g4 k3 k4 k5
      generalize turnP p o = q at t1 g2
      have lX : (X.map dIs).length = X.length := List.length_map _
      have lY : (Y.map dIs).length = Y.length := List.length_map _
      have lZ : (Z.map dIs).length = Z.length := List.length_map _
      have lV : (V.map dIs).length = V.length := List.length_map _
      have lO : (O.map dInts).length = O.length := List.length_map _
      have dv : ∀ (x c : Nat), x = c * O.length → (x : Int).tmod (O.length : Int) = 0 := by
        intro x c h
        rw [h, Int.natCast_mul]
        exact Int.mul_tmod_left _ _
      have d1 : ((X.map dIs).length : Int).tmod ((O.map dInts).length : Int) = 0 := by rw [lX, lO]; exact dv _ _ k3
      have d2 : ((Z.map dIs).length : Int).tmod ((O.map dInts).length : Int) = 0 := by rw [lZ, lO]; exact dv _ _ k4
      (conv => whnf)
      (repeat' ((first | refine ord_ok (by (conv => whnf); (repeat' ((first | refine call_eq rfl t1 ?_ | refine call_eq rfl g1 ?_ | refine call_eq rfl g2 ?_ | refine call_eq rfl g3 ?_ | refine call_eq rfl g4 ?_ | refine if_no (fun h => h d1) ?_ | refine if_no (fun h => h d2) ?_ | refine upto_e rfl (show 1 ≤ (p.labels.map dI).length by omega) ?_ | refine call_eq rfl g5 ?_ | refine ify ?_ | refine ifn ?_ | refine i6 ?_ | refine ati ?_ | refine mst ?_ | refine rmd ?_ | refine ibo (fun _ => ?_) (fun _ => ?_)) <;> conv => whnf)); (all_goals (repeat' (first | exact trivial | exact rfl | refine And.intro ?_ ?_)))) ?_ | refine call_eq rfl t1 ?_ | refine call_eq rfl g1 ?_ | refine call_eq rfl g2 ?_ | refine call_eq rfl g3 ?_ | refine call_eq rfl g4 ?_ | refine if_no (fun h => h d1) ?_ | refine if_no (fun h => h d2) ?_ | refine upto_e rfl (show 1 ≤ (p.labels.map dI).length by omega) ?_ | refine call_eq rfl g5 ?_ | refine ify ?_ | refine ifn ?_ | refine i6 ?_ | refine ati ?_ | refine mst ?_ | refine rmd ?_ | refine ibo (fun _ => ?_) (fun _ => ?_)) <;> conv => whnf))
      refine loop_lo (ι := Nat) (fun v => v ≤ G.labels.length) (fun v => [(29, .d (.int .i64 v)), (28, .d (.int .i64 (cntL G l0 v : Nat))), (27, .d (dLL V)), (22, .d (dLL X)), (14, .own 14), (11, .d (dG G)), (7, .own 7), (4, .d (.int .u8 b))]) (fun _ => [(7, .cells 47 [.d (dIs p.labels), .d (dEs p.edges)]), (14, .cells 38 [.d (dIs p.labels), .d (dEs p.edges)])]) (fun v => G.labels.length - v) 0 (fun _ => rfl) (Nat.zero_le _) (.refl _ _) ⟨rfl, rfl, rfl, rfl, rfl, rfl, rfl, rfl, trivial⟩ ⟨rfl, rfl, trivial⟩ ?_
      intro v hv
      refine sxCode_sound c3_ok (G := G_qco) (pl := pl_qco) _ _ _ _ (by kernel_rfl) ?_
      have hln := Pure.up3 (len_pure G)
      by_cases hvl : v < G.labels.length
      · have hla := Pure.up3 (label_pure G v)
        have hst := cntL_succ G l0 v
        have hle := cntL_le G l0 v
        by_cases hl : labelV G v = l0
        · rw [if_pos hl] at hst
          (conv => whnf)
          (repeat' ((first | refine ord_ok (by (conv => whnf); (repeat' ((first | refine call_eq rfl hln ?_ | refine call_eq rfl hla ?_ | refine at_da h0d rfl ?_ | refine ify ?_ | refine ifn ?_ | refine i6 ?_ | refine ati ?_ | refine mst ?_ | refine rmd ?_ | refine ibo (fun _ => ?_) (fun _ => ?_)) <;> conv => whnf)); (all_goals (repeat' (first | exact trivial | exact rfl | refine And.intro ?_ ?_)))) ?_ | refine call_eq rfl hln ?_ | refine call_eq rfl hla ?_ | refine at_da h0d rfl ?_ | refine ify ?_ | refine ifn ?_ | refine i6 ?_ | refine ati ?_ | refine mst ?_ | refine rmd ?_ | refine ibo (fun _ => ?_) (fun _ => ?_)) <;> conv => whnf))
          exact ⟨v + 1, _, _, hvl, .refl _ _, ⟨rfl, int_is (by omega), rfl, rfl, rfl, rfl, rfl, rfl, trivial⟩, ⟨rfl, rfl, trivial⟩, by omega⟩
        · rw [if_neg hl] at hst
          (conv => whnf)
          (repeat' ((first | refine ord_ok (by (conv => whnf); (repeat' ((first | refine call_eq rfl hln ?_ | refine call_eq rfl hla ?_ | refine at_da h0d rfl ?_ | refine ify ?_ | refine ifn ?_ | refine i6 ?_ | refine ati ?_ | refine mst ?_ | refine rmd ?_ | refine ibo (fun _ => ?_) (fun _ => ?_)) <;> conv => whnf)); (all_goals (repeat' (first | exact trivial | exact rfl | refine And.intro ?_ ?_)))) ?_ | refine call_eq rfl hln ?_ | refine call_eq rfl hla ?_ | refine at_da h0d rfl ?_ | refine ify ?_ | refine ifn ?_ | refine i6 ?_ | refine ati ?_ | refine mst ?_ | refine rmd ?_ | refine ibo (fun _ => ?_) (fun _ => ?_)) <;> conv => whnf))
          exact ⟨v + 1, _, _, hvl, .refl _ _, ⟨rfl, int_is (by omega), rfl, rfl, rfl, rfl, rfl, rfl, trivial⟩, ⟨rfl, rfl, trivial⟩, by omega⟩
      · have hve : v = G.labels.length := by omega
        subst hve
        by_cases hE0 : p.edges.length = 0
        · (conv => whnf)
          (repeat' ((first | refine ord_ok (by (conv => whnf); (repeat' ((first | refine call_eq rfl hln ?_ | refine ify ?_ | refine ifn ?_ | refine i6 ?_ | refine ati ?_ | refine mst ?_ | refine rmd ?_ | refine ibo (fun _ => ?_) (fun _ => ?_)) <;> conv => whnf)); (all_goals (repeat' (first | exact trivial | exact rfl | refine And.intro ?_ ?_)))) ?_ | refine call_eq rfl hln ?_ | refine ify ?_ | refine ifn ?_ | refine i6 ?_ | refine ati ?_ | refine mst ?_ | refine rmd ?_ | refine ibo (fun _ => ?_) (fun _ => ?_)) <;> conv => whnf))
          exact rfl
        · obtain ⟨s, hs⟩ := Int.eq_ofNat_of_zero_le hb.1
          subst hs
          have hsl := Nat.mod_lt s (show 0 < p.edges.length by omega)
          have hsm : (s : Int).tmod ((p.edges.map dE).length : Int) = ((s % p.edges.length : Nat) : Int) := by rw [hde, Int.tmod_eq_emod_of_nonneg (by omega), ← Int.natCast_emod]
          generalize s % p.edges.length = k at hsl hsm
          have he := List.getElem?_eq_getElem hsl
          generalize p.edges[k] = x at he
          have hed : (p.edges.map dE)[k]? = some (.agg [.int .i64 x.a, .int .i64 x.b]) := by rw [List.getElem?_map, he]; rfl
          obtain ⟨w1, w2, w3, w4⟩ := hless k x he
          generalize imgP G (lessP p k) false = W at w2 w3 w4
          generalize lessP p k = z at w1 w2
          have lW : (W.map dIs).length = W.length := List.length_map _
          (conv => whnf)
          (repeat' ((first | refine ord_ok (by (conv => whnf); (repeat' ((first | refine call_eq rfl hln ?_ | refine at_da hed hsm ?_ | refine call_eq rfl w1 ?_ | refine call_eq rfl w2 ?_ | refine ify ?_ | refine ifn ?_ | refine i6 ?_ | refine ati ?_ | refine mst ?_ | refine rmd ?_ | refine ibo (fun _ => ?_) (fun _ => ?_)) <;> conv => whnf)); (all_goals (repeat' (first | exact trivial | exact rfl | refine And.intro ?_ ?_)))) ?_ | refine call_eq rfl hln ?_ | refine at_da hed hsm ?_ | refine call_eq rfl w1 ?_ | refine call_eq rfl w2 ?_ | refine ify ?_ | refine ifn ?_ | refine i6 ?_ | refine ati ?_ | refine mst ?_ | refine rmd ?_ | refine ibo (fun _ => ?_) (fun _ => ?_)) <;> conv => whnf))
          exact congrArg Da.bool (decide_eq_true (by omega))
end Go.Proofs.YteigfapjiekdnaaGreatDoor
end
