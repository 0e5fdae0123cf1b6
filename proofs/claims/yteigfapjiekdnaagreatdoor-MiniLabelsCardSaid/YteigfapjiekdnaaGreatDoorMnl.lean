/- law15: alive, MiniLabels: the walks. -/
import Derived.Test.YteigfapjiekdnaaGreatDoorZmn
import Derived.Test.YteigfapjiekdnaaGreatDoorCag
import Derived.Test.YteigfapjiekdnaaGreatDoorRfa
import Derived.Test.YteigfapjiekdnaaGreatDoorZln
import Derived.Test.YteigfapjiekdnaaGreatDoorFau
namespace Go.Gr
open Go.Proofs.YteigfapjiekdnaaGreatDoor
def mxG : Gr := ⟨[0, 0, 0], [⟨0, 2⟩, ⟨1, 2⟩]⟩
def mxP : Pt := ⟨[0, 0], [⟨0, 1⟩]⟩
theorem mx_canon : canon [⟨0, 2⟩, ⟨1, 2⟩] = mxG.edges := (canon_eq (by decide) (by decide) (by decide)).symm
theorem mx_made : madeG [0, 0, 0] [⟨0, 2⟩, ⟨1, 2⟩] = some mxG := by
  unfold madeG
  rw [if_pos (by decide), show newErr [0, 0, 0] [⟨0, 2⟩, ⟨1, 2⟩] = none by decide, mx_canon]; rfl
theorem mx_ok : mxG.Ok := (madeG_some mx_made).2.1
theorem mx_sup : supP mxG mxP = 3 := by
  unfold supP
  rw [show imgP mxG mxP false = [[0, 2], [1, 2], [2, 0], [2, 1]] by decide]
  have h0 : colS [[0, 2], [1, 2], [2, 0], [2, 1]] 0 = [0, 1, 2] := rise_eq (colS_rise _ _) (by decide) fun x => by
    rw [mem_colS]; simp
    constructor
    · rintro (h | h | h) <;> omega
    · rintro (h | h | h) <;> omega
  have h1 : colS [[0, 2], [1, 2], [2, 0], [2, 1]] 1 = [0, 1, 2] := rise_eq (colS_rise _ _) (by decide) fun x => by
    rw [mem_colS]; simp
    constructor
    · rintro (h | h | h) <;> omega
    · rintro (h | h | h) <;> omega
  exact leastL_is (s := [0, 1, 2]) (mem_colsS.2 ⟨0, by decide, h0⟩) fun t ht => by
    obtain ⟨i, hi, rfl⟩ := mem_colsS.1 ht
    have hi : i < 2 := hi
    match i with
    | 0 => rw [h0]; decide
    | 1 => rw [h1]; decide
    | i + 2 => omega
theorem small4 {a : Int} (h : 0 ≤ a) : ∃ x : Int, a.tmod 4 = x ∧ (x = 0 ∨ x = 1 ∨ x = 2 ∨ x = 3) := ⟨_, rfl, by
  have := Int.emod_lt_of_pos a (show (0 : Int) < 4 by decide)
  have := Int.emod_nonneg a (show (4 : Int) ≠ 0 by decide)
  rw [Int.tmod_eq_emod_of_nonneg h]; omega⟩
theorem one_right {x : Int} (h : x = 0 ∨ x = 1 ∨ x = 2 ∨ x = 3) : pErr ⟨[x], []⟩ = none := by rcases h with rfl | rfl | rfl | rfl <;> decide
theorem two_right {x y : Int} (h : x = 0 ∨ x = 1 ∨ x = 2 ∨ x = 3) (h' : y = 0 ∨ y = 1 ∨ y = 2 ∨ y = 3) : pErr ⟨[x, y], []⟩ = none ∧ pErr ⟨[x, y], [⟨0, 1⟩]⟩ = none := by
  rcases h with rfl | rfl | rfl | rfl <;> rcases h' with rfl | rfl | rfl | rfl <;> decide
theorem sup_one (G : Gr) (x : Int) : supP G ⟨[x], []⟩ = cntL G x G.labels.length := by
  show leastL (colsS 1 _) = _
  rw [least_one, col_one, labS_len]
theorem sup_x (G : Gr) (x y : Int) (E : List Edg) : supP G ⟨[x, y], E⟩ ≤ cntL G x G.labels.length :=
  Nat.le_trans (leastL_le (mem_colsS.2 ⟨0, by show 0 < 2; omega, rfl⟩)) (col_cnt (p := ⟨[x, y], E⟩) (i := 0) (by show 0 < 2; omega))
theorem sup_y (G : Gr) (x y : Int) (E : List Edg) : supP G ⟨[x, y], E⟩ ≤ cntL G y G.labels.length :=
  Nat.le_trans (leastL_le (mem_colsS.2 ⟨1, by show 1 < 2; omega, rfl⟩)) (col_cnt (p := ⟨[x, y], E⟩) (i := 1) (by show 1 < 2; omega))
theorem sup_xy (G : Gr) (x y : Int) : supP G ⟨[x, y], [⟨0, 1⟩]⟩ ≤ supP G ⟨[x, y], []⟩ :=
  least_mono fun _ hL => mem_imgP.2 (img_edge_no (mem_imgP.1 hL))
end Go.Gr
namespace Go.Proofs.YteigfapjiekdnaaGreatDoor
open Go.Sx Go.RowKit Go.Reg Go.Gr

set_option maxRecDepth 100000
def pl_mnw : List (Nat × Plan) := [(9, .leaf [1, 0, 0, 1, 0, 2, 0, 6, 0, 0] [1, 2, 0, 3, 4, 5, 6, 7, 8, 9] [0, 0, 0, 4, 12, 28, 63, 127, 255, 511])]
def G_mnw : List FuncId := [53, 43, 34]
theorem cok_mnw : codeOk Tryz.prog G_mnw pl_mnw (Tryz.f21.body.getD .skip) = true := by kernel_rfl
theorem run_mnw (vs : Array Value) (w : World) : (callFunc 21 vs).run C1.P w = .ok (.enter 21 vs) w := by kernel_rfl
theorem mnew_empty : Pure C1 21 [.agg [.nils, .nils]] (fun y => y = .tuple [.nilp, dF 2 0 patternS]) := by
  refine Sx.Pure.lax (.cons (.agg (.cons (.nils 1) (.cons (.nils 2) .nil))) .nil) ?_
  have hr := mright_empty
  refine pure_of c1_ok (pl := pl_mnw) (G := G_mnw) Tryz.func21 rfl Tryz.ntmps21 run_mnw cok_mnw (by simp) ?_
  (conv => whnf)
  (repeat' ((first | refine ord_ok (by (conv => whnf); (repeat' ((first | refine call_eq rfl hr ?_ | refine ify ?_ | refine ifn ?_ | refine i6 ?_ | refine ati ?_ | refine mst ?_ | refine rmd ?_ | refine ibo (fun _ => ?_) (fun _ => ?_)) <;> conv => whnf)); (all_goals (repeat' (first | exact trivial | exact rfl | refine And.intro ?_ ?_)))) ?_ | refine call_eq rfl hr ?_ | refine ify ?_ | refine ifn ?_ | refine i6 ?_ | refine ati ?_ | refine mst ?_ | refine rmd ?_ | refine ibo (fun _ => ?_) (fun _ => ?_)) <;> conv => whnf))
  exact rfl
def pl_mla : List (Nat × Plan) := []
def G_mla : List FuncId := [10, 14, 21, 45]
theorem cok_mla : codeOk Tryz.prog G_mla pl_mla (Tryz.f9.body.getD .skip) = true := by kernel_rfl
theorem run_mla (vs : Array Value) (w : World) : (callFunc 9 vs).run C1.P w = .ok (.enter 9 vs) w := by kernel_rfl
set_option maxHeartbeats 4000000 in
theorem malive_pure : Pure C1 9 [] (fun y => y = .bool true) := by
  have hmd := made_pure [0, 0, 0] [⟨0, 2⟩, ⟨1, 2⟩]
  rw [show madeY [0, 0, 0] [⟨0, 2⟩, ⟨1, 2⟩] = .tuple [dG mxG, dM mxG.labels mxG.edges, .bool true] by unfold madeY; rw [mx_made]] at hmd
  have hsu := support_pure mxG mx_ok (p := mxP) (by decide) (by decide) (by decide) (by decide) (by decide)
  rw [mx_sup] at hsu
  have hc := code_pure 2 0 patternS
  refine pure_of c1_ok (pl := pl_mla) (G := G_mla) Tryz.func9 rfl Tryz.ntmps9 run_mla cok_mla (by simp) ?_
  (conv => whnf)
  (repeat' ((first | refine ord_ok (by (conv => whnf); (repeat' ((first | refine call_frz 9 rfl ?_ | refine call_frz 12 rfl ?_ | refine call_eq (xs := [dIs [0, 0, 0], dEs [⟨0, 2⟩, ⟨1, 2⟩]]) rfl hmd ?_ | refine call_frz 19 rfl ?_ | refine call_frz 21 rfl ?_ | refine call_agg2 rfl ?_ | refine call_eq (xs := [dG mxG, dPt mxP]) rfl hsu ?_ | refine call_eq rfl mnew_empty ?_ | refine call_eq rfl hc ?_ | refine ify ?_ | refine ifn ?_ | refine i6 ?_ | refine ati ?_ | refine mst ?_ | refine rmd ?_ | refine ibo (fun _ => ?_) (fun _ => ?_)) <;> conv => whnf)); (all_goals (repeat' (first | exact trivial | exact rfl | refine And.intro ?_ ?_)))) ?_ | refine call_frz 9 rfl ?_ | refine call_frz 12 rfl ?_ | refine call_eq (xs := [dIs [0, 0, 0], dEs [⟨0, 2⟩, ⟨1, 2⟩]]) rfl hmd ?_ | refine call_frz 19 rfl ?_ | refine call_frz 21 rfl ?_ | refine call_agg2 rfl ?_ | refine call_eq (xs := [dG mxG, dPt mxP]) rfl hsu ?_ | refine call_eq rfl mnew_empty ?_ | refine call_eq rfl hc ?_ | refine ify ?_ | refine ifn ?_ | refine i6 ?_ | refine ati ?_ | refine mst ?_ | refine rmd ?_ | refine ibo (fun _ => ?_) (fun _ => ?_)) <;> conv => whnf))
  exact rfl
def pl_ml2 : List (Nat × Plan) := []
def G_ml2 : List FuncId := [12, 13]
theorem cok_ml2 : codeOk Tryz.prog G_ml2 pl_ml2 (Tryz.f11.body.getD .skip) = true := by kernel_rfl
theorem run_ml2 (vs : Array Value) (w : World) : (callFunc 11 vs).run C1.P w = .ok (.enter 11 vs) w := by kernel_rfl
theorem count_pure (G : Gr) (x : Int) (hG10 : G.labels.length ≤ 10) : Pure C1 11 [.int .i64 x, .ref (dG G)] (fun y => y = .int .i64 (cntL G x G.labels.length : Nat)) := by
  have hlen := len_pure G
  refine pure_of c1_ok (pl := pl_ml2) (G := G_ml2) Tryz.func11 rfl Tryz.ntmps11 run_ml2 cok_ml2 (by simp) ?_
  ((conv => whnf); repeat' ((first | refine odw ?_ | refine ify ?_ | refine ifn ?_ | refine i6 ?_ | refine ati ?_ | refine mst ?_ | refine rmd ?_ | refine ibo (fun _ => ?_) (fun _ => ?_)) <;> conv => whnf))
  refine loop_lo (ι := Nat) (fun v => v ≤ G.labels.length) (fun v => [(5, .d (.int .i64 v)), (4, .d (.int .i64 (cntL G x v : Nat))), (1, .d (.ref (dG G))), (0, .d (.int .i64 x))]) (fun _ => []) (fun v => G.labels.length - v) 0 (fun _ => rfl) (Nat.zero_le _) (.refl _ _) ⟨rfl, rfl, rfl, rfl, trivial⟩ trivial ?_
  intro v hv
  refine sxCode_sound c1_ok (G := G_ml2) (pl := pl_ml2) _ _ _ _ (by kernel_rfl) ?_
  by_cases hvl : v < G.labels.length
  · have hla := label_pure G v
    have hst := cntL_succ G x v
    have hle := cntL_le G x v
    by_cases hl : labelV G v = x
    · rw [if_pos hl] at hst
      (conv => whnf)
      (repeat' ((first | refine ord_ok (by (conv => whnf); (repeat' ((first | refine call_eq rfl hlen ?_ | refine call_eq rfl hla ?_ | refine ify ?_ | refine ifn ?_ | refine i6 ?_ | refine ati ?_ | refine mst ?_ | refine rmd ?_ | refine ibo (fun _ => ?_) (fun _ => ?_)) <;> conv => whnf)); (all_goals (repeat' (first | exact trivial | exact rfl | refine And.intro ?_ ?_)))) ?_ | refine call_eq rfl hlen ?_ | refine call_eq rfl hla ?_ | refine ify ?_ | refine ifn ?_ | refine i6 ?_ | refine ati ?_ | refine mst ?_ | refine rmd ?_ | refine ibo (fun _ => ?_) (fun _ => ?_)) <;> conv => whnf))
      exact ⟨v + 1, _, _, hvl, .refl _ _, ⟨rfl, int_is (by omega), rfl, rfl, trivial⟩, trivial, by omega⟩
    · rw [if_neg hl] at hst
      (conv => whnf)
      (repeat' ((first | refine ord_ok (by (conv => whnf); (repeat' ((first | refine call_eq rfl hlen ?_ | refine call_eq rfl hla ?_ | refine ify ?_ | refine ifn ?_ | refine i6 ?_ | refine ati ?_ | refine mst ?_ | refine rmd ?_ | refine ibo (fun _ => ?_) (fun _ => ?_)) <;> conv => whnf)); (all_goals (repeat' (first | exact trivial | exact rfl | refine And.intro ?_ ?_)))) ?_ | refine call_eq rfl hlen ?_ | refine call_eq rfl hla ?_ | refine ify ?_ | refine ifn ?_ | refine i6 ?_ | refine ati ?_ | refine mst ?_ | refine rmd ?_ | refine ibo (fun _ => ?_) (fun _ => ?_)) <;> conv => whnf))
      exact ⟨v + 1, _, _, hvl, .refl _ _, ⟨rfl, int_is (by omega), rfl, rfl, trivial⟩, trivial, by omega⟩
  · have hve : v = G.labels.length := by omega
    subst hve
    (conv => whnf)
    (repeat' ((first | refine ord_ok (by (conv => whnf); (repeat' ((first | refine call_eq rfl hlen ?_ | refine ify ?_ | refine ifn ?_ | refine i6 ?_ | refine ati ?_ | refine mst ?_ | refine rmd ?_ | refine ibo (fun _ => ?_) (fun _ => ?_)) <;> conv => whnf)); (all_goals (repeat' (first | exact trivial | exact rfl | refine And.intro ?_ ?_)))) ?_ | refine call_eq rfl hlen ?_ | refine ify ?_ | refine ifn ?_ | refine i6 ?_ | refine ati ?_ | refine mst ?_ | refine rmd ?_ | refine ibo (fun _ => ?_) (fun _ => ?_)) <;> conv => whnf))
    exact rfl
theorem any_succ {l : List Int} {f : Int → Bool} {q : Nat} {u : Int} (h : l[q]? = some u) : (l.take (q + 1)).any f = ((l.take q).any f || f u) := by
  rw [List.take_add_one, h, List.any_append]; simp
def pl_mll : List (Nat × Plan) := [(22, .leaf [0, 0, 1, 0, 0, 0, 1, 2, 0, 0, 0, 0] [0, 1, 3, 4, 5, 8, 2, 6, 7, 9, 10, 11] [0, 1, 3, 3, 3, 27, 59, 127, 3, 511, 1023, 2047])]
def G_mll : List FuncId := [9, 10, 14, 15, 12, 16, 13, 17, 11]
theorem cok_mll : codeOk Tryz.prog G_mll pl_mll (Tryz.f3.body.getD .skip) = true := by kernel_rfl
theorem run_mll (vs : Array Value) (w : World) : (callFunc 3 vs).run C1.P w = .ok (.enter 3 vs) w := by kernel_rfl
set_option maxHeartbeats 8000000 in
theorem llabels_pure (labels : List Int) (edges : List Edg) (a b : Int) (ha : 0 ≤ a ∧ a ≤ 255) (hb : 0 ≤ b ∧ b ≤ 255) : Pure C1 3 [dIs labels, dEs edges, .int .u8 a, .int .u8 b] (fun y => y = .bool true) := by
  have hal := malive_pure
  have hmd := made_pure labels edges
  refine pure_of c1_ok (pl := pl_mll) (G := G_mll) Tryz.func3 rfl Tryz.ntmps3 run_mll cok_mll (by simp) ?_
  rcases made_case labels edges with e | ⟨G, e, hG, hn, hm, hGe, _, hlen⟩
  · rw [e] at hmd
    (conv => whnf)
    (repeat' ((first | refine ord_ok (by (conv => whnf); (repeat' ((first | refine call_eq rfl hal ?_ | refine call_eq rfl hmd ?_ | refine ify ?_ | refine ifn ?_ | refine i6 ?_ | refine ati ?_ | refine mst ?_ | refine rmd ?_ | refine ibo (fun _ => ?_) (fun _ => ?_)) <;> conv => whnf)); (all_goals (repeat' (first | exact trivial | exact rfl | refine And.intro ?_ ?_)))) ?_ | refine call_eq rfl hal ?_ | refine call_eq rfl hmd ?_ | refine ify ?_ | refine ifn ?_ | refine i6 ?_ | refine ati ?_ | refine mst ?_ | refine rmd ?_ | refine ibo (fun _ => ?_) (fun _ => ?_)) <;> conv => whnf))
    exact rfl
  rw [e] at hmd
  obtain ⟨x, hx, hx4⟩ := small4 ha.1
  obtain ⟨y, hy, hy4⟩ := small4 hb.1
  subst hx hy
  have r1 := one_right hx4
  obtain ⟨r3, r2⟩ := two_right hx4 hy4
  have s1 := support_pure G hG r1 (by simp) hn (by simp) (by simp)
  have s2 := support_pure G hG r2 (by simp) hn (by simp) (by simp)
  have s3 := support_pure G hG r3 (by simp) hn (by simp) (by simp)
  have al := all_pure G hG r2 (by simp) hn (by simp) (by simp)
  have k1 := sup_one G (a.tmod 4)
  have k2 := sup_x G (a.tmod 4) (b.tmod 4) [⟨0, 1⟩]
  have k3 := sup_y G (a.tmod 4) (b.tmod 4) [⟨0, 1⟩]
  have k4 := sup_xy G (a.tmod 4) (b.tmod 4)
  have c1 := count_pure G (a.tmod 4) hn
  have c2 := count_pure G (b.tmod 4) hn
  have b1 := cntL_le G (a.tmod 4) G.labels.length
  have b2 := cntL_le G (b.tmod 4) G.labels.length
  have b3 := sup_x G (a.tmod 4) (b.tmod 4) []
  rw [k1] at s1
  have s1 : Pure C1 14 [dG G, .agg [dIs [(a.tmod 4)], .nils]] (fun y => y = .tuple [.int .i64 (cntL G (a.tmod 4) G.labels.length : Nat), .nili]) := Sx.Pure.lax (.cons (.refl _) (.cons (.agg (.cons (.refl _) (.cons (.nils 2) .nil))) .nil)) s1
  have s3 : Pure C1 14 [dG G, .agg [dIs [(a.tmod 4), (b.tmod 4)], .nils]] (fun z => z = .tuple [.int .i64 (supP G ⟨[(a.tmod 4), (b.tmod 4)], []⟩ : Nat), .nili]) := Sx.Pure.lax (.cons (.refl _) (.cons (.agg (.cons (.refl _) (.cons (.nils 2) .nil))) .nil)) s3
  have ce := fun (v : Nat) (hv : v < G.labels.length) => col_edge hG (x := (a.tmod 4)) (y := (b.tmod 4)) hv
  have hcl : (colS (imgP G ⟨[(a.tmod 4), (b.tmod 4)], [⟨0, 1⟩]⟩ false) 0).length ≤ 100000000 := Nat.le_trans (colS_len _ _) (Nat.le_trans (imgs_len _ _) (pow_le8 hn (by simp)))
  have alx : (colsS 2 (imgP G ⟨[(a.tmod 4), (b.tmod 4)], [⟨0, 1⟩]⟩ false)) = [colS (imgP G ⟨[(a.tmod 4), (b.tmod 4)], [⟨0, 1⟩]⟩ false) 0, colS (imgP G ⟨[(a.tmod 4), (b.tmod 4)], [⟨0, 1⟩]⟩ false) 1] := rfl
  rw [show (⟨[(a.tmod 4), (b.tmod 4)], [⟨0, 1⟩]⟩ : Pt).labels.length = 2 from rfl, alx] at al
  generalize colS (imgP G ⟨[(a.tmod 4), (b.tmod 4)], [⟨0, 1⟩]⟩ false) 0 = c at al ce hcl
  generalize colS (imgP G ⟨[(a.tmod 4), (b.tmod 4)], [⟨0, 1⟩]⟩ false) 1 = d at al
  generalize supP G ⟨[(a.tmod 4), (b.tmod 4)], [⟨0, 1⟩]⟩ = m at s2 k2 k3 k4
  generalize supP G ⟨[(a.tmod 4), (b.tmod 4)], []⟩ = k at s3 k4 b3
  obtain ⟨cd, hcd, hco⟩ : ∃ cd, dN c = cd ∧ (cd = .nils ∨ cd = dIs c) := ⟨_, rfl, dN_or c⟩
  rw [show List.map dN [c, d] = [dN c, dN d] from rfl, hcd] at al
  (conv => whnf)
  (repeat' ((first | refine ord_ok (by (conv => whnf); (repeat' ((first | refine call_eq rfl hal ?_ | refine call_eq rfl hmd ?_ | refine call_frz 48 rfl ?_ | refine call_agg2 rfl ?_ | refine call_eq rfl s1 ?_ | refine call_frz 57 rfl ?_ | refine call_frz 59 rfl ?_ | refine call_eq (xs := [dG G, dPt ⟨[a.tmod 4, b.tmod 4], [⟨0, 1⟩]⟩]) rfl s2 ?_ | refine call_frz 68 rfl ?_ | refine call_eq rfl s3 ?_ | refine call_eqb tab rfl c1 rfl ?_ | refine call_eqb tab rfl c2 rfl ?_ | refine call_frz 113 rfl ?_ | refine call_frz 115 rfl ?_ | refine call_eq (xs := [dG G, dPt ⟨[a.tmod 4, b.tmod 4], [⟨0, 1⟩]⟩]) rfl al ?_ | refine ify ?_ | refine ifn ?_ | refine i6 ?_ | refine ati ?_ | refine mst ?_ | refine rmd ?_ | refine ibo (fun _ => ?_) (fun _ => ?_)) <;> conv => whnf)); (all_goals (repeat' (first | exact trivial | exact rfl | refine And.intro ?_ ?_)))) ?_ | refine call_eq rfl hal ?_ | refine call_eq rfl hmd ?_ | refine call_frz 48 rfl ?_ | refine call_agg2 rfl ?_ | refine call_eq rfl s1 ?_ | refine call_frz 57 rfl ?_ | refine call_frz 59 rfl ?_ | refine call_eq (xs := [dG G, dPt ⟨[a.tmod 4, b.tmod 4], [⟨0, 1⟩]⟩]) rfl s2 ?_ | refine call_frz 68 rfl ?_ | refine call_eq rfl s3 ?_ | refine call_eqb tab rfl c1 rfl ?_ | refine call_eqb tab rfl c2 rfl ?_ | refine call_frz 113 rfl ?_ | refine call_frz 115 rfl ?_ | refine call_eq (xs := [dG G, dPt ⟨[a.tmod 4, b.tmod 4], [⟨0, 1⟩]⟩]) rfl al ?_ | refine ify ?_ | refine ifn ?_ | refine i6 ?_ | refine ati ?_ | refine mst ?_ | refine rmd ?_ | refine ibo (fun _ => ?_) (fun _ => ?_)) <;> conv => whnf))
  refine loop_lo (ι := Nat) (fun v => v ≤ G.labels.length) (fun v => [(23, .d (.int .i64 v)), (22, .d .nili), (21, .d (.list 1 [cd, dN d])), (14, .d (.int .i64 (b.tmod 4))), (13, .d (.int .i64 (a.tmod 4))), (9, .own 9)]) (fun _ => [(9, .cells 25 [.d (dG G)])]) (fun v => G.labels.length - v) 0 (fun _ => rfl) (Nat.zero_le _) (.refl _ _) ⟨rfl, rfl, rfl, rfl, rfl, rfl, trivial⟩ ⟨rfl, trivial⟩ ?_
  intro v hv
  refine sxCode_sound c1_ok (G := G_mll) (pl := pl_mll) _ _ _ _ (by kernel_rfl) ?_
  have hlen := len_pure G
  by_cases hvl : v < G.labels.length
  · have hne := near_pure G hG v
    have en : nearY G v = dIs (nearOf G.edges v) := by unfold nearY; rw [if_pos ⟨by omega, by omega⟩, Int.toNat_natCast]
    rw [en] at hne
    have hcv := ce v hvl
    have hnl : (nearOf G.edges v).length ≤ G.labels.length := by
      rw [near_doc hG]
      unfold nearD
      rw [List.length_map]
      exact Nat.le_trans (List.length_filter_le _ _) (by simp)
    generalize nearOf G.edges v = l at hne hcv hnl
    have hdl : (l.map dI).length = l.length := List.length_map _
    (conv => whnf)
    (repeat' ((first | refine ord_ok (by (conv => whnf); (repeat' ((first | refine call_eq rfl hlen ?_ | refine call_eq rfl hne ?_ | refine ify ?_ | refine ifn ?_ | refine i6 ?_ | refine ati ?_ | refine mst ?_ | refine rmd ?_ | refine ibo (fun _ => ?_) (fun _ => ?_)) <;> conv => whnf)); (all_goals (repeat' (first | exact trivial | exact rfl | refine And.intro ?_ ?_)))) ?_ | refine call_eq rfl hlen ?_ | refine call_eq rfl hne ?_ | refine ify ?_ | refine ifn ?_ | refine i6 ?_ | refine ati ?_ | refine mst ?_ | refine rmd ?_ | refine ibo (fun _ => ?_) (fun _ => ?_)) <;> conv => whnf))
    refine loop_lo (ι := Nat) (fun q => q ≤ l.length) (fun q => [(26, .d (.int .i64 q)), (25, .d (.bool ((l.take q).any fun u => decide (labelV G u = b.tmod 4)))), (24, .d (dIs l)), (23, .d (.int .i64 v)), (22, .d .nili), (21, .d (.list 1 [cd, dN d])), (14, .d (.int .i64 (b.tmod 4))), (13, .d (.int .i64 (a.tmod 4))), (9, .own 9)]) (fun _ => [(9, .cells 25 [.d (dG G)])]) (fun q => l.length - q) 0 (fun _ => rfl) (Nat.zero_le _) (.refl _ _) ⟨rfl, rfl, rfl, rfl, rfl, rfl, rfl, rfl, rfl, trivial⟩ ⟨rfl, trivial⟩ ?_
    intro q hq
    refine sxCode_sound c1_ok (G := G_mll) (pl := pl_mll) _ _ _ _ (by kernel_rfl) ?_
    by_cases hql : q < l.length
    · have hx := List.getElem?_eq_getElem hql
      generalize l[q] = u at hx
      have hxd : (l.map dI)[q]? = some (.int .i64 u) := by rw [List.getElem?_map, hx]; rfl
      have hla := label_pure G u
      have hst := any_succ (f := fun u => decide (labelV G u = b.tmod 4)) hx
      cases hw : (l.take q).any fun u => decide (labelV G u = b.tmod 4) with
      | true =>
        rw [hw, Bool.true_or] at hst
        (conv => whnf)
        (repeat' ((first | refine ord_ok (by (conv => whnf); (repeat' ((first | refine at_da hxd rfl ?_ | refine call_eq rfl hla ?_ | refine ify ?_ | refine ifn ?_ | refine i6 ?_ | refine ati ?_ | refine mst ?_ | refine rmd ?_ | refine ibo (fun _ => ?_) (fun _ => ?_)) <;> conv => whnf)); (all_goals (repeat' (first | exact trivial | exact rfl | refine And.intro ?_ ?_)))) ?_ | refine at_da hxd rfl ?_ | refine call_eq rfl hla ?_ | refine ify ?_ | refine ifn ?_ | refine i6 ?_ | refine ati ?_ | refine mst ?_ | refine rmd ?_ | refine ibo (fun _ => ?_) (fun _ => ?_)) <;> conv => whnf))
        exact ⟨q + 1, _, _, hql, .refl _ _, ⟨rfl, by rw [hst]; rfl, rfl, rfl, rfl, rfl, rfl, rfl, rfl, trivial⟩, ⟨rfl, trivial⟩, by omega⟩
      | false =>
        rw [hw, Bool.false_or] at hst
        (conv => whnf)
        (repeat' ((first | refine ord_ok (by (conv => whnf); (repeat' ((first | refine at_da hxd rfl ?_ | refine call_eq rfl hla ?_ | refine ify ?_ | refine ifn ?_ | refine i6 ?_ | refine ati ?_ | refine mst ?_ | refine rmd ?_ | refine ibo (fun _ => ?_) (fun _ => ?_)) <;> conv => whnf)); (all_goals (repeat' (first | exact trivial | exact rfl | refine And.intro ?_ ?_)))) ?_ | refine at_da hxd rfl ?_ | refine call_eq rfl hla ?_ | refine ify ?_ | refine ifn ?_ | refine i6 ?_ | refine ati ?_ | refine mst ?_ | refine rmd ?_ | refine ibo (fun _ => ?_) (fun _ => ?_)) <;> conv => whnf))
        exact ⟨q + 1, _, _, hql, .lax 25 rfl (.prop _ rfl) (.refl _ _), ⟨rfl, by rw [hst]; rfl, rfl, rfl, rfl, rfl, rfl, rfl, rfl, trivial⟩, ⟨rfl, trivial⟩, by omega⟩
    · have hqe : l.take q = l := List.take_of_length_le (by omega)
      rw [hqe]
      have hla := label_pure G v
      have h0d : ([cd, dN d] : List Da)[0]? = some cd := rfl
      have h6 : Pure C1 17 [cd, .int .i64 v] (fun y => y = .bool (decide ((v : Int) ∈ c))) := by
        rw [← hcd]
        exact Sx.Pure.lax (.cons (laxN c) (.cons (.refl _) .nil)) (has06_pure c v)
      cases hw : l.any fun u => decide (labelV G u = b.tmod 4) with
      | true =>
        have hex : ∃ u, u ∈ l ∧ labelV G u = b.tmod 4 := by
          obtain ⟨u, hu, h⟩ := List.any_eq_true.1 hw
          exact ⟨u, hu, of_decide_eq_true h⟩
        by_cases hlv : labelV G v = a.tmod 4
        · rw [decide_eq_true (hcv.2 ⟨hlv, hex⟩)] at h6
          have hiff : (true = true ↔ labelV G v = a.tmod 4) := iff_of_true rfl hlv
          rcases hco with rfl | rfl <;> (conv => whnf) <;> (repeat' ((first | refine ord_ok (by (conv => whnf); (repeat' ((first | refine at_da h0d rfl ?_ | refine call_eq rfl h6 ?_ | refine call_eq rfl hla ?_ | refine if_no (fun h => h hiff) ?_ | refine ify ?_ | refine ifn ?_ | refine i6 ?_ | refine ati ?_ | refine mst ?_ | refine rmd ?_ | refine ibo (fun _ => ?_) (fun _ => ?_)) <;> conv => whnf)); (all_goals (repeat' (first | exact trivial | exact rfl | refine And.intro ?_ ?_)))) ?_ | refine at_da h0d rfl ?_ | refine call_eq rfl h6 ?_ | refine call_eq rfl hla ?_ | refine if_no (fun h => h hiff) ?_ | refine ify ?_ | refine ifn ?_ | refine i6 ?_ | refine ati ?_ | refine mst ?_ | refine rmd ?_ | refine ibo (fun _ => ?_) (fun _ => ?_)) <;> conv => whnf))
          all_goals exact ⟨v + 1, _, _, hvl, .refl _ _, ⟨rfl, rfl, rfl, rfl, rfl, rfl, trivial⟩, ⟨rfl, trivial⟩, by omega⟩
        · rw [decide_eq_false (fun h => hlv (hcv.1 h).1)] at h6
          have hiff : (false = true ↔ labelV G v = a.tmod 4) := iff_of_false (by decide) hlv
          rcases hco with rfl | rfl <;> (conv => whnf) <;> (repeat' ((first | refine ord_ok (by (conv => whnf); (repeat' ((first | refine at_da h0d rfl ?_ | refine call_eq rfl h6 ?_ | refine call_eq rfl hla ?_ | refine if_no (fun h => h hiff) ?_ | refine ify ?_ | refine ifn ?_ | refine i6 ?_ | refine ati ?_ | refine mst ?_ | refine rmd ?_ | refine ibo (fun _ => ?_) (fun _ => ?_)) <;> conv => whnf)); (all_goals (repeat' (first | exact trivial | exact rfl | refine And.intro ?_ ?_)))) ?_ | refine at_da h0d rfl ?_ | refine call_eq rfl h6 ?_ | refine call_eq rfl hla ?_ | refine if_no (fun h => h hiff) ?_ | refine ify ?_ | refine ifn ?_ | refine i6 ?_ | refine ati ?_ | refine mst ?_ | refine rmd ?_ | refine ibo (fun _ => ?_) (fun _ => ?_)) <;> conv => whnf))
          all_goals exact ⟨v + 1, _, _, hvl, .refl _ _, ⟨rfl, rfl, rfl, rfl, rfl, rfl, trivial⟩, ⟨rfl, trivial⟩, by omega⟩
      | false =>
        have hex : ¬ ∃ u, u ∈ l ∧ labelV G u = b.tmod 4 := by
          rintro ⟨u, hu, h⟩
          have : (l.any fun u => decide (labelV G u = b.tmod 4)) = true := List.any_eq_true.2 ⟨u, hu, decide_eq_true h⟩
          rw [hw] at this; cases this
        rw [decide_eq_false (fun h => hex (hcv.1 h).2)] at h6
        rcases hco with rfl | rfl <;> (conv => whnf) <;> (repeat' ((first | refine ord_ok (by (conv => whnf); (repeat' ((first | refine at_da h0d rfl ?_ | refine call_eq rfl h6 ?_ | refine call_eq rfl hla ?_ | refine if_no (fun h => h Iff.rfl) ?_ | refine ify ?_ | refine ifn ?_ | refine i6 ?_ | refine ati ?_ | refine mst ?_ | refine rmd ?_ | refine ibo (fun _ => ?_) (fun _ => ?_)) <;> conv => whnf)); (all_goals (repeat' (first | exact trivial | exact rfl | refine And.intro ?_ ?_)))) ?_ | refine at_da h0d rfl ?_ | refine call_eq rfl h6 ?_ | refine call_eq rfl hla ?_ | refine if_no (fun h => h Iff.rfl) ?_ | refine ify ?_ | refine ifn ?_ | refine i6 ?_ | refine ati ?_ | refine mst ?_ | refine rmd ?_ | refine ibo (fun _ => ?_) (fun _ => ?_)) <;> conv => whnf))
        all_goals exact ⟨v + 1, _, _, hvl, .refl _ _, ⟨rfl, rfl, rfl, rfl, rfl, rfl, trivial⟩, ⟨rfl, trivial⟩, by omega⟩
  · have hve : v = G.labels.length := by omega
    subst hve
    (conv => whnf)
    (repeat' ((first | refine ord_ok (by (conv => whnf); (repeat' ((first | refine call_eq rfl hlen ?_ | refine ify ?_ | refine ifn ?_ | refine i6 ?_ | refine ati ?_ | refine mst ?_ | refine rmd ?_ | refine ibo (fun _ => ?_) (fun _ => ?_)) <;> conv => whnf)); (all_goals (repeat' (first | exact trivial | exact rfl | refine And.intro ?_ ?_)))) ?_ | refine call_eq rfl hlen ?_ | refine ify ?_ | refine ifn ?_ | refine i6 ?_ | refine ati ?_ | refine mst ?_ | refine rmd ?_ | refine ibo (fun _ => ?_) (fun _ => ?_)) <;> conv => whnf))
    exact rfl
end Go.Proofs.YteigfapjiekdnaaGreatDoor
