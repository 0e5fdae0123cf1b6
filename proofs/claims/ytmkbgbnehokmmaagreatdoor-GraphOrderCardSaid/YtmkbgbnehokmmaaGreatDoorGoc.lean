/- GraphOrder: the walk. -/
import Derived.Test.YtmkbgbnehokmmaaGreatDoorGsm
import Derived.Test.YtmkbgbnehokmmaaGreatDoorGla
import Derived.Test.YtmkbgbnehokmmaaGreatDoorGrk
import Derived.Test.YtmkbgbnehokmmaaGreatDoorGrs
import Derived.Test.YtmkbgbnehokmmaaGreatDoorGoa
namespace Go.Proofs.YtmkbgbnehokmmaaGreatDoor
open Go.Sx Go.RowKit Go.Reg Go.Gr

set_option maxRecDepth 100000
theorem near_mksl (G : Gr) (hG : G.Ok) (m : Nat) (hm : m < G.labels.length) : MakeSl C1 9 [dG G, .int .i64 m] 3 1 (fun ds => ds = (nearOf G.edges m).map dI) := by
  refine mksl_of c1_ok (pl := pl_gnear) (G := G_gnear) Tryz.func9 rfl Tryz.ntmps9 run_gnear cok_gnear (by simp) ?_
  have hs := hG.size
  have h1 := firstL_at G.edges (n := G.labels.length) (v := m) (by omega)
  have h2 := firstL_at G.edges (n := G.labels.length) (v := m + 1) (by omega)
  ((conv => whnf); repeat' ((first | refine odw ?_ | refine ify ?_ | refine ifn ?_ | refine i6 ?_ | refine ati ?_ | refine mst ?_ | refine rmd ?_ | refine ibo (fun _ => ?_) (fun _ => ?_)) <;> conv => whnf))
  refine call_pure rfl (has_pure G m) ?_; rintro y rfl
  rw [hasV_yes (by omega) (by omega)]
  (conv => whnf)
  (repeat' ((first | refine ord_ok (by (conv => whnf); (repeat' ((first | refine at_da h1 rfl ?_ | refine at_da h2 rfl ?_ | refine ify ?_ | refine ifn ?_ | refine i6 ?_ | refine ati ?_ | refine mst ?_ | refine rmd ?_ | refine ibo (fun _ => ?_) (fun _ => ?_)) <;> conv => whnf)); (all_goals (repeat' (first | exact trivial | exact rfl | refine And.intro ?_ ?_)))) ?_ | refine at_da h1 rfl ?_ | refine at_da h2 rfl ?_ | refine ify ?_ | refine ifn ?_ | refine i6 ?_ | refine ati ?_ | refine mst ?_ | refine rmd ?_ | refine ibo (fun _ => ?_) (fun _ => ?_)) <;> conv => whnf))
  refine ⟨_, _, rfl, rfl, off_mono _ (by omega), ?_, ?_⟩
  · rw [List.length_map, nearL, off_flat (nearOf G.edges) (deg G.edges) (fun _ => rfl)]; exact off_mono _ (by omega)
  rw [near_cut G.edges hm]
  (conv => whnf)
  have hb := deg_le G.edges m
  have hes := hG.esize
  refine call_mksl 29 rfl rfl (clone_sl (nearOf G.edges m) (by unfold deg at hb; omega)) ?_; rintro ds rfl
  ((conv => whnf); repeat' ((first | refine odw ?_ | refine ify ?_ | refine ifn ?_ | refine i6 ?_ | refine ati ?_ | refine mst ?_ | refine rmd ?_ | refine ibo (fun _ => ?_) (fun _ => ?_)) <;> conv => whnf))
  exact ⟨rfl, rfl, rfl⟩
theorem hasE_nil (a b : Int) : Pure C1 17 [.nilp, .int .i64 a, .int .i64 b] (fun y => y = .bool false) := by
  refine pure_of c1_ok (pl := pl_ghs) (G := G_ghs) Tryz.func17 rfl Tryz.ntmps17 run_ghs cok_ghs (by simp) ?_
  (conv => whnf)
  (repeat' ((first | refine ord_ok (by (conv => whnf); (repeat' ((first | refine call_eq rfl (id_nil a b) ?_ | refine ify ?_ | refine ifn ?_ | refine i6 ?_ | refine ati ?_ | refine mst ?_ | refine rmd ?_ | refine ibo (fun _ => ?_) (fun _ => ?_)) <;> conv => whnf)); (all_goals (repeat' (first | exact trivial | exact rfl | refine And.intro ?_ ?_)))) ?_ | refine call_eq rfl (id_nil a b) ?_ | refine ify ?_ | refine ifn ?_ | refine i6 ?_ | refine ati ?_ | refine mst ?_ | refine rmd ?_ | refine ibo (fun _ => ?_) (fun _ => ?_)) <;> conv => whnf))
  exact rfl
def pl_gor : List (Nat × Plan) := []
def G_gor : List FuncId := [7, 8, 12, 13, 9, 14, 15, 16, 17]
theorem cok_gor : codeOk Tryz.prog G_gor pl_gor (Tryz.f3.body.getD .skip) = true := by kernel_rfl
theorem run_gor (vs : Array Value) (w : World) : (callFunc 3 vs).run C1.P w = .ok (.enter 3 vs) w := by kernel_rfl
set_option maxHeartbeats 8000000 in
theorem gorder_pure (labels : List Int) (edges : List Edg) (b : Int) (hb : 0 ≤ b ∧ b ≤ 255) : Pure C1 3 [dIs labels, dEs edges, .int .u8 b] (fun y => y = .bool true) := by
  have hlm : (labels.map dI).length = labels.length := List.length_map _
  have hem : (edges.map dE).length = edges.length := List.length_map _
  obtain ⟨r, rfl⟩ := Int.eq_ofNat_of_zero_le hb.1
  refine pure_of c1_ok (pl := pl_gor) (G := G_gor) Tryz.func3 rfl Tryz.ntmps3 run_gor cok_gor (by simp) ?_
  ((conv => whnf); repeat' ((first | refine odw ?_ | refine ify ?_ | refine ifn ?_ | refine i6 ?_ | refine ati ?_ | refine mst ?_ | refine rmd ?_ | refine ibo (fun _ => ?_) (fun _ => ?_)) <;> conv => whnf))
  refine call_eq rfl galive_pure ?_
  ((conv => whnf); repeat' ((first | refine odw ?_ | refine ify ?_ | refine ifn ?_ | refine i6 ?_ | refine ati ?_ | refine mst ?_ | refine rmd ?_ | refine ibo (fun _ => ?_) (fun _ => ?_)) <;> conv => whnf))
  refine call_eq rfl (made_pure labels edges) ?_
  rcases made_case labels edges with e | ⟨G, e, hG, hn, hm, hGe, hne, hlen⟩
  · rw [e]
    ((conv => whnf); repeat' ((first | refine odw ?_ | refine ify ?_ | refine ifn ?_ | refine i6 ?_ | refine ati ?_ | refine mst ?_ | refine rmd ?_ | refine ibo (fun _ => ?_) (fun _ => ?_)) <;> conv => whnf))
    exact rfl
  rw [e]
  have hGl : G.labels = labels := by rw [hGe]
  have hGd : G.edges = canon edges := by rw [hGe]
  rw [← hlen] at hm
  have hn1 := hn
  rw [hGl] at hn1
  have hE := hG.esize
  obtain ⟨s1, s2⟩ := same_edges hne (around_perm edges r)
  have hnw := new_pure labels (around edges r)
  rw [newY_none s1, s2, ← hGe] at hnw
  have hmore := more_labels 7 (by decide) hn1 hne
  have hnm := new_pure (labels ++ [7]) edges
  rw [newY_none hmore] at hnm
  have h7 : dIs (labels ++ [7]) = .list 1 (labels.map dI ++ [.int .i64 7]) := by unfold dIs; rw [List.map_append]; rfl
  rw [h7] at hnm
  have hsg : Pure C1 7 [dG G, dG G] (fun y => y = .bool true) := by
    have := same_g G G hG
    rwa [decide_eq_true rfl, decide_eq_true rfl] at this
  have hsm := same_g G ⟨labels ++ [7], canon edges⟩ hG
  rw [decide_eq_false (fun h => by have := congrArg List.length h; rw [hGl] at this; simp at this)] at hsm
  generalize dG ⟨labels ++ [7], canon edges⟩ = H at hnm hsm
  have hoff : off (deg G.edges) G.labels.length = 2 * G.edges.length := off_deg G.edges G.labels.length (fun e he => by have := hG.edge e he; omega)
  have hal := around_len edges r
  have hlo := lawof_pure edges (by omega)
  ((conv => whnf); repeat' ((first | refine odw ?_ | refine ify ?_ | refine ifn ?_ | refine i6 ?_ | refine ati ?_ | refine mst ?_ | refine rmd ?_ | refine ibo (fun _ => ?_) (fun _ => ?_)) <;> conv => whnf))
  refine loop_lo (ι := Nat) (fun i => i ≤ edges.length) (fun i => [(11, .d (.int .i64 i)), (10, .own 300), (7, .d (dG G)), (2, .d (.int .u8 r)), (1, .d (dEs edges)), (0, .d (dIs labels))]) (fun i => [(300, .slice 33 2 (((around edges r).take i).map dE))]) (fun i => edges.length - i) 0 (fun _ => rfl) (Nat.zero_le _)
    (.own 10 300 33 2 rfl rfl (.refl _ _)) ⟨rfl, rfl, rfl, rfl, rfl, rfl, trivial⟩ ⟨rfl, trivial⟩ ?_
  intro i hi
  refine sxCode_sound c1_ok (G := G_gor) (pl := pl_gor) _ _ _ _ (by kernel_rfl) ?_
  have htl : (((around edges r).take i).map dE).length = i := by rw [List.length_map, List.length_take]; omega
  have htl2 : ((around edges r).take i).length = i := by rw [List.length_take]; omega
  by_cases hil : i < edges.length
  · have hj : (i + r) % edges.length < edges.length := Nat.mod_lt _ (by omega)
    have hx := List.getElem?_eq_getElem hj
    generalize edges[(i + r) % edges.length] = e0 at hx
    have hxd : (edges.map dE)[(i + r) % edges.length]? = some (.agg [.int .i64 e0.a, .int .i64 e0.b]) := by rw [List.getElem?_map, hx]; rfl
    have har := around_at hil hx
    have hidx : ((i : Int) + (r : Int)).tmod ((edges.map dE).length : Int) = (((i + r) % edges.length : Nat) : Int) := by
      rw [hem, Int.tmod_eq_emod_of_nonneg (by omega)]; simp
    have hst : ((around edges r).take (i + 1)) = (around edges r).take i ++ [swap e0] := take_snoc' har
    generalize (around edges r).take i = T0 at htl htl2 hst
    have hfin : T0.map dE ++ [.agg [.int .i64 e0.b, .int .i64 e0.a]] = (((around edges r).take (i + 1))).map dE := by rw [hst, List.map_append]; rfl
    (conv => whnf)
    (repeat' ((first | refine ord_ok (by (conv => whnf); (repeat' ((first | refine at_da hxd hidx ?_ | refine ify ?_ | refine ifn ?_ | refine i6 ?_ | refine ati ?_ | refine mst ?_ | refine rmd ?_ | refine ibo (fun _ => ?_) (fun _ => ?_)) <;> conv => whnf)); (all_goals (repeat' (first | exact trivial | exact rfl | refine And.intro ?_ ?_)))) ?_ | refine at_da hxd hidx ?_ | refine ify ?_ | refine ifn ?_ | refine i6 ?_ | refine ati ?_ | refine mst ?_ | refine rmd ?_ | refine ibo (fun _ => ?_) (fun _ => ?_)) <;> conv => whnf))
    exact ⟨i + 1, _, _, hil, .refl _ _, ⟨rfl, rfl, rfl, rfl, rfl, rfl, trivial⟩, ⟨slice_is hfin, trivial⟩, by omega⟩
  · have hii : (around edges r).take i = around edges r := List.take_of_length_le (by omega)
    rw [hii]
    ((conv => whnf); repeat' ((first | refine odw ?_ | refine ify ?_ | refine ifn ?_ | refine i6 ?_ | refine ati ?_ | refine mst ?_ | refine rmd ?_ | refine ibo (fun _ => ?_) (fun _ => ?_)) <;> conv => whnf))
    refine call_frz 300 rfl ?_
    refine call_eq rfl hnw ?_
    (conv => whnf)
    (repeat' ((first | refine ord_ok (by (conv => whnf); (repeat' ((first | refine call_eq rfl hsg ?_ | refine ify ?_ | refine ifn ?_ | refine i6 ?_ | refine ati ?_ | refine mst ?_ | refine rmd ?_ | refine ibo (fun _ => ?_) (fun _ => ?_)) <;> conv => whnf)); (all_goals (repeat' (first | exact trivial | exact rfl | refine And.intro ?_ ?_)))) ?_ | refine call_eq rfl hsg ?_ | refine ify ?_ | refine ifn ?_ | refine i6 ?_ | refine ati ?_ | refine mst ?_ | refine rmd ?_ | refine ibo (fun _ => ?_) (fun _ => ?_)) <;> conv => whnf))
    refine loop_lo (ι := Nat) (fun v => v ≤ G.labels.length) (fun v => [(16, .d (.int .i64 v)), (15, .d (.int .i64 (off (deg G.edges) v : Nat))), (7, .d (dG G)), (1, .d (dEs edges)), (0, .d (dIs labels))]) (fun _ => []) (fun v => G.labels.length - v) 0 (fun _ => rfl) (Nat.zero_le _) (.refl _ _) ⟨rfl, rfl, rfl, rfl, rfl, trivial⟩ trivial ?_
    intro v hv
    refine sxCode_sound c1_ok (G := G_gor) (pl := pl_gor) _ _ _ _ (by kernel_rfl) ?_
    have hlp := len_pure G
    have hov : off (deg G.edges) v ≤ 2 * G.edges.length := by rw [← hoff]; exact off_mono _ hv
    by_cases hvl : v < G.labels.length
    · have hnk := near_mksl G hG v hvl
      have hnp := near_pure G hG v
      have hnv : nearY G (v : Int) = dIs (nearOf G.edges v) := by unfold nearY; rw [if_pos (by omega), Int.toNat_natCast]
      rw [hnv] at hnp
      have hpos : ∀ x ∈ nearOf G.edges v, 0 ≤ x := fun x hx => ((mem_near hG).1 hx).1
      have hstep : off (deg G.edges) (v + 1) = off (deg G.edges) v + (nearOf G.edges v).length := rfl
      have hov2 : off (deg G.edges) (v + 1) ≤ 2 * G.edges.length := by rw [← hoff]; exact off_mono _ hvl
      have hsum : ((off (deg G.edges) v : Nat) : Int) + ((nearOf G.edges v).length : Int) = ((off (deg G.edges) (v + 1) : Nat) : Int) := by rw [hstep]; omega
      generalize nearOf G.edges v = N at hnk hnp hpos hstep hsum
      have hNl : N.length ≤ 100 := by omega
      have hNm : (N.map dI).length = N.length := List.length_map _
      have hslot : Dat.d (.int .i64 (((off (deg G.edges) v : Nat) : Int) + ((N.map dI).length : Int))) = Dat.d (.int .i64 ((off (deg G.edges) (v + 1) : Nat) : Int)) := by rw [hNm, hsum]
      (conv => whnf)
      (repeat' ((first | refine ord_ok (by (conv => whnf); (repeat' ((first | refine call_eq rfl hlp ?_ | refine ify ?_ | refine ifn ?_ | refine i6 ?_ | refine ati ?_ | refine mst ?_ | refine rmd ?_ | refine ibo (fun _ => ?_) (fun _ => ?_)) <;> conv => whnf)); (all_goals (repeat' (first | exact trivial | exact rfl | refine And.intro ?_ ?_)))) ?_ | refine call_eq rfl hlp ?_ | refine ify ?_ | refine ifn ?_ | refine i6 ?_ | refine ati ?_ | refine mst ?_ | refine rmd ?_ | refine ibo (fun _ => ?_) (fun _ => ?_)) <;> conv => whnf))
      refine call_mksl 301 rfl rfl hnk ?_; rintro ds rfl
      by_cases hN : N.length = 0
      · ((conv => whnf); repeat' ((first | refine odw ?_ | refine ify ?_ | refine ifn ?_ | refine i6 ?_ | refine ati ?_ | refine mst ?_ | refine rmd ?_ | refine ibo (fun _ => ?_) (fun _ => ?_)) <;> conv => whnf))
        exact ⟨v + 1, _, _, hvl, .refl _ _, ⟨rfl, hslot, rfl, rfl, rfl, trivial⟩, trivial, by omega⟩
      · have hN0 := List.getElem?_eq_getElem (l := N) (i := 0) (by omega)
        have hp0 := hpos _ (List.getElem_mem (show 0 < N.length by omega))
        generalize N[0]'(by omega) = x at hN0 hp0
        have hxd : (N.map dI)[0]? = some (.int .i64 x) := by rw [List.getElem?_map, hN0]; rfl
        (conv => whnf)
        (repeat' ((first | refine ord_ok (by (conv => whnf); (repeat' ((first | refine el_at (i := 0) rfl (by omega) ?_ | refine el_is hxd ?_ | refine call_eq rfl hnp ?_ | refine at_da hxd rfl ?_ | refine ify ?_ | refine ifn ?_ | refine i6 ?_ | refine ati ?_ | refine mst ?_ | refine rmd ?_ | refine ibo (fun _ => ?_) (fun _ => ?_)) <;> conv => whnf)); (all_goals (repeat' (first | exact trivial | exact rfl | refine And.intro ?_ ?_)))) ?_ | refine el_at (i := 0) rfl (by omega) ?_ | refine el_is hxd ?_ | refine call_eq rfl hnp ?_ | refine at_da hxd rfl ?_ | refine ify ?_ | refine ifn ?_ | refine i6 ?_ | refine ati ?_ | refine mst ?_ | refine rmd ?_ | refine ibo (fun _ => ?_) (fun _ => ?_)) <;> conv => whnf))
        exact ⟨v + 1, _, _, hvl, .refl _ _, ⟨rfl, hslot, rfl, rfl, rfl, trivial⟩, trivial, by omega⟩
    · have hve : v = G.labels.length := by omega
      subst hve
      rw [hoff]
      have hz := size_pure G
      (conv => whnf)
      (repeat' ((first | refine ord_ok (by (conv => whnf); (repeat' ((first | refine call_eq rfl hlp ?_ | refine ify ?_ | refine ifn ?_ | refine i6 ?_ | refine ati ?_ | refine mst ?_ | refine rmd ?_ | refine ibo (fun _ => ?_) (fun _ => ?_)) <;> conv => whnf)); (all_goals (repeat' (first | exact trivial | exact rfl | refine And.intro ?_ ?_)))) ?_ | refine call_eq rfl hlp ?_ | refine ify ?_ | refine ifn ?_ | refine i6 ?_ | refine ati ?_ | refine mst ?_ | refine rmd ?_ | refine ibo (fun _ => ?_) (fun _ => ?_)) <;> conv => whnf))
      refine call_eq rfl hlo ?_
      ((conv => whnf); repeat' ((first | refine odw ?_ | refine ify ?_ | refine ifn ?_ | refine i6 ?_ | refine ati ?_ | refine mst ?_ | refine rmd ?_ | refine ibo (fun _ => ?_) (fun _ => ?_)) <;> conv => whnf))
      refine call_frz 103 rfl ?_
      refine call_eq rfl hnm ?_
      (conv => whnf)
      (repeat' ((first | refine ord_ok (by (conv => whnf); (repeat' ((first | refine call_eq rfl (edge_nil 0) ?_ | refine call_eq rfl hz ?_ | refine call_eq rfl hsm ?_ | refine call_eq rfl (same_gnil G) ?_ | refine call_eq rfl same_nil2 ?_ | refine call_eq rfl len_nil ?_ | refine call_eq rfl size_nil ?_ | refine call_eq rfl (degree_nil 0) ?_ | refine call_eq rfl (near_nil 0) ?_ | refine call_eq rfl (at_nil 0) ?_ | refine call_eq rfl (label_nil 0) ?_ | refine call_eq rfl (id_nil 0 1) ?_ | refine call_eq rfl (hasE_nil 0 1) ?_ | refine ify ?_ | refine ifn ?_ | refine i6 ?_ | refine ati ?_ | refine mst ?_ | refine rmd ?_ | refine ibo (fun _ => ?_) (fun _ => ?_)) <;> conv => whnf)); (all_goals (repeat' (first | exact trivial | exact rfl | refine And.intro ?_ ?_)))) ?_ | refine call_eq rfl (edge_nil 0) ?_ | refine call_eq rfl hz ?_ | refine call_eq rfl hsm ?_ | refine call_eq rfl (same_gnil G) ?_ | refine call_eq rfl same_nil2 ?_ | refine call_eq rfl len_nil ?_ | refine call_eq rfl size_nil ?_ | refine call_eq rfl (degree_nil 0) ?_ | refine call_eq rfl (near_nil 0) ?_ | refine call_eq rfl (at_nil 0) ?_ | refine call_eq rfl (label_nil 0) ?_ | refine call_eq rfl (id_nil 0 1) ?_ | refine call_eq rfl (hasE_nil 0 1) ?_ | refine ify ?_ | refine ifn ?_ | refine i6 ?_ | refine ati ?_ | refine mst ?_ | refine rmd ?_ | refine ibo (fun _ => ?_) (fun _ => ?_)) <;> conv => whnf))
      exact rfl
end Go.Proofs.YtmkbgbnehokmmaaGreatDoor
