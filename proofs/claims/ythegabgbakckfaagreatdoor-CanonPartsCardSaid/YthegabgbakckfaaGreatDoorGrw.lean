/- slices.Grow, Concat at edges; pat.Less. -/
import Derived.Test.YthegabgbakckfaaGreatDoorLgr
import Derived.Test.YthegabgbakckfaaGreatDoorLcq
namespace Go.Proofs.YthegabgbakckfaaGreatDoor
open Go.Sx Go.RowKit Go.Reg Go.Gr

set_option maxRecDepth 100000
theorem edgeInfo : (Tryz.prog.info? 77).map (fun i => (i.zero, i.size, i.bytes)) = some (some (.agg #[.int .i64 0, .int .i64 0]), 2, 16) := by kernel_rfl
theorem grow_mksl (m : Nat) (hm : m ≤ 1000) : MakeSl C1 148 [.nils, .int .i64 m] 77 2 (fun ds => ds = []) := by
  intro O w us hO hg hr
  obtain ⟨v, vs, rfl, h1, h2⟩ := reps_inv hr
  obtain ⟨v2, vs2, rfl, h3, h4⟩ := reps_inv h2
  obtain rfl := reps_inv0 h4
  have e1 : v = .slice none 0 0 := by
    obtain ⟨cs, r, e⟩ := h1
    simp only [RepC] at r
    subst r; exact e
  have e2 : v2 = .int .i64 m := by
    obtain ⟨cs, r, e⟩ := h3
    simp only [RepC] at r
    subst r; exact e
  subst e1 e2
  refine ⟨by kernel_rfl, ?_⟩
  obtain ⟨i0, hi0, ez, es, eb⟩ : ∃ i0, Tryz.prog.info? 77 = some i0 ∧ i0.zero = some (.agg #[.int .i64 0, .int .i64 0]) ∧ i0.size = 2 ∧ i0.bytes = 16 := by
    have := edgeInfo
    cases hq : Tryz.prog.info? 77 with
    | none => rw [hq] at this; cases this
    | some i => rw [hq] at this; simp only [Option.map_some, Option.some.injEq, Prod.mk.injEq] at this; exact ⟨i, rfl, this⟩
  by_cases h0 : m = 0
  · subst h0
    refine (Any8.slices_Grow_room Tryz.growE none 0 0 0 w (by omega) (by omega) (by omega) (by omega)).mono ?_
    rintro e w' ⟨rfl, rfl⟩
    exact ⟨_, [], [], rfl, rfl, World.ownsRow_nil _ 0 _ _, (fun b hb => by cases hb), rfl, (fun x hx => by cases hx), Tch.refl _ _⟩
  · refine (Any8.slices_Grow_grow Tryz.growE i0 (.agg #[.int .i64 0, .int .i64 0]) hi0 ez (by omega) none 0 0 m [] w (by omega) (by omega) (by rw [eb]; omega) (by omega) (by simp) (fun _ => rfl) (fun a ha => by cases ha)).mono ?_
    rintro e w' ⟨rfl, rfl⟩
    have hGn : 0 + m ≤ grownCap w (0 + m) 0 77 := grownCap_ge w _ _ _
    have hGm : grownCap w (0 + m) 0 77 ≤ maxLen := grownCap_le_maxLen w (0 + m) 0 _ (by unfold maxLen; omega)
    have hren : Tryz.growE_ren.t 25 = 77 := rfl
    rw [hren]
    generalize grownCap w (0 + m) 0 77 = G at hGn hGm ⊢
    obtain ⟨ROW, hROW⟩ : ∃ R, R = (([] : List Value).toArray ++ Builtin.zeroCells (Value.agg #[.int .i64 0, .int .i64 0]).cells (0 + m - 0) ++ Builtin.zeroCells (Value.agg #[.int .i64 0, .int .i64 0]).cells (G - (0 + m))) := ⟨_, rfl⟩
    have hs : ROW.size = G * 2 := by
      rw [hROW]
      simp only [Array.size_append, List.size_toArray, List.length_nil, size_zeroCells, Value.cells]
      simp; omega
    rw [← hROW]
    refine ⟨_, [], [], rfl, rfl, ?_, ?_, rfl, (fun x hx => by cases hx), (Tch.drew w []).trans0 (Tch.alloc _ _ _)⟩
    · exact ⟨rfl, .inr ⟨w.heap.size, G, ROW, rfl, Nat.zero_le _, (by show (w.heap.push (Obj.cells ROW 77))[w.heap.size]? = _; simp), Nat.zero_le _, hGm, hs, by simp⟩⟩
    · intro b hb
      simp only [Value.ownBlock, Option.some.injEq] at hb
      omega
theorem flatE_snoc {L : List (List Edg)} {i : Nat} {l : List Edg} (h : L[i]? = some l) : (L.take (i + 1)).flatten = (L.take i).flatten ++ l := by
  rw [List.take_add_one, h, Option.toList_some, List.flatten_append]; simp
theorem flatE_le (L : List (List Edg)) (i : Nat) : (L.take i).flatten.length ≤ L.flatten.length := by
  conv => rhs; rw [← List.take_append_drop i L, List.flatten_append, List.length_append]
  omega
def pl_cct : List (Nat × Plan) := []
def G_cct : List FuncId := []
theorem cok_cct : codeOk Tryz.prog G_cct pl_cct (Tryz.f104.body.getD .skip) = true := by kernel_rfl
theorem run_cct (vs : Array Value) (w : World) : (callFunc 104 vs).run C1.P w = .ok (.enter 104 vs) w := by kernel_rfl
set_option maxHeartbeats 4000000 in
theorem concat_mksl (L : List (List Edg)) (hL : L.length ≤ 1000) (hf : L.flatten.length ≤ 1000) : MakeSl C1 104 [.list 1 (L.map dEs)] 77 2 (fun ds => ds = L.flatten.map dE) := by
  have hdL : (L.map dEs).length = L.length := List.length_map _
  have hfl := flatE_le L
  refine mksl_of c1_ok (pl := pl_cct) (G := G_cct) Tryz.func104 rfl Tryz.ntmps104 run_cct cok_cct (by simp) ?_
  ((conv => whnf); repeat' ((first | refine odw ?_ | refine ify ?_ | refine ifn ?_ | refine i6 ?_ | refine ati ?_ | refine mst ?_ | refine rmd ?_ | refine ibo (fun _ => ?_) (fun _ => ?_)) <;> conv => whnf))
  refine loop_lo (ι := Nat) (fun i => i ≤ L.length) (fun i => [(11, .d (.int .i64 i)), (10, .d (.int .i64 (L.map dEs).length)), (9, .d (.list 1 (L.map dEs))), (3, .d (.int .i64 ((L.take i).flatten.length : Nat))), (0, .d (.list 1 (L.map dEs)))]) (fun _ => []) (fun i => L.length - i) 0 (fun _ => rfl) (Nat.zero_le _) (.refl _ _) ⟨rfl, rfl, rfl, rfl, rfl, trivial⟩ trivial ?_
  intro i hi
  refine sxCode_sound c1_ok (G := G_cct) (pl := pl_cct) _ _ _ _ (by kernel_rfl) ?_
  by_cases hil : i < L.length
  · have hx := List.getElem?_eq_getElem hil
    generalize L[i] = x at hx
    have hxd : (L.map dEs)[i]? = some (dEs x) := by rw [List.getElem?_map, hx]; rfl
    have hdx : (x.map dE).length = x.length := List.length_map _
    have hst := congrArg List.length (flatE_snoc hx)
    rw [List.length_append] at hst
    have h1 := hfl (i + 1)
    (conv => whnf)
    (repeat' ((first | refine ord_ok (by (conv => whnf); (repeat' ((first | refine at_da hxd rfl ?_ | refine ify ?_ | refine ifn ?_ | refine i6 ?_ | refine ati ?_ | refine mst ?_ | refine rmd ?_ | refine ibo (fun _ => ?_) (fun _ => ?_)) <;> conv => whnf)); (all_goals (repeat' (first | exact trivial | exact rfl | refine And.intro ?_ ?_)))) ?_ | refine at_da hxd rfl ?_ | refine ify ?_ | refine ifn ?_ | refine i6 ?_ | refine ati ?_ | refine mst ?_ | refine rmd ?_ | refine ibo (fun _ => ?_) (fun _ => ?_)) <;> conv => whnf))
    exact ⟨i + 1, _, _, hil, .refl _ _, ⟨rfl, rfl, rfl, int_is (by omega), rfl, trivial⟩, trivial, by omega⟩
  · have e : L.take i = L := List.take_of_length_le (by omega)
    rw [e]
    ((conv => whnf); repeat' ((first | refine odw ?_ | refine ify ?_ | refine ifn ?_ | refine i6 ?_ | refine ati ?_ | refine mst ?_ | refine rmd ?_ | refine ibo (fun _ => ?_) (fun _ => ?_)) <;> conv => whnf))
    refine call_mksl 24 rfl rfl (grow_mksl _ hf) ?_; rintro ds rfl
    ((conv => whnf); repeat' ((first | refine odw ?_ | refine ify ?_ | refine ifn ?_ | refine i6 ?_ | refine ati ?_ | refine mst ?_ | refine rmd ?_ | refine ibo (fun _ => ?_) (fun _ => ?_)) <;> conv => whnf))
    refine loop_lo (ι := Nat) (fun i => i ≤ L.length) (fun i => [(27, .d (.int .i64 i)), (26, .d (.int .i64 (L.map dEs).length)), (25, .d (.list 1 (L.map dEs))), (6, .own 24)]) (fun i => [(24, .slice 77 2 ((L.take i).flatten.map dE))]) (fun i => L.length - i) 0 (fun _ => rfl) (Nat.zero_le _) (.refl _ _) ⟨rfl, rfl, rfl, rfl, trivial⟩ ⟨rfl, trivial⟩ ?_
    intro i hi
    refine sxCode_sound c1_ok (G := G_cct) (pl := pl_cct) _ _ _ _ (by kernel_rfl) ?_
    by_cases hil : i < L.length
    · have hx := List.getElem?_eq_getElem hil
      generalize L[i] = x at hx
      have hxd : (L.map dEs)[i]? = some (dEs x) := by rw [List.getElem?_map, hx]; rfl
      have hdx : (x.map dE).length = x.length := List.length_map _
      have hst := flatE_snoc hx
      have hsl := congrArg List.length hst
      rw [List.length_append] at hsl
      have h1 := hfl (i + 1)
      generalize (L.take i).flatten = Z at hst hsl ⊢
      have hdz : (Z.map dE).length = Z.length := List.length_map _
      (conv => whnf)
      (repeat' ((first | refine ord_ok (by (conv => whnf); (repeat' ((first | refine at_da hxd rfl ?_ | refine most16 (by omega) ?_ | refine ify ?_ | refine ifn ?_ | refine i6 ?_ | refine ati ?_ | refine mst ?_ | refine rmd ?_ | refine ibo (fun _ => ?_) (fun _ => ?_)) <;> conv => whnf)); (all_goals (repeat' (first | exact trivial | exact rfl | refine And.intro ?_ ?_)))) ?_ | refine at_da hxd rfl ?_ | refine most16 (by omega) ?_ | refine ify ?_ | refine ifn ?_ | refine i6 ?_ | refine ati ?_ | refine mst ?_ | refine rmd ?_ | refine ibo (fun _ => ?_) (fun _ => ?_)) <;> conv => whnf))
      exact ⟨i + 1, _, _, hil, .refl _ _, ⟨rfl, rfl, rfl, rfl, trivial⟩, ⟨slice_is (by rw [hst, List.map_append]), trivial⟩, by omega⟩
    · have e : L.take i = L := List.take_of_length_le (by omega)
      rw [e]
      ((conv => whnf); repeat' ((first | refine odw ?_ | refine ify ?_ | refine ifn ?_ | refine i6 ?_ | refine ati ?_ | refine mst ?_ | refine rmd ?_ | refine ibo (fun _ => ?_) (fun _ => ?_)) <;> conv => whnf))
      exact ⟨rfl, rfl, rfl⟩
set_option maxHeartbeats 4000000 in
theorem concat_pure (L : List (List Edg)) (hL : L.length ≤ 1000) (hf : L.flatten.length ≤ 1000) : Pure C1 104 [.list 1 (L.map dEs)] (fun y => y = dEs L.flatten) := by
  have hdL : (L.map dEs).length = L.length := List.length_map _
  have hfl := flatE_le L
  refine pure_of c1_ok (pl := pl_cct) (G := G_cct) Tryz.func104 rfl Tryz.ntmps104 run_cct cok_cct (by simp) ?_
  ((conv => whnf); repeat' ((first | refine odw ?_ | refine ify ?_ | refine ifn ?_ | refine i6 ?_ | refine ati ?_ | refine mst ?_ | refine rmd ?_ | refine ibo (fun _ => ?_) (fun _ => ?_)) <;> conv => whnf))
  refine loop_lo (ι := Nat) (fun i => i ≤ L.length) (fun i => [(11, .d (.int .i64 i)), (10, .d (.int .i64 (L.map dEs).length)), (9, .d (.list 1 (L.map dEs))), (3, .d (.int .i64 ((L.take i).flatten.length : Nat))), (0, .d (.list 1 (L.map dEs)))]) (fun _ => []) (fun i => L.length - i) 0 (fun _ => rfl) (Nat.zero_le _) (.refl _ _) ⟨rfl, rfl, rfl, rfl, rfl, trivial⟩ trivial ?_
  intro i hi
  refine sxCode_sound c1_ok (G := G_cct) (pl := pl_cct) _ _ _ _ (by kernel_rfl) ?_
  by_cases hil : i < L.length
  · have hx := List.getElem?_eq_getElem hil
    generalize L[i] = x at hx
    have hxd : (L.map dEs)[i]? = some (dEs x) := by rw [List.getElem?_map, hx]; rfl
    have hdx : (x.map dE).length = x.length := List.length_map _
    have hst := congrArg List.length (flatE_snoc hx)
    rw [List.length_append] at hst
    have h1 := hfl (i + 1)
    (conv => whnf)
    (repeat' ((first | refine ord_ok (by (conv => whnf); (repeat' ((first | refine at_da hxd rfl ?_ | refine ify ?_ | refine ifn ?_ | refine i6 ?_ | refine ati ?_ | refine mst ?_ | refine rmd ?_ | refine ibo (fun _ => ?_) (fun _ => ?_)) <;> conv => whnf)); (all_goals (repeat' (first | exact trivial | exact rfl | refine And.intro ?_ ?_)))) ?_ | refine at_da hxd rfl ?_ | refine ify ?_ | refine ifn ?_ | refine i6 ?_ | refine ati ?_ | refine mst ?_ | refine rmd ?_ | refine ibo (fun _ => ?_) (fun _ => ?_)) <;> conv => whnf))
    exact ⟨i + 1, _, _, hil, .refl _ _, ⟨rfl, rfl, rfl, int_is (by omega), rfl, trivial⟩, trivial, by omega⟩
  · have e : L.take i = L := List.take_of_length_le (by omega)
    rw [e]
    ((conv => whnf); repeat' ((first | refine odw ?_ | refine ify ?_ | refine ifn ?_ | refine i6 ?_ | refine ati ?_ | refine mst ?_ | refine rmd ?_ | refine ibo (fun _ => ?_) (fun _ => ?_)) <;> conv => whnf))
    refine call_mksl 24 rfl rfl (grow_mksl _ hf) ?_; rintro ds rfl
    ((conv => whnf); repeat' ((first | refine odw ?_ | refine ify ?_ | refine ifn ?_ | refine i6 ?_ | refine ati ?_ | refine mst ?_ | refine rmd ?_ | refine ibo (fun _ => ?_) (fun _ => ?_)) <;> conv => whnf))
    refine loop_lo (ι := Nat) (fun i => i ≤ L.length) (fun i => [(27, .d (.int .i64 i)), (26, .d (.int .i64 (L.map dEs).length)), (25, .d (.list 1 (L.map dEs))), (6, .own 24)]) (fun i => [(24, .slice 77 2 ((L.take i).flatten.map dE))]) (fun i => L.length - i) 0 (fun _ => rfl) (Nat.zero_le _) (.refl _ _) ⟨rfl, rfl, rfl, rfl, trivial⟩ ⟨rfl, trivial⟩ ?_
    intro i hi
    refine sxCode_sound c1_ok (G := G_cct) (pl := pl_cct) _ _ _ _ (by kernel_rfl) ?_
    by_cases hil : i < L.length
    · have hx := List.getElem?_eq_getElem hil
      generalize L[i] = x at hx
      have hxd : (L.map dEs)[i]? = some (dEs x) := by rw [List.getElem?_map, hx]; rfl
      have hdx : (x.map dE).length = x.length := List.length_map _
      have hst := flatE_snoc hx
      have hsl := congrArg List.length hst
      rw [List.length_append] at hsl
      have h1 := hfl (i + 1)
      generalize (L.take i).flatten = Z at hst hsl ⊢
      have hdz : (Z.map dE).length = Z.length := List.length_map _
      (conv => whnf)
      (repeat' ((first | refine ord_ok (by (conv => whnf); (repeat' ((first | refine at_da hxd rfl ?_ | refine most16 (by omega) ?_ | refine ify ?_ | refine ifn ?_ | refine i6 ?_ | refine ati ?_ | refine mst ?_ | refine rmd ?_ | refine ibo (fun _ => ?_) (fun _ => ?_)) <;> conv => whnf)); (all_goals (repeat' (first | exact trivial | exact rfl | refine And.intro ?_ ?_)))) ?_ | refine at_da hxd rfl ?_ | refine most16 (by omega) ?_ | refine ify ?_ | refine ifn ?_ | refine i6 ?_ | refine ati ?_ | refine mst ?_ | refine rmd ?_ | refine ibo (fun _ => ?_) (fun _ => ?_)) <;> conv => whnf))
      exact ⟨i + 1, _, _, hil, .refl _ _, ⟨rfl, rfl, rfl, rfl, trivial⟩, ⟨slice_is (by rw [hst, List.map_append]), trivial⟩, by omega⟩
    · have e : L.take i = L := List.take_of_length_le (by omega)
      rw [e]
      ((conv => whnf); repeat' ((first | refine odw ?_ | refine ify ?_ | refine ifn ?_ | refine i6 ?_ | refine ati ?_ | refine mst ?_ | refine rmd ?_ | refine ibo (fun _ => ?_) (fun _ => ?_)) <;> conv => whnf))
      exact rfl
theorem eclone_pure (x : Int) (l : List Int) (hl : (x :: l).length ≤ 8) : Pure C1 103 [dIs (x :: l)] (fun y => y = dIs (x :: l)) := by
  have hlm : ((x :: l).map dI).length = (x :: l).length := List.length_map _
  refine pure_of c1_ok (pl := pl_clone) (G := G_clone) Tryz.func103 rfl Tryz.ntmps103 run_clone cok_clone (by simp) ?_
  have hlm2 : (([] : List Da).length + ((x :: l).map dI).length) ≤ 4294967296 := by rw [hlm]; simp at hl ⊢; omega
  ((conv => whnf); repeat' ((first | refine odw ?_ | refine ify ?_ | refine ifn ?_ | refine i6 ?_ | refine ati ?_ | refine mst ?_ | refine rmd ?_ | refine ibo (fun _ => ?_) (fun _ => ?_)) <;> conv => whnf))
  all_goals first | exact rfl | (refine most_ok hlm2 ?_; ((conv => whnf); repeat' ((first | refine odw ?_ | refine ify ?_ | refine ifn ?_ | refine i6 ?_ | refine ati ?_ | refine mst ?_ | refine rmd ?_ | refine ibo (fun _ => ?_) (fun _ => ?_)) <;> conv => whnf)); exact rfl)
def pl_plss : List (Nat × Plan) := [(4, .leaf [0, 1, 1, 2, 2, 0] [0, 1, 2, 3, 4, 5] [0, 1, 0, 4, 15, 31]),
  (7, .split 2 12 (.leaf [0, 1, 2, 0, 1, 0, 0, 0, 1, 0, 0, 0, 6, 2, 0, 3, 0] [0, 3, 5, 7, 9, 10, 1, 4, 6, 8, 11, 2, 12, 13, 14, 15, 16] [0, 1, 3, 0, 8, 0, 56, 0, 128, 0, 512, 1920, 4095, 8191, 16383, 32767, 65535]) (.leaf [0, 1, 2, 0, 1, 0, 0, 0, 1, 0, 0, 0, 6, 2, 0, 3, 0] [0, 3, 5, 7, 9, 10, 1, 4, 6, 8, 11, 12, 2, 13, 14, 15, 16] [0, 1, 8187, 0, 8, 0, 56, 0, 128, 0, 512, 1920, 4088, 8191, 16383, 32767, 65535]))]
def G_plss : List FuncId := [49, 74, 102, 103, 104, 81]
theorem cok_plss : codeOk Tryz.prog G_plss pl_plss (Tryz.f43.body.getD .skip) = true := by kernel_rfl
theorem run_plss (vs : Array Value) (w : World) : (callFunc 43 vs).run C1.P w = .ok (.enter 43 vs) w := by kernel_rfl
set_option maxHeartbeats 8000000 in
theorem less_pure {p : Pt} (hp : pErr p = none) {i : Nat} {e : Edg} (he : p.edges[i]? = some e) : Pure C1 43 [dPt p, dE e] (fun y => y = .tuple [dPt (lessP p i), .nili]) := by
  have hE := pt_edges hp
  have h8 := (lErr_none (pErr_none hp).1).1
  have hpo := pt_of hp
  have hr := pright_pure p (by omega) (by omega)
  rw [rightP_none hp] at hr
  have ht := pturned_pure e
  have heo := hpo.edge e (List.mem_of_getElem? he)
  have hte : turn e = e := by
    obtain ⟨u, v⟩ := e
    simp only at heo
    unfold turn; simp only [Edg.mk.injEq]; omega
  rw [hte] at ht
  have hi := (List.getElem?_eq_some_iff.1 he).1
  have hx := eindex_pure p.edges e (by omega)
  rw [eIdx_at (i := i) (fun k x hk hxk h => by
    obtain ⟨h1, e1⟩ := List.getElem?_eq_some_iff.1 hxk
    obtain ⟨h2, e2⟩ := List.getElem?_eq_some_iff.1 he
    have := List.pairwise_iff_getElem.1 hpo.strict k i h1 h2 hk
    rw [e1, e2, h] at this
    exact cmpE_irr _ this) he] at hx
  have hln : 0 < p.labels.length := by have := heo; omega
  have hcl : Pure C1 103 [dIs p.labels] (fun y => y = dIs p.labels) := by
    cases hl : p.labels with
    | nil => rw [hl] at hln; simp at hln
    | cons x l => exact eclone_pure x l (by rw [hl] at h8; exact h8)
  have hde : (p.edges.map dE).length = p.edges.length := List.length_map _
  have hcc : Pure C1 104 [.list 1 [.list 2 ((p.edges.map dE).take i), .list 2 ((p.edges.map dE).drop (i + 1))]] (fun y => y = dEs (p.edges.take i ++ p.edges.drop (i + 1))) := by
    have := concat_pure [p.edges.take i, p.edges.drop (i + 1)] (by simp) (by simp; omega)
    simp only [List.map_cons, List.map_nil, List.flatten_cons, List.flatten_nil, List.append_nil] at this
    rw [← List.map_take, ← List.map_drop]
    exact this
  unfold lessP
  refine pure_of c1_ok (pl := pl_plss) (G := G_plss) Tryz.func43 rfl Tryz.ntmps43 run_plss cok_plss (by simp) ?_
  (conv => whnf)
  (repeat' ((first | refine ord_ok (by (conv => whnf); (repeat' ((first | refine call_eq rfl hr ?_ | refine call_eq rfl ht ?_ | refine call_eq rfl hx ?_ | refine call_eq rfl hcl ?_ | refine call_eq rfl hcc ?_ | refine call_frz 35 rfl ?_ | refine sl_is (i + 1) (by omega) (by omega) ?_ | refine upto_is rfl (show i ≤ (p.edges.map dE).length by omega) ?_ | refine ify ?_ | refine ifn ?_ | refine i6 ?_ | refine ati ?_ | refine mst ?_ | refine rmd ?_ | refine ibo (fun _ => ?_) (fun _ => ?_)) <;> conv => whnf)); (all_goals (repeat' (first | exact trivial | exact rfl | refine And.intro ?_ ?_)))) ?_ | refine call_eq rfl hr ?_ | refine call_eq rfl ht ?_ | refine call_eq rfl hx ?_ | refine call_eq rfl hcl ?_ | refine call_eq rfl hcc ?_ | refine call_frz 35 rfl ?_ | refine sl_is (i + 1) (by omega) (by omega) ?_ | refine upto_is rfl (show i ≤ (p.edges.map dE).length by omega) ?_ | refine ify ?_ | refine ifn ?_ | refine i6 ?_ | refine ati ?_ | refine mst ?_ | refine rmd ?_ | refine ibo (fun _ => ?_) (fun _ => ?_)) <;> conv => whnf))
  exact rfl
end Go.Proofs.YthegabgbakckfaaGreatDoor
