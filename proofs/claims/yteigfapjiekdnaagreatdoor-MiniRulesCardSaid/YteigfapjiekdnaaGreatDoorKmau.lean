/- Merged: Dom Pso Bit. -/
import Derived.Test.YteigfapjiekdnaaGreatDoorKmat
import Derived.Test.YteigfapjiekdnaaGreatDoorKmaj
import Derived.Test.YteigfapjiekdnaaGreatDoorKmag
import Derived.Test.YteigfapjiekdnaaGreatDoorKmaf
import Derived.Test.YteigfapjiekdnaaGreatDoorSxu
section
/- law08.To; mini.Domains that nobody turns any more: Sets, Support; law15.same. -/
namespace Go.Proofs.YteigfapjiekdnaaGreatDoor
open Go.Sx Go.RowKit Go.Reg Go.Gr

set_option maxRecDepth 100000
def pl_l8to : List (Nat × Plan) := [(5, .leaf [0, 1, 0, 1, 0, 0, 1, 6, 3, 0, 3] [0, 2, 4, 1, 3, 5, 6, 7, 8, 9, 10] [0, 1, 0, 4, 0, 28, 60, 124, 255, 511, 1023])]
def G_l8to : List FuncId := []
theorem cok_l8to : codeOk Tryz.prog G_l8to pl_l8to (Tryz.f23.body.getD .skip) = true := by kernel_rfl
theorem run_l8to (vs : Array Value) (w : World) : (callFunc 23 vs).run C1.P w = .ok (.enter 23 vs) w := by kernel_rfl
theorem lawto_pure (p : Pt) (hm : p.edges.length ≤ 100000) : Pure C1 23 [dPt p] (fun y => y = dPt p) := by
  have hel : (p.edges.map dE).length = p.edges.length := List.length_map _
  refine pure_of c1_ok (pl := pl_l8to) (G := G_l8to) Tryz.func23 rfl Tryz.ntmps23 run_l8to cok_l8to (by simp) ?_
  ((conv => whnf); repeat' ((first | refine odw ?_ | refine ify ?_ | refine ifn ?_ | refine i6 ?_ | refine ati ?_ | refine mst ?_ | refine rmd ?_ | refine ibo (fun _ => ?_) (fun _ => ?_)) <;> conv => whnf))
  refine loop_lo (ι := Nat) (fun i => i ≤ p.edges.length) (fun i => [(4, .d (.int .i64 i)), (3, .own 3), (2, .own 2), (1, .own 1)]) (fun i => [(1, .cells 38 [.d (dIs p.labels), .d (dEs p.edges)]), (2, .cells 47 [.d .nils, .d .nils]), (3, .cells 47 [.d (dIs p.labels), .own 300]), (300, .slice 86 2 ((p.edges.take i).map dE))]) (fun i => p.edges.length - i) 0 (fun _ => rfl) (Nat.zero_le _) (.ownc 3 300 86 2 rfl rfl (.there _ (.here _)) (.refl _ _)) ⟨rfl, rfl, rfl, rfl, trivial⟩ ⟨rfl, rfl, rfl, rfl, trivial⟩ ?_
  intro i hi
  refine sxCode_sound c1_ok (G := G_l8to) (pl := pl_l8to) _ _ _ _ (by kernel_rfl) ?_
  by_cases hlt : i < p.edges.length
  · have hx := List.getElem?_eq_getElem hlt
    generalize p.edges[i] = e at hx
    have hxd : (p.edges.map dE)[i]? = some (.agg [.int .i64 e.a, .int .i64 e.b]) := by rw [List.getElem?_map, hx]; rfl
    have htl : ((p.edges.take i).map dE).length = i := by rw [List.length_map, List.length_take]; omega
    have hfin : (p.edges.take i).map dE ++ [.agg [.int .i64 e.a, .int .i64 e.b]] = (p.edges.take (i + 1)).map dE := by rw [take_snoc hx, List.map_append]; rfl
    generalize (p.edges.take i).map dE = Z at htl hfin ⊢
    (conv => whnf)
    (repeat' ((first | refine ord_ok (by (conv => whnf); (repeat' ((first | refine at_da hxd rfl ?_ | refine ify ?_ | refine ifn ?_ | refine i6 ?_ | refine ati ?_ | refine mst ?_ | refine rmd ?_ | refine ibo (fun _ => ?_) (fun _ => ?_)) <;> conv => whnf)); (all_goals (repeat' (first | exact trivial | exact rfl | refine And.intro ?_ ?_)))) ?_ | refine at_da hxd rfl ?_ | refine ify ?_ | refine ifn ?_ | refine i6 ?_ | refine ati ?_ | refine mst ?_ | refine rmd ?_ | refine ibo (fun _ => ?_) (fun _ => ?_)) <;> conv => whnf))
    exact ⟨i + 1, _, _, hlt, .refl _ _, ⟨rfl, rfl, rfl, rfl, trivial⟩, ⟨rfl, rfl, rfl, slice_is hfin, trivial⟩, by omega⟩
  · have hii : p.edges.take i = p.edges := List.take_of_length_le (by omega)
    rw [hii]
    ((conv => whnf); repeat' ((first | refine odw ?_ | refine ify ?_ | refine ifn ?_ | refine i6 ?_ | refine ati ?_ | refine mst ?_ | refine rmd ?_ | refine ibo (fun _ => ?_) (fun _ => ?_)) <;> conv => whnf))
    exact rfl
theorem cloneN_pure (s : List Int) (hl : s.length ≤ 1000000000) : Pure C1 55 [dN s] (fun y => y = dN s) := by
  cases s with
  | cons x s => exact clone1_pure x s (by omega)
  | nil =>
    show Pure C1 _ [.nils] (fun y => y = .nils)
    refine pure_of c1_ok (pl := pl_clone) (G := G_clone) Tryz.func55 rfl Tryz.ntmps55 run_clone cok_clone (by simp) ?_
    ((conv => whnf); repeat' ((first | refine odw ?_ | refine ify ?_ | refine ifn ?_ | refine i6 ?_ | refine ati ?_ | refine mst ?_ | refine rmd ?_ | refine ibo (fun _ => ?_) (fun _ => ?_)) <;> conv => whnf))
    all_goals exact rfl
/-- domains, given up -/
def dD (p : Pt) (O S : List (List Int)) : Da := .ref (.agg [dPt p, dLL O, .list 1 (S.map dN)])
def pl_dse : List (Nat × Plan) := []
def G_dse : List FuncId := [55]
theorem cok_dse : codeOk Tryz.prog G_dse pl_dse (Tryz.f26.body.getD .skip) = true := by kernel_rfl
theorem run_dse (vs : Array Value) (w : World) : (callFunc 26 vs).run C1.P w = .ok (.enter 26 vs) w := by kernel_rfl
theorem dsets_pure (p : Pt) (O S : List (List Int)) (h0 : S ≠ []) (hm : S.length ≤ 1000) (hs : ∀ s ∈ S, s.length ≤ 1000000000) : Pure C1 26 [dD p O S] (fun y => y = .list 1 (S.map dN)) := by
  have hdS : (S.map dN).length = S.length := List.length_map _
  have hpos : 0 < S.length := List.length_pos_iff.2 h0
  refine pure_of c1_ok (pl := pl_dse) (G := G_dse) Tryz.func26 rfl Tryz.ntmps26 run_dse cok_dse (by simp) ?_
  ((conv => whnf); repeat' ((first | refine odw ?_ | refine ify ?_ | refine ifn ?_ | refine i6 ?_ | refine ati ?_ | refine mst ?_ | refine rmd ?_ | refine ibo (fun _ => ?_) (fun _ => ?_)) <;> conv => whnf))
  refine loop_lo (ι := Nat) (fun i => i ≤ S.length) (fun i => [(13, .d (.int .i64 i)), (12, .d (.int .i64 S.length)), (11, .d (.list 1 (S.map dN))), (3, .own 300)]) (fun i => [(300, .slice 22 1 ((S.take i).map dN))]) (fun i => S.length - i) 0 (fun _ => rfl) (Nat.zero_le _) (.own 3 300 22 1 rfl rfl (.refl _ _)) ⟨rfl, by rw [← hdS]; rfl, rfl, rfl, trivial⟩ ⟨rfl, trivial⟩ ?_
  intro i hi
  refine sxCode_sound c1_ok (G := G_dse) (pl := pl_dse) _ _ _ _ (by kernel_rfl) ?_
  by_cases hil : i < S.length
  · have hx := List.getElem?_eq_getElem hil
    have hxm := List.getElem_mem hil
    generalize S[i] = x at hx hxm
    have hcl := cloneN_pure x (hs x hxm)
    have hxd : (S.map dN)[i]? = some (dN x) := by rw [List.getElem?_map, hx]; rfl
    have hfin : (S.take i).map dN ++ [dN x] = (S.take (i + 1)).map dN := by rw [List.take_add_one, hx, List.map_append]; rfl
    have htl : ((S.take i).map dN).length = i := by rw [List.length_map, List.length_take]; omega
    generalize (S.take i).map dN = Z at htl hfin ⊢
    have hxx := dN_or x
    generalize dN x = xd at hcl hxd hfin hxx
    rcases hxx with rfl | rfl <;> (conv => whnf) <;> (repeat' ((first | refine ord_ok (by (conv => whnf); (repeat' ((first | refine at_da hxd rfl ?_ | refine call_eq rfl hcl ?_ | refine ify ?_ | refine ifn ?_ | refine i6 ?_ | refine ati ?_ | refine mst ?_ | refine rmd ?_ | refine ibo (fun _ => ?_) (fun _ => ?_)) <;> conv => whnf)); (all_goals (repeat' (first | exact trivial | exact rfl | refine And.intro ?_ ?_)))) ?_ | refine at_da hxd rfl ?_ | refine call_eq rfl hcl ?_ | refine ify ?_ | refine ifn ?_ | refine i6 ?_ | refine ati ?_ | refine mst ?_ | refine rmd ?_ | refine ibo (fun _ => ?_) (fun _ => ?_)) <;> conv => whnf))
    all_goals exact ⟨i + 1, _, _, hil, .refl _ _, ⟨rfl, rfl, rfl, rfl, trivial⟩, ⟨slice_is hfin, trivial⟩, by omega⟩
  · rw [List.take_of_length_le (show S.length ≤ i by omega)]
    ((conv => whnf); repeat' ((first | refine odw ?_ | refine ify ?_ | refine ifn ?_ | refine i6 ?_ | refine ati ?_ | refine mst ?_ | refine rmd ?_ | refine ibo (fun _ => ?_) (fun _ => ?_)) <;> conv => whnf))
    exact rfl
def pl_dsu : List (Nat × Plan) := []
def G_dsu : List FuncId := [26, 52]
theorem cok_dsu : codeOk Tryz.prog G_dsu pl_dsu (Tryz.f27.body.getD .skip) = true := by kernel_rfl
theorem run_dsu (vs : Array Value) (w : World) : (callFunc 27 vs).run C1.P w = .ok (.enter 27 vs) w := by kernel_rfl
theorem dsupport_pure (p : Pt) (O S : List (List Int)) (h0 : S ≠ []) (hm : S.length ≤ 1000) (hs : ∀ s ∈ S, s.length ≤ 1000000000) : Pure C1 27 [dD p O S] (fun y => y = .int .i64 (leastL S : Nat)) := by
  have h1 := dsets_pure p O S h0 hm hs
  have h2 := least_pure S h0 hm hs
  refine pure_of c1_ok (pl := pl_dsu) (G := G_dsu) Tryz.func27 rfl Tryz.ntmps27 run_dsu cok_dsu (by simp) ?_
  (conv => whnf)
  (repeat' ((first | refine ord_ok (by (conv => whnf); (repeat' ((first | refine call_eq rfl h1 ?_ | refine call_eq rfl h2 ?_ | refine ify ?_ | refine ifn ?_ | refine i6 ?_ | refine ati ?_ | refine mst ?_ | refine rmd ?_ | refine ibo (fun _ => ?_) (fun _ => ?_)) <;> conv => whnf)); (all_goals (repeat' (first | exact trivial | exact rfl | refine And.intro ?_ ?_)))) ?_ | refine call_eq rfl h1 ?_ | refine call_eq rfl h2 ?_ | refine ify ?_ | refine ifn ?_ | refine i6 ?_ | refine ati ?_ | refine mst ?_ | refine rmd ?_ | refine ibo (fun _ => ?_) (fun _ => ?_)) <;> conv => whnf))
  exact rfl
theorem sameN (s : List Int) : Pure C1 36 [dN s, dN s] (fun y => y = .bool true) := by
  have h := same_pure s s
  rw [decide_eq_true rfl] at h
  exact Sx.Pure.lax (.cons (laxN s) (.cons (laxN s) .nil)) h
def pl_d15s : List (Nat × Plan) := [(6, .leaf [0, 0, 0, 1, 0, 0, 0, 1, 2, 0] [0, 1, 2, 4, 5, 6, 3, 7, 8, 9] [0, 0, 3, 7, 0, 0, 48, 112, 255, 511])]
def G_d15s : List FuncId := [36]
theorem cok_d15s : codeOk Tryz.prog G_d15s pl_d15s (Tryz.f25.body.getD .skip) = true := by kernel_rfl
theorem run_d15s (vs : Array Value) (w : World) : (callFunc 25 vs).run C1.P w = .ok (.enter 25 vs) w := by kernel_rfl
theorem same15_pure (S : List (List Int)) (hm : S.length ≤ 1000) : Pure C1 25 [.list 1 (S.map dN), .list 1 (S.map dN)] (fun y => y = .bool true) := by
  have hdS : (S.map dN).length = S.length := List.length_map _
  refine pure_of c1_ok (pl := pl_d15s) (G := G_d15s) Tryz.func25 rfl Tryz.ntmps25 run_d15s cok_d15s (by simp) ?_
  ((conv => whnf); repeat' ((first | refine odw ?_ | refine ify ?_ | refine ifn ?_ | refine i6 ?_ | refine ati ?_ | refine mst ?_ | refine rmd ?_ | refine ibo (fun _ => ?_) (fun _ => ?_)) <;> conv => whnf))
  refine loop_lo (ι := Nat) (fun i => i ≤ S.length) (fun i => [(5, .d (.int .i64 i)), (1, .d (.list 1 (S.map dN))), (0, .d (.list 1 (S.map dN)))]) (fun _ => []) (fun i => S.length - i) 0 (fun _ => rfl) (Nat.zero_le _) (.refl _ _) ⟨rfl, rfl, rfl, trivial⟩ trivial ?_
  intro i hi
  refine sxCode_sound c1_ok (G := G_d15s) (pl := pl_d15s) _ _ _ _ (by kernel_rfl) ?_
  by_cases hil : i < S.length
  · have hx := List.getElem?_eq_getElem hil
    generalize S[i] = x at hx
    have hsm := sameN x
    have hxd : (S.map dN)[i]? = some (dN x) := by rw [List.getElem?_map, hx]; rfl
    have hxx := dN_or x
    generalize dN x = xd at hsm hxd hxx
    rcases hxx with rfl | rfl <;> (conv => whnf) <;> (repeat' ((first | refine ord_ok (by (conv => whnf); (repeat' ((first | refine at_da hxd rfl ?_ | refine call_eq rfl hsm ?_ | refine ify ?_ | refine ifn ?_ | refine i6 ?_ | refine ati ?_ | refine mst ?_ | refine rmd ?_ | refine ibo (fun _ => ?_) (fun _ => ?_)) <;> conv => whnf)); (all_goals (repeat' (first | exact trivial | exact rfl | refine And.intro ?_ ?_)))) ?_ | refine at_da hxd rfl ?_ | refine call_eq rfl hsm ?_ | refine ify ?_ | refine ifn ?_ | refine i6 ?_ | refine ati ?_ | refine mst ?_ | refine rmd ?_ | refine ibo (fun _ => ?_) (fun _ => ?_)) <;> conv => whnf))
    all_goals exact ⟨i + 1, _, _, hil, .refl _ _, ⟨rfl, rfl, rfl, trivial⟩, trivial, by omega⟩
  · ((conv => whnf); repeat' ((first | refine odw ?_ | refine ify ?_ | refine ifn ?_ | refine i6 ?_ | refine ati ?_ | refine mst ?_ | refine rmd ?_ | refine ibo (fun _ => ?_) (fun _ => ?_)) <;> conv => whnf))
    exact rfl
end Go.Proofs.YteigfapjiekdnaaGreatDoor
end

section
/- Patterns: edges put in order in their place by slices.SortFunc with pat.order (as Gre, with graph.order). -/
namespace Go.Proofs.YteigfapjiekdnaaGreatDoor
open Go.Sx Go.RowKit Go.Reg Go.Gr

open Go.Sort Go.Proofs in
set_option maxRecDepth 100000 in
set_option maxHeartbeats 1000000 in
theorem paorder_ok (x y : Edg) (W : World) : Calls Tryz.prog 74 #[valE x, valE y] W fun e w' => e = .returned (.int .i64 (cmpE x y)) ∧ ∃ q os', w' = grow (W.drewN q) os' := by
  unfold valE
  go_enter Tryz.func74, Tryz.ntmps74
  go_wp2_with fail
  refine wp_region_t [121] [0, 1, 0, 1, 2, 0, 1, 0, 1, 2, 6, 3, 0] [0, 2, 5, 7, 1, 3, 6, 8, 4, 9, 10, 11, 12] [0, 1, 0, 4, 15, 0, 32, 0, 128, 511, 1023, 2047, 4095] (by kernel_rfl) (by kernel_rfl) ?_
  go_wp2_with (first | (refine wpT_pure rfl rfl rfl rfl (fun _ _ => ?_)) | (refine wpT_look rfl rfl rfl (fun _ _ => ?_)))
  refine wpT_call rfl rfl rfl (fun K1 hK1 => ?_)
  go_wp2_with (go_at_call 121; refine (compare_ok _ _ _).mono ?_; rintro e w' ⟨rfl, rfl⟩)
  refine hK1 _ _ (Ext.refl _) ?_
  go_wp2_with (first | (refine wpT_pure rfl rfl rfl rfl (fun _ _ => ?_)) | (refine wpT_look rfl rfl rfl (fun _ _ => ?_)))
  refine wpT_call rfl rfl rfl (fun K2 hK2 => ?_)
  go_wp2_with (go_at_call 121; refine (compare_ok _ _ _).mono ?_; rintro e w' ⟨rfl, rfl⟩)
  refine hK2 _ _ (Ext.refl _) ?_
  go_wp2_with (first | (refine wpT_pure rfl rfl rfl rfl (fun _ _ => ?_)) | (refine wpT_look rfl rfl rfl (fun _ _ => ?_)))
  refine wpT_one rfl rfl rfl (fun K3 hK3 => ?_)
  go_wp2_with fail
  refine (or_ok _ _ _ _ (cell_new _ _ _ (by simp) rfl) (cell_new _ _ _ (by simp) rfl)).mono ?_
  rintro e w' ⟨rfl, rfl⟩
  refine hK3 _ _ ?_
  go_wp2_with (first | (refine wpT_pure rfl rfl rfl rfl (fun _ _ => ?_)) | (refine wpT_look rfl rfl rfl (fun _ _ => ?_)) | refine wpT_nil ?_)
  go_ret
  have e : orI (cmpI x.a y.a) (cmpI x.b y.b) = cmpE x y := by
    unfold orI cmpE
    by_cases h : cmpI x.a y.a = 0 <;> simp [h]
  exact ⟨by rw [← e]; rfl, 1, _, by rw [alloc_eq_grow, alloc_eq_grow, alloc_eq_grow, grow_grow, grow_grow]; rfl⟩

open Go.Sort in
theorem pasort_ok (v : Value) (l : List Edg) (w : World) (h : Sl 40 2 encE w v l) (hl : l.length ≤ 4294967296) :
    Calls Tryz.prog 81 #[v, .func (.func 74) #[] #[]] w fun e w' => e = .returned (.tuple #[]) ∧ ∃ out, Sl 40 2 encE w' v out ∧ out.Perm l ∧
      out.Pairwise (fun a b => ¬ cmpE b a < 0) ∧ Tch v.ownBlock.toList w w' := by
  rcases h.shape with ⟨rfl, rfl⟩ | ⟨g, cap, rfl, hc⟩
  · refine (AnyF.slices_SortFunc_none Tryz.sortE none 0 _ w).mono ?_
    rintro e w' ⟨rfl, rfl⟩
    exact ⟨rfl, [], h, List.Perm.refl _, List.Pairwise.nil, Tch.refl _ _⟩
  · refine (AnyQ.slices_SortFunc Tryz.sortE 2 Tryz.isAgg40 Tryz.sizeOf40 encE (fun _ => rfl) encE_one cmpE cmpE_swo 74 #[] g 0 cap l.toArray w
      (enters_of Tryz.func74 (by kernel_rfl) rfl) (fun m os dk hs x y => paorder_ok x y _) (h.holdsK encE_len (by decide)) (h.lt rfl) (by simp; omega)).mono ?_
    rintro e w' ⟨rfl, d, n, os, hp, hs, rfl⟩
    obtain ⟨hp1, hp2, hp3⟩ := hp
    have hd : d.size = l.length := by simpa using hp1
    obtain ⟨hS, hT⟩ := h.sorted encE_len (by decide) d hd n os
    refine ⟨rfl, d.toList, hS, ?_, ?_, hT⟩
    · have e1 : d.extract 0 l.toArray.size = d := by rw [← hp1]; exact Array.extract_size
      have e2 : l.toArray.extract 0 l.toArray.size = l.toArray := Array.extract_size
      rw [e1, e2] at hp3
      exact hp3
    · rw [List.pairwise_iff_getElem]
      intro i j hi hj hij
      have hj' : j < l.length := by rw [← hd]; simpa using hj
      have hi' : i < l.length := by omega
      have := hs i j (Nat.zero_le _) hij (by simpa using hj')
      rw [getElem!_pos d j (by omega), getElem!_pos d i (by omega)] at this
      simpa [ltOf] using this
theorem pasort_tsl (l : List Edg) (hl : l.length ≤ 4294967296) : TurnSl C1 81 40 2 (l.map dE) [.func (.func 74) [] []] (fun _ ds => ∃ out : List Edg, ds = out.map dE ∧ out.Perm l ∧ out.Pairwise (fun a b => ¬ cmpE b a < 0)) := by
  intro O w v css us hs hb hO hr hk hg hus
  obtain ⟨u, us', rfl, h1, h2⟩ := reps_inv hus
  obtain rfl := reps_inv0 h2
  obtain ⟨cs, r, rfl⟩ := h1
  simp only [RepC, RepCss] at r
  obtain ⟨_, _, rfl, rfl, rfl⟩ := r
  obtain rfl := edges_cs hr
  refine ⟨by kernel_rfl, (pasort_ok v l w (edges_sl.1 hs) hl).mono ?_⟩
  rintro e w' ⟨rfl, out, hs', hp, ho, ht⟩
  refine ⟨.tuple #[], .tuple [], _, out.map encE, rfl, ⟨out, rfl, hp, ho⟩, edges_sl.2 hs', edges_rep _ _ _, ?_, ⟨[.tuple #[]], by simp only [RepC, RepCss]; exact ⟨[], rfl, rfl⟩, rfl⟩, ht⟩
  intro x hx
  obtain ⟨e, _, rfl⟩ := List.mem_map.1 hx
  exact ⟨rfl, encE_one e⟩
end Go.Proofs.YteigfapjiekdnaaGreatDoor
end

section
/- The engine's rules of '&', '|', '<<' on numbers from 0 on; a set of places as bits. -/
namespace Go.Sx
open Go Go.RowKit Go.Reg
theorem i64_and_nat (a b : Nat) (ha : a < 9223372036854775808) (hb : b < 9223372036854775808) : IntKind.i64.wrap ((BitVec.ofInt 64 (a : Int) &&& BitVec.ofInt 64 (b : Int)).toNat : Int) = ((a &&& b : Nat) : Int) := by
  have hx : a &&& b < 2 ^ 63 := Nat.and_lt_two_pow _ (by omega)
  have h1 : (BitVec.ofInt 64 (a : Int)).toNat = a := by rw [BitVec.ofInt_natCast, BitVec.toNat_ofNat]; exact Nat.mod_eq_of_lt (by omega)
  have h2 : (BitVec.ofInt 64 (b : Int)).toNat = b := by rw [BitVec.ofInt_natCast, BitVec.toNat_ofNat]; exact Nat.mod_eq_of_lt (by omega)
  rw [BitVec.toNat_and, h1, h2, IntKind.wrap_i64]
  omega
theorem i64_or_nat (a b : Nat) (ha : a < 9223372036854775808) (hb : b < 9223372036854775808) : IntKind.i64.wrap ((BitVec.ofInt 64 (a : Int) ||| BitVec.ofInt 64 (b : Int)).toNat : Int) = ((a ||| b : Nat) : Int) := by
  have hx : a ||| b < 2 ^ 63 := Nat.or_lt_two_pow (by omega) (by omega)
  have h1 : (BitVec.ofInt 64 (a : Int)).toNat = a := by rw [BitVec.ofInt_natCast, BitVec.toNat_ofNat]; exact Nat.mod_eq_of_lt (by omega)
  have h2 : (BitVec.ofInt 64 (b : Int)).toNat = b := by rw [BitVec.ofInt_natCast, BitVec.toNat_ofNat]; exact Nat.mod_eq_of_lt (by omega)
  rw [BitVec.toNat_or, h1, h2, IntKind.wrap_i64]
  omega
section
variable {C : Cx} {fr : Fr} {σ : Sg}
/-- 'x & y' -/
theorem op_and (a b z : Nat) (hz : a &&& b = z) {n kd : Nat} {o : Oper} {K : Fr → Sg → Prop} {t ty : Nat} {x y : Operand} (ho : o.op = .binOp .and t x y ty) (hx : ev C.Γ fr x = .d (.int .i64 (a : Int))) (hy : ev C.Γ fr y = .d (.int .i64 (b : Int))) (ha : a < 9223372036854775808) (hb : b < 9223372036854775808) (hkd : kd = 3) (hd : dstOk o.dst n = true)
    (hK : K (putF o.dst (.d (.int .i64 (z : Int))) fr) σ) : OpSem C n kd o K fr σ := by
  subst hkd hz
  refine opSem_calc (by decide) (by decide) hd fun B S w0 η φ a' w hM => ?_
  have e1 := rep_int (rd_da (ev_rep hM x) hx)
  have e2 := rep_int (rd_da (ev_rep hM y) hy)
  refine .inr ⟨_, _, hK, ?_, rd_int _ _, fun h => by cases h⟩
  simp only [execOp, ho]
  rw [e1, e2]
  refine run_v ?_
  have := i64_and_nat a b ha hb
  rw [BitVec.ofInt_natCast, BitVec.ofInt_natCast] at this
  simp [eqGuard, binOp, Op.intBits]
  exact this
/-- 'x | y' -/
theorem op_or (a b z : Nat) (hz : a ||| b = z) {n kd : Nat} {o : Oper} {K : Fr → Sg → Prop} {t ty : Nat} {x y : Operand} (ho : o.op = .binOp .or t x y ty) (hx : ev C.Γ fr x = .d (.int .i64 (a : Int))) (hy : ev C.Γ fr y = .d (.int .i64 (b : Int))) (ha : a < 9223372036854775808) (hb : b < 9223372036854775808) (hkd : kd = 3) (hd : dstOk o.dst n = true)
    (hK : K (putF o.dst (.d (.int .i64 (z : Int))) fr) σ) : OpSem C n kd o K fr σ := by
  subst hkd hz
  refine opSem_calc (by decide) (by decide) hd fun B S w0 η φ a' w hM => ?_
  have e1 := rep_int (rd_da (ev_rep hM x) hx)
  have e2 := rep_int (rd_da (ev_rep hM y) hy)
  refine .inr ⟨_, _, hK, ?_, rd_int _ _, fun h => by cases h⟩
  simp only [execOp, ho]
  rw [e1, e2]
  refine run_v ?_
  have := i64_or_nat a b ha hb
  rw [BitVec.ofInt_natCast, BitVec.ofInt_natCast] at this
  simp [eqGuard, binOp, Op.intBits]
  exact this
/-- '1 << b' -/
theorem op_bit (b : Nat) {n kd : Nat} {o : Oper} {K : Fr → Sg → Prop} {t ty : Nat} {x y : Operand} {yk : IntKind} (ho : o.op = .binOp .shl t x y ty) (hx : ev C.Γ fr x = .d (.int .i64 1)) (hy : ev C.Γ fr y = .d (.int yk (b : Int))) (hb : b ≤ 30) (hkd : kd = 3) (hd : dstOk o.dst n = true)
    (hK : K (putF o.dst (.d (.int .i64 ((2 ^ b : Nat) : Int))) fr) σ) : OpSem C n kd o K fr σ := by
  subst hkd
  refine opSem_calc (by decide) (by decide) hd fun B S w0 η φ a' w hM => ?_
  have e1 := rep_int (rd_da (ev_rep hM x) hx)
  have e2 := rep_int (rd_da (ev_rep hM y) hy)
  refine .inr ⟨_, _, hK, ?_, rd_int _ _, fun h => by cases h⟩
  simp only [execOp, ho]
  rw [e1, e2]
  refine run_v ?_
  have h1 : (2 : Nat) ^ b ≤ 2 ^ 30 := Nat.pow_le_pow_right (by decide) hb
  have h3 : ((2 ^ b : Nat) : Int) = (2 : Int) ^ b := by norm_cast
  have h2 : IntKind.i64.wrap ((2 : Int) ^ b) = (2 : Int) ^ b := by
    rw [← h3]
    generalize (2 : Nat) ^ b = q at h1
    exact wrap64_in ⟨by omega, by omega⟩
  simp [eqGuard, binOp, h2]
/-- 'x >> b' of a number from 0 on -/
theorem op_shrz (b m z : Nat) (hz : m / 2 ^ b = z) {n kd : Nat} {o : Oper} {K : Fr → Sg → Prop} {t ty : Nat} {x y : Operand} {k yk : IntKind} (ho : o.op = .binOp .shr t x y ty) (hx : ev C.Γ fr x = .d (.int k (m : Int))) (hy : ev C.Γ fr y = .d (.int yk (b : Int))) (hb : b ≤ 8) (hkd : kd = 3) (hd : dstOk o.dst n = true)
    (hK : K (putF o.dst (.d (.int k (z : Int))) fr) σ) : OpSem C n kd o K fr σ := by
  subst hz
  refine op_shr b ho hx hy hb hkd hd ?_
  have : (m : Int).fdiv (2 ^ b) = ((m / 2 ^ b : Nat) : Int) := by
    rw [Int.fdiv_eq_ediv_of_nonneg _ (Int.pow_nonneg (by decide))]
    simp
  rw [this]; exact hK
end
end Go.Sx
namespace Go.Gr
/-- places as bits -/
def maskOf (l : List Nat) : Nat := l.foldl (fun s x => s ||| 2 ^ x) 0
theorem mask_snoc (l : List Nat) (x : Nat) : maskOf (l ++ [x]) = maskOf l ||| 2 ^ x := by simp [maskOf, List.foldl_append]
theorem mask_bit (l : List Nat) (k : Nat) : (maskOf l).testBit k = decide (k ∈ l) := by
  suffices h : ∀ l : List Nat, (maskOf l.reverse).testBit k = decide (k ∈ l) by
    have := h l.reverse
    rw [List.reverse_reverse] at this
    rw [this]; simp
  intro l
  induction l with
  | nil => simp [maskOf]
  | cons x l ih =>
    rw [List.reverse_cons, mask_snoc, Nat.testBit_or, ih, Nat.testBit_two_pow]
    by_cases h : x = k
    · subst h; simp
    · simp [h, Ne.symm h]
theorem mask_lt (l : List Nat) (n : Nat) (h : ∀ x ∈ l, x < n) : maskOf l < 2 ^ n := by
  suffices hh : ∀ l : List Nat, (∀ x ∈ l, x < n) → maskOf l.reverse < 2 ^ n by
    have := hh l.reverse (by simpa using h)
    rwa [List.reverse_reverse] at this
  intro l
  induction l with
  | nil => intro _; simp [maskOf]; exact Nat.pos_of_ne_zero (by simp)
  | cons x l ih =>
    intro h
    rw [List.reverse_cons, mask_snoc]
    exact Nat.or_lt_two_pow (ih fun y hy => h y (by simp [hy])) (Nat.pow_lt_pow_right (by decide) (h x (by simp)))
theorem bit_of (m k : Nat) : (m / 2 ^ k) &&& 1 = if m.testBit k then 1 else 0 := by
  rw [Nat.and_one_is_mod, Nat.testBit_eq_decide_div_mod_eq]
  by_cases h : m / 2 ^ k % 2 = 1
  · simp [h]
  · simp [h]; omega
end Go.Gr
end
