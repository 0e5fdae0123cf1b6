/- Merged: Orb Ofl. -/
import Derived.Test.YteigfapjiekdnaaGreatDoorKtbc
import Derived.Test.YteigfapjiekdnaaGreatDoorKtaj
section
/- pat.Degree, perm.Back, perm.Then, canon.Orbits. -/
namespace Go.Gr
open Go.Proofs.YteigfapjiekdnaaGreatDoor Go.Sx
/-- done: those below m, and where the orders Y lead m to -/
def doneK (p : Pt) (m : Nat) (Y : List (List Int)) (u : Nat) : Bool := doneV p m u || Y.any fun o => decide (pl o m = u)
theorem doneK_nil (p : Pt) (m u : Nat) : doneK p m [] u = doneV p m u := by unfold doneK; simp
theorem doneK_all (p : Pt) (m u : Nat) : doneK p m (mapsP p p) u = doneV p (m + 1) u := by
  rw [done_step]
  unfold doneK
  congr 1
  rw [Bool.eq_iff_iff, List.any_eq_true, decide_eq_true_eq]
  unfold InOrb
  simp only [decide_eq_true_eq]
theorem doneK_snoc (p : Pt) (m : Nat) {Y : List (List Int)} {k : Nat} {o : List Int} (h : Y[k]? = some o) (u : Nat) : doneK p m (Y.take (k + 1)) u = (doneK p m (Y.take k) u || decide (pl o m = u)) := by
  unfold doneK
  rw [List.take_add_one, h, Option.toList_some, List.any_append, Bool.or_assoc]
  simp
theorem doneK_set (p : Pt) (m n : Nat) {Y : List (List Int)} {k : Nat} {o : List Int} (h : Y[k]? = some o) (hn : pl o m < n) : ((List.range n).map fun u => Da.bool (doneK p m (Y.take k) u)).set (pl o m) (.bool true) = (List.range n).map fun u => Da.bool (doneK p m (Y.take (k + 1)) u) := by
  apply List.ext_getElem?
  intro i
  rw [List.getElem?_set]
  by_cases hi : pl o m = i
  · subst hi
    rw [if_pos rfl]
    simp [hn, doneK_snoc p m h]
  · rw [if_neg hi]
    by_cases hin : i < n
    · simp [hin, doneK_snoc p m h, hi]
    · simp [hin]
theorem row_snoc {Y : List (List Int)} {m k : Nat} {o : List Int} {x : Int} (h : Y[k]? = some o) (hx : o[m]? = some x) : (Y.take (k + 1)).map (fun o => (o[m]?).getD 0) = (Y.take k).map (fun o => (o[m]?).getD 0) ++ [x] := by
  rw [List.take_add_one, h, Option.toList_some, List.map_append, List.map_cons, List.map_nil, hx]; rfl
theorem orbsU_len (p : Pt) (m : Nat) : (orbsU p m).length ≤ m := by
  unfold orbsU
  rw [List.length_map]
  exact Nat.le_trans (List.length_filter_le _ _) (by rw [List.length_range]; omega)
end Go.Gr
namespace Go.Proofs.YteigfapjiekdnaaGreatDoor
open Go.Sx Go.RowKit Go.Reg Go.Gr

set_option maxRecDepth 100000
theorem permid_pure (n : Nat) (hn : n ≤ 8) : Pure C1 77 [.int .i64 n] (fun y => y = dIs (idL n)) := by
  refine pure_of c1_ok (pl := pl_pid) (G := G_pid) Tryz.func77 rfl Tryz.ntmps77 run_pid cok_pid (by simp) ?_
  ((conv => whnf); repeat' ((first | refine odw ?_ | refine ify ?_ | refine ifn ?_ | refine i6 ?_ | refine ati ?_ | refine mst ?_ | refine rmd ?_ | refine ibo (fun _ => ?_) (fun _ => ?_)) <;> conv => whnf))
  refine loop_lo (ι := Nat) (fun i => i ≤ n) (fun i => [(4, .d (.int .i64 i)), (3, .own 300), (0, .d (.int .i64 n))]) (fun i => [(300, .slice 3 1 ((idL i).map dI))]) (fun i => n - i) 0 (fun _ => rfl) (Nat.zero_le _) (.own 3 300 3 1 rfl rfl (.refl _ _)) ⟨rfl, rfl, rfl, trivial⟩ ⟨rfl, trivial⟩ ?_
  intro i hi
  refine sxCode_sound c1_ok (G := G_pid) (pl := pl_pid) _ _ _ _ (by kernel_rfl) ?_
  have hil := idL_len i
  by_cases hlt : i < n
  · ((conv => whnf); repeat' ((first | refine odw ?_ | refine ify ?_ | refine ifn ?_ | refine i6 ?_ | refine ati ?_ | refine mst ?_ | refine rmd ?_ | refine ibo (fun _ => ?_) (fun _ => ?_)) <;> conv => whnf))
    exact ⟨i + 1, _, _, by omega, .refl _ _, ⟨rfl, rfl, rfl, trivial⟩, ⟨slice_is (by rw [idL_succ, List.map_append]; rfl), trivial⟩, by omega⟩
  · have : i = n := by omega
    subst this
    ((conv => whnf); repeat' ((first | refine odw ?_ | refine ify ?_ | refine ifn ?_ | refine i6 ?_ | refine ati ?_ | refine mst ?_ | refine rmd ?_ | refine ibo (fun _ => ?_) (fun _ => ?_)) <;> conv => whnf))
    exact rfl
def pl_cob : List (Nat × Plan) := []
def G_cob : List FuncId := [34, 77, 61, 60]
theorem cok_cob : codeOk Tryz.prog G_cob pl_cob (Tryz.f35.body.getD .skip) = true := by kernel_rfl
theorem run_cob (vs : Array Value) (w : World) : (callFunc 35 vs).run C1.P w = .ok (.enter 35 vs) w := by kernel_rfl
set_option maxHeartbeats 8000000 in
theorem orbits_pure {n : Nat} {p : Pt} (hp : pErr p = none) (hn : p.labels.length = n) : Pure C1 35 [dPt p] (fun y => y = .tuple [.list 1 ((orbsU p n).map dIs), .nili]) := by
  have h8 := (lErr_none (pErr_none hp).1).1
  have hE := pt_edges hp
  have hpo : PtOk n p := by have := pt_of hp; rwa [hn] at this
  have hdl : (p.labels.map dI).length = p.labels.length := List.length_map _
  have hw := own_pure hp (by omega)
  have hXl := maps_le p p h8
  have hXo : ∀ o ∈ mapsP p p, IsOrd n o := fun o ho => own_ord hpo ho
  have hXa := fun m u => doneK_all p m u
  have hXs : ∀ m, setOf ((mapsP p p).map fun o => (o[m]?).getD 0) = orbS p m := fun m => rfl
  have hid : Pure C1 77 [.int .i64 (p.labels.map dI).length] (fun y => y = dIs (idL n)) := by rw [hdl, hn]; exact permid_pure _ (by omega)
  have hil := idL_len n
  have hdi : ((idL n).map dI).length = n := by rw [List.length_map, hil]
  generalize mapsP p p = X at hw hXl hXo hXa hXs
  have hdX : (X.map dInts).length = X.length := List.length_map _
  refine pure_of c1_ok (pl := pl_cob) (G := G_cob) Tryz.func35 rfl Tryz.ntmps35 run_cob cok_cob (by simp) ?_
  (conv => whnf)
  (repeat' ((first | refine ord_ok (by (conv => whnf); (repeat' ((first | refine call_eq rfl hw ?_ | refine mk_ok n (by omega) (by omega) (by omega) ?_ | refine call_eq rfl hid ?_ | refine ify ?_ | refine ifn ?_ | refine i6 ?_ | refine ati ?_ | refine mst ?_ | refine rmd ?_ | refine ibo (fun _ => ?_) (fun _ => ?_)) <;> conv => whnf)); (all_goals (repeat' (first | exact trivial | exact rfl | refine And.intro ?_ ?_)))) ?_ | refine call_eq rfl hw ?_ | refine mk_ok n (by omega) (by omega) (by omega) ?_ | refine call_eq rfl hid ?_ | refine ify ?_ | refine ifn ?_ | refine i6 ?_ | refine ati ?_ | refine mst ?_ | refine rmd ?_ | refine ibo (fun _ => ?_) (fun _ => ?_)) <;> conv => whnf))
  refine loop_lo (ι := Nat) (fun m => m ≤ n) (fun m => [(30, .d (.int .i64 m)), (29, .d (.int .i64 ((idL n).map dI).length)), (28, .d (dIs (idL n))), (7, .own 24), (6, .own 300), (4, .d (.list 1 (X.map dInts)))]) (fun m => [(24, .slice 4 1 ((List.range n).map fun u => Da.bool (doneV p m u))), (300, .slice 22 1 ((orbsU p m).map dIs))]) (fun m => n - m) 0 (fun _ => rfl) (Nat.zero_le _) (.own 6 300 22 1 rfl rfl (.refl _ _)) ⟨rfl, rfl, rfl, rfl, rfl, rfl, trivial⟩ ⟨slice_is (by apply List.ext_getElem?; intro i; by_cases hi : i < n <;> simp [hi, doneV]), rfl, trivial⟩ ?_
  intro m hm
  refine sxCode_sound c1_ok (G := G_cob) (pl := pl_cob) _ _ _ _ (by kernel_rfl) ?_
  by_cases hlt : m < n
  · have hv : ((idL n).map dI)[m]? = some (.int .i64 m) := by unfold idL; simp [hlt, dI]
    have hdo : ((List.range n).map fun u => Da.bool (doneV p m u))[m]? = some (.bool (doneV p m m)) := by simp [hlt]
    have hll : ((List.range n).map fun u => Da.bool (doneV p m u)).length = n := by simp
    have hol := orbsU_len p m
    have hod : ((orbsU p m).map dIs).length = (orbsU p m).length := List.length_map _
    have hfi := done_first (p := p) (m := m)
    have hst := orbsU_step p m
    cases hd : doneV p m m with
    | true =>
      have hsame : ((List.range n).map fun u => Da.bool (doneV p m u)) = (List.range n).map fun u => Da.bool (doneV p (m + 1) u) := by
        congr 1; funext u; rw [done_same hpo hlt hd u]
      rw [hd] at hdo hfi
      have hf : firstV p m = false := by cases hh : firstV p m <;> simp [hh] at hfi ⊢
      rw [hf, if_neg (by decide), List.append_nil] at hst
      (conv => whnf)
      (repeat' ((first | refine ord_ok (by (conv => whnf); (repeat' ((first | refine at_da hv rfl ?_ | refine el_at (i := m) rfl (by omega) ?_ | refine el_is hdo ?_ | refine ify ?_ | refine ifn ?_ | refine i6 ?_ | refine ati ?_ | refine mst ?_ | refine rmd ?_ | refine ibo (fun _ => ?_) (fun _ => ?_)) <;> conv => whnf)); (all_goals (repeat' (first | exact trivial | exact rfl | refine And.intro ?_ ?_)))) ?_ | refine at_da hv rfl ?_ | refine el_at (i := m) rfl (by omega) ?_ | refine el_is hdo ?_ | refine ify ?_ | refine ifn ?_ | refine i6 ?_ | refine ati ?_ | refine mst ?_ | refine rmd ?_ | refine ibo (fun _ => ?_) (fun _ => ?_)) <;> conv => whnf))
      exact ⟨m + 1, _, _, hlt, .refl _ _, ⟨rfl, rfl, rfl, rfl, rfl, rfl, trivial⟩, ⟨slice_is hsame, slice_is (by rw [hst]), trivial⟩, by omega⟩
    | false =>
      rw [hd] at hdo hfi
      have hf : firstV p m = true := by cases hh : firstV p m <;> simp [hh] at hfi ⊢
      rw [hf, if_pos rfl] at hst
      (conv => whnf)
      (repeat' ((first | refine ord_ok (by (conv => whnf); (repeat' ((first | refine at_da hv rfl ?_ | refine el_at (i := m) rfl (by omega) ?_ | refine el_is hdo ?_ | refine ify ?_ | refine ifn ?_ | refine i6 ?_ | refine ati ?_ | refine mst ?_ | refine rmd ?_ | refine ibo (fun _ => ?_) (fun _ => ?_)) <;> conv => whnf)); (all_goals (repeat' (first | exact trivial | exact rfl | refine And.intro ?_ ?_)))) ?_ | refine at_da hv rfl ?_ | refine el_at (i := m) rfl (by omega) ?_ | refine el_is hdo ?_ | refine ify ?_ | refine ifn ?_ | refine i6 ?_ | refine ati ?_ | refine mst ?_ | refine rmd ?_ | refine ibo (fun _ => ?_) (fun _ => ?_)) <;> conv => whnf))
      refine loop_lo (ι := Nat) (fun k => k ≤ X.length) (fun k => [(40, .d (.int .i64 k)), (39, .d (.int .i64 (X.map dInts).length)), (38, .d (.list 1 (X.map dInts))), (30, .d (.int .i64 m)), (29, .d (.int .i64 ((idL n).map dI).length)), (28, .d (dIs (idL n))), (10, .own 301), (9, .d (.int .i64 m)), (7, .own 24), (6, .own 300), (4, .d (.list 1 (X.map dInts)))]) (fun k => [(24, .slice 4 1 ((List.range n).map fun u => Da.bool (doneK p m (X.take k) u))), (300, .slice 22 1 ((orbsU p m).map dIs)), (301, .slice 3 1 (((X.take k).map fun o => (o[m]?).getD 0).map dI))]) (fun k => X.length - k) 0 (fun _ => rfl) (Nat.zero_le _) (.own 10 301 3 1 rfl rfl (.refl _ _)) ⟨rfl, rfl, rfl, rfl, rfl, rfl, rfl, rfl, rfl, rfl, rfl, trivial⟩ ⟨slice_is (by simp only [List.take_zero, doneK_nil]), rfl, rfl, trivial⟩ ?_
      intro k hk
      refine sxCode_sound c1_ok (G := G_cob) (pl := pl_cob) _ _ _ _ (by kernel_rfl) ?_
      by_cases hkl : k < X.length
      · have hx := List.getElem?_eq_getElem hkl
        have hxo := hXo _ (List.getElem_mem hkl)
        generalize X[k] = o at hx hxo
        have hxd : (X.map dInts)[k]? = some (dIs o) := by rw [List.getElem?_map, hx]; rfl
        have hy := pl_at hxo hlt
        have hu := pl_lt hxo hlt
        have hset := doneK_set p m n hx hu
        have hrow := row_snoc hx hy
        generalize pl o m = u at hy hu hset hrow
        have hyd : (o.map dI)[m]? = some (.int .i64 u) := by rw [List.getElem?_map, hy]; rfl
        have hkk : ((List.range n).map fun u => Da.bool (doneK p m (X.take k) u)).length = n := by simp
        have hrl : (((X.take k).map fun o => (o[m]?).getD 0).map dI).length ≤ 40320 := by
          rw [List.length_map, List.length_map, List.length_take]; omega
        have hud : ((List.range n).map fun u => Da.bool (doneK p m (X.take k) u))[u]? = some (.bool (doneK p m (X.take k) u)) := by simp [hu]
        (conv => whnf)
        (repeat' ((first | refine ord_ok (by (conv => whnf); (repeat' ((first | refine at_da hxd rfl ?_ | refine at_da hyd (by omega) ?_ | refine el_at (i := u) rfl (by omega) ?_ | refine el_is hud ?_ | refine ify ?_ | refine ifn ?_ | refine i6 ?_ | refine ati ?_ | refine mst ?_ | refine rmd ?_ | refine ibo (fun _ => ?_) (fun _ => ?_)) <;> conv => whnf)); (all_goals (repeat' (first | exact trivial | exact rfl | refine And.intro ?_ ?_)))) ?_ | refine at_da hxd rfl ?_ | refine at_da hyd (by omega) ?_ | refine el_at (i := u) rfl (by omega) ?_ | refine el_is hud ?_ | refine ify ?_ | refine ifn ?_ | refine i6 ?_ | refine ati ?_ | refine mst ?_ | refine rmd ?_ | refine ibo (fun _ => ?_) (fun _ => ?_)) <;> conv => whnf))
        exact ⟨k + 1, _, _, hkl, .refl _ _, ⟨rfl, rfl, rfl, rfl, rfl, rfl, rfl, rfl, rfl, rfl, rfl, trivial⟩, ⟨slice_is hset, rfl, slice_is (by rw [hrow, List.map_append]; rfl), trivial⟩, by omega⟩
      · have e : X.take k = X := List.take_of_length_le (by omega)
        rw [e]
        have hR : (X.map fun o => (o[m]?).getD 0).length ≤ 4294967296 := by rw [List.length_map]; omega
        have hS := hXs m
        unfold setOf at hS
        have hA : ((List.range n).map fun u => Da.bool (doneK p m X u)) = (List.range n).map fun u => Da.bool (doneV p (m + 1) u) := by
          congr 1; funext u; rw [hXa]
        generalize (X.map fun o => (o[m]?).getD 0) = R at hR hS
        ((conv => whnf); repeat' ((first | refine odw ?_ | refine ify ?_ | refine ifn ?_ | refine i6 ?_ | refine ati ?_ | refine mst ?_ | refine rmd ?_ | refine ibo (fun _ => ?_) (fun _ => ?_)) <;> conv => whnf))
        refine call_frz 301 rfl ?_
        (conv => whnf)
        refine call_eq rfl (values_pure R) ?_
        ((conv => whnf); repeat' ((first | refine odw ?_ | refine ify ?_ | refine ifn ?_ | refine i6 ?_ | refine ati ?_ | refine mst ?_ | refine rmd ?_ | refine ibo (fun _ => ?_) (fun _ => ?_)) <;> conv => whnf))
        refine call_mksl 61 rfl rfl (sorted_mksl R hR) ?_; rintro ds rfl
        (conv => whnf)
        refine call_eat rfl rfl (compact_eat (R.mergeSort fun x y => decide (x ≤ y)) (by rw [List.length_mergeSort]; omega)) ?_; rintro ds rfl
        ((conv => whnf); repeat' ((first | refine odw ?_ | refine ify ?_ | refine ifn ?_ | refine i6 ?_ | refine ati ?_ | refine mst ?_ | refine rmd ?_ | refine ibo (fun _ => ?_) (fun _ => ?_)) <;> conv => whnf))
        refine op_again c1_ok (G := []) (.frz 61 rfl (.refl _ _)) (.inr rfl) ?_
        ((conv => whnf); repeat' ((first | refine odw ?_ | refine ify ?_ | refine ifn ?_ | refine i6 ?_ | refine ati ?_ | refine mst ?_ | refine rmd ?_ | refine ibo (fun _ => ?_) (fun _ => ?_)) <;> conv => whnf))
        exact ⟨m + 1, _, _, hlt, .refl _ _, ⟨rfl, rfl, rfl, rfl, rfl, rfl, trivial⟩, ⟨slice_is hA, slice_is (by rw [hst, List.map_append, ← hS]; rfl), trivial⟩, by omega⟩
  · have : m = n := by omega
    subst this
    ((conv => whnf); repeat' ((first | refine odw ?_ | refine ify ?_ | refine ifn ?_ | refine i6 ?_ | refine ati ?_ | refine mst ?_ | refine rmd ?_ | refine ibo (fun _ => ?_) (fun _ => ?_)) <;> conv => whnf))
    exact rfl
end Go.Proofs.YteigfapjiekdnaaGreatDoor
end

section
/- law04.Of, law08.Of of as many edges as memory holds. -/
namespace Go.Proofs.YteigfapjiekdnaaGreatDoor
open Go.Sx Go.RowKit Go.Reg Go.Gr

set_option maxRecDepth 100000
theorem lawofL_pure (edges : List Edg) (hm : edges.length ≤ 8796093022207) : Pure C1 50 [dEs edges] (fun y => y = dEs edges) := by
  have hel : (edges.map dE).length = edges.length := List.length_map _
  refine pure_of c1_ok (pl := pl_lawof) (G := G_lawof) Tryz.func50 rfl Tryz.ntmps50 run_lawof cok_lawof (by simp) ?_
  ((conv => whnf); repeat' ((first | refine odw ?_ | refine ify ?_ | refine ifn ?_ | refine i6 ?_ | refine ati ?_ | refine mst ?_ | refine rmd ?_ | refine ibo (fun _ => ?_) (fun _ => ?_)) <;> conv => whnf))
  refine loop_lo (ι := Nat) (fun i => i ≤ edges.length) (fun i => [(4, .d (.int .i64 i)), (3, .own 300), (0, .d (dEs edges))]) (fun i => [(300, .slice 40 2 ((edges.take i).map dE))]) (fun i => edges.length - i) 0 (fun _ => rfl) (Nat.zero_le _)
    (.own 3 300 40 2 rfl rfl (.refl _ _)) ⟨rfl, rfl, rfl, trivial⟩ ⟨rfl, trivial⟩ ?_
  intro i hi
  refine sxCode_sound c1_ok (G := G_lawof) (pl := pl_lawof) _ _ _ _ (by kernel_rfl) ?_
  by_cases hlt : i < edges.length
  · have hx := List.getElem?_eq_getElem hlt
    generalize edges[i] = e at hx
    have hxd : (edges.map dE)[i]? = some (dE e) := by rw [List.getElem?_map, hx]; rfl
    have htl : ((edges.take i).map dE).length = i := by rw [List.length_map, List.length_take]; omega
    have hfin : (edges.take i).map dE ++ [dE e] = (edges.take (i + 1)).map dE := by rw [take_snoc hx, List.map_append]; rfl
    generalize (edges.take i).map dE = Z at htl hfin ⊢
    (conv => whnf)
    (repeat' ((first | refine ord_ok (by (conv => whnf); (repeat' ((first | refine at_da hxd rfl ?_ | refine most16 (by simp only [List.length_cons, List.length_nil]; omega) ?_ | refine ify ?_ | refine ifn ?_ | refine i6 ?_ | refine ati ?_ | refine mst ?_ | refine rmd ?_ | refine ibo (fun _ => ?_) (fun _ => ?_)) <;> conv => whnf)); (all_goals (repeat' (first | exact trivial | exact rfl | refine And.intro ?_ ?_)))) ?_ | refine at_da hxd rfl ?_ | refine most16 (by simp only [List.length_cons, List.length_nil]; omega) ?_ | refine ify ?_ | refine ifn ?_ | refine i6 ?_ | refine ati ?_ | refine mst ?_ | refine rmd ?_ | refine ibo (fun _ => ?_) (fun _ => ?_)) <;> conv => whnf))
    exact ⟨i + 1, _, _, hlt, .refl _ _, ⟨rfl, rfl, rfl, trivial⟩, ⟨slice_is hfin, trivial⟩, by omega⟩
  · have hii : edges.take i = edges := List.take_of_length_le (by omega)
    rw [hii]
    ((conv => whnf); repeat' ((first | refine odw ?_ | refine ify ?_ | refine ifn ?_ | refine i6 ?_ | refine ati ?_ | refine mst ?_ | refine rmd ?_ | refine ibo (fun _ => ?_) (fun _ => ?_)) <;> conv => whnf))
    exact rfl
theorem lawptL_pure (p : Pt) (hm : p.edges.length ≤ 8796093022207) : Pure C1 19 [dPt p] (fun y => y = dPt p) := by
  have h := lawofL_pure p.edges hm
  refine pure_of c1_ok (pl := pl_l8of) (G := G_l8of) Tryz.func19 rfl Tryz.ntmps19 run_l8of cok_l8of (by simp) ?_
  (conv => whnf)
  (repeat' ((first | refine ord_ok (by (conv => whnf); (repeat' ((first | refine call_eq rfl h ?_ | refine ify ?_ | refine ifn ?_ | refine i6 ?_ | refine ati ?_ | refine mst ?_ | refine rmd ?_ | refine ibo (fun _ => ?_) (fun _ => ?_)) <;> conv => whnf)); (all_goals (repeat' (first | exact trivial | exact rfl | refine And.intro ?_ ?_)))) ?_ | refine call_eq rfl h ?_ | refine ify ?_ | refine ifn ?_ | refine i6 ?_ | refine ati ?_ | refine mst ?_ | refine rmd ?_ | refine ibo (fun _ => ?_) (fun _ => ?_)) <;> conv => whnf))
  exact rfl
end Go.Proofs.YteigfapjiekdnaaGreatDoor
end
