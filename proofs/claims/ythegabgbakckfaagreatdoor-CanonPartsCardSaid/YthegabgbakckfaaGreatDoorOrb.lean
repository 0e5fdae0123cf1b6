/- pat.Degree, perm.Back, perm.Then, canon.Orbits. -/
import Derived.Test.YthegabgbakckfaaGreatDoorLct
import Derived.Test.YthegabgbakckfaaGreatDoorCpf
namespace Go.Gr
open Go.Proofs.YthegabgbakckfaaGreatDoor Go.Sx
theorem degE_snoc {E : List Edg} {v : Int} {i : Nat} {x : Edg} (h : E[i]? = some x) : degE (E.take (i + 1)) v = degE (E.take i) v + if x.a = v ∨ x.b = v then 1 else 0 := by
  unfold degE
  rw [List.take_add_one, h, Option.toList_some, List.countP_append]
  congr 1
  by_cases hc : x.a = v ∨ x.b = v <;> simp [hc]
theorem degE_le (E : List Edg) (v : Int) (i : Nat) : degE (E.take i) v ≤ i := by
  unfold degE
  exact Nat.le_trans List.countP_le_length (by rw [List.length_take]; omega)
theorem thenL_snoc {a b : List Int} {i k : Nat} {y : Int} (h : a[i]? = some (k : Int)) (hy : b[k]? = some y) : thenL (a.take (i + 1)) b = thenL (a.take i) b ++ [y] := by
  unfold thenL
  rw [List.take_add_one, h, Option.toList_some, List.map_append, List.map_cons, List.map_nil, Int.toNat_natCast, hy]; rfl
/-- done: those below m, and where the orders Y lead m to -/
def doneK (p : Pt) (m : Nat) (Y : List (List Int)) (u : Nat) : Bool := doneV p m u || Y.any fun o => decide (pl o m = u)
theorem doneK_nil (p : Pt) (m u : Nat) : doneK p m [] u = doneV p m u := by unfold doneK; simp
theorem doneK_all (p : Pt) (m u : Nat) : doneK p m (mapsP p p) u = doneV p (m + 1) u := by
  rw [done_step]
  unfold doneK
  congr 1
  rw [Bool.eq_iff_iff, List.any_eq_true, decide_eq_true_eq]
  unfold InOrb
  simp only [decide_eq_true_eq]
theorem doneK_snoc (p : Pt) (m : Nat) {Y : List (List Int)} {k : Nat} {o : List Int} (h : Y[k]? = some o) (u : Nat) : doneK p m (Y.take (k + 1)) u = (doneK p m (Y.take k) u || decide (pl o m = u)) := by
  unfold doneK
  rw [List.take_add_one, h, Option.toList_some, List.any_append, Bool.or_assoc]
  simp
theorem doneK_set (p : Pt) (m n : Nat) {Y : List (List Int)} {k : Nat} {o : List Int} (h : Y[k]? = some o) (hn : pl o m < n) : ((List.range n).map fun u => Da.bool (doneK p m (Y.take k) u)).set (pl o m) (.bool true) = (List.range n).map fun u => Da.bool (doneK p m (Y.take (k + 1)) u) := by
  apply List.ext_getElem?
  intro i
  rw [List.getElem?_set]
  by_cases hi : pl o m = i
  · subst hi
    rw [if_pos rfl]
    simp [hn, doneK_snoc p m h]
  · rw [if_neg hi]
    by_cases hin : i < n
    · simp [hin, doneK_snoc p m h, hi]
    · simp [hin]
theorem row_snoc {Y : List (List Int)} {m k : Nat} {o : List Int} {x : Int} (h : Y[k]? = some o) (hx : o[m]? = some x) : (Y.take (k + 1)).map (fun o => (o[m]?).getD 0) = (Y.take k).map (fun o => (o[m]?).getD 0) ++ [x] := by
  rw [List.take_add_one, h, Option.toList_some, List.map_append, List.map_cons, List.map_nil, hx]; rfl
theorem orbsU_len (p : Pt) (m : Nat) : (orbsU p m).length ≤ m := by
  unfold orbsU
  rw [List.length_map]
  exact Nat.le_trans (List.length_filter_le _ _) (by rw [List.length_range]; omega)
end Go.Gr
namespace Go.Proofs.YthegabgbakckfaaGreatDoor
open Go.Sx Go.RowKit Go.Reg Go.Gr

set_option maxRecDepth 100000
def pl_pdg : List (Nat × Plan) := []
def G_pdg : List FuncId := []
theorem cok_pdg : codeOk Tryz.prog G_pdg pl_pdg (Tryz.f44.body.getD .skip) = true := by kernel_rfl
theorem run_pdg (vs : Array Value) (w : World) : (callFunc 44 vs).run C1.P w = .ok (.enter 44 vs) w := by kernel_rfl
theorem pdegree_pure (p : Pt) (v : Int) (hme : p.edges.length ≤ 4294967296) : Pure C1 44 [dPt p, .int .i64 v] (fun y => y = .int .i64 (degE p.edges v : Nat)) := by
  have hde : (p.edges.map dE).length = p.edges.length := List.length_map _
  refine pure_of c1_ok (pl := pl_pdg) (G := G_pdg) Tryz.func44 rfl Tryz.ntmps44 run_pdg cok_pdg (by simp) ?_
  ((conv => whnf); repeat' ((first | refine odw ?_ | refine ify ?_ | refine ifn ?_ | refine i6 ?_ | refine ati ?_ | refine mst ?_ | refine rmd ?_ | refine ibo (fun _ => ?_) (fun _ => ?_)) <;> conv => whnf))
  refine loop_lo (ι := Nat) (fun i => i ≤ p.edges.length) (fun i => [(11, .d (.int .i64 i)), (10, .d (.int .i64 (p.edges.map dE).length)), (9, .d (dEs p.edges)), (5, .d (.int .i64 (degE (p.edges.take i) v : Nat))), (1, .d (.int .i64 v))]) (fun _ => []) (fun i => p.edges.length - i) 0 (fun _ => rfl) (Nat.zero_le _) (.refl _ _) ⟨rfl, rfl, rfl, rfl, rfl, trivial⟩ trivial ?_
  intro i hi
  refine sxCode_sound c1_ok (G := G_pdg) (pl := pl_pdg) _ _ _ _ (by kernel_rfl) ?_
  by_cases hil : i < p.edges.length
  · have hx := List.getElem?_eq_getElem hil
    generalize p.edges[i] = x at hx
    have hxd : (p.edges.map dE)[i]? = some (.agg [.int .i64 x.a, .int .i64 x.b]) := by rw [List.getElem?_map, hx]; rfl
    have hst := degE_snoc (v := v) hx
    have hle := degE_le p.edges v i
    by_cases h1 : x.a = v
    · rw [if_pos (.inl h1)] at hst
      (conv => whnf)
      (repeat' ((first | refine ord_ok (by (conv => whnf); (repeat' ((first | refine at_da hxd rfl ?_ | refine ify ?_ | refine ifn ?_ | refine i6 ?_ | refine ati ?_ | refine mst ?_ | refine rmd ?_ | refine ibo (fun _ => ?_) (fun _ => ?_)) <;> conv => whnf)); (all_goals (repeat' (first | exact trivial | exact rfl | refine And.intro ?_ ?_)))) ?_ | refine at_da hxd rfl ?_ | refine ify ?_ | refine ifn ?_ | refine i6 ?_ | refine ati ?_ | refine mst ?_ | refine rmd ?_ | refine ibo (fun _ => ?_) (fun _ => ?_)) <;> conv => whnf))
      exact ⟨i + 1, _, _, hil, .refl _ _, ⟨rfl, rfl, rfl, int_is (by omega), rfl, trivial⟩, trivial, by omega⟩
    · by_cases h2 : x.b = v
      · rw [if_pos (.inr h2)] at hst
        (conv => whnf)
        (repeat' ((first | refine ord_ok (by (conv => whnf); (repeat' ((first | refine at_da hxd rfl ?_ | refine ify ?_ | refine ifn ?_ | refine i6 ?_ | refine ati ?_ | refine mst ?_ | refine rmd ?_ | refine ibo (fun _ => ?_) (fun _ => ?_)) <;> conv => whnf)); (all_goals (repeat' (first | exact trivial | exact rfl | refine And.intro ?_ ?_)))) ?_ | refine at_da hxd rfl ?_ | refine ify ?_ | refine ifn ?_ | refine i6 ?_ | refine ati ?_ | refine mst ?_ | refine rmd ?_ | refine ibo (fun _ => ?_) (fun _ => ?_)) <;> conv => whnf))
        exact ⟨i + 1, _, _, hil, .refl _ _, ⟨rfl, rfl, rfl, int_is (by omega), rfl, trivial⟩, trivial, by omega⟩
      · rw [if_neg (by omega)] at hst
        (conv => whnf)
        (repeat' ((first | refine ord_ok (by (conv => whnf); (repeat' ((first | refine at_da hxd rfl ?_ | refine ify ?_ | refine ifn ?_ | refine i6 ?_ | refine ati ?_ | refine mst ?_ | refine rmd ?_ | refine ibo (fun _ => ?_) (fun _ => ?_)) <;> conv => whnf)); (all_goals (repeat' (first | exact trivial | exact rfl | refine And.intro ?_ ?_)))) ?_ | refine at_da hxd rfl ?_ | refine ify ?_ | refine ifn ?_ | refine i6 ?_ | refine ati ?_ | refine mst ?_ | refine rmd ?_ | refine ibo (fun _ => ?_) (fun _ => ?_)) <;> conv => whnf))
        exact ⟨i + 1, _, _, hil, .refl _ _, ⟨rfl, rfl, rfl, int_is (by omega), rfl, trivial⟩, trivial, by omega⟩
  · have e : p.edges.take i = p.edges := List.take_of_length_le (by omega)
    rw [e]
    ((conv => whnf); repeat' ((first | refine odw ?_ | refine ify ?_ | refine ifn ?_ | refine i6 ?_ | refine ati ?_ | refine mst ?_ | refine rmd ?_ | refine ibo (fun _ => ?_) (fun _ => ?_)) <;> conv => whnf))
    exact rfl
theorem permid_pure (n : Nat) (hn : n ≤ 8) : Pure C1 46 [.int .i64 n] (fun y => y = dIs (idL n)) := by
  refine pure_of c1_ok (pl := pl_pid) (G := G_pid) Tryz.func46 rfl Tryz.ntmps46 run_pid cok_pid (by simp) ?_
  ((conv => whnf); repeat' ((first | refine odw ?_ | refine ify ?_ | refine ifn ?_ | refine i6 ?_ | refine ati ?_ | refine mst ?_ | refine rmd ?_ | refine ibo (fun _ => ?_) (fun _ => ?_)) <;> conv => whnf))
  refine loop_lo (ι := Nat) (fun i => i ≤ n) (fun i => [(4, .d (.int .i64 i)), (3, .own 300), (0, .d (.int .i64 n))]) (fun i => [(300, .slice 3 1 ((idL i).map dI))]) (fun i => n - i) 0 (fun _ => rfl) (Nat.zero_le _) (.own 3 300 3 1 rfl rfl (.refl _ _)) ⟨rfl, rfl, rfl, trivial⟩ ⟨rfl, trivial⟩ ?_
  intro i hi
  refine sxCode_sound c1_ok (G := G_pid) (pl := pl_pid) _ _ _ _ (by kernel_rfl) ?_
  have hil := idL_len i
  by_cases hlt : i < n
  · ((conv => whnf); repeat' ((first | refine odw ?_ | refine ify ?_ | refine ifn ?_ | refine i6 ?_ | refine ati ?_ | refine mst ?_ | refine rmd ?_ | refine ibo (fun _ => ?_) (fun _ => ?_)) <;> conv => whnf))
    exact ⟨i + 1, _, _, by omega, .refl _ _, ⟨rfl, rfl, rfl, trivial⟩, ⟨slice_is (by rw [idL_succ, List.map_append]; rfl), trivial⟩, by omega⟩
  · have : i = n := by omega
    subst this
    ((conv => whnf); repeat' ((first | refine odw ?_ | refine ify ?_ | refine ifn ?_ | refine i6 ?_ | refine ati ?_ | refine mst ?_ | refine rmd ?_ | refine ibo (fun _ => ?_) (fun _ => ?_)) <;> conv => whnf))
    exact rfl
def pl_pbk : List (Nat × Plan) := []
def G_pbk : List FuncId := [106, 70, 46, 72]
theorem cok_pbk : codeOk Tryz.prog G_pbk pl_pbk (Tryz.f47.body.getD .skip) = true := by kernel_rfl
theorem run_pbk (vs : Array Value) (w : World) : (callFunc 47 vs).run C1.P w = .ok (.enter 47 vs) w := by kernel_rfl
theorem permback_pure {n : Nat} {b : List Int} (hb : IsOrd n b) (hn : n ≤ 8) : Pure C1 47 [dIs b] (fun y => y = .tuple [dIs (backL b), .nili]) := by
  have hbl := hb.1
  have hdb : (b.map dI).length = b.length := List.length_map _
  have ho : ordR b = true := (ordR_is (by omega)).2 (by rw [hbl]; exact hb)
  have h1 := permright_pure b (by omega)
  have h2 := permput_pure b (idL b.length) (by omega)
  rw [ho] at h1
  unfold putY at h2
  rw [ho, if_neg (by decide), if_pos (idL_len _).symm] at h2
  have h3 : Pure C1 46 [.int .i64 (b.map dI).length] (fun y => y = dIs (idL b.length)) := by rw [hdb]; exact permid_pure _ (by omega)
  refine pure_of c1_ok (pl := pl_pbk) (G := G_pbk) Tryz.func47 rfl Tryz.ntmps47 run_pbk cok_pbk (by simp) ?_
  (conv => whnf)
  (repeat' ((first | refine ord_ok (by (conv => whnf); (repeat' ((first | refine call_eq rfl h1 ?_ | refine call_eq rfl h3 ?_ | refine call_eq rfl h2 ?_ | refine ify ?_ | refine ifn ?_ | refine i6 ?_ | refine ati ?_ | refine mst ?_ | refine rmd ?_ | refine ibo (fun _ => ?_) (fun _ => ?_)) <;> conv => whnf)); (all_goals (repeat' (first | exact trivial | exact rfl | refine And.intro ?_ ?_)))) ?_ | refine call_eq rfl h1 ?_ | refine call_eq rfl h3 ?_ | refine call_eq rfl h2 ?_ | refine ify ?_ | refine ifn ?_ | refine i6 ?_ | refine ati ?_ | refine mst ?_ | refine rmd ?_ | refine ibo (fun _ => ?_) (fun _ => ?_)) <;> conv => whnf))
  exact rfl
def pl_pth2 : List (Nat × Plan) := []
def G_pth2 : List FuncId := [106, 70]
theorem cok_pth2 : codeOk Tryz.prog G_pth2 pl_pth2 (Tryz.f48.body.getD .skip) = true := by kernel_rfl
theorem run_pth2 (vs : Array Value) (w : World) : (callFunc 48 vs).run C1.P w = .ok (.enter 48 vs) w := by kernel_rfl
set_option maxHeartbeats 4000000 in
theorem permthen_pure {n : Nat} {a b : List Int} (ha : IsOrd n a) (hb : IsOrd n b) (hn : n ≤ 8) : Pure C1 48 [dIs a, dIs b] (fun y => y = .tuple [dIs (thenL a b), .nili]) := by
  have hal := ha.1
  have hbl := hb.1
  have hda : (a.map dI).length = a.length := List.length_map _
  have hdb : (b.map dI).length = b.length := List.length_map _
  have h1 := permright_pure a (by omega)
  have h2 := permright_pure b (by omega)
  rw [(ordR_is (by omega)).2 (by rw [hal]; exact ha)] at h1
  rw [(ordR_is (by omega)).2 (by rw [hbl]; exact hb)] at h2
  refine pure_of c1_ok (pl := pl_pth2) (G := G_pth2) Tryz.func48 rfl Tryz.ntmps48 run_pth2 cok_pth2 (by simp) ?_
  (conv => whnf)
  (repeat' ((first | refine ord_ok (by (conv => whnf); (repeat' ((first | refine call_eq rfl h1 ?_ | refine call_eq rfl h2 ?_ | refine ify ?_ | refine ifn ?_ | refine i6 ?_ | refine ati ?_ | refine mst ?_ | refine rmd ?_ | refine ibo (fun _ => ?_) (fun _ => ?_)) <;> conv => whnf)); (all_goals (repeat' (first | exact trivial | exact rfl | refine And.intro ?_ ?_)))) ?_ | refine call_eq rfl h1 ?_ | refine call_eq rfl h2 ?_ | refine ify ?_ | refine ifn ?_ | refine i6 ?_ | refine ati ?_ | refine mst ?_ | refine rmd ?_ | refine ibo (fun _ => ?_) (fun _ => ?_)) <;> conv => whnf))
  refine loop_lo (ι := Nat) (fun i => i ≤ n) (fun i => [(26, .d (.int .i64 i)), (25, .d (.int .i64 (a.map dI).length)), (24, .d (dIs a)), (6, .own 300), (1, .d (dIs b))]) (fun i => [(300, .slice 3 1 ((thenL (a.take i) b).map dI))]) (fun i => n - i) 0 (fun _ => rfl) (Nat.zero_le _) (.own 6 300 3 1 rfl rfl (.refl _ _)) ⟨rfl, rfl, rfl, rfl, rfl, trivial⟩ ⟨rfl, trivial⟩ ?_
  intro i hi
  refine sxCode_sound c1_ok (G := G_pth2) (pl := pl_pth2) _ _ _ _ (by kernel_rfl) ?_
  by_cases hlt : i < n
  · have hx := pl_at ha hlt
    have hk := pl_lt ha hlt
    generalize pl a i = k at hx hk
    have hy := List.getElem?_eq_getElem (l := b) (i := k) (by omega)
    generalize b[k]'(by omega) = y at hy
    have hxd : (a.map dI)[i]? = some (.int .i64 k) := by rw [List.getElem?_map, hx]; rfl
    have hyd : (b.map dI)[k]? = some (.int .i64 y) := by rw [List.getElem?_map, hy]; rfl
    have hst := thenL_snoc hx hy
    have hlen : (thenL (a.take i) b).length ≤ 8 := by
      unfold thenL
      rw [List.length_map, List.length_take]; omega
    (conv => whnf)
    (repeat' ((first | refine ord_ok (by (conv => whnf); (repeat' ((first | refine at_da hxd rfl ?_ | refine at_da hyd (by omega) ?_ | refine ify ?_ | refine ifn ?_ | refine i6 ?_ | refine ati ?_ | refine mst ?_ | refine rmd ?_ | refine ibo (fun _ => ?_) (fun _ => ?_)) <;> conv => whnf)); (all_goals (repeat' (first | exact trivial | exact rfl | refine And.intro ?_ ?_)))) ?_ | refine at_da hxd rfl ?_ | refine at_da hyd (by omega) ?_ | refine ify ?_ | refine ifn ?_ | refine i6 ?_ | refine ati ?_ | refine mst ?_ | refine rmd ?_ | refine ibo (fun _ => ?_) (fun _ => ?_)) <;> conv => whnf))
    exact ⟨i + 1, _, _, hlt, .refl _ _, ⟨rfl, rfl, rfl, rfl, rfl, trivial⟩, ⟨slice_is (by rw [hst, List.map_append]; rfl), trivial⟩, by omega⟩
  · have e : a.take i = a := List.take_of_length_le (by omega)
    rw [e]
    ((conv => whnf); repeat' ((first | refine odw ?_ | refine ify ?_ | refine ifn ?_ | refine i6 ?_ | refine ati ?_ | refine mst ?_ | refine rmd ?_ | refine ibo (fun _ => ?_) (fun _ => ?_)) <;> conv => whnf))
    exact rfl
def pl_cob : List (Nat × Plan) := []
def G_cob : List FuncId := [39, 46, 68, 67]
theorem cok_cob : codeOk Tryz.prog G_cob pl_cob (Tryz.f41.body.getD .skip) = true := by kernel_rfl
theorem run_cob (vs : Array Value) (w : World) : (callFunc 41 vs).run C1.P w = .ok (.enter 41 vs) w := by kernel_rfl
set_option maxHeartbeats 8000000 in
theorem orbits_pure {n : Nat} {p : Pt} (hp : pErr p = none) (hn : p.labels.length = n) : Pure C1 41 [dPt p] (fun y => y = .tuple [.list 1 ((orbsU p n).map dIs), .nili]) := by
  have h8 := (lErr_none (pErr_none hp).1).1
  have hE := pt_edges hp
  have hpo : PtOk n p := by have := pt_of hp; rwa [hn] at this
  have hdl : (p.labels.map dI).length = p.labels.length := List.length_map _
  have hw := own_pure hp (by omega)
  have hXl := maps_le p p h8
  have hXo : ∀ o ∈ mapsP p p, IsOrd n o := fun o ho => own_ord hpo ho
  have hXa := fun m u => doneK_all p m u
  have hXs : ∀ m, setOf ((mapsP p p).map fun o => (o[m]?).getD 0) = orbS p m := fun m => rfl
  have hid : Pure C1 46 [.int .i64 (p.labels.map dI).length] (fun y => y = dIs (idL n)) := by rw [hdl, hn]; exact permid_pure _ (by omega)
  have hil := idL_len n
  have hdi : ((idL n).map dI).length = n := by rw [List.length_map, hil]
  generalize mapsP p p = X at hw hXl hXo hXa hXs
  have hdX : (X.map dInts).length = X.length := List.length_map _
  refine pure_of c1_ok (pl := pl_cob) (G := G_cob) Tryz.func41 rfl Tryz.ntmps41 run_cob cok_cob (by simp) ?_
  (conv => whnf)
  (repeat' ((first | refine ord_ok (by (conv => whnf); (repeat' ((first | refine call_eq rfl hw ?_ | refine mk_ok n (by omega) (by omega) (by omega) ?_ | refine call_eq rfl hid ?_ | refine ify ?_ | refine ifn ?_ | refine i6 ?_ | refine ati ?_ | refine mst ?_ | refine rmd ?_ | refine ibo (fun _ => ?_) (fun _ => ?_)) <;> conv => whnf)); (all_goals (repeat' (first | exact trivial | exact rfl | refine And.intro ?_ ?_)))) ?_ | refine call_eq rfl hw ?_ | refine mk_ok n (by omega) (by omega) (by omega) ?_ | refine call_eq rfl hid ?_ | refine ify ?_ | refine ifn ?_ | refine i6 ?_ | refine ati ?_ | refine mst ?_ | refine rmd ?_ | refine ibo (fun _ => ?_) (fun _ => ?_)) <;> conv => whnf))
  refine loop_lo (ι := Nat) (fun m => m ≤ n) (fun m => [(30, .d (.int .i64 m)), (29, .d (.int .i64 ((idL n).map dI).length)), (28, .d (dIs (idL n))), (7, .own 24), (6, .own 300), (4, .d (.list 1 (X.map dInts)))]) (fun m => [(24, .slice 4 1 ((List.range n).map fun u => Da.bool (doneV p m u))), (300, .slice 22 1 ((orbsU p m).map dIs))]) (fun m => n - m) 0 (fun _ => rfl) (Nat.zero_le _) (.own 6 300 22 1 rfl rfl (.refl _ _)) ⟨rfl, rfl, rfl, rfl, rfl, rfl, trivial⟩ ⟨slice_is (by apply List.ext_getElem?; intro i; by_cases hi : i < n <;> simp [hi, doneV]), rfl, trivial⟩ ?_
  intro m hm
  refine sxCode_sound c1_ok (G := G_cob) (pl := pl_cob) _ _ _ _ (by kernel_rfl) ?_
  by_cases hlt : m < n
  · have hv : ((idL n).map dI)[m]? = some (.int .i64 m) := by unfold idL; simp [hlt, dI]
    have hdo : ((List.range n).map fun u => Da.bool (doneV p m u))[m]? = some (.bool (doneV p m m)) := by simp [hlt]
    have hll : ((List.range n).map fun u => Da.bool (doneV p m u)).length = n := by simp
    have hol := orbsU_len p m
    have hod : ((orbsU p m).map dIs).length = (orbsU p m).length := List.length_map _
    have hfi := done_first (p := p) (m := m)
    have hst := orbsU_step p m
    cases hd : doneV p m m with
    | true =>
      have hsame : ((List.range n).map fun u => Da.bool (doneV p m u)) = (List.range n).map fun u => Da.bool (doneV p (m + 1) u) := by
        congr 1; funext u; rw [done_same hpo hlt hd u]
      rw [hd] at hdo hfi
      have hf : firstV p m = false := by cases hh : firstV p m <;> simp [hh] at hfi ⊢
      rw [hf, if_neg (by decide), List.append_nil] at hst
      (conv => whnf)
      (repeat' ((first | refine ord_ok (by (conv => whnf); (repeat' ((first | refine at_da hv rfl ?_ | refine el_at (i := m) rfl (by omega) ?_ | refine el_is hdo ?_ | refine ify ?_ | refine ifn ?_ | refine i6 ?_ | refine ati ?_ | refine mst ?_ | refine rmd ?_ | refine ibo (fun _ => ?_) (fun _ => ?_)) <;> conv => whnf)); (all_goals (repeat' (first | exact trivial | exact rfl | refine And.intro ?_ ?_)))) ?_ | refine at_da hv rfl ?_ | refine el_at (i := m) rfl (by omega) ?_ | refine el_is hdo ?_ | refine ify ?_ | refine ifn ?_ | refine i6 ?_ | refine ati ?_ | refine mst ?_ | refine rmd ?_ | refine ibo (fun _ => ?_) (fun _ => ?_)) <;> conv => whnf))
      exact ⟨m + 1, _, _, hlt, .refl _ _, ⟨rfl, rfl, rfl, rfl, rfl, rfl, trivial⟩, ⟨slice_is hsame, slice_is (by rw [hst]), trivial⟩, by omega⟩
    | false =>
      rw [hd] at hdo hfi
      have hf : firstV p m = true := by cases hh : firstV p m <;> simp [hh] at hfi ⊢
      rw [hf, if_pos rfl] at hst
      (conv => whnf)
      (repeat' ((first | refine ord_ok (by (conv => whnf); (repeat' ((first | refine at_da hv rfl ?_ | refine el_at (i := m) rfl (by omega) ?_ | refine el_is hdo ?_ | refine ify ?_ | refine ifn ?_ | refine i6 ?_ | refine ati ?_ | refine mst ?_ | refine rmd ?_ | refine ibo (fun _ => ?_) (fun _ => ?_)) <;> conv => whnf)); (all_goals (repeat' (first | exact trivial | exact rfl | refine And.intro ?_ ?_)))) ?_ | refine at_da hv rfl ?_ | refine el_at (i := m) rfl (by omega) ?_ | refine el_is hdo ?_ | refine ify ?_ | refine ifn ?_ | refine i6 ?_ | refine ati ?_ | refine mst ?_ | refine rmd ?_ | refine ibo (fun _ => ?_) (fun _ => ?_)) <;> conv => whnf))
      refine loop_lo (ι := Nat) (fun k => k ≤ X.length) (fun k => [(40, .d (.int .i64 k)), (39, .d (.int .i64 (X.map dInts).length)), (38, .d (.list 1 (X.map dInts))), (30, .d (.int .i64 m)), (29, .d (.int .i64 ((idL n).map dI).length)), (28, .d (dIs (idL n))), (10, .own 301), (9, .d (.int .i64 m)), (7, .own 24), (6, .own 300), (4, .d (.list 1 (X.map dInts)))]) (fun k => [(24, .slice 4 1 ((List.range n).map fun u => Da.bool (doneK p m (X.take k) u))), (300, .slice 22 1 ((orbsU p m).map dIs)), (301, .slice 3 1 (((X.take k).map fun o => (o[m]?).getD 0).map dI))]) (fun k => X.length - k) 0 (fun _ => rfl) (Nat.zero_le _) (.own 10 301 3 1 rfl rfl (.refl _ _)) ⟨rfl, rfl, rfl, rfl, rfl, rfl, rfl, rfl, rfl, rfl, rfl, trivial⟩ ⟨slice_is (by simp only [List.take_zero, doneK_nil]), rfl, rfl, trivial⟩ ?_
      intro k hk
      refine sxCode_sound c1_ok (G := G_cob) (pl := pl_cob) _ _ _ _ (by kernel_rfl) ?_
      by_cases hkl : k < X.length
      · have hx := List.getElem?_eq_getElem hkl
        have hxo := hXo _ (List.getElem_mem hkl)
        generalize X[k] = o at hx hxo
        have hxd : (X.map dInts)[k]? = some (dIs o) := by rw [List.getElem?_map, hx]; rfl
        have hy := pl_at hxo hlt
        have hu := pl_lt hxo hlt
        have hset := doneK_set p m n hx hu
        have hrow := row_snoc hx hy
        generalize pl o m = u at hy hu hset hrow
        have hyd : (o.map dI)[m]? = some (.int .i64 u) := by rw [List.getElem?_map, hy]; rfl
        have hkk : ((List.range n).map fun u => Da.bool (doneK p m (X.take k) u)).length = n := by simp
        have hrl : (((X.take k).map fun o => (o[m]?).getD 0).map dI).length ≤ 40320 := by
          rw [List.length_map, List.length_map, List.length_take]; omega
        have hud : ((List.range n).map fun u => Da.bool (doneK p m (X.take k) u))[u]? = some (.bool (doneK p m (X.take k) u)) := by simp [hu]
        (conv => whnf)
        (repeat' ((first | refine ord_ok (by (conv => whnf); (repeat' ((first | refine at_da hxd rfl ?_ | refine at_da hyd (by omega) ?_ | refine el_at (i := u) rfl (by omega) ?_ | refine el_is hud ?_ | refine ify ?_ | refine ifn ?_ | refine i6 ?_ | refine ati ?_ | refine mst ?_ | refine rmd ?_ | refine ibo (fun _ => ?_) (fun _ => ?_)) <;> conv => whnf)); (all_goals (repeat' (first | exact trivial | exact rfl | refine And.intro ?_ ?_)))) ?_ | refine at_da hxd rfl ?_ | refine at_da hyd (by omega) ?_ | refine el_at (i := u) rfl (by omega) ?_ | refine el_is hud ?_ | refine ify ?_ | refine ifn ?_ | refine i6 ?_ | refine ati ?_ | refine mst ?_ | refine rmd ?_ | refine ibo (fun _ => ?_) (fun _ => ?_)) <;> conv => whnf))
        exact ⟨k + 1, _, _, hkl, .refl _ _, ⟨rfl, rfl, rfl, rfl, rfl, rfl, rfl, rfl, rfl, rfl, rfl, trivial⟩, ⟨slice_is hset, rfl, slice_is (by rw [hrow, List.map_append]; rfl), trivial⟩, by omega⟩
      · have e : X.take k = X := List.take_of_length_le (by omega)
        rw [e]
        have hR : (X.map fun o => (o[m]?).getD 0).length ≤ 4294967296 := by rw [List.length_map]; omega
        have hS := hXs m
        unfold setOf at hS
        have hA : ((List.range n).map fun u => Da.bool (doneK p m X u)) = (List.range n).map fun u => Da.bool (doneV p (m + 1) u) := by
          congr 1; funext u; rw [hXa]
        generalize (X.map fun o => (o[m]?).getD 0) = R at hR hS
        ((conv => whnf); repeat' ((first | refine odw ?_ | refine ify ?_ | refine ifn ?_ | refine i6 ?_ | refine ati ?_ | refine mst ?_ | refine rmd ?_ | refine ibo (fun _ => ?_) (fun _ => ?_)) <;> conv => whnf))
        refine call_frz 301 rfl ?_
        (conv => whnf)
        refine call_eq rfl (values_pure R) ?_
        ((conv => whnf); repeat' ((first | refine odw ?_ | refine ify ?_ | refine ifn ?_ | refine i6 ?_ | refine ati ?_ | refine mst ?_ | refine rmd ?_ | refine ibo (fun _ => ?_) (fun _ => ?_)) <;> conv => whnf))
        refine call_mksl 61 rfl rfl (sorted_mksl R hR) ?_; rintro ds rfl
        (conv => whnf)
        refine call_eat rfl rfl (compact_eat (R.mergeSort fun x y => decide (x ≤ y)) (by rw [List.length_mergeSort]; omega)) ?_; rintro ds rfl
        ((conv => whnf); repeat' ((first | refine odw ?_ | refine ify ?_ | refine ifn ?_ | refine i6 ?_ | refine ati ?_ | refine mst ?_ | refine rmd ?_ | refine ibo (fun _ => ?_) (fun _ => ?_)) <;> conv => whnf))
        refine op_again c1_ok (G := []) (.frz 61 rfl (.refl _ _)) (.inr rfl) ?_
        ((conv => whnf); repeat' ((first | refine odw ?_ | refine ify ?_ | refine ifn ?_ | refine i6 ?_ | refine ati ?_ | refine mst ?_ | refine rmd ?_ | refine ibo (fun _ => ?_) (fun _ => ?_)) <;> conv => whnf))
        exact ⟨m + 1, _, _, hlt, .refl _ _, ⟨rfl, rfl, rfl, rfl, rfl, rfl, trivial⟩, ⟨slice_is hA, slice_is (by rw [hst, List.map_append, ← hS]; rfl), trivial⟩, by omega⟩
  · have : m = n := by omega
    subst this
    ((conv => whnf); repeat' ((first | refine odw ?_ | refine ify ?_ | refine ifn ?_ | refine i6 ?_ | refine ati ?_ | refine mst ?_ | refine rmd ?_ | refine ibo (fun _ => ?_) (fun _ => ?_)) <;> conv => whnf))
    exact rfl
end Go.Proofs.YthegabgbakckfaaGreatDoor
