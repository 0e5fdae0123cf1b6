/- Merged: Grh Grk Srp. -/
import Derived.Test.YtjejpdfldmempaaGreatDoorOen
import Derived.Test.YtjejpdfldmempaaGreatDoorlgai
import Derived.Test.YtjejpdfldmempaaGreatDoorlgah
section
namespace Go.Gr
theorem flat_split (f : Nat → List Int) (D : Nat → Nat) (hD : ∀ v, (f v).length = D v) {n v : Nat} (h : v < n) : ∃ pre post, (List.range n).flatMap f = pre ++ (f v ++ post) ∧ pre.length = off D v := by
 have key : ∀ n, ((List.range n).flatMap f).length = off D n := by
  intro n
  induction n with
  | zero => rfl
  | succ n ih => rw [List.range_succ, List.flatMap_append, List.length_append, ih]; simp [off, hD]
 induction n with
 | zero => omega
 | succ n ih =>
   rw [List.range_succ, List.flatMap_append]
   by_cases hv : v < n
   ·obtain ⟨pre, post, e, hl⟩ := ih hv
    exact ⟨pre, post ++ [n].flatMap f, by rw [e]; simp, hl⟩
   ·have : v = n := by omega
    subst this
    exact ⟨(List.range v).flatMap f, [], by simp, key v⟩
theorem flat_cut (f : Nat → List Int) (D : Nat → Nat) (hD : ∀ v, (f v).length = D v) {n v : Nat} (h : v < n) : (((List.range n).flatMap f).take (off D (v + 1))).drop (off D v) = f v := by
 obtain ⟨pre, post, e, hl⟩ := flat_split f D hD h
 rw [e, ← List.append_assoc]
 have h1 : off D (v + 1) = (pre ++ f v).length := by simp [off, hl, hD]
 rw [h1, List.take_left, ← hl, List.drop_left]
theorem off_flat (f : Nat → List Int) (D : Nat → Nat) (hD : ∀ v, (f v).length = D v) (n : Nat) : ((List.range n).flatMap f).length = off D n := by
 induction n with
 | zero => rfl
 | succ n ih => rw [List.range_succ, List.flatMap_append, List.length_append, ih]; simp [off, hD]
end Go.Gr
namespace Go.Proofs.YtjejpdfldmempaaGreatDoor
open Go.Sx Go.RowKit Go.Reg Go.Gr
set_option maxRecDepth 100000
def pl_glen : List (Nat × Plan) := []
def G_glen : List FuncId := []
theorem cok_glen : codeOk Tryz.prog G_glen pl_glen (Tryz.f175.body.getD .skip) = true := by kernel_rfl
theorem run_glen (vs : Array Value) (w : World) : (callFunc 175 vs).run C1.P w = .ok (.enter 175 vs) w := by kernel_rfl
theorem len_pure (G : Gr) : Pure C1 175 [dG G] (fun y => y = .int .i64 G.labels.length) := by
 have hl : (G.labels.map dI).length = G.labels.length := List.length_map _
 refine pure_of c1_ok (pl := pl_glen) (G := G_glen) Tryz.func175 rfl Tryz.ntmps175 run_glen cok_glen (by simp) ?_
 ((conv => whnf); repeat' ((first | refine odw ?_ | refine ify ?_ | refine ifn ?_ | refine i6 ?_ | refine ati ?_ | refine mst ?_ | refine rmd ?_ | refine ibo (fun _ => ?_) (fun _ => ?_)) <;> conv => whnf))
 show Da.int .i64 _ = _
 rw [hl]
def pl_gsize : List (Nat × Plan) := []
def G_gsize : List FuncId := []
theorem cok_gsize : codeOk Tryz.prog G_gsize pl_gsize (Tryz.f177.body.getD .skip) = true := by kernel_rfl
theorem run_gsize (vs : Array Value) (w : World) : (callFunc 177 vs).run C1.P w = .ok (.enter 177 vs) w := by kernel_rfl
theorem size_pure (G : Gr) : Pure C1 177 [dG G] (fun y => y = .int .i64 G.edges.length) := by
 have hl : (G.edges.map dE).length = G.edges.length := List.length_map _
 refine pure_of c1_ok (pl := pl_gsize) (G := G_gsize) Tryz.func177 rfl Tryz.ntmps177 run_gsize cok_gsize (by simp) ?_
 ((conv => whnf); repeat' ((first | refine odw ?_ | refine ify ?_ | refine ifn ?_ | refine i6 ?_ | refine ati ?_ | refine mst ?_ | refine rmd ?_ | refine ibo (fun _ => ?_) (fun _ => ?_)) <;> conv => whnf))
 show Da.int .i64 _ = _
 rw [hl]
def pl_ghas : List (Nat × Plan) := []
def G_ghas : List FuncId := []
theorem cok_ghas : codeOk Tryz.prog G_ghas pl_ghas (Tryz.f230.body.getD .skip) = true := by kernel_rfl
theorem run_ghas (vs : Array Value) (w : World) : (callFunc 230 vs).run C1.P w = .ok (.enter 230 vs) w := by kernel_rfl
def hasV (G : Gr) (v : Int) : Bool := decide (0 ≤ v ∧ v < G.labels.length)
theorem has_pure (G : Gr) (v : Int) : Pure C1 230 [dG G, .int .i64 v] (fun y => y = .bool (hasV G v)) := by
 refine pure_of c1_ok (pl := pl_ghas) (G := G_ghas) Tryz.func230 rfl Tryz.ntmps230 run_ghas cok_ghas (by simp) ?_
 by_cases h0 : 0 ≤ v
 ·((conv => whnf); repeat' ((first | refine odw ?_ | refine ify ?_ | refine ifn ?_ | refine i6 ?_ | refine ati ?_ | refine mst ?_ | refine rmd ?_ | refine ibo (fun _ => ?_) (fun _ => ?_)) <;> conv => whnf))
  refine call_pure rfl (len_pure G) ?_; rintro y rfl
  by_cases h1 : v < G.labels.length
  ·have : hasV G v = true := by simp [hasV, h0, h1]
   rw [this]
   ((conv => whnf); repeat' ((first | refine odw ?_ | refine ify ?_ | refine ifn ?_ | refine i6 ?_ | refine ati ?_ | refine mst ?_ | refine rmd ?_ | refine ibo (fun _ => ?_) (fun _ => ?_)) <;> conv => whnf))
   show Da.plain _ = _
   simp [Da.plain, h1]
  ·have : hasV G v = false := by simp [hasV, h1]
   rw [this]
   ((conv => whnf); repeat' ((first | refine odw ?_ | refine ify ?_ | refine ifn ?_ | refine i6 ?_ | refine ati ?_ | refine mst ?_ | refine rmd ?_ | refine ibo (fun _ => ?_) (fun _ => ?_)) <;> conv => whnf))
   show Da.plain _ = _
   simp [Da.plain, h1]
 ·have : hasV G v = false := by simp [hasV, h0]
  rw [this]
  ((conv => whnf); repeat' ((first | refine odw ?_ | refine ify ?_ | refine ifn ?_ | refine i6 ?_ | refine ati ?_ | refine mst ?_ | refine rmd ?_ | refine ibo (fun _ => ?_) (fun _ => ?_)) <;> conv => whnf))
  exact rfl
theorem hasV_yes {G : Gr} {v : Int} (h : 0 ≤ v) (h2 : v < G.labels.length) : hasV G v = true := by simp [hasV, h, h2]
theorem hasV_no {G : Gr} {v : Int} (h : ¬ (0 ≤ v ∧ v < G.labels.length)) : hasV G v = false := by simp only [hasV, decide_eq_false_iff_not]; exact h
def pl_glabel : List (Nat × Plan) := []
def G_glabel : List FuncId := []
theorem cok_glabel : codeOk Tryz.prog G_glabel pl_glabel (Tryz.f195.body.getD .skip) = true := by kernel_rfl
theorem run_glabel (vs : Array Value) (w : World) : (callFunc 195 vs).run C1.P w = .ok (.enter 195 vs) w := by kernel_rfl
def labelV (G : Gr) (v : Int) : Int := if 0 ≤ v ∧ v < G.labels.length then (G.labels[v.toNat]?).getD 0 else -1
theorem label_pure (G : Gr) (v : Int) : Pure C1 195 [dG G, .int .i64 v] (fun y => y = .int .i64 (labelV G v)) := by
 refine pure_of c1_ok (pl := pl_glabel) (G := G_glabel) Tryz.func195 rfl Tryz.ntmps195 run_glabel cok_glabel (by simp) ?_
 by_cases h : 0 ≤ v ∧ v < G.labels.length
 ·obtain ⟨m, rfl⟩ := Int.eq_ofNat_of_zero_le h.1
  have hm : m < G.labels.length := by omega
  have hx := List.getElem?_eq_getElem hm
  have e : labelV G (m : Int) = G.labels[m] := by unfold labelV; rw [if_pos h, Int.toNat_natCast, hx]; rfl
  rw [e]
  generalize G.labels[m] = x at hx
  have hxd : (G.labels.map dI)[m]? = some (.int .i64 x) := by rw [List.getElem?_map, hx]; rfl
  ((conv => whnf); repeat' ((first | refine odw ?_ | refine ify ?_ | refine ifn ?_ | refine i6 ?_ | refine ati ?_ | refine mst ?_ | refine rmd ?_ | refine ibo (fun _ => ?_) (fun _ => ?_)) <;> conv => whnf))
  refine call_pure rfl (has_pure G m) ?_; rintro y rfl
  rw [hasV_yes h.1 h.2]
  (repeat' ((first | refine ord_ok ?_ ?_ | refine at_da hxd rfl ?_ | refine ify ?_ | refine ifn ?_ | refine i6 ?_ | refine ati ?_ | refine mst ?_ | refine rmd ?_ | refine ibo (fun _ => ?_) (fun _ => ?_) | exact oend) <;> conv => whnf))
  exact rfl
 ·have e : labelV G v = -1 := by unfold labelV; rw [if_neg h]
  rw [e]
  ((conv => whnf); repeat' ((first | refine odw ?_ | refine ify ?_ | refine ifn ?_ | refine i6 ?_ | refine ati ?_ | refine mst ?_ | refine rmd ?_ | refine ibo (fun _ => ?_) (fun _ => ?_)) <;> conv => whnf))
  refine call_pure rfl (has_pure G v) ?_; rintro y rfl
  rw [hasV_no h]
  ((conv => whnf); repeat' ((first | refine odw ?_ | refine ify ?_ | refine ifn ?_ | refine i6 ?_ | refine ati ?_ | refine mst ?_ | refine rmd ?_ | refine ibo (fun _ => ?_) (fun _ => ?_)) <;> conv => whnf))
  exact rfl
def pl_gedge : List (Nat × Plan) := []
def G_gedge : List FuncId := []
theorem cok_gedge : codeOk Tryz.prog G_gedge pl_gedge (Tryz.f190.body.getD .skip) = true := by kernel_rfl
theorem run_gedge (vs : Array Value) (w : World) : (callFunc 190 vs).run C1.P w = .ok (.enter 190 vs) w := by kernel_rfl
def edgeY (E : List Edg) (id : Int) : Da := if 0 ≤ id ∧ id < E.length then .tuple [dE ((E[id.toNat]?).getD ⟨0, 0⟩), .bool true] else .tuple [dE ⟨0, 0⟩, .bool false]
theorem edge_pure (G : Gr) (id : Int) : Pure C1 190 [dG G, .int .i64 id] (fun y => y = edgeY G.edges id) := by
 refine pure_of c1_ok (pl := pl_gedge) (G := G_gedge) Tryz.func190 rfl Tryz.ntmps190 run_gedge cok_gedge (by simp) ?_
 by_cases h0 : 0 ≤ id
 ·by_cases h1 : id < G.edges.length
  ·obtain ⟨m, rfl⟩ := Int.eq_ofNat_of_zero_le h0
   have hm : m < G.edges.length := by omega
   have hx := List.getElem?_eq_getElem hm
   have e : edgeY G.edges (m : Int) = .tuple [dE G.edges[m], .bool true] := by unfold edgeY; rw [if_pos ⟨h0, h1⟩, Int.toNat_natCast, hx]; rfl
   rw [e]
   generalize G.edges[m] = x at hx
   have hxd : (G.edges.map dE)[m]? = some (.agg [.int .i64 x.a, .int .i64 x.b]) := by rw [List.getElem?_map, hx]; rfl
   ((conv => whnf); repeat' ((first | refine odw ?_ | refine ify ?_ | refine ifn ?_ | refine i6 ?_ | refine ati ?_ | refine mst ?_ | refine rmd ?_ | refine ibo (fun _ => ?_) (fun _ => ?_)) <;> conv => whnf))
   refine call_pure rfl (size_pure G) ?_; rintro y rfl
   (repeat' ((first | refine ord_ok ?_ ?_ | refine at_da hxd rfl ?_ | refine ify ?_ | refine ifn ?_ | refine i6 ?_ | refine ati ?_ | refine mst ?_ | refine rmd ?_ | refine ibo (fun _ => ?_) (fun _ => ?_) | exact oend) <;> conv => whnf))
   exact rfl
  ·have e : edgeY G.edges id = .tuple [dE ⟨0, 0⟩, .bool false] := by unfold edgeY; rw [if_neg (by omega)]
   rw [e]
   ((conv => whnf); repeat' ((first | refine odw ?_ | refine ify ?_ | refine ifn ?_ | refine i6 ?_ | refine ati ?_ | refine mst ?_ | refine rmd ?_ | refine ibo (fun _ => ?_) (fun _ => ?_)) <;> conv => whnf))
   refine call_pure rfl (size_pure G) ?_; rintro y rfl
   ((conv => whnf); repeat' ((first | refine odw ?_ | refine ify ?_ | refine ifn ?_ | refine i6 ?_ | refine ati ?_ | refine mst ?_ | refine rmd ?_ | refine ibo (fun _ => ?_) (fun _ => ?_)) <;> conv => whnf))
   exact rfl
 ·have e : edgeY G.edges id = .tuple [dE ⟨0, 0⟩, .bool false] := by unfold edgeY; rw [if_neg (by omega)]
  rw [e]
  ((conv => whnf); repeat' ((first | refine odw ?_ | refine ify ?_ | refine ifn ?_ | refine i6 ?_ | refine ati ?_ | refine mst ?_ | refine rmd ?_ | refine ibo (fun _ => ?_) (fun _ => ?_)) <;> conv => whnf))
  exact rfl
def pl_gnear : List (Nat × Plan) := [(3, .leaf [0, 0, 0, 1, 0, 0, 0, 1, 0, 0, 1, 0, 0, 0, 1, 0, 0, 0, 1, 0, 2, 0] [0, 1, 2, 4, 5, 6, 8, 11, 12, 13, 15, 16, 3, 7, 9, 10, 14, 17, 18, 19, 20, 21] [0, 1, 3, 7, 0, 16, 48, 112, 0, 496, 1008, 0, 2048, 6144, 14336, 0, 32768, 129024, 260096, 524287, 1048575, 2097151])]
def G_gnear : List FuncId := [60]
theorem cok_gnear : codeOk Tryz.prog G_gnear pl_gnear (Tryz.f198.body.getD .skip) = true := by kernel_rfl
theorem run_gnear (vs : Array Value) (w : World) : (callFunc 198 vs).run C1.P w = .ok (.enter 198 vs) w := by kernel_rfl
def nearY (G : Gr) (v : Int) : Da := if 0 ≤ v ∧ v < G.labels.length then dIs (nearOf G.edges v.toNat) else .nils
theorem firstL_at {n v : Nat} (E : List Edg) (h : v ≤ n) : ((firstL n E).map dI)[v]? = some (.int .i64 (off (deg E) v)) := by
 rw [List.getElem?_map, firstL, List.getElem?_map, List.getElem?_range (by omega)]; rfl
theorem near_cut {n v : Nat} (E : List Edg) (h : v < n) : (((nearL n E).map dI).take (off (deg E) (v + 1))).drop (off (deg E) v) = (nearOf E v).map dI := by
 rw [← List.map_take, ← List.map_drop, nearL, flat_cut (nearOf E) (deg E) (fun _ => rfl) h]
theorem near_pure (G : Gr) (hG : G.Ok) (v : Int) : Pure C1 198 [dG G, .int .i64 v] (fun y => y = nearY G v) := by
 refine pure_of c1_ok (pl := pl_gnear) (G := G_gnear) Tryz.func198 rfl Tryz.ntmps198 run_gnear cok_gnear (by simp) ?_
 by_cases h : 0 ≤ v ∧ v < G.labels.length
 ·obtain ⟨m, rfl⟩ := Int.eq_ofNat_of_zero_le h.1
  have hm : m < G.labels.length := by omega
  have e : nearY G (m : Int) = dIs (nearOf G.edges m) := by unfold nearY; rw [if_pos h, Int.toNat_natCast]
  rw [e]
  have hs := hG.size
  have h1 := firstL_at G.edges (n := G.labels.length) (v := m) (by omega)
  have h2 := firstL_at G.edges (n := G.labels.length) (v := m + 1) (by omega)
  ((conv => whnf); repeat' ((first | refine odw ?_ | refine ify ?_ | refine ifn ?_ | refine i6 ?_ | refine ati ?_ | refine mst ?_ | refine rmd ?_ | refine ibo (fun _ => ?_) (fun _ => ?_)) <;> conv => whnf))
  refine call_pure rfl (has_pure G m) ?_; rintro y rfl
  rw [hasV_yes h.1 h.2]
  (conv => whnf)
  (repeat' ((first | refine ord_ok ?_ ?_ | refine at_da h1 rfl ?_ | refine at_da h2 rfl ?_ | refine ify ?_ | refine ifn ?_ | refine i6 ?_ | refine ati ?_ | refine mst ?_ | refine rmd ?_ | refine ibo (fun _ => ?_) (fun _ => ?_) | exact oend) <;> conv => whnf))
  refine ⟨_, _, rfl, rfl, off_mono _ (by omega), ?_, ?_⟩
  ·rw [List.length_map, nearL, off_flat (nearOf G.edges) (deg G.edges) (fun _ => rfl)]; exact off_mono _ (by omega)
  rw [near_cut G.edges hm]
  (conv => whnf)
  have hb := deg_le G.edges m
  have hes := hG.esize
  refine call_mksl 29 rfl rfl (clone_sl (nearOf G.edges m) (by unfold deg at hb; omega)) ?_; rintro ds rfl
  ((conv => whnf); repeat' ((first | refine odw ?_ | refine ify ?_ | refine ifn ?_ | refine i6 ?_ | refine ati ?_ | refine mst ?_ | refine rmd ?_ | refine ibo (fun _ => ?_) (fun _ => ?_)) <;> conv => whnf))
  exact rfl
 ·have e : nearY G v = .nils := by unfold nearY; rw [if_neg h]
  rw [e]
  ((conv => whnf); repeat' ((first | refine odw ?_ | refine ify ?_ | refine ifn ?_ | refine i6 ?_ | refine ati ?_ | refine mst ?_ | refine rmd ?_ | refine ibo (fun _ => ?_) (fun _ => ?_)) <;> conv => whnf))
  refine call_pure rfl (has_pure G v) ?_; rintro y rfl
  rw [hasV_no h]
  ((conv => whnf); repeat' ((first | refine odw ?_ | refine ify ?_ | refine ifn ?_ | refine i6 ?_ | refine ati ?_ | refine mst ?_ | refine rmd ?_ | refine ibo (fun _ => ?_) (fun _ => ?_)) <;> conv => whnf))
  exact rfl
def pl_gdeg : List (Nat × Plan) := []
def G_gdeg : List FuncId := []
theorem cok_gdeg : codeOk Tryz.prog G_gdeg pl_gdeg (Tryz.f229.body.getD .skip) = true := by kernel_rfl
theorem run_gdeg (vs : Array Value) (w : World) : (callFunc 229 vs).run C1.P w = .ok (.enter 229 vs) w := by kernel_rfl
def degV (G : Gr) (v : Int) : Nat := if 0 ≤ v ∧ v < G.labels.length then deg G.edges v.toNat else 0
theorem degree_pure (G : Gr) (hG : G.Ok) (v : Int) : Pure C1 229 [dG G, .int .i64 v] (fun y => y = .int .i64 (degV G v)) := by
 refine pure_of c1_ok (pl := pl_gdeg) (G := G_gdeg) Tryz.func229 rfl Tryz.ntmps229 run_gdeg cok_gdeg (by simp) ?_
 ((conv => whnf); repeat' ((first | refine odw ?_ | refine ify ?_ | refine ifn ?_ | refine i6 ?_ | refine ati ?_ | refine mst ?_ | refine rmd ?_ | refine ibo (fun _ => ?_) (fun _ => ?_)) <;> conv => whnf))
 refine call_pure rfl (near_pure G hG v) ?_; rintro y rfl
 by_cases h : 0 ≤ v ∧ v < G.labels.length
 ·have e : nearY G v = dIs (nearOf G.edges v.toNat) := by unfold nearY; rw [if_pos h]
  have e2 : degV G v = ((nearOf G.edges v.toNat).map dI).length := by unfold degV; rw [if_pos h, List.length_map]; rfl
  rw [e, e2]
  ((conv => whnf); repeat' ((first | refine odw ?_ | refine ify ?_ | refine ifn ?_ | refine i6 ?_ | refine ati ?_ | refine mst ?_ | refine rmd ?_ | refine ibo (fun _ => ?_) (fun _ => ?_)) <;> conv => whnf))
  exact rfl
 ·have e : nearY G v = .nils := by unfold nearY; rw [if_neg h]
  have e2 : degV G v = 0 := by unfold degV; rw [if_neg h]
  rw [e, e2]
  ((conv => whnf); repeat' ((first | refine odw ?_ | refine ify ?_ | refine ifn ?_ | refine i6 ?_ | refine ati ?_ | refine mst ?_ | refine rmd ?_ | refine ibo (fun _ => ?_) (fun _ => ?_)) <;> conv => whnf))
  exact rfl
end Go.Proofs.YtjejpdfldmempaaGreatDoor
end
section
namespace Go.Proofs.YtjejpdfldmempaaGreatDoor
open Go.Sx Go.RowKit Go.Reg Go.Gr
set_option maxRecDepth 100000
theorem values_pure (l : List Int) : Pure C1 161 [dIs l] (fun y => y = .func (.func 222) [] [.ref (dIs l)]) := by
 refine pure_of c1_ok (pl := []) (G := []) Tryz.func161 rfl Tryz.ntmps161 (by intro vs w; kernel_rfl) (by kernel_rfl) (by simp) ?_
 ((conv => whnf); repeat' ((first | refine odw ?_ | refine ify ?_ | refine ifn ?_ | refine i6 ?_ | refine ati ?_ | refine mst ?_ | refine rmd ?_ | refine ibo (fun _ => ?_) (fun _ => ?_)) <;> conv => whnf))
 exact rfl
theorem sorted_self {l : List Int} (h : l.Pairwise (· < ·)) : l.mergeSort (fun x y => decide (x ≤ y)) = l :=
 List.mergeSort_of_pairwise (h.imp fun h => by simp; omega)
theorem idsOf_len (E : List Edg) (v : Nat) : (idsOf E v).length = deg E v := by
 rw [idsOf, List.length_append, (ids_len E v).1, (ids_len E v).2, deg, nearOf, List.length_append]
theorem ids_cut {n v : Nat} (E : List Edg) (h : v < n) : (((idsL n E).map dI).take (off (deg E) (v + 1))).drop (off (deg E) v) = (idsOf E v).map dI := by
 rw [← List.map_take, ← List.map_drop, idsL, flat_cut (idsOf E) (deg E) (idsOf_len E) h]
def pl_gat : List (Nat × Plan) := [(3, .leaf [0, 0, 0, 1, 0, 0, 0, 1, 0, 0, 1, 0, 0, 0, 1, 0, 0, 0, 1, 0, 2, 2, 0] [0, 1, 2, 4, 5, 6, 8, 11, 12, 13, 15, 16, 3, 7, 9, 10, 14, 17, 18, 19, 20, 21, 22] [0, 1, 3, 7, 0, 16, 48, 112, 0, 496, 1008, 0, 2048, 6144, 14336, 0, 32768, 129024, 260096, 524287, 1048575, 2097151, 4194303])]
def G_gat : List FuncId := [161, 160]
theorem cok_gat : codeOk Tryz.prog G_gat pl_gat (Tryz.f176.body.getD .skip) = true := by kernel_rfl
theorem run_gat (vs : Array Value) (w : World) : (callFunc 176 vs).run C1.P w = .ok (.enter 176 vs) w := by kernel_rfl
def atY (G : Gr) (v : Int) : Da := if 0 ≤ v ∧ v < G.labels.length then dIs (atD G.edges v.toNat) else .nils
theorem at_pure (G : Gr) (hG : G.Ok) (v : Int) : Pure C1 176 [dG G, .int .i64 v] (fun y => y = atY G v) := by
 refine pure_of c1_ok (pl := pl_gat) (G := G_gat) Tryz.func176 rfl Tryz.ntmps176 run_gat cok_gat (by simp) ?_
 by_cases h : 0 ≤ v ∧ v < G.labels.length
 ·obtain ⟨m, rfl⟩ := Int.eq_ofNat_of_zero_le h.1
  have hm : m < G.labels.length := by omega
  have e : atY G (m : Int) = dIs (idsOf G.edges m) := by unfold atY; rw [if_pos h, Int.toNat_natCast, ids_doc hG]
  rw [e]
  have hs := hG.size
  have h1 := firstL_at G.edges (n := G.labels.length) (v := m) (by omega)
  have h2 := firstL_at G.edges (n := G.labels.length) (v := m + 1) (by omega)
  ((conv => whnf); repeat' ((first | refine odw ?_ | refine ify ?_ | refine ifn ?_ | refine i6 ?_ | refine ati ?_ | refine mst ?_ | refine rmd ?_ | refine ibo (fun _ => ?_) (fun _ => ?_)) <;> conv => whnf))
  refine call_pure rfl (has_pure G m) ?_; rintro y rfl
  rw [hasV_yes h.1 h.2]
  (conv => whnf)
  (repeat' ((first | refine ord_ok ?_ ?_ | refine at_da h1 rfl ?_ | refine at_da h2 rfl ?_ | refine ify ?_ | refine ifn ?_ | refine i6 ?_ | refine ati ?_ | refine mst ?_ | refine rmd ?_ | refine ibo (fun _ => ?_) (fun _ => ?_) | exact oend) <;> conv => whnf))
  refine ⟨_, _, rfl, rfl, off_mono _ (by omega), ?_, ?_⟩
  ·rw [List.length_map, idsL, off_flat (idsOf G.edges) (deg G.edges) (idsOf_len G.edges)]; exact off_mono _ (by omega)
  rw [ids_cut G.edges hm]
  (conv => whnf)
  have hb := deg_le G.edges m
  have hes := hG.esize
  refine call_pure rfl (values_pure (idsOf G.edges m)) ?_; rintro y rfl
  (conv => whnf)
  refine call_pure rfl (sorted_pure (idsOf G.edges m) (by rw [idsOf_len]; omega)) ?_; rintro y rfl
  rw [sorted_self (ids_rise hG m)]
  ((conv => whnf); repeat' ((first | refine odw ?_ | refine ify ?_ | refine ifn ?_ | refine i6 ?_ | refine ati ?_ | refine mst ?_ | refine rmd ?_ | refine ibo (fun _ => ?_) (fun _ => ?_)) <;> conv => whnf))
  exact rfl
 ·have e : atY G v = .nils := by unfold atY; rw [if_neg h]
  rw [e]
  ((conv => whnf); repeat' ((first | refine odw ?_ | refine ify ?_ | refine ifn ?_ | refine i6 ?_ | refine ati ?_ | refine mst ?_ | refine rmd ?_ | refine ibo (fun _ => ?_) (fun _ => ?_)) <;> conv => whnf))
  refine call_pure rfl (has_pure G v) ?_; rintro y rfl
  rw [hasV_no h]
  ((conv => whnf); repeat' ((first | refine odw ?_ | refine ify ?_ | refine ifn ?_ | refine i6 ?_ | refine ati ?_ | refine mst ?_ | refine rmd ?_ | refine ibo (fun _ => ?_) (fun _ => ?_)) <;> conv => whnf))
  exact rfl
end Go.Proofs.YtjejpdfldmempaaGreatDoor
end
section
namespace Go.Reg
open Go Go.RowKit Go.Sort Go.Proofs
section
variable {E : Nat} {w : World} {l : List Int} {g cap : Nat}
theorem flat_one1 (l : List Int) : l.flatMap (fun n => [Value.int .i64 n]) = l.map (Value.int .i64) := by
 induction l with
 | nil => rfl
 | cons x l ih => simp [ih]
theorem Sl.holds1 (h : Sl E 1 (fun n : Int => [Value.int .i64 n]) w (.slice (some ⟨g, 0, none⟩) l.length cap) l) : Go.Sort.Holds (Value.int .i64) w g 0 l.toArray := by
 intro j hj
 have hj' : j < l.length := by simpa using hj
 have hx : l[j]? = some l.toArray[j]! := by rw [getElem!_pos l.toArray j hj]; simp [hj']
 have hc := Sl.cells (enc := fun n : Int => [Value.int .i64 n]) (k := 1) (fun _ => rfl) h rfl hx (j := 0) (u := Value.int .i64 l.toArray[j]!) rfl
 refine ⟨by simpa using hc, ?_⟩
 rcases h.2 with ⟨h1, _⟩ | ⟨g', cap', cur, h1, _, hg, _⟩
 ·cases h1
 ·cases h1
  simp [World.frozen?, hg]
theorem Sl.put1 (h : Sl E 1 (fun n : Int => [Value.int .i64 n]) w (.slice (some ⟨g, 0, none⟩) l.length cap) l) (d : Array Int) (hd : d.size = l.length) (m : Nat) (hm : m ≤ l.length) (q : Nat) :
  Sl E 1 (fun n : Int => [Value.int .i64 n]) (putRow (Value.int .i64) (Sort.ahead w q) g 0 d) (.slice (some ⟨g, 0, none⟩) m cap) (d.toList.take m) ∧ Tch [g] w (putRow (Value.int .i64) (Sort.ahead w q) g 0 d) := by
 have hlm : (d.toList.take m).length = m := by rw [List.length_take, Array.length_toList]; omega
 constructor
 ·unfold Sl
  rw [flat_one1]
  refine ⟨by simp, ?_⟩
  rcases h.2 with ⟨h1, _⟩ | ⟨g', cap', cur, h1, h0, hg, hc, hmx, hs, ht⟩
  ·cases h1
  ·cases h1
   refine .inr ⟨g, cap, putCells (Value.int .i64) 0 d cur, by rw [hlm], Nat.zero_le _, ?_, by rw [hlm]; omega, hmx, by simp [putCells, hs], ?_⟩
   ·simp [putRow, mapBlock, Sort.ahead, Array.getElem?_modify, hg, onCells]
   ·rw [hlm]
    apply List.ext_getElem?
    intro t
    rw [List.getElem?_take, List.getElem?_map, List.getElem?_take]
    split
    ·rename_i hlt
     have h1 : t < cur.size := by omega
     have h2 : t < d.size := by omega
     have h3 : t < m := by omega
     simp [putCells, h1, h2, h3]
    ·rename_i hlt
     have h3 : ¬ t < m := by omega
     simp [h3]
 ·refine ⟨rfl, rfl, rfl, ?_, ?_⟩
  ·simp [putRow, mapBlock, Sort.ahead]
  ·intro j hj hn
   have hne : g ≠ j := fun e => hn (by simp [e])
   simp [putRow, mapBlock, Sort.ahead, Array.getElem?_modify, hne]
end
end Go.Reg
namespace Go.Proofs.YtjejpdfldmempaaGreatDoor
open Go.RowKit Go.Shelf Go.Sx Go.Reg Go.Sort Go.Gr Go.Proofs
set_option maxRecDepth 100000
theorem ints_cs {O : List Nat} {w : World} : ∀ {l : List Int} {css : List (List Value)}, RepCss O w (l.map dI) css → css = l.map (fun n => [Value.int .i64 n])
 | [], css, h => by simpa only [List.map_nil, RepCss] using h
 | e :: l, css, h => by
   simp only [List.map_cons, RepCss, dI, RepC] at h
   obtain ⟨c1, c2, rfl, rfl, h⟩ := h
   rw [ints_cs h]; rfl
theorem ints_sl {E : Nat} {w : World} {v : Value} {l : List Int} : Sl E 1 id w v (l.map fun n => [Value.int .i64 n]) ↔ Sl E 1 (fun n : Int => [Value.int .i64 n]) w v l := by
 unfold Sl
 rw [List.length_map, List.flatMap_map]
 exact Iff.rfl
theorem eat_of {f : FuncId} {l : List Int} {xs : List Da} {r : List Int} {vs : List Value} (hxs : ∀ (O : List Nat) (w : World) (us : List Value), Reps O w xs us → us = vs) (hrl : r.length ≤ l.length)
  (hrun : ∀ (us : Array Value) (w : World), (callFunc f us).run C1.P w = .ok (.enter f us) w)
  (hnil : l = [] → ∀ w : World, Calls C1.P f (.slice none 0 0 :: vs).toArray w fun e w' => e = .returned (.slice none 0 0) ∧ w' = w)
  (hmem : ∀ (g cap : Nat) (w : World), Go.Sort.Holds (Value.int .i64) w g 0 l.toArray → l.length ≤ cap → cap ≤ 9223372036854775807 → Calls C1.P f (.slice (some ⟨g, 0, none⟩) l.length cap :: vs).toArray w fun e w' => e = .returned (.slice (some ⟨g, 0, none⟩) r.length cap) ∧ ∃ q, ∃ rest : List Int, r.length + rest.length = l.length ∧ w' = putRow (Value.int .i64) (Sort.ahead w q) g 0 (r ++ rest).toArray) :
  EatSl C1 f 3 1 (l.map dI) xs (fun ds => ds = r.map dI) := by
 intro O w v css us hs hb hO hr hk hg hus
 obtain rfl := hxs O w us hus
 obtain rfl := ints_cs hr
 refine ⟨hrun _ _, ?_⟩
 have hs1 := ints_sl.1 hs
 rcases hs1.shape with ⟨rfl, rfl⟩ | ⟨g, cap, rfl, hc⟩
 ·refine (hnil rfl w).mono ?_
  rintro e w' ⟨rfl, rfl⟩
  have : r = [] := List.eq_nil_of_length_eq_zero (by simpa using hrl)
  subst this
  exact ⟨_, _, [], rfl, rfl, Sl.nil _ _ _ _, fun b hb => (by cases hb), by simp [RepCss], by simp, Tch.refl _ _⟩
 ·have hcm : cap ≤ 9223372036854775807 := by
   rcases hs1.2 with ⟨h1, _⟩ | ⟨g', cap', cur, h1, _, _, _, hm, _⟩
   ·cases h1
   ·cases h1; unfold maxLen at hm; omega
  refine (hmem g cap w hs1.holds1 hc hcm).mono ?_
  rintro e w' ⟨rfl, q, rest, hrl2, rfl⟩
  obtain ⟨h1, h2⟩ := hs1.put1 (r ++ rest).toArray (by simp; omega) r.length hrl q
  have ht : (r ++ rest).toArray.toList.take r.length = r := by simp
  rw [ht] at h1
  exact ⟨_, _, r.map fun n => [Value.int .i64 n], rfl, rfl, ints_sl.2 h1, fun b hb => .inl hb, css_ints r, css_row r, h2⟩
theorem reps_nil_eq {O : List Nat} {w : World} {us : List Value} (h : Reps O w [] us) : us = [] := reps_inv0 h
theorem compact_len (l : List Int) : (Lib.compact l).length ≤ l.length := by
 unfold Lib.compact Lib.compactUpTo
 rw [List.length_map]
 have := List.length_filter_le (Lib.keeps l.toArray) (List.range l.length)
 rwa [List.length_range] at this
theorem compact_eat (l : List Int) (hl : l.length ≤ 9223372036854775807) : EatSl C1 241 3 1 (l.map dI) [] (fun ds => ds = (Lib.compact l).map dI) :=
 eat_of (vs := []) (fun O w us h => reps_nil_eq h) (compact_len l) (fun us w => enters_of Tryz.func241 (by kernel_rfl) rfl us w)
  (fun _ w => AnyG.slices_Compact_int_empty Tryz.compactI none 0 w)
  (fun g cap w hH hc hm => (AnyG.slices_Compact_int Tryz.compactI g 0 cap l w hH hl hc).mono fun e w' ⟨h1, q, h2⟩ => ⟨h1, q, List.replicate (l.length - (Lib.compact l).length) 0, by have := compact_len l; simp; omega, h2⟩)
end Go.Proofs.YtjejpdfldmempaaGreatDoor
namespace Go.Gr
open Go.Lib in
theorem compact_inv (d : Array Int) (hd : ∀ i j, i ≤ j → j < d.size → d[i]! ≤ d[j]!) : ∀ m, m ≤ d.size → (compactUpTo d m).Pairwise (· < ·) ∧ ∀ x, x ∈ compactUpTo d m ↔ ∃ j, j < m ∧ x = d[j]! := by
 intro m
 induction m with
 | zero => intro _; simp [compactUpTo]
 | succ m ih =>
   intro hm
   obtain ⟨h1, h2⟩ := ih (by omega)
   rw [compactUpTo_succ]
   cases hk : keeps d m with
   | true =>
     rw [if_pos rfl]
     refine ⟨List.pairwise_append.2 ⟨h1, by simp, fun a ha b hb => ?_⟩, fun x => ?_⟩
     ·simp only [List.mem_singleton] at hb
      subst hb
      obtain ⟨j, hj, rfl⟩ := (h2 a).1 ha
      simp only [keeps, decide_eq_true_eq] at hk
      have g1 := hd j (m - 1) (by omega) (by omega)
      have g2 := hd (m - 1) m (by omega) (by omega)
      have : d[m]! ≠ d[m - 1]! := hk.resolve_left (by omega)
      omega
     ·rw [List.mem_append, h2, List.mem_singleton]
      constructor
      ·rintro (⟨j, hj, rfl⟩ | rfl)
       ·exact ⟨j, by omega, rfl⟩
       ·exact ⟨m, by omega, rfl⟩
      ·rintro ⟨j, hj, rfl⟩
       by_cases e : j = m
       ·subst e; exact .inr rfl
       ·exact .inl ⟨j, by omega, rfl⟩
   | false =>
     simp only [Bool.false_eq_true, if_false, List.append_nil]
     refine ⟨h1, fun x => ?_⟩
     rw [h2]
     simp only [keeps, decide_eq_false_iff_not, not_or, Classical.not_not] at hk
     constructor
     ·rintro ⟨j, hj, rfl⟩; exact ⟨j, by omega, rfl⟩
     ·rintro ⟨j, hj, rfl⟩
      by_cases e : j = m
      ·subst e; exact ⟨j - 1, by omega, hk.2⟩
      ·exact ⟨j, by omega, rfl⟩
def setOf (l : List Int) : List Int := Lib.compact (l.mergeSort fun x y => decide (x ≤ y))
theorem setOf_spec (l : List Int) : (setOf l).Pairwise (· < ·) ∧ ∀ x, x ∈ setOf l ↔ x ∈ l := by
 have hp := List.mergeSort_perm l fun x y => decide (x ≤ y)
 have hs : (l.mergeSort fun x y => decide (x ≤ y)).Pairwise (fun x y => decide (x ≤ y) = true) := List.pairwise_mergeSort (by intro a b c; simp; omega) (by intro a b; simp; omega) l
 generalize hz : (l.mergeSort fun x y => decide (x ≤ y)) = z at hp hs
 have hd : ∀ i j, i ≤ j → j < z.toArray.size → z.toArray[i]! ≤ z.toArray[j]! := by
  intro i j hij hj
  have hj' : j < z.length := by simpa using hj
  rw [getElem!_pos z.toArray j hj, getElem!_pos z.toArray i (by omega)]
  by_cases e : i = j
  ·subst e; exact Int.le_refl _
  ·have := List.pairwise_iff_getElem.1 hs i j (by omega) hj' (by omega)
   simpa using this
 obtain ⟨h1, h2⟩ := compact_inv z.toArray hd z.length (by simp)
 unfold setOf Lib.compact
 rw [hz]
 refine ⟨h1, fun x => ?_⟩
 rw [h2, ← hp.mem_iff, List.mem_iff_getElem]
 constructor
 ·rintro ⟨j, hj, rfl⟩
  refine ⟨j, hj, ?_⟩
  rw [getElem!_pos z.toArray j (by simpa using hj)]; simp
 ·rintro ⟨j, hj, rfl⟩
  refine ⟨j, hj, ?_⟩
  rw [getElem!_pos z.toArray j (by simpa using hj)]; simp
end Go.Gr
namespace Go.Proofs.YtjejpdfldmempaaGreatDoor
open Go.Sx Go.RowKit Go.Reg Go.Gr
set_option maxRecDepth 100000
theorem setOf_len (l : List Int) : (setOf l).length ≤ l.length := by
 have := compact_len (l.mergeSort fun x y => decide (x ≤ y))
 rwa [List.length_mergeSort] at this
def pl_sof : List (Nat × Plan) := []
def G_sof : List FuncId := []
theorem cok_sof : codeOk Tryz.prog G_sof pl_sof (Tryz.f200.body.getD .skip) = true := by kernel_rfl
theorem run_sof (vs : Array Value) (w : World) : (callFunc 200 vs).run C1.P w = .ok (.enter 200 vs) w := by kernel_rfl
theorem of_pure (l : List Int) (hl : l.length ≤ 4294967296) : Pure C1 200 [dIs l] (fun y => y = dIs (setOf l)) := by
 refine pure_of c1_ok (pl := pl_sof) (G := G_sof) Tryz.func200 rfl Tryz.ntmps200 run_sof cok_sof (by simp) ?_
 (conv => whnf)
 (repeat' ((first | refine ord_ok ?_ ?_ | refine call_eq rfl (values_pure l) ?_ | refine ify ?_ | refine ifn ?_ | refine i6 ?_ | refine ati ?_ | refine mst ?_ | refine rmd ?_ | refine ibo (fun _ => ?_) (fun _ => ?_) | exact oend) <;> conv => whnf))
 refine call_mksl 29 rfl rfl (sorted_mksl l hl) ?_; rintro ds rfl
 (conv => whnf)
 refine call_eat rfl rfl (compact_eat (l.mergeSort fun x y => decide (x ≤ y)) (by rw [List.length_mergeSort]; omega)) ?_; rintro ds rfl
 ((conv => whnf); repeat' ((first | refine odw ?_ | refine ify ?_ | refine ifn ?_ | refine i6 ?_ | refine ati ?_ | refine mst ?_ | refine rmd ?_ | refine ibo (fun _ => ?_) (fun _ => ?_)) <;> conv => whnf))
 exact rfl
end Go.Proofs.YtjejpdfldmempaaGreatDoor
end
