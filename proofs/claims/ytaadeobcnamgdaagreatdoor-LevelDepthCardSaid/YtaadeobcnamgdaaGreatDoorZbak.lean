/- Merged: Grh Grk. -/
import Derived.Test.YtaadeobcnamgdaaGreatDoorZbaj
import Derived.Test.YtaadeobcnamgdaaGreatDoorZbai
section
/- Graphs: what a graph tells: Len, Size, Edge, Label, Near, Degree. -/
namespace Go.Gr
theorem flat_split (f : Nat → List Int) (D : Nat → Nat) (hD : ∀ v, (f v).length = D v) {n v : Nat} (h : v < n) : ∃ pre post, (List.range n).flatMap f = pre ++ (f v ++ post) ∧ pre.length = off D v := by
  have key : ∀ n, ((List.range n).flatMap f).length = off D n := by
    intro n
    induction n with
    | zero => rfl
    | succ n ih => rw [List.range_succ, List.flatMap_append, List.length_append, ih]; simp [off, hD]
  induction n with
  | zero => omega
  | succ n ih =>
    rw [List.range_succ, List.flatMap_append]
    by_cases hv : v < n
    · obtain ⟨pre, post, e, hl⟩ := ih hv
      exact ⟨pre, post ++ [n].flatMap f, by rw [e]; simp, hl⟩
    · have : v = n := by omega
      subst this
      exact ⟨(List.range v).flatMap f, [], by simp, key v⟩
theorem flat_cut (f : Nat → List Int) (D : Nat → Nat) (hD : ∀ v, (f v).length = D v) {n v : Nat} (h : v < n) : (((List.range n).flatMap f).take (off D (v + 1))).drop (off D v) = f v := by
  obtain ⟨pre, post, e, hl⟩ := flat_split f D hD h
  rw [e, ← List.append_assoc]
  have h1 : off D (v + 1) = (pre ++ f v).length := by simp [off, hl, hD]
  rw [h1, List.take_left, ← hl, List.drop_left]
theorem off_flat (f : Nat → List Int) (D : Nat → Nat) (hD : ∀ v, (f v).length = D v) (n : Nat) : ((List.range n).flatMap f).length = off D n := by
  induction n with
  | zero => rfl
  | succ n ih => rw [List.range_succ, List.flatMap_append, List.length_append, ih]; simp [off, hD]
end Go.Gr
namespace Go.Proofs.YtaadeobcnamgdaaGreatDoor
open Go.Sx Go.RowKit Go.Reg Go.Gr

set_option maxRecDepth 100000
def pl_glen : List (Nat × Plan) := []
def G_glen : List FuncId := []
theorem cok_glen : codeOk Tryz.prog G_glen pl_glen (Tryz.f156.body.getD .skip) = true := by kernel_rfl
theorem run_glen (vs : Array Value) (w : World) : (callFunc 156 vs).run C1.P w = .ok (.enter 156 vs) w := by kernel_rfl
theorem len_pure (G : Gr) : Pure C1 156 [dG G] (fun y => y = .int .i64 G.labels.length) := by
  have hl : (G.labels.map dI).length = G.labels.length := List.length_map _
  refine pure_of c1_ok (pl := pl_glen) (G := G_glen) Tryz.func156 rfl Tryz.ntmps156 run_glen cok_glen (by simp) ?_
  ((conv => whnf); repeat' ((first | refine odw ?_ | refine ify ?_ | refine ifn ?_ | refine i6 ?_ | refine ati ?_ | refine mst ?_ | refine rmd ?_ | refine ibo (fun _ => ?_) (fun _ => ?_)) <;> conv => whnf))
  show Da.int .i64 _ = _
  rw [hl]
def pl_gsize : List (Nat × Plan) := []
def G_gsize : List FuncId := []
theorem cok_gsize : codeOk Tryz.prog G_gsize pl_gsize (Tryz.f158.body.getD .skip) = true := by kernel_rfl
theorem run_gsize (vs : Array Value) (w : World) : (callFunc 158 vs).run C1.P w = .ok (.enter 158 vs) w := by kernel_rfl
theorem size_pure (G : Gr) : Pure C1 158 [dG G] (fun y => y = .int .i64 G.edges.length) := by
  have hl : (G.edges.map dE).length = G.edges.length := List.length_map _
  refine pure_of c1_ok (pl := pl_gsize) (G := G_gsize) Tryz.func158 rfl Tryz.ntmps158 run_gsize cok_gsize (by simp) ?_
  ((conv => whnf); repeat' ((first | refine odw ?_ | refine ify ?_ | refine ifn ?_ | refine i6 ?_ | refine ati ?_ | refine mst ?_ | refine rmd ?_ | refine ibo (fun _ => ?_) (fun _ => ?_)) <;> conv => whnf))
  show Da.int .i64 _ = _
  rw [hl]
def pl_ghas : List (Nat × Plan) := []
def G_ghas : List FuncId := []
theorem cok_ghas : codeOk Tryz.prog G_ghas pl_ghas (Tryz.f217.body.getD .skip) = true := by kernel_rfl
theorem run_ghas (vs : Array Value) (w : World) : (callFunc 217 vs).run C1.P w = .ok (.enter 217 vs) w := by kernel_rfl
def hasV (G : Gr) (v : Int) : Bool := decide (0 ≤ v ∧ v < G.labels.length)
theorem has_pure (G : Gr) (v : Int) : Pure C1 217 [dG G, .int .i64 v] (fun y => y = .bool (hasV G v)) := by
  refine pure_of c1_ok (pl := pl_ghas) (G := G_ghas) Tryz.func217 rfl Tryz.ntmps217 run_ghas cok_ghas (by simp) ?_
  by_cases h0 : 0 ≤ v
  · ((conv => whnf); repeat' ((first | refine odw ?_ | refine ify ?_ | refine ifn ?_ | refine i6 ?_ | refine ati ?_ | refine mst ?_ | refine rmd ?_ | refine ibo (fun _ => ?_) (fun _ => ?_)) <;> conv => whnf))
    refine call_pure rfl (len_pure G) ?_; rintro y rfl
    by_cases h1 : v < G.labels.length
    · have : hasV G v = true := by simp [hasV, h0, h1]
      rw [this]
      ((conv => whnf); repeat' ((first | refine odw ?_ | refine ify ?_ | refine ifn ?_ | refine i6 ?_ | refine ati ?_ | refine mst ?_ | refine rmd ?_ | refine ibo (fun _ => ?_) (fun _ => ?_)) <;> conv => whnf))
      show Da.plain _ = _
      simp [Da.plain, h1]
    · have : hasV G v = false := by simp [hasV, h1]
      rw [this]
      ((conv => whnf); repeat' ((first | refine odw ?_ | refine ify ?_ | refine ifn ?_ | refine i6 ?_ | refine ati ?_ | refine mst ?_ | refine rmd ?_ | refine ibo (fun _ => ?_) (fun _ => ?_)) <;> conv => whnf))
      show Da.plain _ = _
      simp [Da.plain, h1]
  · have : hasV G v = false := by simp [hasV, h0]
    rw [this]
    ((conv => whnf); repeat' ((first | refine odw ?_ | refine ify ?_ | refine ifn ?_ | refine i6 ?_ | refine ati ?_ | refine mst ?_ | refine rmd ?_ | refine ibo (fun _ => ?_) (fun _ => ?_)) <;> conv => whnf))
    exact rfl
theorem hasV_yes {G : Gr} {v : Int} (h : 0 ≤ v) (h2 : v < G.labels.length) : hasV G v = true := by simp [hasV, h, h2]
theorem hasV_no {G : Gr} {v : Int} (h : ¬ (0 ≤ v ∧ v < G.labels.length)) : hasV G v = false := by simp only [hasV, decide_eq_false_iff_not]; exact h
def pl_glabel : List (Nat × Plan) := []
def G_glabel : List FuncId := []
theorem cok_glabel : codeOk Tryz.prog G_glabel pl_glabel (Tryz.f176.body.getD .skip) = true := by kernel_rfl
theorem run_glabel (vs : Array Value) (w : World) : (callFunc 176 vs).run C1.P w = .ok (.enter 176 vs) w := by kernel_rfl
def labelV (G : Gr) (v : Int) : Int := if 0 ≤ v ∧ v < G.labels.length then (G.labels[v.toNat]?).getD 0 else -1
theorem label_pure (G : Gr) (v : Int) : Pure C1 176 [dG G, .int .i64 v] (fun y => y = .int .i64 (labelV G v)) := by
  refine pure_of c1_ok (pl := pl_glabel) (G := G_glabel) Tryz.func176 rfl Tryz.ntmps176 run_glabel cok_glabel (by simp) ?_
  by_cases h : 0 ≤ v ∧ v < G.labels.length
  · obtain ⟨m, rfl⟩ := Int.eq_ofNat_of_zero_le h.1
    have hm : m < G.labels.length := by omega
    have hx := List.getElem?_eq_getElem hm
    have e : labelV G (m : Int) = G.labels[m] := by unfold labelV; rw [if_pos h, Int.toNat_natCast, hx]; rfl
    rw [e]
    generalize G.labels[m] = x at hx
    have hxd : (G.labels.map dI)[m]? = some (.int .i64 x) := by rw [List.getElem?_map, hx]; rfl
    ((conv => whnf); repeat' ((first | refine odw ?_ | refine ify ?_ | refine ifn ?_ | refine i6 ?_ | refine ati ?_ | refine mst ?_ | refine rmd ?_ | refine ibo (fun _ => ?_) (fun _ => ?_)) <;> conv => whnf))
    refine call_pure rfl (has_pure G m) ?_; rintro y rfl
    rw [hasV_yes h.1 h.2]
    (repeat' ((first | refine ord_ok (by (conv => whnf); (repeat' ((first | refine at_da hxd rfl ?_ | refine ify ?_ | refine ifn ?_ | refine i6 ?_ | refine ati ?_ | refine mst ?_ | refine rmd ?_ | refine ibo (fun _ => ?_) (fun _ => ?_)) <;> conv => whnf)); (all_goals (repeat' (first | exact trivial | exact rfl | refine And.intro ?_ ?_)))) ?_ | refine at_da hxd rfl ?_ | refine ify ?_ | refine ifn ?_ | refine i6 ?_ | refine ati ?_ | refine mst ?_ | refine rmd ?_ | refine ibo (fun _ => ?_) (fun _ => ?_)) <;> conv => whnf))
    exact rfl
  · have e : labelV G v = -1 := by unfold labelV; rw [if_neg h]
    rw [e]
    ((conv => whnf); repeat' ((first | refine odw ?_ | refine ify ?_ | refine ifn ?_ | refine i6 ?_ | refine ati ?_ | refine mst ?_ | refine rmd ?_ | refine ibo (fun _ => ?_) (fun _ => ?_)) <;> conv => whnf))
    refine call_pure rfl (has_pure G v) ?_; rintro y rfl
    rw [hasV_no h]
    ((conv => whnf); repeat' ((first | refine odw ?_ | refine ify ?_ | refine ifn ?_ | refine i6 ?_ | refine ati ?_ | refine mst ?_ | refine rmd ?_ | refine ibo (fun _ => ?_) (fun _ => ?_)) <;> conv => whnf))
    exact rfl
def pl_gedge : List (Nat × Plan) := []
def G_gedge : List FuncId := []
theorem cok_gedge : codeOk Tryz.prog G_gedge pl_gedge (Tryz.f171.body.getD .skip) = true := by kernel_rfl
theorem run_gedge (vs : Array Value) (w : World) : (callFunc 171 vs).run C1.P w = .ok (.enter 171 vs) w := by kernel_rfl
def edgeY (E : List Edg) (id : Int) : Da := if 0 ≤ id ∧ id < E.length then .tuple [dE ((E[id.toNat]?).getD ⟨0, 0⟩), .bool true] else .tuple [dE ⟨0, 0⟩, .bool false]
theorem edge_pure (G : Gr) (id : Int) : Pure C1 171 [dG G, .int .i64 id] (fun y => y = edgeY G.edges id) := by
  refine pure_of c1_ok (pl := pl_gedge) (G := G_gedge) Tryz.func171 rfl Tryz.ntmps171 run_gedge cok_gedge (by simp) ?_
  by_cases h0 : 0 ≤ id
  · by_cases h1 : id < G.edges.length
    · obtain ⟨m, rfl⟩ := Int.eq_ofNat_of_zero_le h0
      have hm : m < G.edges.length := by omega
      have hx := List.getElem?_eq_getElem hm
      have e : edgeY G.edges (m : Int) = .tuple [dE G.edges[m], .bool true] := by unfold edgeY; rw [if_pos ⟨h0, h1⟩, Int.toNat_natCast, hx]; rfl
      rw [e]
      generalize G.edges[m] = x at hx
      have hxd : (G.edges.map dE)[m]? = some (.agg [.int .i64 x.a, .int .i64 x.b]) := by rw [List.getElem?_map, hx]; rfl
      ((conv => whnf); repeat' ((first | refine odw ?_ | refine ify ?_ | refine ifn ?_ | refine i6 ?_ | refine ati ?_ | refine mst ?_ | refine rmd ?_ | refine ibo (fun _ => ?_) (fun _ => ?_)) <;> conv => whnf))
      refine call_pure rfl (size_pure G) ?_; rintro y rfl
      (repeat' ((first | refine ord_ok (by (conv => whnf); (repeat' ((first | refine at_da hxd rfl ?_ | refine ify ?_ | refine ifn ?_ | refine i6 ?_ | refine ati ?_ | refine mst ?_ | refine rmd ?_ | refine ibo (fun _ => ?_) (fun _ => ?_)) <;> conv => whnf)); (all_goals (repeat' (first | exact trivial | exact rfl | refine And.intro ?_ ?_)))) ?_ | refine at_da hxd rfl ?_ | refine ify ?_ | refine ifn ?_ | refine i6 ?_ | refine ati ?_ | refine mst ?_ | refine rmd ?_ | refine ibo (fun _ => ?_) (fun _ => ?_)) <;> conv => whnf))
      exact rfl
    · have e : edgeY G.edges id = .tuple [dE ⟨0, 0⟩, .bool false] := by unfold edgeY; rw [if_neg (by omega)]
      rw [e]
      ((conv => whnf); repeat' ((first | refine odw ?_ | refine ify ?_ | refine ifn ?_ | refine i6 ?_ | refine ati ?_ | refine mst ?_ | refine rmd ?_ | refine ibo (fun _ => ?_) (fun _ => ?_)) <;> conv => whnf))
      refine call_pure rfl (size_pure G) ?_; rintro y rfl
      ((conv => whnf); repeat' ((first | refine odw ?_ | refine ify ?_ | refine ifn ?_ | refine i6 ?_ | refine ati ?_ | refine mst ?_ | refine rmd ?_ | refine ibo (fun _ => ?_) (fun _ => ?_)) <;> conv => whnf))
      exact rfl
  · have e : edgeY G.edges id = .tuple [dE ⟨0, 0⟩, .bool false] := by unfold edgeY; rw [if_neg (by omega)]
    rw [e]
    ((conv => whnf); repeat' ((first | refine odw ?_ | refine ify ?_ | refine ifn ?_ | refine i6 ?_ | refine ati ?_ | refine mst ?_ | refine rmd ?_ | refine ibo (fun _ => ?_) (fun _ => ?_)) <;> conv => whnf))
    exact rfl
def pl_gnear : List (Nat × Plan) := [(3, .leaf [0, 0, 0, 1, 0, 0, 0, 1, 0, 0, 1, 0, 0, 0, 1, 0, 0, 0, 1, 0, 2, 0] [0, 1, 2, 4, 5, 6, 8, 11, 12, 13, 15, 16, 3, 7, 9, 10, 14, 17, 18, 19, 20, 21] [0, 1, 3, 7, 0, 16, 48, 112, 0, 496, 1008, 0, 2048, 6144, 14336, 0, 32768, 129024, 260096, 524287, 1048575, 2097151])]
def G_gnear : List FuncId := [60]
theorem cok_gnear : codeOk Tryz.prog G_gnear pl_gnear (Tryz.f179.body.getD .skip) = true := by kernel_rfl
theorem run_gnear (vs : Array Value) (w : World) : (callFunc 179 vs).run C1.P w = .ok (.enter 179 vs) w := by kernel_rfl
def nearY (G : Gr) (v : Int) : Da := if 0 ≤ v ∧ v < G.labels.length then dIs (nearOf G.edges v.toNat) else .nils
theorem firstL_at {n v : Nat} (E : List Edg) (h : v ≤ n) : ((firstL n E).map dI)[v]? = some (.int .i64 (off (deg E) v)) := by
  rw [List.getElem?_map, firstL, List.getElem?_map, List.getElem?_range (by omega)]; rfl
theorem near_cut {n v : Nat} (E : List Edg) (h : v < n) : (((nearL n E).map dI).take (off (deg E) (v + 1))).drop (off (deg E) v) = (nearOf E v).map dI := by
  rw [← List.map_take, ← List.map_drop, nearL, flat_cut (nearOf E) (deg E) (fun _ => rfl) h]
theorem near_pure (G : Gr) (hG : G.Ok) (v : Int) : Pure C1 179 [dG G, .int .i64 v] (fun y => y = nearY G v) := by
  refine pure_of c1_ok (pl := pl_gnear) (G := G_gnear) Tryz.func179 rfl Tryz.ntmps179 run_gnear cok_gnear (by simp) ?_
  by_cases h : 0 ≤ v ∧ v < G.labels.length
  · obtain ⟨m, rfl⟩ := Int.eq_ofNat_of_zero_le h.1
    have hm : m < G.labels.length := by omega
    have e : nearY G (m : Int) = dIs (nearOf G.edges m) := by unfold nearY; rw [if_pos h, Int.toNat_natCast]
    rw [e]
    have hs := hG.size
    have h1 := firstL_at G.edges (n := G.labels.length) (v := m) (by omega)
    have h2 := firstL_at G.edges (n := G.labels.length) (v := m + 1) (by omega)
    ((conv => whnf); repeat' ((first | refine odw ?_ | refine ify ?_ | refine ifn ?_ | refine i6 ?_ | refine ati ?_ | refine mst ?_ | refine rmd ?_ | refine ibo (fun _ => ?_) (fun _ => ?_)) <;> conv => whnf))
    refine call_pure rfl (has_pure G m) ?_; rintro y rfl
    rw [hasV_yes h.1 h.2]
    (conv => whnf)
    (repeat' ((first | refine ord_ok (by (conv => whnf); (repeat' ((first | refine at_da h1 rfl ?_ | refine at_da h2 rfl ?_ | refine ify ?_ | refine ifn ?_ | refine i6 ?_ | refine ati ?_ | refine mst ?_ | refine rmd ?_ | refine ibo (fun _ => ?_) (fun _ => ?_)) <;> conv => whnf)); (all_goals (repeat' (first | exact trivial | exact rfl | refine And.intro ?_ ?_)))) ?_ | refine at_da h1 rfl ?_ | refine at_da h2 rfl ?_ | refine ify ?_ | refine ifn ?_ | refine i6 ?_ | refine ati ?_ | refine mst ?_ | refine rmd ?_ | refine ibo (fun _ => ?_) (fun _ => ?_)) <;> conv => whnf))
    refine ⟨_, _, rfl, rfl, off_mono _ (by omega), ?_, ?_⟩
    · rw [List.length_map, nearL, off_flat (nearOf G.edges) (deg G.edges) (fun _ => rfl)]; exact off_mono _ (by omega)
    rw [near_cut G.edges hm]
    (conv => whnf)
    have hb := deg_le G.edges m
    have hes := hG.esize
    refine call_mksl 29 rfl rfl (clone_sl (nearOf G.edges m) (by unfold deg at hb; omega)) ?_; rintro ds rfl
    ((conv => whnf); repeat' ((first | refine odw ?_ | refine ify ?_ | refine ifn ?_ | refine i6 ?_ | refine ati ?_ | refine mst ?_ | refine rmd ?_ | refine ibo (fun _ => ?_) (fun _ => ?_)) <;> conv => whnf))
    exact rfl
  · have e : nearY G v = .nils := by unfold nearY; rw [if_neg h]
    rw [e]
    ((conv => whnf); repeat' ((first | refine odw ?_ | refine ify ?_ | refine ifn ?_ | refine i6 ?_ | refine ati ?_ | refine mst ?_ | refine rmd ?_ | refine ibo (fun _ => ?_) (fun _ => ?_)) <;> conv => whnf))
    refine call_pure rfl (has_pure G v) ?_; rintro y rfl
    rw [hasV_no h]
    ((conv => whnf); repeat' ((first | refine odw ?_ | refine ify ?_ | refine ifn ?_ | refine i6 ?_ | refine ati ?_ | refine mst ?_ | refine rmd ?_ | refine ibo (fun _ => ?_) (fun _ => ?_)) <;> conv => whnf))
    exact rfl
def pl_gdeg : List (Nat × Plan) := []
def G_gdeg : List FuncId := []
theorem cok_gdeg : codeOk Tryz.prog G_gdeg pl_gdeg (Tryz.f216.body.getD .skip) = true := by kernel_rfl
theorem run_gdeg (vs : Array Value) (w : World) : (callFunc 216 vs).run C1.P w = .ok (.enter 216 vs) w := by kernel_rfl
def degV (G : Gr) (v : Int) : Nat := if 0 ≤ v ∧ v < G.labels.length then deg G.edges v.toNat else 0
theorem degree_pure (G : Gr) (hG : G.Ok) (v : Int) : Pure C1 216 [dG G, .int .i64 v] (fun y => y = .int .i64 (degV G v)) := by
  refine pure_of c1_ok (pl := pl_gdeg) (G := G_gdeg) Tryz.func216 rfl Tryz.ntmps216 run_gdeg cok_gdeg (by simp) ?_
  ((conv => whnf); repeat' ((first | refine odw ?_ | refine ify ?_ | refine ifn ?_ | refine i6 ?_ | refine ati ?_ | refine mst ?_ | refine rmd ?_ | refine ibo (fun _ => ?_) (fun _ => ?_)) <;> conv => whnf))
  refine call_pure rfl (near_pure G hG v) ?_; rintro y rfl
  by_cases h : 0 ≤ v ∧ v < G.labels.length
  · have e : nearY G v = dIs (nearOf G.edges v.toNat) := by unfold nearY; rw [if_pos h]
    have e2 : degV G v = ((nearOf G.edges v.toNat).map dI).length := by unfold degV; rw [if_pos h, List.length_map]; rfl
    rw [e, e2]
    ((conv => whnf); repeat' ((first | refine odw ?_ | refine ify ?_ | refine ifn ?_ | refine i6 ?_ | refine ati ?_ | refine mst ?_ | refine rmd ?_ | refine ibo (fun _ => ?_) (fun _ => ?_)) <;> conv => whnf))
    exact rfl
  · have e : nearY G v = .nils := by unfold nearY; rw [if_neg h]
    have e2 : degV G v = 0 := by unfold degV; rw [if_neg h]
    rw [e, e2]
    ((conv => whnf); repeat' ((first | refine odw ?_ | refine ify ?_ | refine ifn ?_ | refine i6 ?_ | refine ati ?_ | refine mst ?_ | refine rmd ?_ | refine ibo (fun _ => ?_) (fun _ => ?_)) <;> conv => whnf))
    exact rfl
end Go.Proofs.YtaadeobcnamgdaaGreatDoor
end

section
/- Graphs: At. -/
namespace Go.Proofs.YtaadeobcnamgdaaGreatDoor
open Go.Sx Go.RowKit Go.Reg Go.Gr

set_option maxRecDepth 100000
theorem values_pure (l : List Int) : Pure C1 209 [dIs l] (fun y => y = .func (.func 244) [] [.ref (dIs l)]) := by
  refine pure_of c1_ok (pl := []) (G := []) Tryz.func209 rfl Tryz.ntmps209 (by intro vs w; kernel_rfl) (by kernel_rfl) (by simp) ?_
  ((conv => whnf); repeat' ((first | refine odw ?_ | refine ify ?_ | refine ifn ?_ | refine i6 ?_ | refine ati ?_ | refine mst ?_ | refine rmd ?_ | refine ibo (fun _ => ?_) (fun _ => ?_)) <;> conv => whnf))
  exact rfl
theorem sorted_self {l : List Int} (h : l.Pairwise (· < ·)) : l.mergeSort (fun x y => decide (x ≤ y)) = l :=
  List.mergeSort_of_pairwise (h.imp fun h => by simp; omega)
theorem idsOf_len (E : List Edg) (v : Nat) : (idsOf E v).length = deg E v := by
  rw [idsOf, List.length_append, (ids_len E v).1, (ids_len E v).2, deg, nearOf, List.length_append]
theorem ids_cut {n v : Nat} (E : List Edg) (h : v < n) : (((idsL n E).map dI).take (off (deg E) (v + 1))).drop (off (deg E) v) = (idsOf E v).map dI := by
  rw [← List.map_take, ← List.map_drop, idsL, flat_cut (idsOf E) (deg E) (idsOf_len E) h]
def pl_gat : List (Nat × Plan) := [(3, .leaf [0, 0, 0, 1, 0, 0, 0, 1, 0, 0, 1, 0, 0, 0, 1, 0, 0, 0, 1, 0, 2, 2, 0] [0, 1, 2, 4, 5, 6, 8, 11, 12, 13, 15, 16, 3, 7, 9, 10, 14, 17, 18, 19, 20, 21, 22] [0, 1, 3, 7, 0, 16, 48, 112, 0, 496, 1008, 0, 2048, 6144, 14336, 0, 32768, 129024, 260096, 524287, 1048575, 2097151, 4194303])]
def G_gat : List FuncId := [209, 208]
theorem cok_gat : codeOk Tryz.prog G_gat pl_gat (Tryz.f157.body.getD .skip) = true := by kernel_rfl
theorem run_gat (vs : Array Value) (w : World) : (callFunc 157 vs).run C1.P w = .ok (.enter 157 vs) w := by kernel_rfl
def atY (G : Gr) (v : Int) : Da := if 0 ≤ v ∧ v < G.labels.length then dIs (atD G.edges v.toNat) else .nils
theorem at_pure (G : Gr) (hG : G.Ok) (v : Int) : Pure C1 157 [dG G, .int .i64 v] (fun y => y = atY G v) := by
  refine pure_of c1_ok (pl := pl_gat) (G := G_gat) Tryz.func157 rfl Tryz.ntmps157 run_gat cok_gat (by simp) ?_
  by_cases h : 0 ≤ v ∧ v < G.labels.length
  · obtain ⟨m, rfl⟩ := Int.eq_ofNat_of_zero_le h.1
    have hm : m < G.labels.length := by omega
    have e : atY G (m : Int) = dIs (idsOf G.edges m) := by unfold atY; rw [if_pos h, Int.toNat_natCast, ids_doc hG]
    rw [e]
    have hs := hG.size
    have h1 := firstL_at G.edges (n := G.labels.length) (v := m) (by omega)
    have h2 := firstL_at G.edges (n := G.labels.length) (v := m + 1) (by omega)
    ((conv => whnf); repeat' ((first | refine odw ?_ | refine ify ?_ | refine ifn ?_ | refine i6 ?_ | refine ati ?_ | refine mst ?_ | refine rmd ?_ | refine ibo (fun _ => ?_) (fun _ => ?_)) <;> conv => whnf))
    refine call_pure rfl (has_pure G m) ?_; rintro y rfl
    rw [hasV_yes h.1 h.2]
    (conv => whnf)
    (repeat' ((first | refine ord_ok (by (conv => whnf); (repeat' ((first | refine at_da h1 rfl ?_ | refine at_da h2 rfl ?_ | refine ify ?_ | refine ifn ?_ | refine i6 ?_ | refine ati ?_ | refine mst ?_ | refine rmd ?_ | refine ibo (fun _ => ?_) (fun _ => ?_)) <;> conv => whnf)); (all_goals (repeat' (first | exact trivial | exact rfl | refine And.intro ?_ ?_)))) ?_ | refine at_da h1 rfl ?_ | refine at_da h2 rfl ?_ | refine ify ?_ | refine ifn ?_ | refine i6 ?_ | refine ati ?_ | refine mst ?_ | refine rmd ?_ | refine ibo (fun _ => ?_) (fun _ => ?_)) <;> conv => whnf))
    refine ⟨_, _, rfl, rfl, off_mono _ (by omega), ?_, ?_⟩
    · rw [List.length_map, idsL, off_flat (idsOf G.edges) (deg G.edges) (idsOf_len G.edges)]; exact off_mono _ (by omega)
    rw [ids_cut G.edges hm]
    (conv => whnf)
    have hb := deg_le G.edges m
    have hes := hG.esize
    refine call_pure rfl (values_pure (idsOf G.edges m)) ?_; rintro y rfl
    (conv => whnf)
    refine call_pure rfl (sorted_pure (idsOf G.edges m) (by rw [idsOf_len]; omega)) ?_; rintro y rfl
    rw [sorted_self (ids_rise hG m)]
    ((conv => whnf); repeat' ((first | refine odw ?_ | refine ify ?_ | refine ifn ?_ | refine i6 ?_ | refine ati ?_ | refine mst ?_ | refine rmd ?_ | refine ibo (fun _ => ?_) (fun _ => ?_)) <;> conv => whnf))
    exact rfl
  · have e : atY G v = .nils := by unfold atY; rw [if_neg h]
    rw [e]
    ((conv => whnf); repeat' ((first | refine odw ?_ | refine ify ?_ | refine ifn ?_ | refine i6 ?_ | refine ati ?_ | refine mst ?_ | refine rmd ?_ | refine ibo (fun _ => ?_) (fun _ => ?_)) <;> conv => whnf))
    refine call_pure rfl (has_pure G v) ?_; rintro y rfl
    rw [hasV_no h]
    ((conv => whnf); repeat' ((first | refine odw ?_ | refine ify ?_ | refine ifn ?_ | refine i6 ?_ | refine ati ?_ | refine mst ?_ | refine rmd ?_ | refine ibo (fun _ => ?_) (fun _ => ?_)) <;> conv => whnf))
    exact rfl
end Go.Proofs.YtaadeobcnamgdaaGreatDoor
end
