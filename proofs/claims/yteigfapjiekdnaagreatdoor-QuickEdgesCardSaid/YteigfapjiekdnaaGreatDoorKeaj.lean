/- Merged: Grh Pte Qip. -/
import Derived.Test.YteigfapjiekdnaaGreatDoorKeah
import Derived.Test.YteigfapjiekdnaaGreatDoorKeaf
import Derived.Test.YteigfapjiekdnaaGreatDoorKeai
import Derived.Test.YteigfapjiekdnaaGreatDoorKeaa
section
/- Graphs: what a graph tells: Len, Size, Edge, Label, Near, Degree. -/
namespace Go.Proofs.YteigfapjiekdnaaGreatDoor
open Go.Sx Go.RowKit Go.Reg Go.Gr

set_option maxRecDepth 100000
def pl_glen : List (Nat × Plan) := []
def G_glen : List FuncId := []
theorem cok_glen : codeOk Tryz.prog G_glen pl_glen (Tryz.f12.body.getD .skip) = true := by kernel_rfl
theorem run_glen (vs : Array Value) (w : World) : (callFunc 12 vs).run C1.P w = .ok (.enter 12 vs) w := by kernel_rfl
theorem len_pure (G : Gr) : Pure C1 12 [dG G] (fun y => y = .int .i64 G.labels.length) := by
  have hl : (G.labels.map dI).length = G.labels.length := List.length_map _
  refine pure_of c1_ok (pl := pl_glen) (G := G_glen) Tryz.func12 rfl Tryz.ntmps12 run_glen cok_glen (by simp) ?_
  ((conv => whnf); repeat' ((first | refine odw ?_ | refine ify ?_ | refine ifn ?_ | refine i6 ?_ | refine ati ?_ | refine mst ?_ | refine rmd ?_ | refine ibo (fun _ => ?_) (fun _ => ?_)) <;> conv => whnf))
  show Da.int .i64 _ = _
  rw [hl]
def pl_gsize : List (Nat × Plan) := []
def G_gsize : List FuncId := []
theorem cok_gsize : codeOk Tryz.prog G_gsize pl_gsize (Tryz.f173.body.getD .skip) = true := by kernel_rfl
theorem run_gsize (vs : Array Value) (w : World) : (callFunc 173 vs).run C1.P w = .ok (.enter 173 vs) w := by kernel_rfl
theorem size_pure (G : Gr) : Pure C1 173 [dG G] (fun y => y = .int .i64 G.edges.length) := by
  have hl : (G.edges.map dE).length = G.edges.length := List.length_map _
  refine pure_of c1_ok (pl := pl_gsize) (G := G_gsize) Tryz.func173 rfl Tryz.ntmps173 run_gsize cok_gsize (by simp) ?_
  ((conv => whnf); repeat' ((first | refine odw ?_ | refine ify ?_ | refine ifn ?_ | refine i6 ?_ | refine ati ?_ | refine mst ?_ | refine rmd ?_ | refine ibo (fun _ => ?_) (fun _ => ?_)) <;> conv => whnf))
  show Da.int .i64 _ = _
  rw [hl]
def pl_ghas : List (Nat × Plan) := []
def G_ghas : List FuncId := []
theorem cok_ghas : codeOk Tryz.prog G_ghas pl_ghas (Tryz.f51.body.getD .skip) = true := by kernel_rfl
theorem run_ghas (vs : Array Value) (w : World) : (callFunc 51 vs).run C1.P w = .ok (.enter 51 vs) w := by kernel_rfl
def hasV (G : Gr) (v : Int) : Bool := decide (0 ≤ v ∧ v < G.labels.length)
theorem has_pure (G : Gr) (v : Int) : Pure C1 51 [dG G, .int .i64 v] (fun y => y = .bool (hasV G v)) := by
  refine pure_of c1_ok (pl := pl_ghas) (G := G_ghas) Tryz.func51 rfl Tryz.ntmps51 run_ghas cok_ghas (by simp) ?_
  by_cases h0 : 0 ≤ v
  · ((conv => whnf); repeat' ((first | refine odw ?_ | refine ify ?_ | refine ifn ?_ | refine i6 ?_ | refine ati ?_ | refine mst ?_ | refine rmd ?_ | refine ibo (fun _ => ?_) (fun _ => ?_)) <;> conv => whnf))
    refine call_pure rfl (len_pure G) ?_; rintro y rfl
    by_cases h1 : v < G.labels.length
    · have : hasV G v = true := by simp [hasV, h0, h1]
      rw [this]
      ((conv => whnf); repeat' ((first | refine odw ?_ | refine ify ?_ | refine ifn ?_ | refine i6 ?_ | refine ati ?_ | refine mst ?_ | refine rmd ?_ | refine ibo (fun _ => ?_) (fun _ => ?_)) <;> conv => whnf))
      show Da.plain _ = _
      simp [Da.plain, h1]
    · have : hasV G v = false := by simp [hasV, h1]
      rw [this]
      ((conv => whnf); repeat' ((first | refine odw ?_ | refine ify ?_ | refine ifn ?_ | refine i6 ?_ | refine ati ?_ | refine mst ?_ | refine rmd ?_ | refine ibo (fun _ => ?_) (fun _ => ?_)) <;> conv => whnf))
      show Da.plain _ = _
      simp [Da.plain, h1]
  · have : hasV G v = false := by simp [hasV, h0]
    rw [this]
    ((conv => whnf); repeat' ((first | refine odw ?_ | refine ify ?_ | refine ifn ?_ | refine i6 ?_ | refine ati ?_ | refine mst ?_ | refine rmd ?_ | refine ibo (fun _ => ?_) (fun _ => ?_)) <;> conv => whnf))
    exact rfl
theorem hasV_yes {G : Gr} {v : Int} (h : 0 ≤ v) (h2 : v < G.labels.length) : hasV G v = true := by simp [hasV, h, h2]
theorem hasV_no {G : Gr} {v : Int} (h : ¬ (0 ≤ v ∧ v < G.labels.length)) : hasV G v = false := by simp only [hasV, decide_eq_false_iff_not]; exact h
def pl_glabel : List (Nat × Plan) := []
def G_glabel : List FuncId := []
theorem cok_glabel : codeOk Tryz.prog G_glabel pl_glabel (Tryz.f13.body.getD .skip) = true := by kernel_rfl
theorem run_glabel (vs : Array Value) (w : World) : (callFunc 13 vs).run C1.P w = .ok (.enter 13 vs) w := by kernel_rfl
def labelV (G : Gr) (v : Int) : Int := if 0 ≤ v ∧ v < G.labels.length then (G.labels[v.toNat]?).getD 0 else -1
theorem label_pure (G : Gr) (v : Int) : Pure C1 13 [dG G, .int .i64 v] (fun y => y = .int .i64 (labelV G v)) := by
  refine pure_of c1_ok (pl := pl_glabel) (G := G_glabel) Tryz.func13 rfl Tryz.ntmps13 run_glabel cok_glabel (by simp) ?_
  by_cases h : 0 ≤ v ∧ v < G.labels.length
  · obtain ⟨m, rfl⟩ := Int.eq_ofNat_of_zero_le h.1
    have hm : m < G.labels.length := by omega
    have hx := List.getElem?_eq_getElem hm
    have e : labelV G (m : Int) = G.labels[m] := by unfold labelV; rw [if_pos h, Int.toNat_natCast, hx]; rfl
    rw [e]
    generalize G.labels[m] = x at hx
    have hxd : (G.labels.map dI)[m]? = some (.int .i64 x) := by rw [List.getElem?_map, hx]; rfl
    ((conv => whnf); repeat' ((first | refine odw ?_ | refine ify ?_ | refine ifn ?_ | refine i6 ?_ | refine ati ?_ | refine mst ?_ | refine rmd ?_ | refine ibo (fun _ => ?_) (fun _ => ?_)) <;> conv => whnf))
    refine call_pure rfl (has_pure G m) ?_; rintro y rfl
    rw [hasV_yes h.1 h.2]
    (repeat' ((first | refine ord_ok (by (conv => whnf); (repeat' ((first | refine at_da hxd rfl ?_ | refine ify ?_ | refine ifn ?_ | refine i6 ?_ | refine ati ?_ | refine mst ?_ | refine rmd ?_ | refine ibo (fun _ => ?_) (fun _ => ?_)) <;> conv => whnf)); (all_goals (repeat' (first | exact trivial | exact rfl | refine And.intro ?_ ?_)))) ?_ | refine at_da hxd rfl ?_ | refine ify ?_ | refine ifn ?_ | refine i6 ?_ | refine ati ?_ | refine mst ?_ | refine rmd ?_ | refine ibo (fun _ => ?_) (fun _ => ?_)) <;> conv => whnf))
    exact rfl
  · have e : labelV G v = -1 := by unfold labelV; rw [if_neg h]
    rw [e]
    ((conv => whnf); repeat' ((first | refine odw ?_ | refine ify ?_ | refine ifn ?_ | refine i6 ?_ | refine ati ?_ | refine mst ?_ | refine rmd ?_ | refine ibo (fun _ => ?_) (fun _ => ?_)) <;> conv => whnf))
    refine call_pure rfl (has_pure G v) ?_; rintro y rfl
    rw [hasV_no h]
    ((conv => whnf); repeat' ((first | refine odw ?_ | refine ify ?_ | refine ifn ?_ | refine i6 ?_ | refine ati ?_ | refine mst ?_ | refine rmd ?_ | refine ibo (fun _ => ?_) (fun _ => ?_)) <;> conv => whnf))
    exact rfl
def pl_gedge : List (Nat × Plan) := []
def G_gedge : List FuncId := []
theorem cok_gedge : codeOk Tryz.prog G_gedge pl_gedge (Tryz.f141.body.getD .skip) = true := by kernel_rfl
theorem run_gedge (vs : Array Value) (w : World) : (callFunc 141 vs).run C1.P w = .ok (.enter 141 vs) w := by kernel_rfl
def edgeY (E : List Edg) (id : Int) : Da := if 0 ≤ id ∧ id < E.length then .tuple [dE ((E[id.toNat]?).getD ⟨0, 0⟩), .bool true] else .tuple [dE ⟨0, 0⟩, .bool false]
theorem edge_pure (G : Gr) (id : Int) : Pure C1 141 [dG G, .int .i64 id] (fun y => y = edgeY G.edges id) := by
  refine pure_of c1_ok (pl := pl_gedge) (G := G_gedge) Tryz.func141 rfl Tryz.ntmps141 run_gedge cok_gedge (by simp) ?_
  by_cases h0 : 0 ≤ id
  · by_cases h1 : id < G.edges.length
    · obtain ⟨m, rfl⟩ := Int.eq_ofNat_of_zero_le h0
      have hm : m < G.edges.length := by omega
      have hx := List.getElem?_eq_getElem hm
      have e : edgeY G.edges (m : Int) = .tuple [dE G.edges[m], .bool true] := by unfold edgeY; rw [if_pos ⟨h0, h1⟩, Int.toNat_natCast, hx]; rfl
      rw [e]
      generalize G.edges[m] = x at hx
      have hxd : (G.edges.map dE)[m]? = some (.agg [.int .i64 x.a, .int .i64 x.b]) := by rw [List.getElem?_map, hx]; rfl
      ((conv => whnf); repeat' ((first | refine odw ?_ | refine ify ?_ | refine ifn ?_ | refine i6 ?_ | refine ati ?_ | refine mst ?_ | refine rmd ?_ | refine ibo (fun _ => ?_) (fun _ => ?_)) <;> conv => whnf))
      refine call_pure rfl (size_pure G) ?_; rintro y rfl
      (repeat' ((first | refine ord_ok (by (conv => whnf); (repeat' ((first | refine at_da hxd rfl ?_ | refine ify ?_ | refine ifn ?_ | refine i6 ?_ | refine ati ?_ | refine mst ?_ | refine rmd ?_ | refine ibo (fun _ => ?_) (fun _ => ?_)) <;> conv => whnf)); (all_goals (repeat' (first | exact trivial | exact rfl | refine And.intro ?_ ?_)))) ?_ | refine at_da hxd rfl ?_ | refine ify ?_ | refine ifn ?_ | refine i6 ?_ | refine ati ?_ | refine mst ?_ | refine rmd ?_ | refine ibo (fun _ => ?_) (fun _ => ?_)) <;> conv => whnf))
      exact rfl
    · have e : edgeY G.edges id = .tuple [dE ⟨0, 0⟩, .bool false] := by unfold edgeY; rw [if_neg (by omega)]
      rw [e]
      ((conv => whnf); repeat' ((first | refine odw ?_ | refine ify ?_ | refine ifn ?_ | refine i6 ?_ | refine ati ?_ | refine mst ?_ | refine rmd ?_ | refine ibo (fun _ => ?_) (fun _ => ?_)) <;> conv => whnf))
      refine call_pure rfl (size_pure G) ?_; rintro y rfl
      ((conv => whnf); repeat' ((first | refine odw ?_ | refine ify ?_ | refine ifn ?_ | refine i6 ?_ | refine ati ?_ | refine mst ?_ | refine rmd ?_ | refine ibo (fun _ => ?_) (fun _ => ?_)) <;> conv => whnf))
      exact rfl
  · have e : edgeY G.edges id = .tuple [dE ⟨0, 0⟩, .bool false] := by unfold edgeY; rw [if_neg (by omega)]
    rw [e]
    ((conv => whnf); repeat' ((first | refine odw ?_ | refine ify ?_ | refine ifn ?_ | refine i6 ?_ | refine ati ?_ | refine mst ?_ | refine rmd ?_ | refine ibo (fun _ => ?_) (fun _ => ?_)) <;> conv => whnf))
    exact rfl
end Go.Proofs.YteigfapjiekdnaaGreatDoor
end

section
/- ref08: Made. ref12: Whole. law08: Of. -/
namespace Go.Gr
/-- pairs of places, the lesser first, of which f is told -/
def rowF (f : Nat → Nat → Bool) (a b : Nat) : List Edg := ((List.range b).filter fun x => decide (a < x) && f a x).map fun x : Nat => ⟨(a : Int), (x : Int)⟩
def rowsF (f : Nat → Nat → Bool) (n a : Nat) : List Edg := (List.range a).flatMap fun j => rowF f j n
theorem mem_rowsF {f : Nat → Nat → Bool} {n a : Nat} {e : Edg} : e ∈ rowsF f n a ↔ ∃ j x : Nat, j < a ∧ x < n ∧ j < x ∧ f j x = true ∧ e = ⟨(j : Int), (x : Int)⟩ := by
  simp only [rowsF, rowF, List.mem_flatMap, List.mem_range, List.mem_map, List.mem_filter, Bool.and_eq_true, decide_eq_true_eq]
  constructor
  · rintro ⟨j, hj, x, ⟨h1, h2, h3⟩, rfl⟩; exact ⟨j, x, hj, h1, h2, h3, rfl⟩
  · rintro ⟨j, x, hj, h1, h2, h3, rfl⟩; exact ⟨j, hj, x, ⟨h1, h2, h3⟩, rfl⟩
def pairF (E : List Edg) (L : List Int) (a b : Nat) : Bool := hasR E ((L[a]?).getD 0) ((L[b]?).getD 0)
/-- what a list's pattern has for edges -/
def madeE (E : List Edg) (L : List Int) : List Edg := rowsF (pairF E L) L.length L.length
end Go.Gr
end

section
/- quick, plain: all images of a pattern. -/
namespace Go.Gr
/-- may a vertex be next in an image? -/
def fitV (L : Int → Int) (H : Int → Int → Bool) (pl : Nat → Int) (ph : Nat → Nat → Bool) (whole : Bool) (l : List Int) (v : Int) : Bool :=
  decide (L v = pl l.length) && (!decide (v ∈ l) && (List.range l.length).all fun i => match l[i]? with
    | none => true
    | some u => (!ph i l.length || H u v) && (!whole || !H u v || ph i l.length))
section
variable {n : Nat} {ok : List Int → Int → Bool}
/-- lists of k more that begin with l, each place of which is right -/
def imgs (n : Nat) (ok : List Int → Int → Bool) : Nat → List Int → List (List Int)
  | 0, l => [l]
  | k + 1, l => ((List.range n).filter fun v : Nat => ok l v).flatMap fun v : Nat => imgs n ok k (l ++ [(v : Int)])
/-- all lists of one more -/
def stepL (n : Nat) (X : List (List Int)) : List (List Int) := X.flatMap fun l => ((List.range n).filter fun v : Nat => !decide ((v : Int) ∈ l)).map fun v : Nat => l ++ [(v : Int)]
def iterL (n : Nat) : Nat → List (List Int) → List (List Int)
  | 0, X => X
  | k + 1, X => iterL n k (stepL n X)
theorem iterL_succ (n : Nat) : ∀ (k : Nat) (X : List (List Int)), iterL n (k + 1) X = stepL n (iterL n k X)
  | 0, _ => rfl
  | k + 1, X => by
    show iterL n (k + 1) (stepL n X) = _
    rw [iterL_succ n k]; rfl
theorem stepL_append (n : Nat) (X Y : List (List Int)) : stepL n (X ++ Y) = stepL n X ++ stepL n Y := by simp [stepL]
theorem iterL_append (n : Nat) : ∀ (k : Nat) (X Y : List (List Int)), iterL n k (X ++ Y) = iterL n k X ++ iterL n k Y
  | 0, _, _ => rfl
  | k + 1, X, Y => by show iterL n k (stepL n (X ++ Y)) = _; rw [stepL_append, iterL_append n k]; rfl
theorem iterL_nil (n : Nat) : ∀ k : Nat, iterL n k [] = []
  | 0 => rfl
  | k + 1 => iterL_nil n k
theorem iterL_flat (n k : Nat) : ∀ X : List (List Int), iterL n k X = X.flatMap fun l => iterL n k [l]
  | [] => iterL_nil n k
  | l :: X => by
    rw [show l :: X = [l] ++ X from rfl, iterL_append, iterL_flat n k X]; rfl
/-- is each place of a list right, from the j-th on? -/
def okAll (ok : List Int → Int → Bool) (j : Nat) (L : List Int) : Bool := (List.range L.length).all fun i => decide (i < j) || (match L[i]? with | none => true | some v => ok (L.take i) v)
theorem okAll_step {ok : List Int → Int → Bool} {L : List Int} {j : Nat} {v : Int} (hv : L[j]? = some v) : okAll ok j L = (ok (L.take j) v && okAll ok (j + 1) L) := by
  have hj : j < L.length := (List.getElem?_eq_some_iff.1 hv).1
  rw [Bool.eq_iff_iff]
  simp only [okAll, Bool.and_eq_true, List.all_eq_true, List.mem_range, Bool.or_eq_true, decide_eq_true_eq]
  constructor
  · intro h
    refine ⟨?_, fun i hi => ?_⟩
    · rcases h j hj with h1 | h1
      · omega
      · rw [hv] at h1; exact h1
    · rcases h i hi with h1 | h1
      · exact .inl (by omega)
      · exact .inr h1
  · rintro ⟨h1, h2⟩ i hi
    rcases Nat.lt_trichotomy i j with h3 | h3 | h3
    · exact .inl h3
    · subst h3; right; rw [hv]; exact h1
    · rcases h2 i hi with h4 | h4
      · omega
      · exact .inr h4
theorem okAll_end {ok : List Int → Int → Bool} {L : List Int} {j : Nat} (h : L.length ≤ j) : okAll ok j L = true := by
  simp only [okAll, List.all_eq_true, List.mem_range, Bool.or_eq_true, decide_eq_true_eq]
  intro i hi; left; omega
/-- each list that comes of l begins with it -/
theorem iterL_begins (n : Nat) : ∀ (k : Nat) (l L : List Int), L ∈ iterL n k [l] → L.take l.length = l ∧ L.length = l.length + k
  | 0, l, L, h => by
    rw [List.mem_singleton.1 h]
    exact ⟨List.take_length, rfl⟩
  | k + 1, l, L, h => by
    have h : L ∈ iterL n k (stepL n [l]) := h
    rw [iterL_flat] at h
    obtain ⟨l', h1, h2⟩ := List.mem_flatMap.1 h
    simp only [stepL, List.flatMap_cons, List.flatMap_nil, List.append_nil, List.mem_map, List.mem_filter] at h1
    obtain ⟨v, _, rfl⟩ := h1
    obtain ⟨h3, h4⟩ := iterL_begins n k _ _ h2
    rw [List.length_append, List.length_singleton] at h3 h4
    refine ⟨?_, by omega⟩
    have := congrArg (List.take l.length) h3
    rw [List.take_take, Nat.min_eq_left (by omega), List.take_left' rfl] at this
    exact this
theorem imgs_eq {n : Nat} {ok : List Int → Int → Bool} (hok : ∀ l v, ok l v = true → v ∉ l) : ∀ (k : Nat) (l : List Int), imgs n ok k l = (iterL n k [l]).filter (okAll ok l.length)
  | 0, l => by simp [imgs, iterL, okAll_end (ok := ok) (Nat.le_refl _)]
  | k + 1, l => by
    show _ = (iterL n k (stepL n [l])).filter _
    rw [iterL_flat, List.filter_flatMap]
    simp only [stepL, List.flatMap_cons, List.flatMap_nil, List.append_nil, List.flatMap_map]
    unfold imgs
    generalize List.range n = R
    induction R with
    | nil => rfl
    | cons v R ih =>
      have hs : ∀ L ∈ iterL n k [l ++ [(v : Int)]], okAll ok l.length L = (ok l v && okAll ok (l.length + 1) L) := by
        intro L hL
        obtain ⟨h1, h2⟩ := iterL_begins n k _ _ hL
        rw [List.length_append, List.length_singleton] at h1 h2
        have hv : L[l.length]? = some (v : Int) := by
          have := congrArg (fun x => x[l.length]?) h1
          simp only [List.getElem?_take, Nat.lt_succ_self, if_true] at this
          rw [this, List.getElem?_append_right (Nat.le_refl _), Nat.sub_self]; rfl
        have ht : L.take l.length = l := by
          have := congrArg (List.take l.length) h1
          rw [List.take_take, Nat.min_eq_left (by omega), List.take_left' rfl] at this
          exact this
        rw [okAll_step hv, ht]
      by_cases hv : ok l (v : Int) = true
      · have hm := hok _ _ hv
        rw [List.filter_cons_of_pos (p := fun v : Nat => ok l v) hv, List.filter_cons_of_pos (by simpa using hm), List.flatMap_cons, List.flatMap_cons, ih]
        congr 1
        rw [imgs_eq hok k, List.length_append, List.length_singleton]
        refine List.filter_congr fun L hL => ?_
        rw [hs L hL, hv, Bool.true_and]
      · rw [List.filter_cons_of_neg (p := fun v : Nat => ok l v) hv, ih]
        by_cases hm : (v : Int) ∈ l
        · rw [List.filter_cons_of_neg (by simpa using hm)]
        · rw [List.filter_cons_of_pos (by simpa using hm), List.flatMap_cons]
          have : List.filter (okAll ok l.length) (iterL n k [l ++ [(v : Int)]]) = [] := by
            rw [List.filter_eq_nil_iff]
            intro L hL
            rw [hs L hL]
            simp [hv]
          rw [this, List.nil_append]
end
end Go.Gr
end
