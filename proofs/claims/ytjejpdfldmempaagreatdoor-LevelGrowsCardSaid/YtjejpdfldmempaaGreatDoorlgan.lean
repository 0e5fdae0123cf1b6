/- Merged: Lnf. -/
import Derived.Test.YtjejpdfldmempaaGreatDoorOen
import Derived.Test.YtjejpdfldmempaaGreatDoorlgam
section
namespace Go.Gr
def endsOf (E : List Edg) (l : List Int) : List Edg := l.filterMap fun id : Int => if 0 ≤ id ∧ id < E.length then E[id.toNat]? else none
def addN (out : List Int) (x : Int) : List Int := if x ∈ out then out else out ++ [x]
def vertsOf (l : List Edg) : List Int := l.foldl (fun out e => addN (addN out e.a) e.b) []
theorem vertsOf_snoc (l : List Edg) (e : Edg) : vertsOf (l ++ [e]) = addN (addN (vertsOf l) e.a) e.b := by simp [vertsOf, List.foldl_append]
theorem addN_len (out : List Int) (x : Int) : (addN out x).length ≤ out.length + 1 := by unfold addN; split <;> simp
theorem vertsOf_len (l : List Edg) : (vertsOf l).length ≤ 2 * l.length := by
 suffices h : ∀ l : List Edg, (vertsOf l.reverse).length ≤ 2 * l.length by have := h l.reverse; rwa [List.reverse_reverse, List.length_reverse] at this
 intro l
 induction l with
 | nil => simp [vertsOf]
 | cons e l ih =>
   rw [List.reverse_cons, vertsOf_snoc]
   have h1 := addN_len (addN (vertsOf l.reverse) e.a) e.b
   have h2 := addN_len (vertsOf l.reverse) e.a
   simp only [List.length_cons]; omega
theorem endsOf_snoc (E : List Edg) (l : List Int) (x : Int) : endsOf E (l ++ [x]) = endsOf E l ++ (if 0 ≤ x ∧ x < E.length then E[x.toNat]? else none).toList := by
 simp only [endsOf, List.filterMap_append, List.filterMap_cons, List.filterMap_nil]
 congr 1
theorem endsOf_in {E : List Edg} {l : List Int} {m : Nat} {e : Edg} (h : E[m]? = some e) : endsOf E (l ++ [(m : Int)]) = endsOf E l ++ [e] := by
 have := (List.getElem?_eq_some_iff.1 h).1
 rw [endsOf_snoc, if_pos ⟨by omega, by omega⟩, Int.toNat_natCast, h]; rfl
theorem endsOf_out {E : List Edg} {l : List Int} {x : Int} (h : ¬ (0 ≤ x ∧ x < E.length)) : endsOf E (l ++ [x]) = endsOf E l := by
 rw [endsOf_snoc, if_neg h]; simp
theorem endsOf_len (E : List Edg) (l : List Int) : (endsOf E l).length ≤ l.length := List.length_filterMap_le _ _
def idxI (l : List Int) (x : Int) : Int := match l.findIdx? (fun y => decide (x = y)) with | some i => (i : Int) | none => -1
theorem idxI_at {l : List Int} {x : Int} {i : Nat} (h : l[i]? = some x) (hn : ∀ y ∈ l.take i, ¬ x = y) : idxI l x = i := by
 unfold idxI
 have : l.findIdx? (fun y => decide (x = y)) = some i := by
  rw [List.findIdx?_eq_some_iff_getElem]
  obtain ⟨h1, h2⟩ := List.getElem?_eq_some_iff.1 h
  refine ⟨h1, by simp [h2], fun j hj => ?_⟩
  have := hn l[j] (List.mem_take_iff_getElem.2 ⟨j, by omega, rfl⟩)
  simp [this]
 rw [this]
theorem idxI_none {l : List Int} {x : Int} (h : ¬ x ∈ l) : idxI l x = -1 := by
 unfold idxI
 have : l.findIdx? (fun y => decide (x = y)) = none := by
  rw [List.findIdx?_eq_none_iff]
  intro y hy
  have : ¬ x = y := fun e => h (e ▸ hy)
  simp [this]
 rw [this]
theorem idxI_nonneg {l : List Int} {x : Int} (h : x ∈ l) : 0 ≤ idxI l x := by
 unfold idxI
 split
 ·omega
 ·rename_i hn
  rw [List.findIdx?_eq_none_iff] at hn
  have := hn x h
  simp at this
end Go.Gr
namespace Go.Proofs.YtjejpdfldmempaaGreatDoor
open Go.Sx Go.RowKit Go.Reg Go.Gr
set_option maxRecDepth 100000
theorem ints_len {O : List Nat} {w : World} {l : List Int} {v : Value} (h : Rep O w (dIs l) v) : l.length ≤ 9223372036854775807 := by
 have := rep_len h
 rw [List.length_map] at this
 unfold maxLen at this
 omega
theorem Pure.len1 {f : FuncId} {l : List Int} {xs : List Da} {Q : Da → Prop} (h : l.length ≤ 9223372036854775807 → Sx.Pure C1 f (dIs l :: xs) Q) : Sx.Pure C1 f (dIs l :: xs) Q :=
 Sx.Pure.assume (fun O w us hr => by obtain ⟨v, vs, rfl, h1, _⟩ := reps_inv hr; exact ints_len h1) h
def pl_h06 : List (Nat × Plan) := []
def G_h06 : List FuncId := []
theorem cok_h06 : codeOk Tryz.prog G_h06 pl_h06 (Tryz.f86.body.getD .skip) = true := by kernel_rfl
theorem run_h06 (vs : Array Value) (w : World) : (callFunc 86 vs).run C1.P w = .ok (.enter 86 vs) w := by kernel_rfl
theorem has06_pure (l : List Int) (x : Int) : Pure C1 86 [dIs l, .int .i64 x] (fun y => y = .bool (decide (x ∈ l))) := by
 refine Pure.len1 fun hm => ?_
 have hl : (l.map dI).length = l.length := List.length_map _
 refine pure_of c1_ok (pl := pl_h06) (G := G_h06) Tryz.func86 rfl Tryz.ntmps86 run_h06 cok_h06 (by simp) ?_
 ((conv => whnf); repeat' ((first | refine odw ?_ | refine ify ?_ | refine ifn ?_ | refine i6 ?_ | refine ati ?_ | refine mst ?_ | refine rmd ?_ | refine ibo (fun _ => ?_) (fun _ => ?_)) <;> conv => whnf))
 refine loop_lo (ι := Nat) (fun i => i ≤ l.length ∧ ∀ y ∈ l.take i, ¬ x = y) (fun i => [(5, .d (.int .i64 i)), (1, .d (.int .i64 x)), (0, .d (dIs l))]) (fun _ => []) (fun i => l.length - i) 0 (fun _ => rfl) ⟨Nat.zero_le _, by simp⟩ (.refl _ _) ⟨rfl, rfl, rfl, trivial⟩ trivial ?_
 rintro i ⟨hi, hne⟩
 refine sxCode_sound c1_ok (G := G_h06) (pl := pl_h06) _ _ _ _ (by kernel_rfl) ?_
 by_cases hlt : i < l.length
 ·have hx := List.getElem?_eq_getElem hlt
  generalize l[i] = y at hx
  have hxd : (l.map dI)[i]? = some (.int .i64 y) := by rw [List.getElem?_map, hx]; rfl
  by_cases he : y = x
  ·subst he
   rw [decide_eq_true (List.mem_of_getElem? hx)]
   (conv => whnf)
   (repeat' ((first | refine ord_ok ?_ ?_ | refine at_da hxd rfl ?_ | refine ify ?_ | refine ifn ?_ | refine i6 ?_ | refine ati ?_ | refine mst ?_ | refine rmd ?_ | refine ibo (fun _ => ?_) (fun _ => ?_) | exact oend) <;> conv => whnf))
   exact rfl
  ·(conv => whnf)
   (repeat' ((first | refine ord_ok ?_ ?_ | refine at_da hxd rfl ?_ | refine ify ?_ | refine ifn ?_ | refine i6 ?_ | refine ati ?_ | refine mst ?_ | refine rmd ?_ | refine ibo (fun _ => ?_) (fun _ => ?_) | exact oend) <;> conv => whnf))
   refine ⟨i + 1, _, _, ⟨hlt, ?_⟩, .refl _ _, ⟨rfl, rfl, rfl, trivial⟩, trivial, by omega⟩
   intro z hz
   rw [List.take_add_one, hx] at hz
   rcases List.mem_append.1 hz with hz | hz
   ·exact hne z hz
   ·simp at hz; subst hz; exact fun e => he e.symm
 ·have hii : l.take i = l := List.take_of_length_le (by omega)
  rw [hii] at hne
  rw [decide_eq_false (fun h => hne x h rfl)]
  ((conv => whnf); repeat' ((first | refine odw ?_ | refine ify ?_ | refine ifn ?_ | refine i6 ?_ | refine ati ?_ | refine mst ?_ | refine rmd ?_ | refine ibo (fun _ => ?_) (fun _ => ?_)) <;> conv => whnf))
  exact rfl
def pl_sidx : List (Nat × Plan) := []
def G_sidx : List FuncId := []
theorem cok_sidx : codeOk Tryz.prog G_sidx pl_sidx (Tryz.f128.body.getD .skip) = true := by kernel_rfl
theorem run_sidx (vs : Array Value) (w : World) : (callFunc 128 vs).run C1.P w = .ok (.enter 128 vs) w := by kernel_rfl
theorem index_pure (l : List Int) (x : Int) : Pure C1 128 [dIs l, .int .i64 x] (fun y => y = .int .i64 (idxI l x)) := by
 refine Pure.len1 fun hm => ?_
 have hl : (l.map dI).length = l.length := List.length_map _
 refine pure_of c1_ok (pl := pl_sidx) (G := G_sidx) Tryz.func128 rfl Tryz.ntmps128 run_sidx cok_sidx (by simp) ?_
 ((conv => whnf); repeat' ((first | refine odw ?_ | refine ify ?_ | refine ifn ?_ | refine i6 ?_ | refine ati ?_ | refine mst ?_ | refine rmd ?_ | refine ibo (fun _ => ?_) (fun _ => ?_)) <;> conv => whnf))
 refine loop_lo (ι := Nat) (fun i => i ≤ l.length ∧ ∀ y ∈ l.take i, ¬ x = y) (fun i => [(8, .d (.int .i64 i)), (7, .d (.int .i64 (l.map dI).length)), (1, .d (.int .i64 x)), (0, .d (dIs l))]) (fun _ => []) (fun i => l.length - i) 0 (fun _ => rfl) ⟨Nat.zero_le _, by simp⟩ (.refl _ _) ⟨rfl, rfl, rfl, rfl, trivial⟩ trivial ?_
 rintro i ⟨hi, hne⟩
 refine sxCode_sound c1_ok (G := G_sidx) (pl := pl_sidx) _ _ _ _ (by kernel_rfl) ?_
 by_cases hlt : i < l.length
 ·have hx := List.getElem?_eq_getElem hlt
  generalize l[i] = y at hx
  have hxd : (l.map dI)[i]? = some (.int .i64 y) := by rw [List.getElem?_map, hx]; rfl
  by_cases he : x = y
  ·subst he
   rw [idxI_at hx hne]
   (conv => whnf)
   (repeat' ((first | refine ord_ok ?_ ?_ | refine at_da hxd rfl ?_ | refine ify ?_ | refine ifn ?_ | refine i6 ?_ | refine ati ?_ | refine mst ?_ | refine rmd ?_ | refine ibo (fun _ => ?_) (fun _ => ?_) | exact oend) <;> conv => whnf))
   exact rfl
  ·(conv => whnf)
   (repeat' ((first | refine ord_ok ?_ ?_ | refine at_da hxd rfl ?_ | refine ify ?_ | refine ifn ?_ | refine i6 ?_ | refine ati ?_ | refine mst ?_ | refine rmd ?_ | refine ibo (fun _ => ?_) (fun _ => ?_) | exact oend) <;> conv => whnf))
   refine ⟨i + 1, _, _, ⟨hlt, ?_⟩, .refl _ _, ⟨rfl, rfl, rfl, rfl, trivial⟩, trivial, by omega⟩
   intro z hz
   rw [List.take_add_one, hx] at hz
   rcases List.mem_append.1 hz with hz | hz
   ·exact hne z hz
   ·simp at hz; subst hz; exact he
 ·have hii : l.take i = l := List.take_of_length_le (by omega)
  rw [hii] at hne
  rw [idxI_none (fun h => hne x h rfl)]
  ((conv => whnf); repeat' ((first | refine odw ?_ | refine ify ?_ | refine ifn ?_ | refine i6 ?_ | refine ati ?_ | refine mst ?_ | refine rmd ?_ | refine ibo (fun _ => ?_) (fun _ => ?_)) <;> conv => whnf))
  exact rfl
theorem contains_pure (l : List Int) (x : Int) : Pure C1 186 [dIs l, .int .i64 x] (fun y => y = .bool (decide (x ∈ l))) := by
 refine pure_of c1_ok (pl := []) (G := []) Tryz.func186 rfl Tryz.ntmps186 (by intro vs w; kernel_rfl) (by kernel_rfl) (by simp) ?_
 ((conv => whnf); repeat' ((first | refine odw ?_ | refine ify ?_ | refine ifn ?_ | refine i6 ?_ | refine ati ?_ | refine mst ?_ | refine rmd ?_ | refine ibo (fun _ => ?_) (fun _ => ?_)) <;> conv => whnf))
 refine call_eq rfl (index_pure l x) ?_
 by_cases h : x ∈ l
 ·have := idxI_nonneg h
  ((conv => whnf); repeat' ((first | refine odw ?_ | refine ify ?_ | refine ifn ?_ | refine i6 ?_ | refine ati ?_ | refine mst ?_ | refine rmd ?_ | refine ibo (fun _ => ?_) (fun _ => ?_)) <;> conv => whnf))
  show Da.plain _ = _
  simp [Da.plain, h, this]
 ·rw [idxI_none h]
  ((conv => whnf); repeat' ((first | refine odw ?_ | refine ify ?_ | refine ifn ?_ | refine i6 ?_ | refine ati ?_ | refine mst ?_ | refine rmd ?_ | refine ibo (fun _ => ?_) (fun _ => ?_)) <;> conv => whnf))
  show Da.plain _ = _
  simp [Da.plain, h]
def pl_s03 : List (Nat × Plan) := [(6, .leaf [0, 0, 0, 1, 0, 0, 0, 1, 0] [0, 1, 2, 4, 5, 6, 3, 7, 8] [0, 0, 3, 7, 0, 0, 48, 112, 255])]
def G_s03 : List FuncId := []
theorem cok_s03 : codeOk Tryz.prog G_s03 pl_s03 (Tryz.f28.body.getD .skip) = true := by kernel_rfl
theorem run_s03 (vs : Array Value) (w : World) : (callFunc 28 vs).run C1.P w = .ok (.enter 28 vs) w := by kernel_rfl
theorem same_pure (l r : List Int) : Pure C1 28 [dIs l, dIs r] (fun y => y = .bool (decide (l = r))) := by
 refine Pure.len1 fun hm => ?_
 have hl : (l.map dI).length = l.length := List.length_map _
 have hr : (r.map dI).length = r.length := List.length_map _
 refine pure_of c1_ok (pl := pl_s03) (G := G_s03) Tryz.func28 rfl Tryz.ntmps28 run_s03 cok_s03 (by simp) ?_
 by_cases hlen : l.length = r.length
 ·((conv => whnf); repeat' ((first | refine odw ?_ | refine ify ?_ | refine ifn ?_ | refine i6 ?_ | refine ati ?_ | refine mst ?_ | refine rmd ?_ | refine ibo (fun _ => ?_) (fun _ => ?_)) <;> conv => whnf))
  refine loop_lo (ι := Nat) (fun i => i ≤ l.length ∧ l.take i = r.take i) (fun i => [(5, .d (.int .i64 i)), (1, .d (dIs r)), (0, .d (dIs l))]) (fun _ => []) (fun i => l.length - i) 0 (fun _ => rfl) ⟨Nat.zero_le _, by simp⟩ (.refl _ _) ⟨rfl, rfl, rfl, trivial⟩ trivial ?_
  rintro i ⟨hi, he⟩
  refine sxCode_sound c1_ok (G := G_s03) (pl := pl_s03) _ _ _ _ (by kernel_rfl) ?_
  by_cases hlt : i < l.length
  ·have hx := List.getElem?_eq_getElem hlt
   have hy := List.getElem?_eq_getElem (l := r) (i := i) (by omega)
   generalize l[i] = x at hx
   generalize r[i] = y at hy
   have hxd : (l.map dI)[i]? = some (.int .i64 x) := by rw [List.getElem?_map, hx]; rfl
   have hyd : (r.map dI)[i]? = some (.int .i64 y) := by rw [List.getElem?_map, hy]; rfl
   by_cases hxy : x = y
   ·subst hxy
    (conv => whnf)
    (repeat' ((first | refine ord_ok ?_ ?_ | refine at_da hxd rfl ?_ | refine at_da hyd rfl ?_ | refine ify ?_ | refine ifn ?_ | refine i6 ?_ | refine ati ?_ | refine mst ?_ | refine rmd ?_ | refine ibo (fun _ => ?_) (fun _ => ?_) | exact oend) <;> conv => whnf))
    refine ⟨i + 1, _, _, ⟨hlt, ?_⟩, .refl _ _, ⟨rfl, rfl, rfl, trivial⟩, trivial, by omega⟩
    rw [List.take_add_one, List.take_add_one, hx, hy, he]
   ·rw [decide_eq_false (fun h => by subst h; rw [hx] at hy; cases hy; exact hxy rfl)]
    (conv => whnf)
    (repeat' ((first | refine ord_ok ?_ ?_ | refine at_da hxd rfl ?_ | refine at_da hyd rfl ?_ | refine ify ?_ | refine ifn ?_ | refine i6 ?_ | refine ati ?_ | refine mst ?_ | refine rmd ?_ | refine ibo (fun _ => ?_) (fun _ => ?_) | exact oend) <;> conv => whnf))
    exact rfl
  ·rw [List.take_of_length_le (by omega), List.take_of_length_le (by omega)] at he
   rw [decide_eq_true he]
   ((conv => whnf); repeat' ((first | refine odw ?_ | refine ify ?_ | refine ifn ?_ | refine i6 ?_ | refine ati ?_ | refine mst ?_ | refine rmd ?_ | refine ibo (fun _ => ?_) (fun _ => ?_)) <;> conv => whnf))
   exact rfl
 ·rw [decide_eq_false (fun h => hlen (by rw [h]))]
  ((conv => whnf); repeat' ((first | refine odw ?_ | refine ify ?_ | refine ifn ?_ | refine i6 ?_ | refine ati ?_ | refine mst ?_ | refine rmd ?_ | refine ibo (fun _ => ?_) (fun _ => ?_)) <;> conv => whnf))
  exact rfl
def pl_lends : List (Nat × Plan) := []
def G_lends : List FuncId := []
theorem cok_lends : codeOk Tryz.prog G_lends pl_lends (Tryz.f127.body.getD .skip) = true := by kernel_rfl
theorem run_lends (vs : Array Value) (w : World) : (callFunc 127 vs).run C1.P w = .ok (.enter 127 vs) w := by kernel_rfl
theorem ends_pure (G : Gr) (l : List Int) (hb : l.length ≤ 4294967296) : Pure C1 127 [dG G, dIs l] (fun y => y = dEs (endsOf G.edges l)) := by
 have hl : (l.map dI).length = l.length := List.length_map _
 refine pure_of c1_ok (pl := pl_lends) (G := G_lends) Tryz.func127 rfl Tryz.ntmps127 run_lends cok_lends (by simp) ?_
 ((conv => whnf); repeat' ((first | refine odw ?_ | refine ify ?_ | refine ifn ?_ | refine i6 ?_ | refine ati ?_ | refine mst ?_ | refine rmd ?_ | refine ibo (fun _ => ?_) (fun _ => ?_)) <;> conv => whnf))
 refine loop_lo (ι := Nat) (fun i => i ≤ l.length) (fun i => [(12, .d (.int .i64 i)), (11, .d (.int .i64 (l.map dI).length)), (10, .d (dIs l)), (5, .own 300), (0, .d (dG G))]) (fun i => [(300, .slice 103 2 ((endsOf G.edges (l.take i)).map dE))]) (fun i => l.length - i) 0 (fun _ => rfl) (Nat.zero_le _)
  (.own 5 300 103 2 rfl rfl (.refl _ _)) ⟨rfl, rfl, rfl, rfl, rfl, trivial⟩ ⟨rfl, trivial⟩ ?_
 intro i hi
 refine sxCode_sound c1_ok (G := G_lends) (pl := pl_lends) _ _ _ _ (by kernel_rfl) ?_
 by_cases hlt : i < l.length
 ·have hx := List.getElem?_eq_getElem hlt
  generalize l[i] = x at hx
  have hxd : (l.map dI)[i]? = some (.int .i64 x) := by rw [List.getElem?_map, hx]; rfl
  have htk : l.take (i + 1) = l.take i ++ [x] := by rw [List.take_add_one, hx]; rfl
  have hel := endsOf_len G.edges (l.take i)
  rw [List.length_take] at hel
  (conv => whnf)
  (repeat' ((first | refine ord_ok ?_ ?_ | refine at_da hxd rfl ?_ | refine ify ?_ | refine ifn ?_ | refine i6 ?_ | refine ati ?_ | refine mst ?_ | refine rmd ?_ | refine ibo (fun _ => ?_) (fun _ => ?_) | exact oend) <;> conv => whnf))
  refine call_eq rfl (edge_pure G x) ?_
  by_cases h : 0 ≤ x ∧ x < G.edges.length
  ·obtain ⟨m, rfl⟩ := Int.eq_ofNat_of_zero_le h.1
   have hy := List.getElem?_eq_getElem (show m < G.edges.length by omega)
   have e : edgeY G.edges (m : Int) = .tuple [dE G.edges[m], .bool true] := by unfold edgeY; rw [if_pos h, Int.toNat_natCast, hy]; rfl
   rw [e]
   have hen := endsOf_in (l := l.take i) hy
   generalize G.edges[m] = z at hy hen
   have hfin : (endsOf G.edges (l.take i)).map dE ++ [dE z] = (endsOf G.edges (l.take (i + 1))).map dE := by rw [htk, hen, List.map_append]; rfl
   ((conv => whnf); repeat' ((first | refine odw ?_ | refine ify ?_ | refine ifn ?_ | refine i6 ?_ | refine ati ?_ | refine mst ?_ | refine rmd ?_ | refine ibo (fun _ => ?_) (fun _ => ?_)) <;> conv => whnf))
   exact ⟨i + 1, _, _, hlt, .refl _ _, ⟨rfl, rfl, rfl, rfl, rfl, trivial⟩, ⟨slice_is hfin, trivial⟩, by omega⟩
  ·have e : edgeY G.edges x = .tuple [dE ⟨0, 0⟩, .bool false] := by unfold edgeY; rw [if_neg h]
   rw [e]
   have hfin : (endsOf G.edges (l.take i)).map dE = (endsOf G.edges (l.take (i + 1))).map dE := by rw [htk, endsOf_out h]
   ((conv => whnf); repeat' ((first | refine odw ?_ | refine ify ?_ | refine ifn ?_ | refine i6 ?_ | refine ati ?_ | refine mst ?_ | refine rmd ?_ | refine ibo (fun _ => ?_) (fun _ => ?_)) <;> conv => whnf))
   exact ⟨i + 1, _, _, hlt, .refl _ _, ⟨rfl, rfl, rfl, rfl, rfl, trivial⟩, ⟨slice_is hfin, trivial⟩, by omega⟩
 ·have hii : l.take i = l := List.take_of_length_le (by omega)
  rw [hii]
  ((conv => whnf); repeat' ((first | refine odw ?_ | refine ify ?_ | refine ifn ?_ | refine i6 ?_ | refine ati ?_ | refine mst ?_ | refine rmd ?_ | refine ibo (fun _ => ?_) (fun _ => ?_)) <;> conv => whnf))
  exact rfl
def pl_lverts : List (Nat × Plan) := []
def G_lverts : List FuncId := []
theorem cok_lverts : codeOk Tryz.prog G_lverts pl_lverts (Tryz.f126.body.getD .skip) = true := by kernel_rfl
theorem run_lverts (vs : Array Value) (w : World) : (callFunc 126 vs).run C1.P w = .ok (.enter 126 vs) w := by kernel_rfl
theorem verts_pure (G : Gr) (l : List Int) (hb : l.length ≤ 2147483000) : Pure C1 126 [dG G, dIs l] (fun y => y = dIs (vertsOf (endsOf G.edges l))) := by
 refine pure_of c1_ok (pl := pl_lverts) (G := G_lverts) Tryz.func126 rfl Tryz.ntmps126 run_lverts cok_lverts (by simp) ?_
 ((conv => whnf); repeat' ((first | refine odw ?_ | refine ify ?_ | refine ifn ?_ | refine i6 ?_ | refine ati ?_ | refine mst ?_ | refine rmd ?_ | refine ibo (fun _ => ?_) (fun _ => ?_)) <;> conv => whnf))
 refine call_eq rfl (ends_pure G l (by omega)) ?_
 have hL := endsOf_len G.edges l
 generalize endsOf G.edges l = L at hL ⊢
 have hl : (L.map dE).length = L.length := List.length_map _
 ((conv => whnf); repeat' ((first | refine odw ?_ | refine ify ?_ | refine ifn ?_ | refine i6 ?_ | refine ati ?_ | refine mst ?_ | refine rmd ?_ | refine ibo (fun _ => ?_) (fun _ => ?_)) <;> conv => whnf))
 refine loop_lo (ι := Nat) (fun i => i ≤ L.length) (fun i => [(14, .d (.int .i64 i)), (13, .d (.int .i64 (L.map dE).length)), (12, .d (dEs L)), (5, .own 300)]) (fun i => [(300, .slice 3 1 ((vertsOf (L.take i)).map dI))]) (fun i => L.length - i) 0 (fun _ => rfl) (Nat.zero_le _)
  (.own 5 300 3 1 rfl rfl (.refl _ _)) ⟨rfl, rfl, rfl, rfl, trivial⟩ ⟨rfl, trivial⟩ ?_
 intro i hi
 refine sxCode_sound c1_ok (G := G_lverts) (pl := pl_lverts) _ _ _ _ (by kernel_rfl) ?_
 by_cases hlt : i < L.length
 ·have hx := List.getElem?_eq_getElem hlt
  have htk := fun x (h : L[i]? = some x) => take_snoc h
  have hvl := vertsOf_len (L.take i)
  rw [List.length_take] at hvl
  generalize L[i] = e at hx
  obtain ⟨ea, eb⟩ := e
  have hxd : (L.map dE)[i]? = some (.agg [.int .i64 ea, .int .i64 eb]) := by rw [List.getElem?_map, hx]; rfl
  have hst : vertsOf (L.take (i + 1)) = addN (addN (vertsOf (L.take i)) ea) eb := by rw [htk _ hx, vertsOf_snoc]
  generalize vertsOf (L.take i) = out at hst hvl ⊢
  (conv => whnf)
  (repeat' ((first | refine ord_ok ?_ ?_ | refine at_da hxd rfl ?_ | refine ify ?_ | refine ifn ?_ | refine i6 ?_ | refine ati ?_ | refine mst ?_ | refine rmd ?_ | refine ibo (fun _ => ?_) (fun _ => ?_) | exact oend) <;> conv => whnf))
  refine loop_lo (ι := Nat) (fun k => k ≤ 2) (fun k => [(24, .d (.int .i64 k)), (23, .d (.int .i64 2)), (22, .d (dIs [ea, eb])), (14, .d (.int .i64 i)), (13, .d (.int .i64 (L.map dE).length)), (12, .d (dEs L)), (5, .own 300)]) (fun k => [(300, .slice 3 1 ((([ea, eb].take k).foldl addN out).map dI))]) (fun k => 2 - k) 0 (fun _ => rfl) (Nat.zero_le _)
   (.frz 22 rfl (.refl _ _)) ⟨rfl, rfl, rfl, rfl, rfl, rfl, rfl, trivial⟩ ⟨rfl, trivial⟩ ?_
  intro k hk
  refine sxCode_sound c1_ok (G := G_lverts) (pl := pl_lverts) _ _ _ _ (by kernel_rfl) ?_
  have round : ∀ (x : Int) (o : List Int), [ea, eb][k]? = some x → ([ea, eb].take k).foldl addN out = o → ([ea, eb].take (k + 1)).foldl addN out = addN o x := fun x o h1 h2 => by
   rw [List.take_add_one, h1, List.foldl_append, h2]; rfl
  have hol : (([ea, eb].take k).foldl addN out).length ≤ out.length + 2 := by
   have a1 := addN_len out ea
   have a2 := addN_len (addN out ea) eb
   rcases (show k = 0 ∨ k = 1 ∨ k = 2 by omega) with rfl | rfl | rfl
   ·simp
   ·simp; omega
   ·simp; omega
  by_cases hk2 : k < 2
  ·obtain ⟨x, hxk⟩ : ∃ x, [ea, eb][k]? = some x := ⟨_, List.getElem?_eq_getElem hk2⟩
   have hxkd : ([ea, eb].map dI)[k]? = some (.int .i64 x) := by rw [List.getElem?_map, hxk]; rfl
   generalize ho : ([ea, eb].take k).foldl addN out = o at hol ⊢
   have hr := round x o hxk ho
   (conv => whnf)
   (repeat' ((first | refine ord_ok ?_ ?_ | refine at_da hxkd rfl ?_ | refine call_eqb tab rfl (contains_pure o x) rfl ?_ | refine ify ?_ | refine ifn ?_ | refine i6 ?_ | refine ati ?_ | refine mst ?_ | refine rmd ?_ | refine ibo (fun _ => ?_) (fun _ => ?_) | exact oend) <;> conv => whnf))
   by_cases hin : x ∈ o
   ·have hr2 : o.map dI = (([ea, eb].take (k + 1)).foldl addN out).map dI := by rw [hr]; unfold addN; rw [if_pos hin]
    rw [decide_eq_true hin]
    ((conv => whnf); repeat' ((first | refine odw ?_ | refine ify ?_ | refine ifn ?_ | refine i6 ?_ | refine ati ?_ | refine mst ?_ | refine rmd ?_ | refine ibo (fun _ => ?_) (fun _ => ?_)) <;> conv => whnf))
    exact ⟨k + 1, _, _, hk2, .refl _ _, ⟨rfl, rfl, rfl, rfl, rfl, rfl, rfl, trivial⟩, ⟨slice_is hr2, trivial⟩, by omega⟩
   ·have hr2 : o.map dI ++ [.int .i64 x] = (([ea, eb].take (k + 1)).foldl addN out).map dI := by rw [hr]; unfold addN; rw [if_neg hin, List.map_append]; rfl
    rw [decide_eq_false hin]
    ((conv => whnf); repeat' ((first | refine odw ?_ | refine ify ?_ | refine ifn ?_ | refine i6 ?_ | refine ati ?_ | refine mst ?_ | refine rmd ?_ | refine ibo (fun _ => ?_) (fun _ => ?_)) <;> conv => whnf))
    exact ⟨k + 1, _, _, hk2, .refl _ _, ⟨rfl, rfl, rfl, rfl, rfl, rfl, rfl, trivial⟩, ⟨slice_is hr2, trivial⟩, by omega⟩
  ·have : k = 2 := by omega
   subst this
   have hr2 : (([ea, eb].take 2).foldl addN out).map dI = (vertsOf (L.take (i + 1))).map dI := by rw [hst]; rfl
   ((conv => whnf); repeat' ((first | refine odw ?_ | refine ify ?_ | refine ifn ?_ | refine i6 ?_ | refine ati ?_ | refine mst ?_ | refine rmd ?_ | refine ibo (fun _ => ?_) (fun _ => ?_)) <;> conv => whnf))
   exact ⟨i + 1, _, _, hlt, .refl _ _, ⟨rfl, rfl, rfl, rfl, trivial⟩, ⟨slice_is hr2, trivial⟩, by omega⟩
 ·have hii : L.take i = L := List.take_of_length_le (by omega)
  rw [hii]
  ((conv => whnf); repeat' ((first | refine odw ?_ | refine ify ?_ | refine ifn ?_ | refine i6 ?_ | refine ati ?_ | refine mst ?_ | refine rmd ?_ | refine ibo (fun _ => ?_) (fun _ => ?_)) <;> conv => whnf))
  exact rfl
end Go.Proofs.YtjejpdfldmempaaGreatDoor
end
