/- Lists: Has, Index, Contains, SameInts; lines: Ends, Verts, Span. -/
import Derived.Test.YtmkbgbnehokmmaaDoorLnc
namespace Go.Gr
def endsOf (E : List Edg) (l : List Int) : List Edg := l.filterMap fun id : Int => if 0 ≤ id ∧ id < E.length then E[id.toNat]? else none
def addN (out : List Int) (x : Int) : List Int := if x ∈ out then out else out ++ [x]
def vertsOf (l : List Edg) : List Int := l.foldl (fun out e => addN (addN out e.a) e.b) []
theorem vertsOf_snoc (l : List Edg) (e : Edg) : vertsOf (l ++ [e]) = addN (addN (vertsOf l) e.a) e.b := by simp [vertsOf, List.foldl_append]
theorem addN_len (out : List Int) (x : Int) : (addN out x).length ≤ out.length + 1 := by unfold addN; split <;> simp
theorem vertsOf_len (l : List Edg) : (vertsOf l).length ≤ 2 * l.length := by
  suffices h : ∀ l : List Edg, (vertsOf l.reverse).length ≤ 2 * l.length by have := h l.reverse; rwa [List.reverse_reverse, List.length_reverse] at this
  intro l
  induction l with
  | nil => simp [vertsOf]
  | cons e l ih =>
    rw [List.reverse_cons, vertsOf_snoc]
    have h1 := addN_len (addN (vertsOf l.reverse) e.a) e.b
    have h2 := addN_len (vertsOf l.reverse) e.a
    simp only [List.length_cons]; omega
theorem endsOf_snoc (E : List Edg) (l : List Int) (x : Int) : endsOf E (l ++ [x]) = endsOf E l ++ (if 0 ≤ x ∧ x < E.length then E[x.toNat]? else none).toList := by
  simp only [endsOf, List.filterMap_append, List.filterMap_cons, List.filterMap_nil]
  congr 1
theorem endsOf_in {E : List Edg} {l : List Int} {m : Nat} {e : Edg} (h : E[m]? = some e) : endsOf E (l ++ [(m : Int)]) = endsOf E l ++ [e] := by
  have := (List.getElem?_eq_some_iff.1 h).1
  rw [endsOf_snoc, if_pos ⟨by omega, by omega⟩, Int.toNat_natCast, h]; rfl
theorem endsOf_out {E : List Edg} {l : List Int} {x : Int} (h : ¬ (0 ≤ x ∧ x < E.length)) : endsOf E (l ++ [x]) = endsOf E l := by
  rw [endsOf_snoc, if_neg h]; simp
theorem endsOf_len (E : List Edg) (l : List Int) : (endsOf E l).length ≤ l.length := List.length_filterMap_le _ _
def inB (l : List Int) (e : Edg) : Bool := decide (e.a ∈ l) && decide (e.b ∈ l)
def spanOf (E : List Edg) (l : List Int) (k : Nat) : List Int := ((List.range k).filter fun i => match E[i]? with | some e => inB l e | none => false).map fun i : Nat => (i : Int)
theorem spanOf_step {E : List Edg} {l : List Int} {k : Nat} {e : Edg} (h : E[k]? = some e) : spanOf E l (k + 1) = spanOf E l k ++ (if inB l e = true then [(k : Int)] else []) := by
  unfold spanOf
  rw [List.range_succ, List.filter_append, List.map_append]
  congr 1
  cases hb : inB l e <;> simp [h, hb]
theorem spanOf_len (E : List Edg) (l : List Int) (k : Nat) : (spanOf E l k).length ≤ k := by
  unfold spanOf
  rw [List.length_map]
  have := List.length_filter_le (fun i => match E[i]? with | some e => inB l e | none => false) (List.range k)
  rwa [List.length_range] at this
def idxI (l : List Int) (x : Int) : Int := match l.findIdx? (fun y => decide (x = y)) with | some i => (i : Int) | none => -1
theorem idxI_at {l : List Int} {x : Int} {i : Nat} (h : l[i]? = some x) (hn : ∀ y ∈ l.take i, ¬ x = y) : idxI l x = i := by
  unfold idxI
  have : l.findIdx? (fun y => decide (x = y)) = some i := by
    rw [List.findIdx?_eq_some_iff_getElem]
    obtain ⟨h1, h2⟩ := List.getElem?_eq_some_iff.1 h
    refine ⟨h1, by simp [h2], fun j hj => ?_⟩
    have := hn l[j] (List.mem_take_iff_getElem.2 ⟨j, by omega, rfl⟩)
    simp [this]
  rw [this]
theorem idxI_none {l : List Int} {x : Int} (h : ¬ x ∈ l) : idxI l x = -1 := by
  unfold idxI
  have : l.findIdx? (fun y => decide (x = y)) = none := by
    rw [List.findIdx?_eq_none_iff]
    intro y hy
    have : ¬ x = y := fun e => h (e ▸ hy)
    simp [this]
  rw [this]
theorem idxI_nonneg {l : List Int} {x : Int} (h : x ∈ l) : 0 ≤ idxI l x := by
  unfold idxI
  split
  · omega
  · rename_i hn
    rw [List.findIdx?_eq_none_iff] at hn
    have := hn x h
    simp at this
end Go.Gr
namespace Go.Proofs.YtmkbgbnehokmmaaDoor
open Go.Sx Go.RowKit Go.Reg Go.Gr

set_option maxRecDepth 100000
theorem ints_len {O : List Nat} {w : World} {l : List Int} {v : Value} (h : Rep O w (dIs l) v) : l.length ≤ 9223372036854775807 := by
  have := rep_len h
  rw [List.length_map] at this
  unfold maxLen at this
  omega
theorem Pure.len1 {f : FuncId} {l : List Int} {xs : List Da} {Q : Da → Prop} (h : l.length ≤ 9223372036854775807 → Sx.Pure C1 f (dIs l :: xs) Q) : Sx.Pure C1 f (dIs l :: xs) Q :=
  Sx.Pure.assume (fun O w us hr => by obtain ⟨v, vs, rfl, h1, _⟩ := reps_inv hr; exact ints_len h1) h
def pl_s03 : List (Nat × Plan) := [(6, .leaf [0, 0, 0, 1, 0, 0, 0, 1, 0] [0, 1, 2, 4, 5, 6, 3, 7, 8] [0, 0, 3, 7, 0, 0, 48, 112, 255])]
def G_s03 : List FuncId := []
theorem cok_s03 : codeOk Tryd.prog G_s03 pl_s03 (Tryd.f27.body.getD .skip) = true := by kernel_rfl
theorem run_s03 (vs : Array Value) (w : World) : (callFunc 27 vs).run C1.P w = .ok (.enter 27 vs) w := by kernel_rfl
theorem same_pure (l r : List Int) : Pure C1 27 [dIs l, dIs r] (fun y => y = .bool (decide (l = r))) := by
  refine Pure.len1 fun hm => ?_
  have hl : (l.map dI).length = l.length := List.length_map _
  have hr : (r.map dI).length = r.length := List.length_map _
  refine pure_of c1_ok (pl := pl_s03) (G := G_s03) Tryd.func27 rfl Tryd.ntmps27 run_s03 cok_s03 (by simp) ?_
  by_cases hlen : l.length = r.length
  · ((conv => whnf); repeat' ((first | refine odw ?_ | refine ify ?_ | refine ifn ?_ | refine i6 ?_ | refine ati ?_ | refine mst ?_ | refine rmd ?_ | refine ibo (fun _ => ?_) (fun _ => ?_)) <;> conv => whnf))
    refine loop_lo (ι := Nat) (fun i => i ≤ l.length ∧ l.take i = r.take i) (fun i => [(5, .d (.int .i64 i)), (1, .d (dIs r)), (0, .d (dIs l))]) (fun _ => []) (fun i => l.length - i) 0 (fun _ => rfl) ⟨Nat.zero_le _, by simp⟩ (.refl _ _) ⟨rfl, rfl, rfl, trivial⟩ trivial ?_
    rintro i ⟨hi, he⟩
    refine sxCode_sound c1_ok (G := G_s03) (pl := pl_s03) _ _ _ _ (by kernel_rfl) ?_
    by_cases hlt : i < l.length
    · have hx := List.getElem?_eq_getElem hlt
      have hy := List.getElem?_eq_getElem (l := r) (i := i) (by omega)
      generalize l[i] = x at hx
      generalize r[i] = y at hy
      have hxd : (l.map dI)[i]? = some (.int .i64 x) := by rw [List.getElem?_map, hx]; rfl
      have hyd : (r.map dI)[i]? = some (.int .i64 y) := by rw [List.getElem?_map, hy]; rfl
      by_cases hxy : x = y
      · subst hxy
        (conv => whnf)
        (repeat' ((first | refine ord_ok (by (conv => whnf); (repeat' ((first | refine at_da hxd rfl ?_ | refine at_da hyd rfl ?_ | refine ify ?_ | refine ifn ?_ | refine i6 ?_ | refine ati ?_ | refine mst ?_ | refine rmd ?_ | refine ibo (fun _ => ?_) (fun _ => ?_)) <;> conv => whnf)); (all_goals (repeat' (first | exact trivial | exact rfl | refine And.intro ?_ ?_)))) ?_ | refine at_da hxd rfl ?_ | refine at_da hyd rfl ?_ | refine ify ?_ | refine ifn ?_ | refine i6 ?_ | refine ati ?_ | refine mst ?_ | refine rmd ?_ | refine ibo (fun _ => ?_) (fun _ => ?_)) <;> conv => whnf))
        refine ⟨i + 1, _, _, ⟨hlt, ?_⟩, .refl _ _, ⟨rfl, rfl, rfl, trivial⟩, trivial, by omega⟩
        rw [List.take_add_one, List.take_add_one, hx, hy, he]
      · rw [decide_eq_false (fun h => by subst h; rw [hx] at hy; cases hy; exact hxy rfl)]
        (conv => whnf)
        (repeat' ((first | refine ord_ok (by (conv => whnf); (repeat' ((first | refine at_da hxd rfl ?_ | refine at_da hyd rfl ?_ | refine ify ?_ | refine ifn ?_ | refine i6 ?_ | refine ati ?_ | refine mst ?_ | refine rmd ?_ | refine ibo (fun _ => ?_) (fun _ => ?_)) <;> conv => whnf)); (all_goals (repeat' (first | exact trivial | exact rfl | refine And.intro ?_ ?_)))) ?_ | refine at_da hxd rfl ?_ | refine at_da hyd rfl ?_ | refine ify ?_ | refine ifn ?_ | refine i6 ?_ | refine ati ?_ | refine mst ?_ | refine rmd ?_ | refine ibo (fun _ => ?_) (fun _ => ?_)) <;> conv => whnf))
        exact rfl
    · rw [List.take_of_length_le (by omega), List.take_of_length_le (by omega)] at he
      rw [decide_eq_true he]
      ((conv => whnf); repeat' ((first | refine odw ?_ | refine ify ?_ | refine ifn ?_ | refine i6 ?_ | refine ati ?_ | refine mst ?_ | refine rmd ?_ | refine ibo (fun _ => ?_) (fun _ => ?_)) <;> conv => whnf))
      exact rfl
  · rw [decide_eq_false (fun h => hlen (by rw [h]))]
    ((conv => whnf); repeat' ((first | refine odw ?_ | refine ify ?_ | refine ifn ?_ | refine i6 ?_ | refine ati ?_ | refine mst ?_ | refine rmd ?_ | refine ibo (fun _ => ?_) (fun _ => ?_)) <;> conv => whnf))
    exact rfl
/-! ### Ends, Verts, Span -/
end Go.Proofs.YtmkbgbnehokmmaaDoor
