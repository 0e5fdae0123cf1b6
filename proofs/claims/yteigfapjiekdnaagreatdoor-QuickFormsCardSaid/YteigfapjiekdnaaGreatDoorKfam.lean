/- Merged: Grk Lnb Lnc Lnf. -/
import Derived.Test.YteigfapjiekdnaaGreatDoorKfaj
import Derived.Test.YteigfapjiekdnaaGreatDoorKfal
import Derived.Test.YteigfapjiekdnaaGreatDoorKfak
import Derived.Test.YteigfapjiekdnaaGreatDoorKfai
import Derived.Test.YteigfapjiekdnaaGreatDoorSxu
section
/- Graphs: At. -/
namespace Go.Proofs.YteigfapjiekdnaaGreatDoor
open Go.Sx Go.RowKit Go.Reg Go.Gr

set_option maxRecDepth 100000
theorem values_pure (l : List Int) : Pure C1 61 [dIs l] (fun y => y = .func (.func 119) [] [.ref (dIs l)]) := by
  refine pure_of c1_ok (pl := []) (G := []) Tryz.func61 rfl Tryz.ntmps61 (by intro vs w; kernel_rfl) (by kernel_rfl) (by simp) ?_
  ((conv => whnf); repeat' ((first | refine odw ?_ | refine ify ?_ | refine ifn ?_ | refine i6 ?_ | refine ati ?_ | refine mst ?_ | refine rmd ?_ | refine ibo (fun _ => ?_) (fun _ => ?_)) <;> conv => whnf))
  exact rfl
end Go.Proofs.YteigfapjiekdnaaGreatDoor
end

section
/- Lists: Has, Index, Contains, SameInts; lines: Ends, Verts, Span. -/
namespace Go.Gr
def idxI (l : List Int) (x : Int) : Int := match l.findIdx? (fun y => decide (x = y)) with | some i => (i : Int) | none => -1
theorem idxI_at {l : List Int} {x : Int} {i : Nat} (h : l[i]? = some x) (hn : ∀ y ∈ l.take i, ¬ x = y) : idxI l x = i := by
  unfold idxI
  have : l.findIdx? (fun y => decide (x = y)) = some i := by
    rw [List.findIdx?_eq_some_iff_getElem]
    obtain ⟨h1, h2⟩ := List.getElem?_eq_some_iff.1 h
    refine ⟨h1, by simp [h2], fun j hj => ?_⟩
    have := hn l[j] (List.mem_take_iff_getElem.2 ⟨j, by omega, rfl⟩)
    simp [this]
  rw [this]
theorem idxI_none {l : List Int} {x : Int} (h : ¬ x ∈ l) : idxI l x = -1 := by
  unfold idxI
  have : l.findIdx? (fun y => decide (x = y)) = none := by
    rw [List.findIdx?_eq_none_iff]
    intro y hy
    have : ¬ x = y := fun e => h (e ▸ hy)
    simp [this]
  rw [this]
theorem idxI_nonneg {l : List Int} {x : Int} (h : x ∈ l) : 0 ≤ idxI l x := by
  unfold idxI
  split
  · omega
  · rename_i hn
    rw [List.findIdx?_eq_none_iff] at hn
    have := hn x h
    simp at this
end Go.Gr
namespace Go.Proofs.YteigfapjiekdnaaGreatDoor
open Go.Sx Go.RowKit Go.Reg Go.Gr

set_option maxRecDepth 100000
theorem ints_len {O : List Nat} {w : World} {l : List Int} {v : Value} (h : Rep O w (dIs l) v) : l.length ≤ 9223372036854775807 := by
  have := rep_len h
  rw [List.length_map] at this
  unfold maxLen at this
  omega
theorem Pure.len1 {f : FuncId} {l : List Int} {xs : List Da} {Q : Da → Prop} (h : l.length ≤ 9223372036854775807 → Sx.Pure C1 f (dIs l :: xs) Q) : Sx.Pure C1 f (dIs l :: xs) Q :=
  Sx.Pure.assume (fun O w us hr => by obtain ⟨v, vs, rfl, h1, _⟩ := reps_inv hr; exact ints_len h1) h
def pl_h06 : List (Nat × Plan) := []
def G_h06 : List FuncId := []
theorem cok_h06 : codeOk Tryz.prog G_h06 pl_h06 (Tryz.f17.body.getD .skip) = true := by kernel_rfl
theorem run_h06 (vs : Array Value) (w : World) : (callFunc 17 vs).run C1.P w = .ok (.enter 17 vs) w := by kernel_rfl
theorem has06_pure (l : List Int) (x : Int) : Pure C1 17 [dIs l, .int .i64 x] (fun y => y = .bool (decide (x ∈ l))) := by
  refine Pure.len1 fun hm => ?_
  have hl : (l.map dI).length = l.length := List.length_map _
  refine pure_of c1_ok (pl := pl_h06) (G := G_h06) Tryz.func17 rfl Tryz.ntmps17 run_h06 cok_h06 (by simp) ?_
  ((conv => whnf); repeat' ((first | refine odw ?_ | refine ify ?_ | refine ifn ?_ | refine i6 ?_ | refine ati ?_ | refine mst ?_ | refine rmd ?_ | refine ibo (fun _ => ?_) (fun _ => ?_)) <;> conv => whnf))
  refine loop_lo (ι := Nat) (fun i => i ≤ l.length ∧ ∀ y ∈ l.take i, ¬ x = y) (fun i => [(5, .d (.int .i64 i)), (1, .d (.int .i64 x)), (0, .d (dIs l))]) (fun _ => []) (fun i => l.length - i) 0 (fun _ => rfl) ⟨Nat.zero_le _, by simp⟩ (.refl _ _) ⟨rfl, rfl, rfl, trivial⟩ trivial ?_
  rintro i ⟨hi, hne⟩
  refine sxCode_sound c1_ok (G := G_h06) (pl := pl_h06) _ _ _ _ (by kernel_rfl) ?_
  by_cases hlt : i < l.length
  · have hx := List.getElem?_eq_getElem hlt
    generalize l[i] = y at hx
    have hxd : (l.map dI)[i]? = some (.int .i64 y) := by rw [List.getElem?_map, hx]; rfl
    by_cases he : y = x
    · subst he
      rw [decide_eq_true (List.mem_of_getElem? hx)]
      (conv => whnf)
      (repeat' ((first | refine ord_ok (by (conv => whnf); (repeat' ((first | refine at_da hxd rfl ?_ | refine ify ?_ | refine ifn ?_ | refine i6 ?_ | refine ati ?_ | refine mst ?_ | refine rmd ?_ | refine ibo (fun _ => ?_) (fun _ => ?_)) <;> conv => whnf)); (all_goals (repeat' (first | exact trivial | exact rfl | refine And.intro ?_ ?_)))) ?_ | refine at_da hxd rfl ?_ | refine ify ?_ | refine ifn ?_ | refine i6 ?_ | refine ati ?_ | refine mst ?_ | refine rmd ?_ | refine ibo (fun _ => ?_) (fun _ => ?_)) <;> conv => whnf))
      exact rfl
    · (conv => whnf)
      (repeat' ((first | refine ord_ok (by (conv => whnf); (repeat' ((first | refine at_da hxd rfl ?_ | refine ify ?_ | refine ifn ?_ | refine i6 ?_ | refine ati ?_ | refine mst ?_ | refine rmd ?_ | refine ibo (fun _ => ?_) (fun _ => ?_)) <;> conv => whnf)); (all_goals (repeat' (first | exact trivial | exact rfl | refine And.intro ?_ ?_)))) ?_ | refine at_da hxd rfl ?_ | refine ify ?_ | refine ifn ?_ | refine i6 ?_ | refine ati ?_ | refine mst ?_ | refine rmd ?_ | refine ibo (fun _ => ?_) (fun _ => ?_)) <;> conv => whnf))
      refine ⟨i + 1, _, _, ⟨hlt, ?_⟩, .refl _ _, ⟨rfl, rfl, rfl, trivial⟩, trivial, by omega⟩
      intro z hz
      rw [List.take_add_one, hx] at hz
      rcases List.mem_append.1 hz with hz | hz
      · exact hne z hz
      · simp at hz; subst hz; exact fun e => he e.symm
  · have hii : l.take i = l := List.take_of_length_le (by omega)
    rw [hii] at hne
    rw [decide_eq_false (fun h => hne x h rfl)]
    ((conv => whnf); repeat' ((first | refine odw ?_ | refine ify ?_ | refine ifn ?_ | refine i6 ?_ | refine ati ?_ | refine mst ?_ | refine rmd ?_ | refine ibo (fun _ => ?_) (fun _ => ?_)) <;> conv => whnf))
    exact rfl
def pl_sidx : List (Nat × Plan) := []
def G_sidx : List FuncId := []
theorem cok_sidx : codeOk Tryz.prog G_sidx pl_sidx (Tryz.f103.body.getD .skip) = true := by kernel_rfl
theorem run_sidx (vs : Array Value) (w : World) : (callFunc 103 vs).run C1.P w = .ok (.enter 103 vs) w := by kernel_rfl
theorem index_pure (l : List Int) (x : Int) : Pure C1 103 [dIs l, .int .i64 x] (fun y => y = .int .i64 (idxI l x)) := by
  refine Pure.len1 fun hm => ?_
  have hl : (l.map dI).length = l.length := List.length_map _
  refine pure_of c1_ok (pl := pl_sidx) (G := G_sidx) Tryz.func103 rfl Tryz.ntmps103 run_sidx cok_sidx (by simp) ?_
  ((conv => whnf); repeat' ((first | refine odw ?_ | refine ify ?_ | refine ifn ?_ | refine i6 ?_ | refine ati ?_ | refine mst ?_ | refine rmd ?_ | refine ibo (fun _ => ?_) (fun _ => ?_)) <;> conv => whnf))
  refine loop_lo (ι := Nat) (fun i => i ≤ l.length ∧ ∀ y ∈ l.take i, ¬ x = y) (fun i => [(8, .d (.int .i64 i)), (7, .d (.int .i64 (l.map dI).length)), (1, .d (.int .i64 x)), (0, .d (dIs l))]) (fun _ => []) (fun i => l.length - i) 0 (fun _ => rfl) ⟨Nat.zero_le _, by simp⟩ (.refl _ _) ⟨rfl, rfl, rfl, rfl, trivial⟩ trivial ?_
  rintro i ⟨hi, hne⟩
  refine sxCode_sound c1_ok (G := G_sidx) (pl := pl_sidx) _ _ _ _ (by kernel_rfl) ?_
  by_cases hlt : i < l.length
  · have hx := List.getElem?_eq_getElem hlt
    generalize l[i] = y at hx
    have hxd : (l.map dI)[i]? = some (.int .i64 y) := by rw [List.getElem?_map, hx]; rfl
    by_cases he : x = y
    · subst he
      rw [idxI_at hx hne]
      (conv => whnf)
      (repeat' ((first | refine ord_ok (by (conv => whnf); (repeat' ((first | refine at_da hxd rfl ?_ | refine ify ?_ | refine ifn ?_ | refine i6 ?_ | refine ati ?_ | refine mst ?_ | refine rmd ?_ | refine ibo (fun _ => ?_) (fun _ => ?_)) <;> conv => whnf)); (all_goals (repeat' (first | exact trivial | exact rfl | refine And.intro ?_ ?_)))) ?_ | refine at_da hxd rfl ?_ | refine ify ?_ | refine ifn ?_ | refine i6 ?_ | refine ati ?_ | refine mst ?_ | refine rmd ?_ | refine ibo (fun _ => ?_) (fun _ => ?_)) <;> conv => whnf))
      exact rfl
    · (conv => whnf)
      (repeat' ((first | refine ord_ok (by (conv => whnf); (repeat' ((first | refine at_da hxd rfl ?_ | refine ify ?_ | refine ifn ?_ | refine i6 ?_ | refine ati ?_ | refine mst ?_ | refine rmd ?_ | refine ibo (fun _ => ?_) (fun _ => ?_)) <;> conv => whnf)); (all_goals (repeat' (first | exact trivial | exact rfl | refine And.intro ?_ ?_)))) ?_ | refine at_da hxd rfl ?_ | refine ify ?_ | refine ifn ?_ | refine i6 ?_ | refine ati ?_ | refine mst ?_ | refine rmd ?_ | refine ibo (fun _ => ?_) (fun _ => ?_)) <;> conv => whnf))
      refine ⟨i + 1, _, _, ⟨hlt, ?_⟩, .refl _ _, ⟨rfl, rfl, rfl, rfl, trivial⟩, trivial, by omega⟩
      intro z hz
      rw [List.take_add_one, hx] at hz
      rcases List.mem_append.1 hz with hz | hz
      · exact hne z hz
      · simp at hz; subst hz; exact he
  · have hii : l.take i = l := List.take_of_length_le (by omega)
    rw [hii] at hne
    rw [idxI_none (fun h => hne x h rfl)]
    ((conv => whnf); repeat' ((first | refine odw ?_ | refine ify ?_ | refine ifn ?_ | refine i6 ?_ | refine ati ?_ | refine mst ?_ | refine rmd ?_ | refine ibo (fun _ => ?_) (fun _ => ?_)) <;> conv => whnf))
    exact rfl
theorem contains_pure (l : List Int) (x : Int) : Pure C1 136 [dIs l, .int .i64 x] (fun y => y = .bool (decide (x ∈ l))) := by
  refine pure_of c1_ok (pl := []) (G := []) Tryz.func136 rfl Tryz.ntmps136 (by intro vs w; kernel_rfl) (by kernel_rfl) (by simp) ?_
  ((conv => whnf); repeat' ((first | refine odw ?_ | refine ify ?_ | refine ifn ?_ | refine i6 ?_ | refine ati ?_ | refine mst ?_ | refine rmd ?_ | refine ibo (fun _ => ?_) (fun _ => ?_)) <;> conv => whnf))
  refine call_eq rfl (index_pure l x) ?_
  by_cases h : x ∈ l
  · have := idxI_nonneg h
    ((conv => whnf); repeat' ((first | refine odw ?_ | refine ify ?_ | refine ifn ?_ | refine i6 ?_ | refine ati ?_ | refine mst ?_ | refine rmd ?_ | refine ibo (fun _ => ?_) (fun _ => ?_)) <;> conv => whnf))
    show Da.plain _ = _
    simp [Da.plain, h, this]
  · rw [idxI_none h]
    ((conv => whnf); repeat' ((first | refine odw ?_ | refine ify ?_ | refine ifn ?_ | refine i6 ?_ | refine ati ?_ | refine mst ?_ | refine rmd ?_ | refine ibo (fun _ => ?_) (fun _ => ?_)) <;> conv => whnf))
    show Da.plain _ = _
    simp [Da.plain, h]
def pl_s03 : List (Nat × Plan) := [(6, .leaf [0, 0, 0, 1, 0, 0, 0, 1, 0] [0, 1, 2, 4, 5, 6, 3, 7, 8] [0, 0, 3, 7, 0, 0, 48, 112, 255])]
def G_s03 : List FuncId := []
theorem cok_s03 : codeOk Tryz.prog G_s03 pl_s03 (Tryz.f36.body.getD .skip) = true := by kernel_rfl
theorem run_s03 (vs : Array Value) (w : World) : (callFunc 36 vs).run C1.P w = .ok (.enter 36 vs) w := by kernel_rfl
theorem same_pure (l r : List Int) : Pure C1 36 [dIs l, dIs r] (fun y => y = .bool (decide (l = r))) := by
  refine Pure.len1 fun hm => ?_
  have hl : (l.map dI).length = l.length := List.length_map _
  have hr : (r.map dI).length = r.length := List.length_map _
  refine pure_of c1_ok (pl := pl_s03) (G := G_s03) Tryz.func36 rfl Tryz.ntmps36 run_s03 cok_s03 (by simp) ?_
  by_cases hlen : l.length = r.length
  · ((conv => whnf); repeat' ((first | refine odw ?_ | refine ify ?_ | refine ifn ?_ | refine i6 ?_ | refine ati ?_ | refine mst ?_ | refine rmd ?_ | refine ibo (fun _ => ?_) (fun _ => ?_)) <;> conv => whnf))
    refine loop_lo (ι := Nat) (fun i => i ≤ l.length ∧ l.take i = r.take i) (fun i => [(5, .d (.int .i64 i)), (1, .d (dIs r)), (0, .d (dIs l))]) (fun _ => []) (fun i => l.length - i) 0 (fun _ => rfl) ⟨Nat.zero_le _, by simp⟩ (.refl _ _) ⟨rfl, rfl, rfl, trivial⟩ trivial ?_
    rintro i ⟨hi, he⟩
    refine sxCode_sound c1_ok (G := G_s03) (pl := pl_s03) _ _ _ _ (by kernel_rfl) ?_
    by_cases hlt : i < l.length
    · have hx := List.getElem?_eq_getElem hlt
      have hy := List.getElem?_eq_getElem (l := r) (i := i) (by omega)
      generalize l[i] = x at hx
      generalize r[i] = y at hy
      have hxd : (l.map dI)[i]? = some (.int .i64 x) := by rw [List.getElem?_map, hx]; rfl
      have hyd : (r.map dI)[i]? = some (.int .i64 y) := by rw [List.getElem?_map, hy]; rfl
      by_cases hxy : x = y
      · subst hxy
        (conv => whnf)
        (repeat' ((first | refine ord_ok (by (conv => whnf); (repeat' ((first | refine at_da hxd rfl ?_ | refine at_da hyd rfl ?_ | refine ify ?_ | refine ifn ?_ | refine i6 ?_ | refine ati ?_ | refine mst ?_ | refine rmd ?_ | refine ibo (fun _ => ?_) (fun _ => ?_)) <;> conv => whnf)); (all_goals (repeat' (first | exact trivial | exact rfl | refine And.intro ?_ ?_)))) ?_ | refine at_da hxd rfl ?_ | refine at_da hyd rfl ?_ | refine ify ?_ | refine ifn ?_ | refine i6 ?_ | refine ati ?_ | refine mst ?_ | refine rmd ?_ | refine ibo (fun _ => ?_) (fun _ => ?_)) <;> conv => whnf))
        refine ⟨i + 1, _, _, ⟨hlt, ?_⟩, .refl _ _, ⟨rfl, rfl, rfl, trivial⟩, trivial, by omega⟩
        rw [List.take_add_one, List.take_add_one, hx, hy, he]
      · rw [decide_eq_false (fun h => by subst h; rw [hx] at hy; cases hy; exact hxy rfl)]
        (conv => whnf)
        (repeat' ((first | refine ord_ok (by (conv => whnf); (repeat' ((first | refine at_da hxd rfl ?_ | refine at_da hyd rfl ?_ | refine ify ?_ | refine ifn ?_ | refine i6 ?_ | refine ati ?_ | refine mst ?_ | refine rmd ?_ | refine ibo (fun _ => ?_) (fun _ => ?_)) <;> conv => whnf)); (all_goals (repeat' (first | exact trivial | exact rfl | refine And.intro ?_ ?_)))) ?_ | refine at_da hxd rfl ?_ | refine at_da hyd rfl ?_ | refine ify ?_ | refine ifn ?_ | refine i6 ?_ | refine ati ?_ | refine mst ?_ | refine rmd ?_ | refine ibo (fun _ => ?_) (fun _ => ?_)) <;> conv => whnf))
        exact rfl
    · rw [List.take_of_length_le (by omega), List.take_of_length_le (by omega)] at he
      rw [decide_eq_true he]
      ((conv => whnf); repeat' ((first | refine odw ?_ | refine ify ?_ | refine ifn ?_ | refine i6 ?_ | refine ati ?_ | refine mst ?_ | refine rmd ?_ | refine ibo (fun _ => ?_) (fun _ => ?_)) <;> conv => whnf))
      exact rfl
  · rw [decide_eq_false (fun h => hlen (by rw [h]))]
    ((conv => whnf); repeat' ((first | refine odw ?_ | refine ify ?_ | refine ifn ?_ | refine i6 ?_ | refine ati ?_ | refine mst ?_ | refine rmd ?_ | refine ibo (fun _ => ?_) (fun _ => ?_)) <;> conv => whnf))
    exact rfl
/-! ### Ends, Verts, Span -/
end Go.Proofs.YteigfapjiekdnaaGreatDoor
end
