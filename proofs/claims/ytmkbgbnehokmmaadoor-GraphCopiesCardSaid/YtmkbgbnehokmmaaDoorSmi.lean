/- Lists: SameInts. -/
import Derived.Test.YtmkbgbnehokmmaaDoorGrk
import Derived.Test.YtmkbgbnehokmmaaDoorRfa
namespace Go.Proofs.YtmkbgbnehokmmaaDoor
open Go.Sx Go.RowKit Go.Reg Go.Gr

set_option maxRecDepth 100000
theorem ints_len {O : List Nat} {w : World} {l : List Int} {v : Value} (h : Rep O w (dIs l) v) : l.length ≤ 9223372036854775807 := by
  have := rep_len h
  rw [List.length_map] at this
  unfold maxLen at this
  omega
theorem Pure.len1 {f : FuncId} {l : List Int} {xs : List Da} {Q : Da → Prop} (h : l.length ≤ 9223372036854775807 → Sx.Pure C1 f (dIs l :: xs) Q) : Sx.Pure C1 f (dIs l :: xs) Q :=
  Sx.Pure.assume (fun O w us hr => by obtain ⟨v, vs, rfl, h1, _⟩ := reps_inv hr; exact ints_len h1) h
def pl_s03 : List (Nat × Plan) := [(6, .leaf [0, 0, 0, 1, 0, 0, 0, 1, 0] [0, 1, 2, 4, 5, 6, 3, 7, 8] [0, 0, 3, 7, 0, 0, 48, 112, 255])]
def G_s03 : List FuncId := []
theorem cok_s03 : codeOk Tryd.prog G_s03 pl_s03 (Tryd.f27.body.getD .skip) = true := by kernel_rfl
theorem run_s03 (vs : Array Value) (w : World) : (callFunc 27 vs).run C1.P w = .ok (.enter 27 vs) w := by kernel_rfl
theorem same_pure (l r : List Int) : Pure C1 27 [dIs l, dIs r] (fun y => y = .bool (decide (l = r))) := by
  refine Pure.len1 fun hm => ?_
  have hl : (l.map dI).length = l.length := List.length_map _
  have hr : (r.map dI).length = r.length := List.length_map _
  refine pure_of c1_ok (pl := pl_s03) (G := G_s03) Tryd.func27 rfl Tryd.ntmps27 run_s03 cok_s03 (by simp) ?_
  by_cases hlen : l.length = r.length
  · ((conv => whnf); repeat' ((first | refine odw ?_ | refine ify ?_ | refine ifn ?_ | refine i6 ?_ | refine ati ?_ | refine mst ?_ | refine rmd ?_ | refine ibo (fun _ => ?_) (fun _ => ?_)) <;> conv => whnf))
    refine loop_lo (ι := Nat) (fun i => i ≤ l.length ∧ l.take i = r.take i) (fun i => [(5, .d (.int .i64 i)), (1, .d (dIs r)), (0, .d (dIs l))]) (fun _ => []) (fun i => l.length - i) 0 (fun _ => rfl) ⟨Nat.zero_le _, by simp⟩ (.refl _ _) ⟨rfl, rfl, rfl, trivial⟩ trivial ?_
    rintro i ⟨hi, he⟩
    refine sxCode_sound c1_ok (G := G_s03) (pl := pl_s03) _ _ _ _ (by kernel_rfl) ?_
    by_cases hlt : i < l.length
    · have hx := List.getElem?_eq_getElem hlt
      have hy := List.getElem?_eq_getElem (l := r) (i := i) (by omega)
      generalize l[i] = x at hx
      generalize r[i] = y at hy
      have hxd : (l.map dI)[i]? = some (.int .i64 x) := by rw [List.getElem?_map, hx]; rfl
      have hyd : (r.map dI)[i]? = some (.int .i64 y) := by rw [List.getElem?_map, hy]; rfl
      by_cases hxy : x = y
      · subst hxy
        (conv => whnf)
        (repeat' ((first | refine ord_ok (by (conv => whnf); (repeat' ((first | refine at_da hxd rfl ?_ | refine at_da hyd rfl ?_ | refine ify ?_ | refine ifn ?_ | refine i6 ?_ | refine ati ?_ | refine mst ?_ | refine rmd ?_ | refine ibo (fun _ => ?_) (fun _ => ?_)) <;> conv => whnf)); (all_goals (repeat' (first | exact trivial | exact rfl | refine And.intro ?_ ?_)))) ?_ | refine at_da hxd rfl ?_ | refine at_da hyd rfl ?_ | refine ify ?_ | refine ifn ?_ | refine i6 ?_ | refine ati ?_ | refine mst ?_ | refine rmd ?_ | refine ibo (fun _ => ?_) (fun _ => ?_)) <;> conv => whnf))
        refine ⟨i + 1, _, _, ⟨hlt, ?_⟩, .refl _ _, ⟨rfl, rfl, rfl, trivial⟩, trivial, by omega⟩
        rw [List.take_add_one, List.take_add_one, hx, hy, he]
      · rw [decide_eq_false (fun h => by subst h; rw [hx] at hy; cases hy; exact hxy rfl)]
        (conv => whnf)
        (repeat' ((first | refine ord_ok (by (conv => whnf); (repeat' ((first | refine at_da hxd rfl ?_ | refine at_da hyd rfl ?_ | refine ify ?_ | refine ifn ?_ | refine i6 ?_ | refine ati ?_ | refine mst ?_ | refine rmd ?_ | refine ibo (fun _ => ?_) (fun _ => ?_)) <;> conv => whnf)); (all_goals (repeat' (first | exact trivial | exact rfl | refine And.intro ?_ ?_)))) ?_ | refine at_da hxd rfl ?_ | refine at_da hyd rfl ?_ | refine ify ?_ | refine ifn ?_ | refine i6 ?_ | refine ati ?_ | refine mst ?_ | refine rmd ?_ | refine ibo (fun _ => ?_) (fun _ => ?_)) <;> conv => whnf))
        exact rfl
    · rw [List.take_of_length_le (by omega), List.take_of_length_le (by omega)] at he
      rw [decide_eq_true he]
      ((conv => whnf); repeat' ((first | refine odw ?_ | refine ify ?_ | refine ifn ?_ | refine i6 ?_ | refine ati ?_ | refine mst ?_ | refine rmd ?_ | refine ibo (fun _ => ?_) (fun _ => ?_)) <;> conv => whnf))
      exact rfl
  · rw [decide_eq_false (fun h => hlen (by rw [h]))]
    ((conv => whnf); repeat' ((first | refine odw ?_ | refine ify ?_ | refine ifn ?_ | refine i6 ?_ | refine ati ?_ | refine mst ?_ | refine rmd ?_ | refine ibo (fun _ => ?_) (fun _ => ?_)) <;> conv => whnf))
    exact rfl
theorem same_yes (l : List Int) : Pure C1 27 [dIs l, dIs l] (fun y => y = .bool true) := by
  have := same_pure l l
  rwa [decide_eq_true rfl] at this
end Go.Proofs.YtmkbgbnehokmmaaDoor
