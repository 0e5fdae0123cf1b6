/- vert: Linked. -/
import Derived.Test.YtfkkfaociofkjaaVla
namespace Go.Proofs.Ytfkkfaociofkjaa
open Go.Sx Go.RowKit Go.Reg Go.Gr

set_option maxRecDepth 100000
def linkAt (G : Gr) (l : List Int) (i : Nat) (v : Int) : Bool := hasV G v && (!decide (v ∈ l.take i) && (decide (i = 0) || (l.take i).any (besP G.edges v)))
def linkedV (G : Gr) (l : List Int) : Bool := (List.range l.length).all fun i => match l[i]? with
  | some v => linkAt G l i v
  | none => true
theorem linkedV_no {G : Gr} {l : List Int} {i : Nat} {v : Int} (h : l[i]? = some v) (h2 : linkAt G l i v = false) : linkedV G l = false := by
  unfold linkedV
  rw [List.all_eq_false]
  exact ⟨i, by simp [(List.getElem?_eq_some_iff.1 h).1], by simp [h, h2]⟩
theorem linkedV_yes {G : Gr} {l : List Int} (h : ∀ (i : Nat) (v : Int), l[i]? = some v → linkAt G l i v = true) : linkedV G l = true := by
  unfold linkedV
  rw [List.all_eq_true]
  intro i _
  cases hx : l[i]? with
  | none => rfl
  | some v => exact h i v hx
theorem hi_is {len i : Nat} {n : Int} {K : Nat → Prop} (hn : n = i) (hi : i ≤ len) (hK : K i) : ∃ m : Nat, n = m ∧ m ≤ len ∧ K m := ⟨i, hn, hi, hK⟩
theorem dIs_take (l : List Int) (i : Nat) : dIs (l.take i) = .list 1 ((l.map dI).take i) := by unfold dIs; rw [List.map_take]
def pl_vlk : List (Nat × Plan) := []
def G_vlk : List FuncId := [47, 45, 48]
theorem cok_vlk : codeOk Try.prog G_vlk pl_vlk (Try.f29.body.getD .skip) = true := by kernel_rfl
theorem run_vlk (vs : Array Value) (w : World) : (callFunc 29 vs).run C1.P w = .ok (.enter 29 vs) w := by kernel_rfl
theorem linked_pure (G : Gr) (hG : G.Ok) (l : List Int) : Pure C1 29 [dG G, dIs l] (fun y => y = .bool (linkedV G l)) := by
  refine Pure.assume (fun O w us hr => by obtain ⟨v, vs, rfl, h1, h2⟩ := reps_inv hr; obtain ⟨v2, vs2, rfl, h3, _⟩ := reps_inv h2; exact ints_len h3) fun hm => ?_
  have hl : (l.map dI).length = l.length := List.length_map _
  refine pure_of c1_ok (pl := pl_vlk) (G := G_vlk) Try.func29 rfl Try.ntmps29 run_vlk cok_vlk (by simp) ?_
  ((conv => whnf); repeat' ((first | refine odw ?_ | refine ify ?_ | refine ifn ?_ | refine i6 ?_ | refine ati ?_ | refine mst ?_ | refine rmd ?_ | refine ibo (fun _ => ?_) (fun _ => ?_)) <;> conv => whnf))
  refine loop_lo (ι := Nat) (fun i => i ≤ l.length ∧ ∀ (j : Nat) (v : Int), j < i → l[j]? = some v → linkAt G l j v = true) (fun i => [(9, .d (.int .i64 i)), (8, .d (.int .i64 (l.map dI).length)), (7, .d (dIs l)), (1, .d (dIs l)), (0, .d (dG G))]) (fun _ => []) (fun i => l.length - i) 0 (fun _ => rfl) ⟨Nat.zero_le _, by intro j v h; omega⟩ (.refl _ _) ⟨rfl, rfl, rfl, rfl, rfl, trivial⟩ trivial ?_
  rintro i ⟨hi, hne⟩
  refine sxCode_sound c1_ok (G := G_vlk) (pl := pl_vlk) _ _ _ _ (by kernel_rfl) ?_
  by_cases hlt : i < l.length
  · have hx := List.getElem?_eq_getElem hlt
    generalize l[i] = y at hx
    have hxd : (l.map dI)[i]? = some (.int .i64 y) := by rw [List.getElem?_map, hx]; rfl
    have h1 := vhas_pure G y
    have h2 := contains_pure (l.take i) y
    have h3 := bes_pure G hG (l.take i) y
    rw [dIs_take] at h2 h3
    have hi2 : i ≤ (l.map dI).length := by omega
    cases hv : hasV G y with
    | false =>
      rw [hv] at h1
      rw [linkedV_no hx (by simp [linkAt, hv])]
      (conv => whnf)
      (repeat' ((first | refine ord_ok (by (conv => whnf); (repeat' ((first | refine at_da hxd rfl ?_ | refine call_eq rfl h1 ?_ | refine ify ?_ | refine ifn ?_ | refine i6 ?_ | refine ati ?_ | refine mst ?_ | refine rmd ?_ | refine ibo (fun _ => ?_) (fun _ => ?_)) <;> conv => whnf)); (all_goals (repeat' (first | exact trivial | exact rfl | refine And.intro ?_ ?_)))) ?_ | refine at_da hxd rfl ?_ | refine call_eq rfl h1 ?_ | refine ify ?_ | refine ifn ?_ | refine i6 ?_ | refine ati ?_ | refine mst ?_ | refine rmd ?_ | refine ibo (fun _ => ?_) (fun _ => ?_)) <;> conv => whnf))
      exact rfl
    | true =>
      rw [hv] at h1
      by_cases hc : y ∈ l.take i
      · rw [decide_eq_true hc] at h2
        rw [linkedV_no hx (by simp [linkAt, hc])]
        (conv => whnf)
        (repeat' ((first | refine ord_ok (by (conv => whnf); (repeat' ((first | refine at_da hxd rfl ?_ | refine call_eq rfl h1 ?_ | refine hi_is rfl hi2 ?_ | refine call_eq rfl h2 ?_ | refine ify ?_ | refine ifn ?_ | refine i6 ?_ | refine ati ?_ | refine mst ?_ | refine rmd ?_ | refine ibo (fun _ => ?_) (fun _ => ?_)) <;> conv => whnf)); (all_goals (repeat' (first | exact trivial | exact rfl | refine And.intro ?_ ?_)))) ?_ | refine at_da hxd rfl ?_ | refine call_eq rfl h1 ?_ | refine hi_is rfl hi2 ?_ | refine call_eq rfl h2 ?_ | refine ify ?_ | refine ifn ?_ | refine i6 ?_ | refine ati ?_ | refine mst ?_ | refine rmd ?_ | refine ibo (fun _ => ?_) (fun _ => ?_)) <;> conv => whnf))
        exact rfl
      · rw [decide_eq_false hc] at h2
        by_cases h0 : i = 0
        · have hyes : linkAt G l i y = true := by simp [linkAt, hv, h0]
          (conv => whnf)
          (repeat' ((first | refine ord_ok (by (conv => whnf); (repeat' ((first | refine at_da hxd rfl ?_ | refine call_eq rfl h1 ?_ | refine hi_is rfl hi2 ?_ | refine call_eq rfl h2 ?_ | refine ify ?_ | refine ifn ?_ | refine i6 ?_ | refine ati ?_ | refine mst ?_ | refine rmd ?_ | refine ibo (fun _ => ?_) (fun _ => ?_)) <;> conv => whnf)); (all_goals (repeat' (first | exact trivial | exact rfl | refine And.intro ?_ ?_)))) ?_ | refine at_da hxd rfl ?_ | refine call_eq rfl h1 ?_ | refine hi_is rfl hi2 ?_ | refine call_eq rfl h2 ?_ | refine ify ?_ | refine ifn ?_ | refine i6 ?_ | refine ati ?_ | refine mst ?_ | refine rmd ?_ | refine ibo (fun _ => ?_) (fun _ => ?_)) <;> conv => whnf))
          refine ⟨i + 1, _, _, ⟨hlt, ?_⟩, .refl _ _, ⟨rfl, rfl, rfl, rfl, rfl, trivial⟩, trivial, by omega⟩
          intro j v hj hjv
          by_cases hji : j = i
          · subst hji; rw [hx] at hjv; cases hjv; exact hyes
          · exact hne j v (by omega) hjv
        · by_cases hb : (l.take i).any (besP G.edges y) = true
          · have hyes : linkAt G l i y = true := by simp only [linkAt, hv, hb, decide_eq_false hc]; simp
            have hbn : ¬ besV G.edges (l.take i) y < 0 := by have := (idxF_nn (l.take i) (besP G.edges y)).2 hb; unfold besV; omega
            (conv => whnf)
            (repeat' ((first | refine ord_ok (by (conv => whnf); (repeat' ((first | refine at_da hxd rfl ?_ | refine call_eq rfl h1 ?_ | refine hi_is rfl hi2 ?_ | refine call_eq rfl h2 ?_ | refine call_eq rfl h3 ?_ | refine ify ?_ | refine ifn ?_ | refine i6 ?_ | refine ati ?_ | refine mst ?_ | refine rmd ?_ | refine ibo (fun _ => ?_) (fun _ => ?_)) <;> conv => whnf)); (all_goals (repeat' (first | exact trivial | exact rfl | refine And.intro ?_ ?_)))) ?_ | refine at_da hxd rfl ?_ | refine call_eq rfl h1 ?_ | refine hi_is rfl hi2 ?_ | refine call_eq rfl h2 ?_ | refine call_eq rfl h3 ?_ | refine ify ?_ | refine ifn ?_ | refine i6 ?_ | refine ati ?_ | refine mst ?_ | refine rmd ?_ | refine ibo (fun _ => ?_) (fun _ => ?_)) <;> conv => whnf))
            refine ⟨i + 1, _, _, ⟨hlt, ?_⟩, .refl _ _, ⟨rfl, rfl, rfl, rfl, rfl, trivial⟩, trivial, by omega⟩
            intro j v hj hjv
            by_cases hji : j = i
            · subst hji; rw [hx] at hjv; cases hjv; exact hyes
            · exact hne j v (by omega) hjv
          · have hno : linkAt G l i y = false := by simp only [linkAt, hv, Bool.eq_false_iff.2 hb, decide_eq_false h0]; simp
            rw [linkedV_no hx hno]
            have hbn : besV G.edges (l.take i) y < 0 := by have : ¬ 0 ≤ idxF (l.take i) (besP G.edges y) := fun h => hb ((idxF_nn _ _).1 h)
                                                           unfold besV; omega
            (conv => whnf)
            (repeat' ((first | refine ord_ok (by (conv => whnf); (repeat' ((first | refine at_da hxd rfl ?_ | refine call_eq rfl h1 ?_ | refine hi_is rfl hi2 ?_ | refine call_eq rfl h2 ?_ | refine call_eq rfl h3 ?_ | refine ify ?_ | refine ifn ?_ | refine i6 ?_ | refine ati ?_ | refine mst ?_ | refine rmd ?_ | refine ibo (fun _ => ?_) (fun _ => ?_)) <;> conv => whnf)); (all_goals (repeat' (first | exact trivial | exact rfl | refine And.intro ?_ ?_)))) ?_ | refine at_da hxd rfl ?_ | refine call_eq rfl h1 ?_ | refine hi_is rfl hi2 ?_ | refine call_eq rfl h2 ?_ | refine call_eq rfl h3 ?_ | refine ify ?_ | refine ifn ?_ | refine i6 ?_ | refine ati ?_ | refine mst ?_ | refine rmd ?_ | refine ibo (fun _ => ?_) (fun _ => ?_)) <;> conv => whnf))
            exact rfl
  · rw [linkedV_yes (fun j v h => hne j v (by have := (List.getElem?_eq_some_iff.1 h).1; omega) h)]
    ((conv => whnf); repeat' ((first | refine odw ?_ | refine ify ?_ | refine ifn ?_ | refine i6 ?_ | refine ati ?_ | refine mst ?_ | refine rmd ?_ | refine ibo (fun _ => ?_) (fun _ => ?_)) <;> conv => whnf))
    exact rfl
