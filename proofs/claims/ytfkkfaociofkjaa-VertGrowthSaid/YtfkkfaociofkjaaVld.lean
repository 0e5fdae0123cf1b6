/- vert: fits, Canonical, May. -/
import Derived.Test.YtfkkfaociofkjaaVlc
namespace Go.Proofs.Ytfkkfaociofkjaa
open Go.Sx Go.RowKit Go.Reg Go.Gr

set_option maxRecDepth 100000
/-- may a vertex come behind a canonical list? -/
def fitsV (G : Gr) (l : List Int) (v : Int) : Bool := match l[0]? with
  | none => hasV G v
  | some y => match l.findIdx? (besP G.edges v) with
    | none => false
    | some i => !decide (v ∈ l) && (!decide (v < y) && !(l.drop (i + 1)).any (fun u => decide (v < u)))
theorem dIs_drop (l : List Int) (i : Nat) : dIs (l.drop i) = .list 1 ((l.map dI).drop i) := by unfold dIs; rw [List.map_drop]
def pl_vf1 : List (Nat × Plan) := []
def G_vf1 : List FuncId := []
theorem cok_vf1 : codeOk Try.prog G_vf1 pl_vf1 (Try.f78.body.getD .skip) = true := by kernel_rfl
theorem run_vf1 (vs : Array Value) (w : World) : (callFunc 78 vs).run C1.P w = .ok (.enter 78 vs) w := by kernel_rfl
theorem fits1_pure (v u : Int) : Pure C1 78 [.int .i64 u, .ref (.int .i64 v)] (fun y => y = .bool (decide (v < u))) := by
  refine pure_of c1_ok (pl := pl_vf1) (G := G_vf1) Try.func78 rfl Try.ntmps78 run_vf1 cok_vf1 (by simp) ?_
  ((conv => whnf); repeat' ((first | refine odw ?_ | refine ify ?_ | refine ifn ?_ | refine i6 ?_ | refine ati ?_ | refine mst ?_ | refine rmd ?_ | refine ibo (fun _ => ?_) (fun _ => ?_)) <;> conv => whnf))
  exact rfl
def pl_vft : List (Nat × Plan) := [(4, .leaf [0, 0, 0, 0, 1, 2, 0, 0, 1, 0, 0, 1, 0, 0] [0, 1, 2, 3, 4, 5, 6, 7, 9, 10, 8, 11, 12, 13] [0, 1, 3, 7, 7, 31, 63, 127, 255, 255, 767, 1791, 4095, 8191])]
def G_vft : List FuncId := [47, 48, 45, 50]
theorem cok_vft : codeOk Try.prog G_vft pl_vft (Try.f56.body.getD .skip) = true := by kernel_rfl
theorem run_vft (vs : Array Value) (w : World) : (callFunc 56 vs).run C1.P w = .ok (.enter 56 vs) w := by kernel_rfl
theorem fits_pure (G : Gr) (hG : G.Ok) (l : List Int) (v : Int) : Pure C1 56 [dG G, dIs l, .int .i64 v] (fun y => y = .bool (fitsV G l v)) := by
  refine Pure.assume (fun O w us hr => by obtain ⟨v, vs, rfl, h1, h2⟩ := reps_inv hr; obtain ⟨v2, vs2, rfl, h3, _⟩ := reps_inv h2; exact ints_len h3) fun hm => ?_
  have hll : (l.map dI).length = l.length := List.length_map _
  refine pure_of c1_ok (pl := pl_vft) (G := G_vft) Try.func56 rfl Try.ntmps56 run_vft cok_vft (by simp) ?_
  cases hx : l[0]? with
  | none =>
    have hl : l = [] := by cases l with | nil => rfl | cons x l => simp at hx
    subst hl
    (conv => whnf)
    (repeat' ((first | refine ord_ok (by (conv => whnf); (repeat' ((first | refine call_eq rfl (vhas_pure G v) ?_ | refine ify ?_ | refine ifn ?_ | refine i6 ?_ | refine ati ?_ | refine mst ?_ | refine rmd ?_ | refine ibo (fun _ => ?_) (fun _ => ?_)) <;> conv => whnf)); (all_goals (repeat' (first | exact trivial | exact rfl | refine And.intro ?_ ?_)))) ?_ | refine call_eq rfl (vhas_pure G v) ?_ | refine ify ?_ | refine ifn ?_ | refine i6 ?_ | refine ati ?_ | refine mst ?_ | refine rmd ?_ | refine ibo (fun _ => ?_) (fun _ => ?_)) <;> conv => whnf))
    exact rfl
  | some y =>
    have hpos := (List.getElem?_eq_some_iff.1 hx).1
    have hxd : (l.map dI)[0]? = some (.int .i64 y) := by rw [List.getElem?_map, hx]; rfl
    have hbs := bes_pure G hG l v
    have hct := contains_pure l v
    have he : fitsV G l v = match l.findIdx? (besP G.edges v) with
      | none => false
      | some i => !decide (v ∈ l) && (!decide (v < y) && !(l.drop (i + 1)).any (fun u => decide (v < u))) := by unfold fitsV; rw [hx]
    rw [he]
    unfold besV idxF at hbs
    cases hf : l.findIdx? (besP G.edges v) with
    | none =>
      rw [hf] at hbs
      simp only [optI] at hbs
      (conv => whnf)
      (repeat' ((first | refine ord_ok (by (conv => whnf); (repeat' ((first | refine call_eq rfl hbs ?_ | refine ify ?_ | refine ifn ?_ | refine i6 ?_ | refine ati ?_ | refine mst ?_ | refine rmd ?_ | refine ibo (fun _ => ?_) (fun _ => ?_)) <;> conv => whnf)); (all_goals (repeat' (first | exact trivial | exact rfl | refine And.intro ?_ ?_)))) ?_ | refine call_eq rfl hbs ?_ | refine ify ?_ | refine ifn ?_ | refine i6 ?_ | refine ati ?_ | refine mst ?_ | refine rmd ?_ | refine ibo (fun _ => ?_) (fun _ => ?_)) <;> conv => whnf))
      exact rfl
    | some i =>
      rw [hf] at hbs
      simp only [optI] at hbs
      have hil : i < l.length := by
        rw [List.findIdx?_eq_some_iff_getElem] at hf
        exact hf.1
      by_cases hc : v ∈ l
      · rw [decide_eq_true hc] at hct ⊢
        (conv => whnf)
        (repeat' ((first | refine ord_ok (by (conv => whnf); (repeat' ((first | refine call_eq rfl hbs ?_ | refine call_eq rfl hct ?_ | refine ify ?_ | refine ifn ?_ | refine i6 ?_ | refine ati ?_ | refine mst ?_ | refine rmd ?_ | refine ibo (fun _ => ?_) (fun _ => ?_)) <;> conv => whnf)); (all_goals (repeat' (first | exact trivial | exact rfl | refine And.intro ?_ ?_)))) ?_ | refine call_eq rfl hbs ?_ | refine call_eq rfl hct ?_ | refine ify ?_ | refine ifn ?_ | refine i6 ?_ | refine ati ?_ | refine mst ?_ | refine rmd ?_ | refine ibo (fun _ => ?_) (fun _ => ?_)) <;> conv => whnf))
        exact rfl
      · rw [decide_eq_false hc] at hct ⊢
        by_cases hv : v < y
        · rw [decide_eq_true hv]
          (conv => whnf)
          (repeat' ((first | refine ord_ok (by (conv => whnf); (repeat' ((first | refine call_eq rfl hbs ?_ | refine call_eq rfl hct ?_ | refine at_da hxd rfl ?_ | refine ify ?_ | refine ifn ?_ | refine i6 ?_ | refine ati ?_ | refine mst ?_ | refine rmd ?_ | refine ibo (fun _ => ?_) (fun _ => ?_)) <;> conv => whnf)); (all_goals (repeat' (first | exact trivial | exact rfl | refine And.intro ?_ ?_)))) ?_ | refine call_eq rfl hbs ?_ | refine call_eq rfl hct ?_ | refine at_da hxd rfl ?_ | refine ify ?_ | refine ifn ?_ | refine i6 ?_ | refine ati ?_ | refine mst ?_ | refine rmd ?_ | refine ibo (fun _ => ?_) (fun _ => ?_)) <;> conv => whnf))
          exact rfl
        · rw [decide_eq_false hv]
          have hcf := containsF_pure (l.drop (i + 1)) 78 [.ref (.int .i64 v)] (fun u => decide (v < u)) (fun u _ => fits1_pure v u)
          rw [dIs_drop] at hcf
          (conv => whnf)
          (repeat' ((first | refine ord_ok (by (conv => whnf); (repeat' ((first | refine call_eq rfl hbs ?_ | refine call_eq rfl hct ?_ | refine at_da hxd rfl ?_ | refine sl_is (i + 1) rfl (by omega) ?_ | refine call_eqb tab rfl hcf rfl ?_ | refine ify ?_ | refine ifn ?_ | refine i6 ?_ | refine ati ?_ | refine mst ?_ | refine rmd ?_ | refine ibo (fun _ => ?_) (fun _ => ?_)) <;> conv => whnf)); (all_goals (repeat' (first | exact trivial | exact rfl | refine And.intro ?_ ?_)))) ?_ | refine call_eq rfl hbs ?_ | refine call_eq rfl hct ?_ | refine at_da hxd rfl ?_ | refine sl_is (i + 1) rfl (by omega) ?_ | refine call_eqb tab rfl hcf rfl ?_ | refine ify ?_ | refine ifn ?_ | refine i6 ?_ | refine ati ?_ | refine mst ?_ | refine rmd ?_ | refine ibo (fun _ => ?_) (fun _ => ?_)) <;> conv => whnf))
          exact rfl
/-- is a list canonical? -/
def canonV (G : Gr) (l : List Int) : Bool := (List.range l.length).all fun i => match l[i]? with
  | some v => fitsV G (l.take i) v
  | none => true
theorem canonV_no {G : Gr} {l : List Int} {i : Nat} {v : Int} (h : l[i]? = some v) (h2 : fitsV G (l.take i) v = false) : canonV G l = false := by
  unfold canonV
  rw [List.all_eq_false]
  exact ⟨i, by simp [(List.getElem?_eq_some_iff.1 h).1], by simp [h, h2]⟩
theorem canonV_yes {G : Gr} {l : List Int} (h : ∀ (i : Nat) (v : Int), l[i]? = some v → fitsV G (l.take i) v = true) : canonV G l = true := by
  unfold canonV
  rw [List.all_eq_true]
  intro i _
  cases hx : l[i]? with
  | none => rfl
  | some v => exact h i v hx
def pl_vcn : List (Nat × Plan) := []
def G_vcn : List FuncId := [56]
theorem cok_vcn : codeOk Try.prog G_vcn pl_vcn (Try.f34.body.getD .skip) = true := by kernel_rfl
theorem run_vcn (vs : Array Value) (w : World) : (callFunc 34 vs).run C1.P w = .ok (.enter 34 vs) w := by kernel_rfl
theorem canon_pure (G : Gr) (hG : G.Ok) (l : List Int) : Pure C1 34 [dG G, dIs l] (fun y => y = .bool (canonV G l)) := by
  refine Pure.assume (fun O w us hr => by obtain ⟨v, vs, rfl, h1, h2⟩ := reps_inv hr; obtain ⟨v2, vs2, rfl, h3, _⟩ := reps_inv h2; exact ints_len h3) fun hm => ?_
  have hl : (l.map dI).length = l.length := List.length_map _
  refine pure_of c1_ok (pl := pl_vcn) (G := G_vcn) Try.func34 rfl Try.ntmps34 run_vcn cok_vcn (by simp) ?_
  ((conv => whnf); repeat' ((first | refine odw ?_ | refine ify ?_ | refine ifn ?_ | refine i6 ?_ | refine ati ?_ | refine mst ?_ | refine rmd ?_ | refine ibo (fun _ => ?_) (fun _ => ?_)) <;> conv => whnf))
  refine loop_lo (ι := Nat) (fun i => i ≤ l.length ∧ ∀ (j : Nat) (v : Int), j < i → l[j]? = some v → fitsV G (l.take j) v = true) (fun i => [(9, .d (.int .i64 i)), (8, .d (.int .i64 (l.map dI).length)), (7, .d (dIs l)), (1, .d (dIs l)), (0, .d (dG G))]) (fun _ => []) (fun i => l.length - i) 0 (fun _ => rfl) ⟨Nat.zero_le _, by intro j v h; omega⟩ (.refl _ _) ⟨rfl, rfl, rfl, rfl, rfl, trivial⟩ trivial ?_
  rintro i ⟨hi, hne⟩
  refine sxCode_sound c1_ok (G := G_vcn) (pl := pl_vcn) _ _ _ _ (by kernel_rfl) ?_
  by_cases hlt : i < l.length
  · have hx := List.getElem?_eq_getElem hlt
    generalize l[i] = y at hx
    have hxd : (l.map dI)[i]? = some (.int .i64 y) := by rw [List.getElem?_map, hx]; rfl
    have h1 := fits_pure G hG (l.take i) y
    rw [dIs_take] at h1
    have hi2 : i ≤ (l.map dI).length := by omega
    cases hv : fitsV G (l.take i) y with
    | false =>
      rw [hv] at h1
      rw [canonV_no hx hv]
      (conv => whnf)
      (repeat' ((first | refine ord_ok (by (conv => whnf); (repeat' ((first | refine at_da hxd rfl ?_ | refine hi_is rfl hi2 ?_ | refine call_eq rfl h1 ?_ | refine ify ?_ | refine ifn ?_ | refine i6 ?_ | refine ati ?_ | refine mst ?_ | refine rmd ?_ | refine ibo (fun _ => ?_) (fun _ => ?_)) <;> conv => whnf)); (all_goals (repeat' (first | exact trivial | exact rfl | refine And.intro ?_ ?_)))) ?_ | refine at_da hxd rfl ?_ | refine hi_is rfl hi2 ?_ | refine call_eq rfl h1 ?_ | refine ify ?_ | refine ifn ?_ | refine i6 ?_ | refine ati ?_ | refine mst ?_ | refine rmd ?_ | refine ibo (fun _ => ?_) (fun _ => ?_)) <;> conv => whnf))
      exact rfl
    | true =>
      rw [hv] at h1
      (conv => whnf)
      (repeat' ((first | refine ord_ok (by (conv => whnf); (repeat' ((first | refine at_da hxd rfl ?_ | refine hi_is rfl hi2 ?_ | refine call_eq rfl h1 ?_ | refine ify ?_ | refine ifn ?_ | refine i6 ?_ | refine ati ?_ | refine mst ?_ | refine rmd ?_ | refine ibo (fun _ => ?_) (fun _ => ?_)) <;> conv => whnf)); (all_goals (repeat' (first | exact trivial | exact rfl | refine And.intro ?_ ?_)))) ?_ | refine at_da hxd rfl ?_ | refine hi_is rfl hi2 ?_ | refine call_eq rfl h1 ?_ | refine ify ?_ | refine ifn ?_ | refine i6 ?_ | refine ati ?_ | refine mst ?_ | refine rmd ?_ | refine ibo (fun _ => ?_) (fun _ => ?_)) <;> conv => whnf))
      refine ⟨i + 1, _, _, ⟨hlt, ?_⟩, .refl _ _, ⟨rfl, rfl, rfl, rfl, rfl, trivial⟩, trivial, by omega⟩
      intro j v hj hjv
      by_cases hji : j = i
      · subst hji; rw [hx] at hjv; cases hjv; exact hv
      · exact hne j v (by omega) hjv
  · rw [canonV_yes (fun j v h => hne j v (by have := (List.getElem?_eq_some_iff.1 h).1; omega) h)]
    ((conv => whnf); repeat' ((first | refine odw ?_ | refine ify ?_ | refine ifn ?_ | refine i6 ?_ | refine ati ?_ | refine mst ?_ | refine rmd ?_ | refine ibo (fun _ => ?_) (fun _ => ?_)) <;> conv => whnf))
    exact rfl
def pl_vmy : List (Nat × Plan) := []
def G_vmy : List FuncId := [34, 56]
theorem cok_vmy : codeOk Try.prog G_vmy pl_vmy (Try.f36.body.getD .skip) = true := by kernel_rfl
theorem run_vmy (vs : Array Value) (w : World) : (callFunc 36 vs).run C1.P w = .ok (.enter 36 vs) w := by kernel_rfl
theorem may_pure (G : Gr) (hG : G.Ok) (l : List Int) (v : Int) : Pure C1 36 [dG G, dIs l, .int .i64 v] (fun y => y = .bool (canonV G l && fitsV G l v)) := by
  refine pure_of c1_ok (pl := pl_vmy) (G := G_vmy) Try.func36 rfl Try.ntmps36 run_vmy cok_vmy (by simp) ?_
  have h1 := canon_pure G hG l
  have h2 := fits_pure G hG l v
  cases hc : canonV G l with
  | true =>
    rw [hc] at h1
    (conv => whnf)
    (repeat' ((first | refine ord_ok (by (conv => whnf); (repeat' ((first | refine call_eq rfl h1 ?_ | refine call_eq rfl h2 ?_ | refine ify ?_ | refine ifn ?_ | refine i6 ?_ | refine ati ?_ | refine mst ?_ | refine rmd ?_ | refine ibo (fun _ => ?_) (fun _ => ?_)) <;> conv => whnf)); (all_goals (repeat' (first | exact trivial | exact rfl | refine And.intro ?_ ?_)))) ?_ | refine call_eq rfl h1 ?_ | refine call_eq rfl h2 ?_ | refine ify ?_ | refine ifn ?_ | refine i6 ?_ | refine ati ?_ | refine mst ?_ | refine rmd ?_ | refine ibo (fun _ => ?_) (fun _ => ?_)) <;> conv => whnf))
    exact rfl
  | false =>
    rw [hc] at h1
    (conv => whnf)
    (repeat' ((first | refine ord_ok (by (conv => whnf); (repeat' ((first | refine call_eq rfl h1 ?_ | refine call_eq rfl h2 ?_ | refine ify ?_ | refine ifn ?_ | refine i6 ?_ | refine ati ?_ | refine mst ?_ | refine rmd ?_ | refine ibo (fun _ => ?_) (fun _ => ?_)) <;> conv => whnf)); (all_goals (repeat' (first | exact trivial | exact rfl | refine And.intro ?_ ?_)))) ?_ | refine call_eq rfl h1 ?_ | refine call_eq rfl h2 ?_ | refine ify ?_ | refine ifn ?_ | refine i6 ?_ | refine ati ?_ | refine mst ?_ | refine rmd ?_ | refine ibo (fun _ => ?_) (fun _ => ?_)) <;> conv => whnf))
    exact rfl
end Go.Proofs.Ytfkkfaociofkjaa
