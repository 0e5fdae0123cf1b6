/- Merged: Vla. -/
import Derived.Test.YtaadeobcnamgdaaGreatDoorZbao
import Derived.Test.YtaadeobcnamgdaaGreatDoorZbap
section
/- Lists: IndexFunc, ContainsFunc with a closure; vert: has, beside. · vert: Linked. -/
namespace Go.Gr
def optI : Option Nat → Int
  | some i => i
  | none => -1
/-- the place of the first that is so; below 0: there is none -/
def idxF (l : List Int) (p : Int → Bool) : Int := optI (l.findIdx? p)
theorem idxF_at {l : List Int} {p : Int → Bool} {i : Nat} {x : Int} (h : l[i]? = some x) (hx : p x = true) (hn : ∀ y ∈ l.take i, p y = false) : idxF l p = i := by
  unfold idxF
  have : l.findIdx? p = some i := by
    rw [List.findIdx?_eq_some_iff_getElem]
    obtain ⟨h1, h2⟩ := List.getElem?_eq_some_iff.1 h
    refine ⟨h1, by rw [h2]; exact hx, fun j hj => ?_⟩
    have := hn l[j] (List.mem_take_iff_getElem.2 ⟨j, by omega, rfl⟩)
    simp [this]
  rw [this]; rfl
theorem idxF_none {l : List Int} {p : Int → Bool} (h : ∀ y ∈ l, p y = false) : idxF l p = -1 := by
  unfold idxF
  have : l.findIdx? p = none := by rw [List.findIdx?_eq_none_iff]; exact fun y hy => by simp [h y hy]
  rw [this]; rfl
theorem idxF_nn (l : List Int) (p : Int → Bool) : 0 ≤ idxF l p ↔ l.any p = true := by
  unfold idxF
  cases h : l.findIdx? p with
  | none =>
    rw [List.findIdx?_eq_none_iff] at h
    simp only [optI]
    refine ⟨fun h => by omega, fun h2 => ?_⟩
    rw [List.any_eq_true] at h2
    obtain ⟨x, hx, hp⟩ := h2
    have := h x hx
    simp [hp] at this
  | some i =>
    rw [List.findIdx?_eq_some_iff_getElem] at h
    obtain ⟨h1, h2, _⟩ := h
    simp only [optI]
    exact ⟨fun _ => List.any_eq_true.2 ⟨_, List.getElem_mem h1, h2⟩, fun _ => by omega⟩
end Go.Gr
namespace Go.Sx
theorem allD_of (xs : List Da) : allD (datas xs) = some xs := by
  induction xs with
  | nil => rfl
  | cons x xs ih => simp [datas, allD, ih]
theorem allD_fn (x : Da) (xs : List Da) : allD (.d x :: datas xs) = some (x :: xs) := by simp [allD, allD_of]
end Go.Sx
namespace Go.Proofs.YtaadeobcnamgdaaGreatDoor
open Go.Sx Go.RowKit Go.Reg Go.Gr

set_option maxRecDepth 100000
def pl_sixf : List (Nat × Plan) := []
def G_sixf : List FuncId := []
theorem cok_sixf : codeOk Tryz.prog G_sixf pl_sixf (Tryz.f218.body.getD .skip) = true := by kernel_rfl
theorem run_sixf (vs : Array Value) (w : World) : (callFunc 218 vs).run C1.P w = .ok (.enter 218 vs) w := by kernel_rfl
theorem indexF_pure (l : List Int) (g : FuncId) (cs : List Da) (p : Int → Bool) (hp : ∀ x ∈ l, Pure C1 g (.int .i64 x :: cs) (fun y => y = .bool (p x))) : Pure C1 218 [dIs l, .func (.func g) [] cs] (fun y => y = .int .i64 (idxF l p)) := by
  refine Pure.len1 fun hm => ?_
  have hl : (l.map dI).length = l.length := List.length_map _
  refine pure_of c1_ok (pl := pl_sixf) (G := G_sixf) Tryz.func218 rfl Tryz.ntmps218 run_sixf cok_sixf (by simp) ?_
  ((conv => whnf); repeat' ((first | refine odw ?_ | refine ify ?_ | refine ifn ?_ | refine i6 ?_ | refine ati ?_ | refine mst ?_ | refine rmd ?_ | refine ibo (fun _ => ?_) (fun _ => ?_)) <;> conv => whnf))
  refine loop_lo (ι := Nat) (fun i => i ≤ l.length ∧ ∀ y ∈ l.take i, p y = false) (fun i => [(8, .d (.int .i64 i)), (7, .d (.int .i64 (l.map dI).length)), (1, .d (.func (.func g) [] cs)), (0, .d (dIs l))]) (fun _ => []) (fun i => l.length - i) 0 (fun _ => rfl) ⟨Nat.zero_le _, by simp⟩ (.refl _ _) ⟨rfl, rfl, rfl, rfl, trivial⟩ trivial ?_
  rintro i ⟨hi, hne⟩
  refine sxCode_sound c1_ok (G := G_sixf) (pl := pl_sixf) _ _ _ _ (by kernel_rfl) ?_
  by_cases hlt : i < l.length
  · have hx := List.getElem?_eq_getElem hlt
    generalize l[i] = y at hx
    have hxd : (l.map dI)[i]? = some (.int .i64 y) := by rw [List.getElem?_map, hx]; rfl
    have hpy := hp y (List.mem_of_getElem? hx)
    cases hy : p y with
    | true =>
      rw [hy] at hpy
      rw [idxF_at hx hy hne]
      (conv => whnf)
      (repeat' ((first | refine ord_ok (by (conv => whnf); (repeat' ((first | refine at_da hxd rfl ?_ | refine call_eq (allD_fn _ _) hpy ?_ | refine ify ?_ | refine ifn ?_ | refine i6 ?_ | refine ati ?_ | refine mst ?_ | refine rmd ?_ | refine ibo (fun _ => ?_) (fun _ => ?_)) <;> conv => whnf)); (all_goals (repeat' (first | exact trivial | exact rfl | refine And.intro ?_ ?_)))) ?_ | refine at_da hxd rfl ?_ | refine call_eq (allD_fn _ _) hpy ?_ | refine ify ?_ | refine ifn ?_ | refine i6 ?_ | refine ati ?_ | refine mst ?_ | refine rmd ?_ | refine ibo (fun _ => ?_) (fun _ => ?_)) <;> conv => whnf))
      exact rfl
    | false =>
      rw [hy] at hpy
      (conv => whnf)
      (repeat' ((first | refine ord_ok (by (conv => whnf); (repeat' ((first | refine at_da hxd rfl ?_ | refine call_eq (allD_fn _ _) hpy ?_ | refine ify ?_ | refine ifn ?_ | refine i6 ?_ | refine ati ?_ | refine mst ?_ | refine rmd ?_ | refine ibo (fun _ => ?_) (fun _ => ?_)) <;> conv => whnf)); (all_goals (repeat' (first | exact trivial | exact rfl | refine And.intro ?_ ?_)))) ?_ | refine at_da hxd rfl ?_ | refine call_eq (allD_fn _ _) hpy ?_ | refine ify ?_ | refine ifn ?_ | refine i6 ?_ | refine ati ?_ | refine mst ?_ | refine rmd ?_ | refine ibo (fun _ => ?_) (fun _ => ?_)) <;> conv => whnf))
      refine ⟨i + 1, _, _, ⟨hlt, ?_⟩, .refl _ _, ⟨rfl, rfl, rfl, rfl, trivial⟩, trivial, by omega⟩
      intro z hz
      rw [List.take_add_one, hx] at hz
      rcases List.mem_append.1 hz with hz | hz
      · exact hne z hz
      · simp at hz; subst hz; exact hy
  · have hii : l.take i = l := List.take_of_length_le (by omega)
    rw [hii] at hne
    rw [idxF_none hne]
    ((conv => whnf); repeat' ((first | refine odw ?_ | refine ify ?_ | refine ifn ?_ | refine i6 ?_ | refine ati ?_ | refine mst ?_ | refine rmd ?_ | refine ibo (fun _ => ?_) (fun _ => ?_)) <;> conv => whnf))
    exact rfl
def pl_vhas : List (Nat × Plan) := []
def G_vhas : List FuncId := []
theorem cok_vhas : codeOk Tryz.prog G_vhas pl_vhas (Tryz.f165.body.getD .skip) = true := by kernel_rfl
theorem run_vhas (vs : Array Value) (w : World) : (callFunc 165 vs).run C1.P w = .ok (.enter 165 vs) w := by kernel_rfl
theorem vhas_pure (G : Gr) (v : Int) : Pure C1 165 [dG G, .int .i64 v] (fun y => y = .bool (hasV G v)) := by
  refine pure_of c1_ok (pl := pl_vhas) (G := G_vhas) Tryz.func165 rfl Tryz.ntmps165 run_vhas cok_vhas (by simp) ?_
  by_cases h0 : 0 ≤ v
  · (conv => whnf)
    (repeat' ((first | refine ord_ok (by (conv => whnf); (repeat' ((first | refine call_eq rfl (len_pure G) ?_ | refine ify ?_ | refine ifn ?_ | refine i6 ?_ | refine ati ?_ | refine mst ?_ | refine rmd ?_ | refine ibo (fun _ => ?_) (fun _ => ?_)) <;> conv => whnf)); (all_goals (repeat' (first | exact trivial | exact rfl | refine And.intro ?_ ?_)))) ?_ | refine call_eq rfl (len_pure G) ?_ | refine ify ?_ | refine ifn ?_ | refine i6 ?_ | refine ati ?_ | refine mst ?_ | refine rmd ?_ | refine ibo (fun _ => ?_) (fun _ => ?_)) <;> conv => whnf))
    show Da.plain _ = _
    simp [Da.plain, hasV, h0]
  · have : hasV G v = false := by simp [hasV, h0]
    rw [this]
    ((conv => whnf); repeat' ((first | refine odw ?_ | refine ify ?_ | refine ifn ?_ | refine i6 ?_ | refine ati ?_ | refine mst ?_ | refine rmd ?_ | refine ibo (fun _ => ?_) (fun _ => ?_)) <;> conv => whnf))
    exact rfl
def pl_vbs1 : List (Nat × Plan) := []
def G_vbs1 : List FuncId := [120]
theorem cok_vbs1 : codeOk Tryz.prog G_vbs1 pl_vbs1 (Tryz.f219.body.getD .skip) = true := by kernel_rfl
theorem run_vbs1 (vs : Array Value) (w : World) : (callFunc 219 vs).run C1.P w = .ok (.enter 219 vs) w := by kernel_rfl
def besP (E : List Edg) (v : Int) (u : Int) : Bool := decide (turn ⟨u, v⟩ ∈ E)
theorem bes1_pure (G : Gr) (hG : G.Ok) (v u : Int) : Pure C1 219 [.int .i64 u, .ref (dG G), .ref (.int .i64 v)] (fun y => y = .bool (besP G.edges v u)) := by
  refine pure_of c1_ok (pl := pl_vbs1) (G := G_vbs1) Tryz.func219 rfl Tryz.ntmps219 run_vbs1 cok_vbs1 (by simp) ?_
  (conv => whnf)
  (repeat' ((first | refine ord_ok (by (conv => whnf); (repeat' ((first | refine call_eq rfl (hasE_pure G hG u v) ?_ | refine ify ?_ | refine ifn ?_ | refine i6 ?_ | refine ati ?_ | refine mst ?_ | refine rmd ?_ | refine ibo (fun _ => ?_) (fun _ => ?_)) <;> conv => whnf)); (all_goals (repeat' (first | exact trivial | exact rfl | refine And.intro ?_ ?_)))) ?_ | refine call_eq rfl (hasE_pure G hG u v) ?_ | refine ify ?_ | refine ifn ?_ | refine i6 ?_ | refine ati ?_ | refine mst ?_ | refine rmd ?_ | refine ibo (fun _ => ?_) (fun _ => ?_)) <;> conv => whnf))
  exact rfl
def pl_vbs : List (Nat × Plan) := []
def G_vbs : List FuncId := [218]
theorem cok_vbs : codeOk Tryz.prog G_vbs pl_vbs (Tryz.f166.body.getD .skip) = true := by kernel_rfl
theorem run_vbs (vs : Array Value) (w : World) : (callFunc 166 vs).run C1.P w = .ok (.enter 166 vs) w := by kernel_rfl
def besV (E : List Edg) (l : List Int) (v : Int) : Int := idxF l (besP E v)
theorem bes_pure (G : Gr) (hG : G.Ok) (l : List Int) (v : Int) : Pure C1 166 [dG G, dIs l, .int .i64 v] (fun y => y = .int .i64 (besV G.edges l v)) := by
  refine pure_of c1_ok (pl := pl_vbs) (G := G_vbs) Tryz.func166 rfl Tryz.ntmps166 run_vbs cok_vbs (by simp) ?_
  (conv => whnf)
  (repeat' ((first | refine ord_ok (by (conv => whnf); (repeat' ((first | refine call_eqb tab rfl (indexF_pure l _ [.ref (dG G), .ref (.int .i64 v)] _ (fun u _ => bes1_pure G hG v u)) rfl ?_ | refine ify ?_ | refine ifn ?_ | refine i6 ?_ | refine ati ?_ | refine mst ?_ | refine rmd ?_ | refine ibo (fun _ => ?_) (fun _ => ?_)) <;> conv => whnf)); (all_goals (repeat' (first | exact trivial | exact rfl | refine And.intro ?_ ?_)))) ?_ | refine call_eqb tab rfl (indexF_pure l _ [.ref (dG G), .ref (.int .i64 v)] _ (fun u _ => bes1_pure G hG v u)) rfl ?_ | refine ify ?_ | refine ifn ?_ | refine i6 ?_ | refine ati ?_ | refine mst ?_ | refine rmd ?_ | refine ibo (fun _ => ?_) (fun _ => ?_)) <;> conv => whnf))
  exact rfl

end Go.Proofs.YtaadeobcnamgdaaGreatDoor
namespace Go.Proofs.YtaadeobcnamgdaaGreatDoor
open Go.Sx Go.RowKit Go.Reg Go.Gr

set_option maxRecDepth 100000
def linkAt (G : Gr) (l : List Int) (i : Nat) (v : Int) : Bool := hasV G v && (!decide (v ∈ l.take i) && (decide (i = 0) || (l.take i).any (besP G.edges v)))
def linkedV (G : Gr) (l : List Int) : Bool := (List.range l.length).all fun i => match l[i]? with
  | some v => linkAt G l i v
  | none => true
theorem linkedV_no {G : Gr} {l : List Int} {i : Nat} {v : Int} (h : l[i]? = some v) (h2 : linkAt G l i v = false) : linkedV G l = false := by
  unfold linkedV
  rw [List.all_eq_false]
  exact ⟨i, by simp [(List.getElem?_eq_some_iff.1 h).1], by simp [h, h2]⟩
theorem linkedV_yes {G : Gr} {l : List Int} (h : ∀ (i : Nat) (v : Int), l[i]? = some v → linkAt G l i v = true) : linkedV G l = true := by
  unfold linkedV
  rw [List.all_eq_true]
  intro i _
  cases hx : l[i]? with
  | none => rfl
  | some v => exact h i v hx
theorem hi_is {len i : Nat} {n : Int} {K : Nat → Prop} (hn : n = i) (hi : i ≤ len) (hK : K i) : ∃ m : Nat, n = m ∧ m ≤ len ∧ K m := ⟨i, hn, hi, hK⟩
theorem dIs_take (l : List Int) (i : Nat) : dIs (l.take i) = .list 1 ((l.map dI).take i) := by unfold dIs; rw [List.map_take]
def pl_vlk : List (Nat × Plan) := []
def G_vlk : List FuncId := [165, 167, 166]
theorem cok_vlk : codeOk Tryz.prog G_vlk pl_vlk (Tryz.f119.body.getD .skip) = true := by kernel_rfl
theorem run_vlk (vs : Array Value) (w : World) : (callFunc 119 vs).run C1.P w = .ok (.enter 119 vs) w := by kernel_rfl
theorem linked_pure (G : Gr) (hG : G.Ok) (l : List Int) : Pure C1 119 [dG G, dIs l] (fun y => y = .bool (linkedV G l)) := by
  refine Pure.assume (fun O w us hr => by obtain ⟨v, vs, rfl, h1, h2⟩ := reps_inv hr; obtain ⟨v2, vs2, rfl, h3, _⟩ := reps_inv h2; exact ints_len h3) fun hm => ?_
  have hl : (l.map dI).length = l.length := List.length_map _
  refine pure_of c1_ok (pl := pl_vlk) (G := G_vlk) Tryz.func119 rfl Tryz.ntmps119 run_vlk cok_vlk (by simp) ?_
  ((conv => whnf); repeat' ((first | refine odw ?_ | refine ify ?_ | refine ifn ?_ | refine i6 ?_ | refine ati ?_ | refine mst ?_ | refine rmd ?_ | refine ibo (fun _ => ?_) (fun _ => ?_)) <;> conv => whnf))
  refine loop_lo (ι := Nat) (fun i => i ≤ l.length ∧ ∀ (j : Nat) (v : Int), j < i → l[j]? = some v → linkAt G l j v = true) (fun i => [(9, .d (.int .i64 i)), (8, .d (.int .i64 (l.map dI).length)), (7, .d (dIs l)), (1, .d (dIs l)), (0, .d (dG G))]) (fun _ => []) (fun i => l.length - i) 0 (fun _ => rfl) ⟨Nat.zero_le _, by intro j v h; omega⟩ (.refl _ _) ⟨rfl, rfl, rfl, rfl, rfl, trivial⟩ trivial ?_
  rintro i ⟨hi, hne⟩
  refine sxCode_sound c1_ok (G := G_vlk) (pl := pl_vlk) _ _ _ _ (by kernel_rfl) ?_
  by_cases hlt : i < l.length
  · have hx := List.getElem?_eq_getElem hlt
    generalize l[i] = y at hx
    have hxd : (l.map dI)[i]? = some (.int .i64 y) := by rw [List.getElem?_map, hx]; rfl
    have h1 := vhas_pure G y
    have h2 := contains_pure (l.take i) y
    have h3 := bes_pure G hG (l.take i) y
    rw [dIs_take] at h2 h3
    have hi2 : i ≤ (l.map dI).length := by omega
    cases hv : hasV G y with
    | false =>
      rw [hv] at h1
      rw [linkedV_no hx (by simp [linkAt, hv])]
      (conv => whnf)
      (repeat' ((first | refine ord_ok (by (conv => whnf); (repeat' ((first | refine at_da hxd rfl ?_ | refine call_eq rfl h1 ?_ | refine ify ?_ | refine ifn ?_ | refine i6 ?_ | refine ati ?_ | refine mst ?_ | refine rmd ?_ | refine ibo (fun _ => ?_) (fun _ => ?_)) <;> conv => whnf)); (all_goals (repeat' (first | exact trivial | exact rfl | refine And.intro ?_ ?_)))) ?_ | refine at_da hxd rfl ?_ | refine call_eq rfl h1 ?_ | refine ify ?_ | refine ifn ?_ | refine i6 ?_ | refine ati ?_ | refine mst ?_ | refine rmd ?_ | refine ibo (fun _ => ?_) (fun _ => ?_)) <;> conv => whnf))
      exact rfl
    | true =>
      rw [hv] at h1
      by_cases hc : y ∈ l.take i
      · rw [decide_eq_true hc] at h2
        rw [linkedV_no hx (by simp [linkAt, hc])]
        (conv => whnf)
        (repeat' ((first | refine ord_ok (by (conv => whnf); (repeat' ((first | refine at_da hxd rfl ?_ | refine call_eq rfl h1 ?_ | refine hi_is rfl hi2 ?_ | refine call_eq rfl h2 ?_ | refine ify ?_ | refine ifn ?_ | refine i6 ?_ | refine ati ?_ | refine mst ?_ | refine rmd ?_ | refine ibo (fun _ => ?_) (fun _ => ?_)) <;> conv => whnf)); (all_goals (repeat' (first | exact trivial | exact rfl | refine And.intro ?_ ?_)))) ?_ | refine at_da hxd rfl ?_ | refine call_eq rfl h1 ?_ | refine hi_is rfl hi2 ?_ | refine call_eq rfl h2 ?_ | refine ify ?_ | refine ifn ?_ | refine i6 ?_ | refine ati ?_ | refine mst ?_ | refine rmd ?_ | refine ibo (fun _ => ?_) (fun _ => ?_)) <;> conv => whnf))
        exact rfl
      · rw [decide_eq_false hc] at h2
        by_cases h0 : i = 0
        · have hyes : linkAt G l i y = true := by simp [linkAt, hv, h0]
          (conv => whnf)
          (repeat' ((first | refine ord_ok (by (conv => whnf); (repeat' ((first | refine at_da hxd rfl ?_ | refine call_eq rfl h1 ?_ | refine hi_is rfl hi2 ?_ | refine call_eq rfl h2 ?_ | refine ify ?_ | refine ifn ?_ | refine i6 ?_ | refine ati ?_ | refine mst ?_ | refine rmd ?_ | refine ibo (fun _ => ?_) (fun _ => ?_)) <;> conv => whnf)); (all_goals (repeat' (first | exact trivial | exact rfl | refine And.intro ?_ ?_)))) ?_ | refine at_da hxd rfl ?_ | refine call_eq rfl h1 ?_ | refine hi_is rfl hi2 ?_ | refine call_eq rfl h2 ?_ | refine ify ?_ | refine ifn ?_ | refine i6 ?_ | refine ati ?_ | refine mst ?_ | refine rmd ?_ | refine ibo (fun _ => ?_) (fun _ => ?_)) <;> conv => whnf))
          refine ⟨i + 1, _, _, ⟨hlt, ?_⟩, .refl _ _, ⟨rfl, rfl, rfl, rfl, rfl, trivial⟩, trivial, by omega⟩
          intro j v hj hjv
          by_cases hji : j = i
          · subst hji; rw [hx] at hjv; cases hjv; exact hyes
          · exact hne j v (by omega) hjv
        · by_cases hb : (l.take i).any (besP G.edges y) = true
          · have hyes : linkAt G l i y = true := by simp only [linkAt, hv, hb, decide_eq_false hc]; simp
            have hbn : ¬ besV G.edges (l.take i) y < 0 := by have := (idxF_nn (l.take i) (besP G.edges y)).2 hb; unfold besV; omega
            (conv => whnf)
            (repeat' ((first | refine ord_ok (by (conv => whnf); (repeat' ((first | refine at_da hxd rfl ?_ | refine call_eq rfl h1 ?_ | refine hi_is rfl hi2 ?_ | refine call_eq rfl h2 ?_ | refine call_eq rfl h3 ?_ | refine ify ?_ | refine ifn ?_ | refine i6 ?_ | refine ati ?_ | refine mst ?_ | refine rmd ?_ | refine ibo (fun _ => ?_) (fun _ => ?_)) <;> conv => whnf)); (all_goals (repeat' (first | exact trivial | exact rfl | refine And.intro ?_ ?_)))) ?_ | refine at_da hxd rfl ?_ | refine call_eq rfl h1 ?_ | refine hi_is rfl hi2 ?_ | refine call_eq rfl h2 ?_ | refine call_eq rfl h3 ?_ | refine ify ?_ | refine ifn ?_ | refine i6 ?_ | refine ati ?_ | refine mst ?_ | refine rmd ?_ | refine ibo (fun _ => ?_) (fun _ => ?_)) <;> conv => whnf))
            refine ⟨i + 1, _, _, ⟨hlt, ?_⟩, .refl _ _, ⟨rfl, rfl, rfl, rfl, rfl, trivial⟩, trivial, by omega⟩
            intro j v hj hjv
            by_cases hji : j = i
            · subst hji; rw [hx] at hjv; cases hjv; exact hyes
            · exact hne j v (by omega) hjv
          · have hno : linkAt G l i y = false := by simp only [linkAt, hv, Bool.eq_false_iff.2 hb, decide_eq_false h0]; simp
            rw [linkedV_no hx hno]
            have hbn : besV G.edges (l.take i) y < 0 := by have : ¬ 0 ≤ idxF (l.take i) (besP G.edges y) := fun h => hb ((idxF_nn _ _).1 h)
                                                           unfold besV; omega
            (conv => whnf)
            (repeat' ((first | refine ord_ok (by (conv => whnf); (repeat' ((first | refine at_da hxd rfl ?_ | refine call_eq rfl h1 ?_ | refine hi_is rfl hi2 ?_ | refine call_eq rfl h2 ?_ | refine call_eq rfl h3 ?_ | refine ify ?_ | refine ifn ?_ | refine i6 ?_ | refine ati ?_ | refine mst ?_ | refine rmd ?_ | refine ibo (fun _ => ?_) (fun _ => ?_)) <;> conv => whnf)); (all_goals (repeat' (first | exact trivial | exact rfl | refine And.intro ?_ ?_)))) ?_ | refine at_da hxd rfl ?_ | refine call_eq rfl h1 ?_ | refine hi_is rfl hi2 ?_ | refine call_eq rfl h2 ?_ | refine call_eq rfl h3 ?_ | refine ify ?_ | refine ifn ?_ | refine i6 ?_ | refine ati ?_ | refine mst ?_ | refine rmd ?_ | refine ibo (fun _ => ?_) (fun _ => ?_)) <;> conv => whnf))
            exact rfl
  · rw [linkedV_yes (fun j v h => hne j v (by have := (List.getElem?_eq_some_iff.1 h).1; omega) h)]
    ((conv => whnf); repeat' ((first | refine odw ?_ | refine ify ?_ | refine ifn ?_ | refine i6 ?_ | refine ati ?_ | refine mst ?_ | refine rmd ?_ | refine ibo (fun _ => ?_) (fun _ => ?_)) <;> conv => whnf))
    exact rfl
end Go.Proofs.YtaadeobcnamgdaaGreatDoor
end
