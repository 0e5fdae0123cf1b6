/- Lists: IndexFunc, ContainsFunc with a closure; vert: has, beside. -/
import Derived.Test.YtfkkfaociofkjaaLnf
import Derived.Test.YtfkkfaociofkjaaGrs
namespace Go.Gr
def optI : Option Nat → Int
  | some i => i
  | none => -1
/-- the place of the first that is so; below 0: there is none -/
def idxF (l : List Int) (p : Int → Bool) : Int := optI (l.findIdx? p)
theorem idxF_at {l : List Int} {p : Int → Bool} {i : Nat} {x : Int} (h : l[i]? = some x) (hx : p x = true) (hn : ∀ y ∈ l.take i, p y = false) : idxF l p = i := by
  unfold idxF
  have : l.findIdx? p = some i := by
    rw [List.findIdx?_eq_some_iff_getElem]
    obtain ⟨h1, h2⟩ := List.getElem?_eq_some_iff.1 h
    refine ⟨h1, by rw [h2]; exact hx, fun j hj => ?_⟩
    have := hn l[j] (List.mem_take_iff_getElem.2 ⟨j, by omega, rfl⟩)
    simp [this]
  rw [this]; rfl
theorem idxF_none {l : List Int} {p : Int → Bool} (h : ∀ y ∈ l, p y = false) : idxF l p = -1 := by
  unfold idxF
  have : l.findIdx? p = none := by rw [List.findIdx?_eq_none_iff]; exact fun y hy => by simp [h y hy]
  rw [this]; rfl
theorem idxF_nn (l : List Int) (p : Int → Bool) : 0 ≤ idxF l p ↔ l.any p = true := by
  unfold idxF
  cases h : l.findIdx? p with
  | none =>
    rw [List.findIdx?_eq_none_iff] at h
    simp only [optI]
    refine ⟨fun h => by omega, fun h2 => ?_⟩
    rw [List.any_eq_true] at h2
    obtain ⟨x, hx, hp⟩ := h2
    have := h x hx
    simp [hp] at this
  | some i =>
    rw [List.findIdx?_eq_some_iff_getElem] at h
    obtain ⟨h1, h2, _⟩ := h
    simp only [optI]
    exact ⟨fun _ => List.any_eq_true.2 ⟨_, List.getElem_mem h1, h2⟩, fun _ => by omega⟩
end Go.Gr
namespace Go.Sx
theorem allD_of (xs : List Da) : allD (datas xs) = some xs := by
  induction xs with
  | nil => rfl
  | cons x xs ih => simp [datas, allD, ih]
theorem allD_fn (x : Da) (xs : List Da) : allD (.d x :: datas xs) = some (x :: xs) := by simp [allD, allD_of]
end Go.Sx
namespace Go.Proofs.Ytfkkfaociofkjaa
open Go.Sx Go.RowKit Go.Reg Go.Gr

set_option maxRecDepth 100000
def pl_sixf : List (Nat × Plan) := []
def G_sixf : List FuncId := []
theorem cok_sixf : codeOk Try.prog G_sixf pl_sixf (Try.f52.body.getD .skip) = true := by kernel_rfl
theorem run_sixf (vs : Array Value) (w : World) : (callFunc 52 vs).run C1.P w = .ok (.enter 52 vs) w := by kernel_rfl
theorem indexF_pure (l : List Int) (g : FuncId) (cs : List Da) (p : Int → Bool) (hp : ∀ x ∈ l, Pure C1 g (.int .i64 x :: cs) (fun y => y = .bool (p x))) : Pure C1 52 [dIs l, .func (.func g) [] cs] (fun y => y = .int .i64 (idxF l p)) := by
  refine Pure.len1 fun hm => ?_
  have hl : (l.map dI).length = l.length := List.length_map _
  refine pure_of c1_ok (pl := pl_sixf) (G := G_sixf) Try.func52 rfl Try.ntmps52 run_sixf cok_sixf (by simp) ?_
  ((conv => whnf); repeat' ((first | refine odw ?_ | refine ify ?_ | refine ifn ?_ | refine i6 ?_ | refine ati ?_ | refine mst ?_ | refine rmd ?_ | refine ibo (fun _ => ?_) (fun _ => ?_)) <;> conv => whnf))
  refine loop_lo (ι := Nat) (fun i => i ≤ l.length ∧ ∀ y ∈ l.take i, p y = false) (fun i => [(8, .d (.int .i64 i)), (7, .d (.int .i64 (l.map dI).length)), (1, .d (.func (.func g) [] cs)), (0, .d (dIs l))]) (fun _ => []) (fun i => l.length - i) 0 (fun _ => rfl) ⟨Nat.zero_le _, by simp⟩ (.refl _ _) ⟨rfl, rfl, rfl, rfl, trivial⟩ trivial ?_
  rintro i ⟨hi, hne⟩
  refine sxCode_sound c1_ok (G := G_sixf) (pl := pl_sixf) _ _ _ _ (by kernel_rfl) ?_
  by_cases hlt : i < l.length
  · have hx := List.getElem?_eq_getElem hlt
    generalize l[i] = y at hx
    have hxd : (l.map dI)[i]? = some (.int .i64 y) := by rw [List.getElem?_map, hx]; rfl
    have hpy := hp y (List.mem_of_getElem? hx)
    cases hy : p y with
    | true =>
      rw [hy] at hpy
      rw [idxF_at hx hy hne]
      (conv => whnf)
      (repeat' ((first | refine ord_ok (by (conv => whnf); (repeat' ((first | refine at_da hxd rfl ?_ | refine call_eq (allD_fn _ _) hpy ?_ | refine ify ?_ | refine ifn ?_ | refine i6 ?_ | refine ati ?_ | refine mst ?_ | refine rmd ?_ | refine ibo (fun _ => ?_) (fun _ => ?_)) <;> conv => whnf)); (all_goals (repeat' (first | exact trivial | exact rfl | refine And.intro ?_ ?_)))) ?_ | refine at_da hxd rfl ?_ | refine call_eq (allD_fn _ _) hpy ?_ | refine ify ?_ | refine ifn ?_ | refine i6 ?_ | refine ati ?_ | refine mst ?_ | refine rmd ?_ | refine ibo (fun _ => ?_) (fun _ => ?_)) <;> conv => whnf))
      exact rfl
    | false =>
      rw [hy] at hpy
      (conv => whnf)
      (repeat' ((first | refine ord_ok (by (conv => whnf); (repeat' ((first | refine at_da hxd rfl ?_ | refine call_eq (allD_fn _ _) hpy ?_ | refine ify ?_ | refine ifn ?_ | refine i6 ?_ | refine ati ?_ | refine mst ?_ | refine rmd ?_ | refine ibo (fun _ => ?_) (fun _ => ?_)) <;> conv => whnf)); (all_goals (repeat' (first | exact trivial | exact rfl | refine And.intro ?_ ?_)))) ?_ | refine at_da hxd rfl ?_ | refine call_eq (allD_fn _ _) hpy ?_ | refine ify ?_ | refine ifn ?_ | refine i6 ?_ | refine ati ?_ | refine mst ?_ | refine rmd ?_ | refine ibo (fun _ => ?_) (fun _ => ?_)) <;> conv => whnf))
      refine ⟨i + 1, _, _, ⟨hlt, ?_⟩, .refl _ _, ⟨rfl, rfl, rfl, rfl, trivial⟩, trivial, by omega⟩
      intro z hz
      rw [List.take_add_one, hx] at hz
      rcases List.mem_append.1 hz with hz | hz
      · exact hne z hz
      · simp at hz; subst hz; exact hy
  · have hii : l.take i = l := List.take_of_length_le (by omega)
    rw [hii] at hne
    rw [idxF_none hne]
    ((conv => whnf); repeat' ((first | refine odw ?_ | refine ify ?_ | refine ifn ?_ | refine i6 ?_ | refine ati ?_ | refine mst ?_ | refine rmd ?_ | refine ibo (fun _ => ?_) (fun _ => ?_)) <;> conv => whnf))
    exact rfl
def pl_vhas : List (Nat × Plan) := []
def G_vhas : List FuncId := []
theorem cok_vhas : codeOk Try.prog G_vhas pl_vhas (Try.f47.body.getD .skip) = true := by kernel_rfl
theorem run_vhas (vs : Array Value) (w : World) : (callFunc 47 vs).run C1.P w = .ok (.enter 47 vs) w := by kernel_rfl
theorem vhas_pure (G : Gr) (v : Int) : Pure C1 47 [dG G, .int .i64 v] (fun y => y = .bool (hasV G v)) := by
  refine pure_of c1_ok (pl := pl_vhas) (G := G_vhas) Try.func47 rfl Try.ntmps47 run_vhas cok_vhas (by simp) ?_
  by_cases h0 : 0 ≤ v
  · (conv => whnf)
    (repeat' ((first | refine ord_ok (by (conv => whnf); (repeat' ((first | refine call_eq rfl (len_pure G) ?_ | refine ify ?_ | refine ifn ?_ | refine i6 ?_ | refine ati ?_ | refine mst ?_ | refine rmd ?_ | refine ibo (fun _ => ?_) (fun _ => ?_)) <;> conv => whnf)); (all_goals (repeat' (first | exact trivial | exact rfl | refine And.intro ?_ ?_)))) ?_ | refine call_eq rfl (len_pure G) ?_ | refine ify ?_ | refine ifn ?_ | refine i6 ?_ | refine ati ?_ | refine mst ?_ | refine rmd ?_ | refine ibo (fun _ => ?_) (fun _ => ?_)) <;> conv => whnf))
    show Da.plain _ = _
    simp [Da.plain, hasV, h0]
  · have : hasV G v = false := by simp [hasV, h0]
    rw [this]
    ((conv => whnf); repeat' ((first | refine odw ?_ | refine ify ?_ | refine ifn ?_ | refine i6 ?_ | refine ati ?_ | refine mst ?_ | refine rmd ?_ | refine ibo (fun _ => ?_) (fun _ => ?_)) <;> conv => whnf))
    exact rfl
def pl_vbs1 : List (Nat × Plan) := []
def G_vbs1 : List FuncId := [73]
theorem cok_vbs1 : codeOk Try.prog G_vbs1 pl_vbs1 (Try.f72.body.getD .skip) = true := by kernel_rfl
theorem run_vbs1 (vs : Array Value) (w : World) : (callFunc 72 vs).run C1.P w = .ok (.enter 72 vs) w := by kernel_rfl
def besP (E : List Edg) (v : Int) (u : Int) : Bool := decide (turn ⟨u, v⟩ ∈ E)
theorem bes1_pure (G : Gr) (hG : G.Ok) (v u : Int) : Pure C1 72 [.int .i64 u, .ref (dG G), .ref (.int .i64 v)] (fun y => y = .bool (besP G.edges v u)) := by
  refine pure_of c1_ok (pl := pl_vbs1) (G := G_vbs1) Try.func72 rfl Try.ntmps72 run_vbs1 cok_vbs1 (by simp) ?_
  (conv => whnf)
  (repeat' ((first | refine ord_ok (by (conv => whnf); (repeat' ((first | refine call_eq rfl (hasE_pure G hG u v) ?_ | refine ify ?_ | refine ifn ?_ | refine i6 ?_ | refine ati ?_ | refine mst ?_ | refine rmd ?_ | refine ibo (fun _ => ?_) (fun _ => ?_)) <;> conv => whnf)); (all_goals (repeat' (first | exact trivial | exact rfl | refine And.intro ?_ ?_)))) ?_ | refine call_eq rfl (hasE_pure G hG u v) ?_ | refine ify ?_ | refine ifn ?_ | refine i6 ?_ | refine ati ?_ | refine mst ?_ | refine rmd ?_ | refine ibo (fun _ => ?_) (fun _ => ?_)) <;> conv => whnf))
  exact rfl
def pl_vbs : List (Nat × Plan) := []
def G_vbs : List FuncId := [52]
theorem cok_vbs : codeOk Try.prog G_vbs pl_vbs (Try.f48.body.getD .skip) = true := by kernel_rfl
theorem run_vbs (vs : Array Value) (w : World) : (callFunc 48 vs).run C1.P w = .ok (.enter 48 vs) w := by kernel_rfl
def besV (E : List Edg) (l : List Int) (v : Int) : Int := idxF l (besP E v)
theorem bes_pure (G : Gr) (hG : G.Ok) (l : List Int) (v : Int) : Pure C1 48 [dG G, dIs l, .int .i64 v] (fun y => y = .int .i64 (besV G.edges l v)) := by
  refine pure_of c1_ok (pl := pl_vbs) (G := G_vbs) Try.func48 rfl Try.ntmps48 run_vbs cok_vbs (by simp) ?_
  (conv => whnf)
  (repeat' ((first | refine ord_ok (by (conv => whnf); (repeat' ((first | refine call_eqb tab rfl (indexF_pure l _ [.ref (dG G), .ref (.int .i64 v)] _ (fun u _ => bes1_pure G hG v u)) rfl ?_ | refine ify ?_ | refine ifn ?_ | refine i6 ?_ | refine ati ?_ | refine mst ?_ | refine rmd ?_ | refine ibo (fun _ => ?_) (fun _ => ?_)) <;> conv => whnf)); (all_goals (repeat' (first | exact trivial | exact rfl | refine And.intro ?_ ?_)))) ?_ | refine call_eqb tab rfl (indexF_pure l _ [.ref (dG G), .ref (.int .i64 v)] _ (fun u _ => bes1_pure G hG v u)) rfl ?_ | refine ify ?_ | refine ifn ?_ | refine i6 ?_ | refine ati ?_ | refine mst ?_ | refine rmd ?_ | refine ibo (fun _ => ?_) (fun _ => ?_)) <;> conv => whnf))
  exact rfl
