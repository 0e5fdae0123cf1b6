/- Merged: Ptc Ptd Pso. -/
import Derived.Test.YtaadeobcnamgdaaGreatDoorZaac
import Derived.Test.YtaadeobcnamgdaaGreatDoorZaae
section
/- pat: turned, order, within, labels, Right, Has. slices.Index, Contains at edges. ref08: labels, out, less, Right, Has. -/
namespace Go.Proofs.YtaadeobcnamgdaaGreatDoor
open Go.Sx Go.RowKit Go.Reg Go.Gr

set_option maxRecDepth 100000
def patS : ByteArray := ⟨#[112, 97, 116, 116, 101, 114, 110]⟩
def labS : ByteArray := ⟨#[108, 97, 98, 101, 108]⟩
def edgS : ByteArray := ⟨#[101, 100, 103, 101]⟩
def dPt (p : Pt) : Da := .agg [dIs p.labels, dEs p.edges]
def labelsY (l : List Int) : Da := match lErr l with
  | none => .nili
  | some (c, i) => dF c i (if c = 6 then patS else labS)
def rightP (p : Pt) : Da := match lErr p.labels with
  | some (c, i) => dF c i (if c = 6 then patS else labS)
  | none => match eErr p.labels.length p.edges with
    | none => .nili
    | some (c, i) => dF c i edgS
theorem lErr_big {l : List Int} (h : 8 < l.length) : lErr l = some (6, 0) := if_pos h
theorem lErr_at {l : List Int} {i : Nat} {x : Int} (h8 : ¬ 8 < l.length) (h : ∀ k y, k < i → l[k]? = some y → badLabel y = false) (hx : l[i]? = some x) (hb : badLabel x = true) : lErr l = some (3, i) := by
  unfold lErr
  rw [if_neg h8]
  refine findSome_at (i := i) (fun k hk => ?_) ?_ (List.getElem?_eq_some_iff.1 hx).1
  · have hkl : k < l.length := by have := (List.getElem?_eq_some_iff.1 hx).1; omega
    have := h k _ hk (List.getElem?_eq_getElem hkl)
    rw [List.getElem?_eq_getElem hkl]
    simp [this]
  · rw [hx]; simp [hb]
theorem lErr_no {l : List Int} (h8 : ¬ 8 < l.length) (h : ∀ k y, k < l.length → l[k]? = some y → badLabel y = false) : lErr l = none := by
  unfold lErr
  rw [if_neg h8]
  refine findSome_no fun k hk => ?_
  have := h k _ hk (List.getElem?_eq_getElem hk)
  rw [List.getElem?_eq_getElem hk]
  simp [this]
theorem bad_step {l : List Int} {i : Nat} {x : Int} (h : ∀ k y, k < i → l[k]? = some y → badLabel y = false) (hx : l[i]? = some x) (hb : badLabel x = false) : ∀ k y, k < i + 1 → l[k]? = some y → badLabel y = false := by
  intro k y hk hy
  rcases Nat.lt_or_ge k i with hl | hl
  · exact h k y hl hy
  · have : k = i := by omega
    subst this
    rw [hx] at hy; cases hy; exact hb
theorem bad_is {x : Int} (h : ¬ (0 ≤ x ∧ x ≤ 255)) : badLabel x = true := by simp [badLabel]; omega
theorem bad_not {x : Int} (h : 0 ≤ x ∧ x ≤ 255) : badLabel x = false := by simp [badLabel]; omega
def pl_ptl : List (Nat × Plan) := []
def G_ptl : List FuncId := []
theorem cok_ptl : codeOk Tryz.prog G_ptl pl_ptl (Tryz.f83.body.getD .skip) = true := by kernel_rfl
theorem run_ptl (vs : Array Value) (w : World) : (callFunc 83 vs).run C1.P w = .ok (.enter 83 vs) w := by kernel_rfl
theorem plabels_pure (l : List Int) (hm : l.length ≤ 9223372036854775807) : Pure C1 83 [dIs l] (fun y => y = labelsY l) := by
  have hdl : (l.map dI).length = l.length := List.length_map _
  refine pure_of c1_ok (pl := pl_ptl) (G := G_ptl) Tryz.func83 rfl Tryz.ntmps83 run_ptl cok_ptl (by simp) ?_
  by_cases h8 : 8 < l.length
  · have e : labelsY l = dF 6 0 patS := by unfold labelsY; rw [lErr_big h8]; rfl
    rw [e]
    (conv => whnf)
    (repeat' ((first | refine ord_ok (by (conv => whnf); (repeat' ((first | refine call_eq rfl (fnew_pure 6 0 patS) ?_ | refine ify ?_ | refine ifn ?_ | refine i6 ?_ | refine ati ?_ | refine mst ?_ | refine rmd ?_ | refine ibo (fun _ => ?_) (fun _ => ?_)) <;> conv => whnf)); (all_goals (repeat' (first | exact trivial | exact rfl | refine And.intro ?_ ?_)))) ?_ | refine call_eq rfl (fnew_pure 6 0 patS) ?_ | refine ify ?_ | refine ifn ?_ | refine i6 ?_ | refine ati ?_ | refine mst ?_ | refine rmd ?_ | refine ibo (fun _ => ?_) (fun _ => ?_)) <;> conv => whnf))
    exact rfl
  ((conv => whnf); repeat' ((first | refine odw ?_ | refine ify ?_ | refine ifn ?_ | refine i6 ?_ | refine ati ?_ | refine mst ?_ | refine rmd ?_ | refine ibo (fun _ => ?_) (fun _ => ?_)) <;> conv => whnf))
  refine loop_lo (ι := Nat) (fun i => i ≤ l.length ∧ ∀ k y, k < i → l[k]? = some y → badLabel y = false) (fun i => [(11, .d (.int .i64 i)), (10, .d (.int .i64 l.length)), (9, .d (dIs l))]) (fun _ => []) (fun i => l.length - i) 0 (fun _ => rfl) ⟨Nat.zero_le _, (by intro k y h; omega)⟩ (.refl _ _) ⟨rfl, by rw [← hdl]; rfl, rfl, trivial⟩ trivial ?_
  rintro i ⟨hi, hok⟩
  refine sxCode_sound c1_ok (G := G_ptl) (pl := pl_ptl) _ _ _ _ (by kernel_rfl) ?_
  by_cases hil : i < l.length
  · have hx := List.getElem?_eq_getElem hil
    generalize l[i] = x at hx
    have hxd : (l.map dI)[i]? = some (.int .i64 x) := by rw [List.getElem?_map, hx]; rfl
    by_cases hb : 0 ≤ x ∧ x ≤ 255
    · (conv => whnf)
      (repeat' ((first | refine ord_ok (by (conv => whnf); (repeat' ((first | refine at_da hxd rfl ?_ | refine ify ?_ | refine ifn ?_ | refine i6 ?_ | refine ati ?_ | refine mst ?_ | refine rmd ?_ | refine ibo (fun _ => ?_) (fun _ => ?_)) <;> conv => whnf)); (all_goals (repeat' (first | exact trivial | exact rfl | refine And.intro ?_ ?_)))) ?_ | refine at_da hxd rfl ?_ | refine ify ?_ | refine ifn ?_ | refine i6 ?_ | refine ati ?_ | refine mst ?_ | refine rmd ?_ | refine ibo (fun _ => ?_) (fun _ => ?_)) <;> conv => whnf))
      exact ⟨i + 1, _, _, ⟨by omega, bad_step hok hx (bad_not hb)⟩, .refl _ _, ⟨rfl, rfl, rfl, trivial⟩, trivial, by omega⟩
    · have e : labelsY l = dF 3 i labS := by unfold labelsY; rw [lErr_at h8 hok hx (bad_is hb)]; rfl
      rw [e]
      by_cases h0 : x < 0
      · (conv => whnf)
        (repeat' ((first | refine ord_ok (by (conv => whnf); (repeat' ((first | refine at_da hxd rfl ?_ | refine call_eq rfl (fnew_pure 3 i labS) ?_ | refine ify ?_ | refine ifn ?_ | refine i6 ?_ | refine ati ?_ | refine mst ?_ | refine rmd ?_ | refine ibo (fun _ => ?_) (fun _ => ?_)) <;> conv => whnf)); (all_goals (repeat' (first | exact trivial | exact rfl | refine And.intro ?_ ?_)))) ?_ | refine at_da hxd rfl ?_ | refine call_eq rfl (fnew_pure 3 i labS) ?_ | refine ify ?_ | refine ifn ?_ | refine i6 ?_ | refine ati ?_ | refine mst ?_ | refine rmd ?_ | refine ibo (fun _ => ?_) (fun _ => ?_)) <;> conv => whnf))
        exact rfl
      · (conv => whnf)
        (repeat' ((first | refine ord_ok (by (conv => whnf); (repeat' ((first | refine at_da hxd rfl ?_ | refine call_eq rfl (fnew_pure 3 i labS) ?_ | refine ify ?_ | refine ifn ?_ | refine i6 ?_ | refine ati ?_ | refine mst ?_ | refine rmd ?_ | refine ibo (fun _ => ?_) (fun _ => ?_)) <;> conv => whnf)); (all_goals (repeat' (first | exact trivial | exact rfl | refine And.intro ?_ ?_)))) ?_ | refine at_da hxd rfl ?_ | refine call_eq rfl (fnew_pure 3 i labS) ?_ | refine ify ?_ | refine ifn ?_ | refine i6 ?_ | refine ati ?_ | refine mst ?_ | refine rmd ?_ | refine ibo (fun _ => ?_) (fun _ => ?_)) <;> conv => whnf))
        exact rfl
  · have e : labelsY l = .nili := by unfold labelsY; rw [lErr_no h8 (fun k y hk hy => hok k y (by omega) hy)]
    rw [e]
    ((conv => whnf); repeat' ((first | refine odw ?_ | refine ify ?_ | refine ifn ?_ | refine i6 ?_ | refine ati ?_ | refine mst ?_ | refine rmd ?_ | refine ibo (fun _ => ?_) (fun _ => ?_)) <;> conv => whnf))
    exact rfl
def pl_ptt : List (Nat × Plan) := []
def G_ptt : List FuncId := []
theorem cok_ptt : codeOk Tryz.prog G_ptt pl_ptt (Tryz.f92.body.getD .skip) = true := by kernel_rfl
theorem run_ptt (vs : Array Value) (w : World) : (callFunc 92 vs).run C1.P w = .ok (.enter 92 vs) w := by kernel_rfl
theorem pturned_pure (e : Edg) : Pure C1 92 [dE e] (fun y => y = dE (turn e)) := by
  refine pure_of c1_ok (pl := pl_ptt) (G := G_ptt) Tryz.func92 rfl Tryz.ntmps92 run_ptt cok_ptt (by simp) ?_
  ((conv => whnf); repeat' ((first | refine odw ?_ | refine ify ?_ | refine ifn ?_ | refine i6 ?_ | refine ati ?_ | refine mst ?_ | refine rmd ?_ | refine ibo (fun _ => ?_) (fun _ => ?_)) <;> conv => whnf))
  exact rfl
def pl_ptw : List (Nat × Plan) := []
def G_ptw : List FuncId := []
theorem cok_ptw : codeOk Tryz.prog G_ptw pl_ptw (Tryz.f84.body.getD .skip) = true := by kernel_rfl
theorem run_ptw (vs : Array Value) (w : World) : (callFunc 84 vs).run C1.P w = .ok (.enter 84 vs) w := by kernel_rfl
theorem within_pure (e : Edg) (n : Nat) : Pure C1 84 [dE e, .int .i64 n] (fun y => y = .bool (decide (0 ≤ min e.a e.b ∧ max e.a e.b < n))) := by
  refine pure_of c1_ok (pl := pl_ptw) (G := G_ptw) Tryz.func84 rfl Tryz.ntmps84 run_ptw cok_ptw (by simp) ?_
  by_cases h1 : 0 ≤ min e.a e.b
  · by_cases h2 : max e.a e.b < n
    · rw [decide_eq_true ⟨h1, h2⟩]
      ((conv => whnf); repeat' ((first | refine odw ?_ | refine ify ?_ | refine ifn ?_ | refine i6 ?_ | refine ati ?_ | refine mst ?_ | refine rmd ?_ | refine ibo (fun _ => ?_) (fun _ => ?_)) <;> conv => whnf))
      exact congrArg Da.bool (decide_eq_true h2)
    · rw [decide_eq_false (fun h => h2 h.2)]
      ((conv => whnf); repeat' ((first | refine odw ?_ | refine ify ?_ | refine ifn ?_ | refine i6 ?_ | refine ati ?_ | refine mst ?_ | refine rmd ?_ | refine ibo (fun _ => ?_) (fun _ => ?_)) <;> conv => whnf))
      exact congrArg Da.bool (decide_eq_false h2)
  · rw [decide_eq_false (fun h => h1 h.1)]
    ((conv => whnf); repeat' ((first | refine odw ?_ | refine ify ?_ | refine ifn ?_ | refine i6 ?_ | refine ati ?_ | refine mst ?_ | refine rmd ?_ | refine ibo (fun _ => ?_) (fun _ => ?_)) <;> conv => whnf))
    exact rfl
def pl_pto : List (Nat × Plan) := [(1, .leaf [0, 1, 0, 1, 2, 0, 1, 0, 1, 2, 6, 2, 0] [0, 2, 5, 7, 1, 3, 6, 8, 4, 9, 10, 11, 12] [0, 1, 0, 4, 15, 0, 32, 0, 128, 511, 1023, 2047, 4095])]
def G_pto : List FuncId := [134, 133]
theorem cok_pto : codeOk Tryz.prog G_pto pl_pto (Tryz.f85.body.getD .skip) = true := by kernel_rfl
theorem run_pto (vs : Array Value) (w : World) : (callFunc 85 vs).run C1.P w = .ok (.enter 85 vs) w := by kernel_rfl
theorem porder_pure (x y : Edg) : Pure C1 85 [dE x, dE y] (fun z => z = .int .i64 (cmpE x y)) := by
  refine pure_of c1_ok (pl := pl_pto) (G := G_pto) Tryz.func85 rfl Tryz.ntmps85 run_pto cok_pto (by simp) ?_
  have h1 := compare_pure x.a y.a
  have h2 := compare_pure x.b y.b
  have h3 := or_pure (cmpI x.a y.a) (cmpI x.b y.b)
  (conv => whnf)
  (repeat' ((first | refine ord_ok (by (conv => whnf); (repeat' ((first | refine call_eq rfl h1 ?_ | refine call_eq rfl h2 ?_ | refine call_eqb tab rfl h3 rfl ?_ | refine ify ?_ | refine ifn ?_ | refine i6 ?_ | refine ati ?_ | refine mst ?_ | refine rmd ?_ | refine ibo (fun _ => ?_) (fun _ => ?_)) <;> conv => whnf)); (all_goals (repeat' (first | exact trivial | exact rfl | refine And.intro ?_ ?_)))) ?_ | refine call_eq rfl h1 ?_ | refine call_eq rfl h2 ?_ | refine call_eqb tab rfl h3 rfl ?_ | refine ify ?_ | refine ifn ?_ | refine i6 ?_ | refine ati ?_ | refine mst ?_ | refine rmd ?_ | refine ibo (fun _ => ?_) (fun _ => ?_)) <;> conv => whnf))
  exact rfl
end Go.Proofs.YtaadeobcnamgdaaGreatDoor
end

section
/- pat: Right, Has. slices.Index, Contains at edges. ref08: Right, Has, Made. ref12: Whole. law08: Of. -/
namespace Go.Gr
theorem eAt_none {n : Nat} {E : List Edg} {i : Nat} {e : Edg} (hx : E[i]? = some e) (h1 : 0 ≤ min e.a e.b ∧ max e.a e.b < n) (h2 : e.a < e.b) (h3 : i = 0 ∨ ∃ q, E[i - 1]? = some q ∧ cmpE q e < 0) : eAt n E i = none := by
  unfold eAt
  rw [hx]
  simp only [Option.map_eq_none_iff]
  unfold eBad
  rw [if_neg (fun h => h h1), if_neg (by omega)]
  rcases h3 with h3 | ⟨q, h3, h4⟩
  · rw [if_pos h3]
  · by_cases h0 : i = 0
    · rw [if_pos h0]
    · rw [if_neg h0, h3]
      simp only
      rw [if_pos h4]
theorem eAt_out {n : Nat} {E : List Edg} {i : Nat} {e : Edg} (hx : E[i]? = some e) (h1 : ¬ (0 ≤ min e.a e.b ∧ max e.a e.b < n)) : eAt n E i = some (3, i) := by
  unfold eAt
  rw [hx]
  simp only
  unfold eBad
  rw [if_pos h1]; rfl
theorem eAt_form {n : Nat} {E : List Edg} {i : Nat} {e : Edg} (hx : E[i]? = some e) (h1 : 0 ≤ min e.a e.b ∧ max e.a e.b < n) (h2 : e.b ≤ e.a) : eAt n E i = some (2, i) := by
  unfold eAt
  rw [hx]
  simp only
  unfold eBad
  rw [if_neg (fun h => h h1), if_pos h2]; rfl
theorem eAt_order {n : Nat} {E : List Edg} {i : Nat} {e q : Edg} (hx : E[i]? = some e) (h1 : 0 ≤ min e.a e.b ∧ max e.a e.b < n) (h2 : e.a < e.b) (h0 : i ≠ 0) (hq : E[i - 1]? = some q) (h3 : ¬ cmpE q e < 0) : eAt n E i = some (2, i) := by
  unfold eAt
  rw [hx]
  simp only
  unfold eBad
  rw [if_neg (fun h => h h1), if_neg (by omega), if_neg h0, hq]
  simp only
  rw [if_neg h3]; rfl
theorem eErr_at {n : Nat} {E : List Edg} {i : Nat} {y : Int × Nat} (h : ∀ k, k < i → eAt n E k = none) (hi : eAt n E i = some y) : eErr n E = some y := by
  have hl : i < E.length := by
    rcases Nat.lt_or_ge i E.length with h | h
    · exact h
    · unfold eAt at hi
      rw [List.getElem?_eq_none h] at hi
      cases hi
  exact findSome_at h hi hl
theorem eErr_no {n : Nat} {E : List Edg} (h : ∀ k, k < E.length → eAt n E k = none) : eErr n E = none := findSome_no h
theorem none_step {n : Nat} {E : List Edg} {i : Nat} (h : ∀ k, k < i → eAt n E k = none) (hi : eAt n E i = none) : ∀ k, k < i + 1 → eAt n E k = none := by
  intro k hk
  rcases Nat.lt_or_ge k i with hl | hl
  · exact h k hl
  · have : k = i := by omega
    subst this; exact hi
/-- a document's edge, either way round -/
def hasR (E : List Edg) (x y : Int) : Bool := E.any fun e => decide (e.a = x ∧ e.b = y ∨ e.a = y ∧ e.b = x)
/-- where an edge stands -/
def eIdx (E : List Edg) (e : Edg) : Int := match E.findIdx? (fun x => decide (x = e)) with
  | none => -1
  | some i => i
theorem eIdx_at {E : List Edg} {e : Edg} {i : Nat} (h : ∀ k x, k < i → E[k]? = some x → x ≠ e) (hx : E[i]? = some e) : eIdx E e = i := by
  have : E.findIdx? (fun x => decide (x = e)) = some i := by
    rw [List.findIdx?_eq_some_iff_getElem]
    obtain ⟨h1, h2⟩ := List.getElem?_eq_some_iff.1 hx
    refine ⟨h1, by simp [h2], fun j hj => ?_⟩
    have := h j _ hj (List.getElem?_eq_getElem (by omega))
    simpa using this
  unfold eIdx; rw [this]
theorem eIdx_no {E : List Edg} {e : Edg} (h : ∀ k x, k < E.length → E[k]? = some x → x ≠ e) : eIdx E e = -1 := by
  have : E.findIdx? (fun x => decide (x = e)) = none := by
    rw [List.findIdx?_eq_none_iff]
    intro x hx
    obtain ⟨i, hi, rfl⟩ := List.mem_iff_getElem.1 hx
    simpa using h i _ hi (List.getElem?_eq_getElem hi)
  unfold eIdx; rw [this]
theorem eIdx_mem {E : List Edg} {e : Edg} : (0 ≤ eIdx E e) ↔ e ∈ E := by
  unfold eIdx
  cases h : E.findIdx? (fun x => decide (x = e)) with
  | none =>
    rw [List.findIdx?_eq_none_iff] at h
    refine ⟨fun h => by simp at h, fun he => ?_⟩
    have := h e he
    simp at this
  | some i =>
    rw [List.findIdx?_eq_some_iff_getElem] at h
    obtain ⟨h1, h2, _⟩ := h
    refine ⟨fun _ => ?_, fun _ => by simp⟩
    have h2 : E[i] = e := by simpa using h2
    rw [← h2]; exact List.getElem_mem h1
end Go.Gr
namespace Go.Proofs.YtaadeobcnamgdaaGreatDoor
open Go.Sx Go.RowKit Go.Reg Go.Gr

set_option maxRecDepth 100000
def pl_ptr : List (Nat × Plan) := [(9, .leaf [0, 1, 0, 1, 0, 0, 0, 0, 0, 0, 1, 0, 0, 0, 1, 1, 2, 0, 0, 0, 0] [0, 2, 1, 3, 4, 5, 6, 7, 8, 9, 11, 12, 10, 13, 14, 15, 16, 17, 18, 19, 20] [0, 1, 0, 4, 15, 31, 63, 127, 255, 511, 1023, 511, 2559, 8191, 16383, 511, 65535, 131071, 262143, 524287, 1048575])]
def G_ptr : List FuncId := [85, 84]
theorem cok_ptr : codeOk Tryz.prog G_ptr pl_ptr (Tryz.f40.body.getD .skip) = true := by kernel_rfl
theorem run_ptr (vs : Array Value) (w : World) : (callFunc 40 vs).run C1.P w = .ok (.enter 40 vs) w := by kernel_rfl
set_option maxHeartbeats 4000000 in
theorem pright_pure (p : Pt) (hm : p.labels.length ≤ 9223372036854775807) (hme : p.edges.length ≤ 9223372036854775807) : Pure C1 40 [dPt p] (fun y => y = rightP p) := by
  have hdl : (p.labels.map dI).length = p.labels.length := List.length_map _
  have hde : (p.edges.map dE).length = p.edges.length := List.length_map _
  have hlb := plabels_pure p.labels hm
  refine pure_of c1_ok (pl := pl_ptr) (G := G_ptr) Tryz.func40 rfl Tryz.ntmps40 run_ptr cok_ptr (by simp) ?_
  cases hl : lErr p.labels with
  | some x =>
    obtain ⟨c, i⟩ := x
    have e1 : labelsY p.labels = dF c i (if c = 6 then patS else labS) := by unfold labelsY; rw [hl]
    have e2 : rightP p = dF c i (if c = 6 then patS else labS) := by unfold rightP; rw [hl]
    rw [e1] at hlb
    rw [e2]
    (conv => whnf)
    (repeat' ((first | refine ord_ok (by (conv => whnf); (repeat' ((first | refine call_eq rfl hlb ?_ | refine ify ?_ | refine ifn ?_ | refine i6 ?_ | refine ati ?_ | refine mst ?_ | refine rmd ?_ | refine ibo (fun _ => ?_) (fun _ => ?_)) <;> conv => whnf)); (all_goals (repeat' (first | exact trivial | exact rfl | refine And.intro ?_ ?_)))) ?_ | refine call_eq rfl hlb ?_ | refine ify ?_ | refine ifn ?_ | refine i6 ?_ | refine ati ?_ | refine mst ?_ | refine rmd ?_ | refine ibo (fun _ => ?_) (fun _ => ?_)) <;> conv => whnf))
    exact rfl
  | none =>
    have e1 : labelsY p.labels = .nili := by unfold labelsY; rw [hl]
    rw [e1] at hlb
    have e2 : rightP p = match eErr p.labels.length p.edges with | none => .nili | some (c, i) => dF c i edgS := by unfold rightP; rw [hl]; try rfl
    rw [e2]
    (conv => whnf)
    (repeat' ((first | refine ord_ok (by (conv => whnf); (repeat' ((first | refine call_eq rfl hlb ?_ | refine ify ?_ | refine ifn ?_ | refine i6 ?_ | refine ati ?_ | refine mst ?_ | refine rmd ?_ | refine ibo (fun _ => ?_) (fun _ => ?_)) <;> conv => whnf)); (all_goals (repeat' (first | exact trivial | exact rfl | refine And.intro ?_ ?_)))) ?_ | refine call_eq rfl hlb ?_ | refine ify ?_ | refine ifn ?_ | refine i6 ?_ | refine ati ?_ | refine mst ?_ | refine rmd ?_ | refine ibo (fun _ => ?_) (fun _ => ?_)) <;> conv => whnf))
    refine loop_lo (ι := Nat) (fun i => i ≤ p.edges.length ∧ ∀ k, k < i → eAt p.labels.length p.edges k = none) (fun i => [(15, .d (.int .i64 i)), (14, .d (.int .i64 p.edges.length)), (13, .d (dEs p.edges)), (1, .own 1)]) (fun _ => [(1, .cells 58 [.d (dIs p.labels), .d (dEs p.edges)])]) (fun i => p.edges.length - i) 0 (fun _ => rfl) ⟨Nat.zero_le _, (by intro k h; omega)⟩ (.refl _ _) ⟨rfl, by rw [← hde]; rfl, rfl, rfl, trivial⟩ ⟨rfl, trivial⟩ ?_
    rintro i ⟨hi, hok⟩
    refine sxCode_sound c1_ok (G := G_ptr) (pl := pl_ptr) _ _ _ _ (by kernel_rfl) ?_
    by_cases hil : i < p.edges.length
    · have hx := List.getElem?_eq_getElem hil
      generalize p.edges[i] = e at hx
      have hxd : (p.edges.map dE)[i]? = some (.agg [.int .i64 e.a, .int .i64 e.b]) := by rw [List.getElem?_map, hx]; rfl
      have hwi := within_pure e p.labels.length
      rw [← hdl] at hwi
      by_cases h1 : 0 ≤ min e.a e.b ∧ max e.a e.b < p.labels.length
      · rw [decide_eq_true (by rw [hdl]; exact h1)] at hwi
        by_cases h2 : e.a < e.b
        · by_cases h0 : i = 0
          · subst h0
            (conv => whnf)
            (repeat' ((first | refine ord_ok (by (conv => whnf); (repeat' ((first | refine at_da hxd rfl ?_ | refine call_eq rfl hwi ?_ | refine ify ?_ | refine ifn ?_ | refine i6 ?_ | refine ati ?_ | refine mst ?_ | refine rmd ?_ | refine ibo (fun _ => ?_) (fun _ => ?_)) <;> conv => whnf)); (all_goals (repeat' (first | exact trivial | exact rfl | refine And.intro ?_ ?_)))) ?_ | refine at_da hxd rfl ?_ | refine call_eq rfl hwi ?_ | refine ify ?_ | refine ifn ?_ | refine i6 ?_ | refine ati ?_ | refine mst ?_ | refine rmd ?_ | refine ibo (fun _ => ?_) (fun _ => ?_)) <;> conv => whnf))
            exact ⟨0 + 1, _, _, ⟨by omega, none_step hok (eAt_none hx h1 h2 (.inl rfl))⟩, .refl _ _, ⟨rfl, rfl, rfl, rfl, trivial⟩, ⟨rfl, trivial⟩, by omega⟩
          · have hy := List.getElem?_eq_getElem (l := p.edges) (i := i - 1) (by omega)
            generalize p.edges[i - 1]'(by omega) = q at hy
            have hyd : (p.edges.map dE)[i - 1]? = some (.agg [.int .i64 q.a, .int .i64 q.b]) := by rw [List.getElem?_map, hy]; rfl
            have hor := porder_pure q e
            by_cases h3 : cmpE q e < 0
            · (conv => whnf)
              (repeat' ((first | refine ord_ok (by (conv => whnf); (repeat' ((first | refine at_da hxd rfl ?_ | refine call_eq rfl hwi ?_ | refine at_da hyd (by omega) ?_ | refine call_eq rfl hor ?_ | refine ify ?_ | refine ifn ?_ | refine i6 ?_ | refine ati ?_ | refine mst ?_ | refine rmd ?_ | refine ibo (fun _ => ?_) (fun _ => ?_)) <;> conv => whnf)); (all_goals (repeat' (first | exact trivial | exact rfl | refine And.intro ?_ ?_)))) ?_ | refine at_da hxd rfl ?_ | refine call_eq rfl hwi ?_ | refine at_da hyd (by omega) ?_ | refine call_eq rfl hor ?_ | refine ify ?_ | refine ifn ?_ | refine i6 ?_ | refine ati ?_ | refine mst ?_ | refine rmd ?_ | refine ibo (fun _ => ?_) (fun _ => ?_)) <;> conv => whnf))
              exact ⟨i + 1, _, _, ⟨by omega, none_step hok (eAt_none hx h1 h2 (.inr ⟨q, hy, h3⟩))⟩, .refl _ _, ⟨rfl, rfl, rfl, rfl, trivial⟩, ⟨rfl, trivial⟩, by omega⟩
            · rw [eErr_at hok (eAt_order hx h1 h2 h0 hy h3)]
              (conv => whnf)
              (repeat' ((first | refine ord_ok (by (conv => whnf); (repeat' ((first | refine at_da hxd rfl ?_ | refine call_eq rfl hwi ?_ | refine at_da hyd (by omega) ?_ | refine call_eq rfl hor ?_ | refine call_eq rfl (fnew_pure 2 i edgS) ?_ | refine ify ?_ | refine ifn ?_ | refine i6 ?_ | refine ati ?_ | refine mst ?_ | refine rmd ?_ | refine ibo (fun _ => ?_) (fun _ => ?_)) <;> conv => whnf)); (all_goals (repeat' (first | exact trivial | exact rfl | refine And.intro ?_ ?_)))) ?_ | refine at_da hxd rfl ?_ | refine call_eq rfl hwi ?_ | refine at_da hyd (by omega) ?_ | refine call_eq rfl hor ?_ | refine call_eq rfl (fnew_pure 2 i edgS) ?_ | refine ify ?_ | refine ifn ?_ | refine i6 ?_ | refine ati ?_ | refine mst ?_ | refine rmd ?_ | refine ibo (fun _ => ?_) (fun _ => ?_)) <;> conv => whnf))
              exact rfl
        · rw [eErr_at hok (eAt_form hx h1 (by omega))]
          (conv => whnf)
          (repeat' ((first | refine ord_ok (by (conv => whnf); (repeat' ((first | refine at_da hxd rfl ?_ | refine call_eq rfl hwi ?_ | refine call_eq rfl (fnew_pure 2 i edgS) ?_ | refine ify ?_ | refine ifn ?_ | refine i6 ?_ | refine ati ?_ | refine mst ?_ | refine rmd ?_ | refine ibo (fun _ => ?_) (fun _ => ?_)) <;> conv => whnf)); (all_goals (repeat' (first | exact trivial | exact rfl | refine And.intro ?_ ?_)))) ?_ | refine at_da hxd rfl ?_ | refine call_eq rfl hwi ?_ | refine call_eq rfl (fnew_pure 2 i edgS) ?_ | refine ify ?_ | refine ifn ?_ | refine i6 ?_ | refine ati ?_ | refine mst ?_ | refine rmd ?_ | refine ibo (fun _ => ?_) (fun _ => ?_)) <;> conv => whnf))
          exact rfl
      · rw [decide_eq_false (by rw [hdl]; exact h1)] at hwi
        rw [eErr_at hok (eAt_out hx h1)]
        (conv => whnf)
        (repeat' ((first | refine ord_ok (by (conv => whnf); (repeat' ((first | refine at_da hxd rfl ?_ | refine call_eq rfl hwi ?_ | refine call_eq rfl (fnew_pure 3 i edgS) ?_ | refine ify ?_ | refine ifn ?_ | refine i6 ?_ | refine ati ?_ | refine mst ?_ | refine rmd ?_ | refine ibo (fun _ => ?_) (fun _ => ?_)) <;> conv => whnf)); (all_goals (repeat' (first | exact trivial | exact rfl | refine And.intro ?_ ?_)))) ?_ | refine at_da hxd rfl ?_ | refine call_eq rfl hwi ?_ | refine call_eq rfl (fnew_pure 3 i edgS) ?_ | refine ify ?_ | refine ifn ?_ | refine i6 ?_ | refine ati ?_ | refine mst ?_ | refine rmd ?_ | refine ibo (fun _ => ?_) (fun _ => ?_)) <;> conv => whnf))
        exact rfl
    · rw [eErr_no (fun k hk => hok k (by omega))]
      ((conv => whnf); repeat' ((first | refine odw ?_ | refine ify ?_ | refine ifn ?_ | refine i6 ?_ | refine ati ?_ | refine mst ?_ | refine rmd ?_ | refine ibo (fun _ => ?_) (fun _ => ?_)) <;> conv => whnf))
      exact rfl
def pl_sie : List (Nat × Plan) := [(4, .leaf [1, 0, 0, 0, 1, 3] [1, 2, 3, 0, 4, 5] [0, 0, 0, 6, 14, 31])]
def G_sie : List FuncId := []
theorem cok_sie : codeOk Tryz.prog G_sie pl_sie (Tryz.f290.body.getD .skip) = true := by kernel_rfl
theorem run_sie (vs : Array Value) (w : World) : (callFunc 290 vs).run C1.P w = .ok (.enter 290 vs) w := by kernel_rfl
theorem eindex_pure (E : List Edg) (e : Edg) (hm : E.length ≤ 9223372036854775807) : Pure C1 290 [dEs E, dE e] (fun y => y = .int .i64 (eIdx E e)) := by
  have hde : (E.map dE).length = E.length := List.length_map _
  refine pure_of c1_ok (pl := pl_sie) (G := G_sie) Tryz.func290 rfl Tryz.ntmps290 run_sie cok_sie (by simp) ?_
  ((conv => whnf); repeat' ((first | refine odw ?_ | refine ify ?_ | refine ifn ?_ | refine i6 ?_ | refine ati ?_ | refine mst ?_ | refine rmd ?_ | refine ibo (fun _ => ?_) (fun _ => ?_)) <;> conv => whnf))
  refine loop_lo (ι := Nat) (fun i => i ≤ E.length ∧ ∀ k x, k < i → E[k]? = some x → x ≠ e) (fun i => [(8, .d (.int .i64 i)), (7, .d (.int .i64 E.length)), (3, .own 3), (0, .d (dEs E))]) (fun _ => [(3, .cells 128 [.d (.int .i64 e.a), .d (.int .i64 e.b)])]) (fun i => E.length - i) 0 (fun _ => rfl) ⟨Nat.zero_le _, (by intro k x h; omega)⟩ (.refl _ _) ⟨rfl, by rw [← hde]; rfl, rfl, rfl, trivial⟩ ⟨rfl, trivial⟩ ?_
  rintro i ⟨hi, hok⟩
  refine sxCode_sound c1_ok (G := G_sie) (pl := pl_sie) _ _ _ _ (by kernel_rfl) ?_
  by_cases hil : i < E.length
  · have hx := List.getElem?_eq_getElem hil
    generalize E[i] = x at hx
    have hxd : (E.map dE)[i]? = some (.agg [.int .i64 x.a, .int .i64 x.b]) := by rw [List.getElem?_map, hx]; rfl
    by_cases hxe : x = e
    · subst hxe
      rw [eIdx_at hok hx]
      (conv => whnf)
      (repeat' ((first | refine ord_ok (by (conv => whnf); (repeat' ((first | refine at_da hxd rfl ?_ | refine ify ?_ | refine ifn ?_ | refine i6 ?_ | refine ati ?_ | refine mst ?_ | refine rmd ?_ | refine ibo (fun _ => ?_) (fun _ => ?_)) <;> conv => whnf)); (all_goals (repeat' (first | exact trivial | exact rfl | refine And.intro ?_ ?_)))) ?_ | refine at_da hxd rfl ?_ | refine ify ?_ | refine ifn ?_ | refine i6 ?_ | refine ati ?_ | refine mst ?_ | refine rmd ?_ | refine ibo (fun _ => ?_) (fun _ => ?_)) <;> conv => whnf))
      exact rfl
    · have hne : ¬ (e.a = x.a ∧ e.b = x.b) := fun h => hxe (by cases x; cases e; simp only at h; rw [h.1, h.2])
      (conv => whnf)
      (repeat' ((first | refine ord_ok (by (conv => whnf); (repeat' ((first | refine at_da hxd rfl ?_ | refine ify ?_ | refine ifn ?_ | refine i6 ?_ | refine ati ?_ | refine mst ?_ | refine rmd ?_ | refine ibo (fun _ => ?_) (fun _ => ?_)) <;> conv => whnf)); (all_goals (repeat' (first | exact trivial | exact rfl | refine And.intro ?_ ?_)))) ?_ | refine at_da hxd rfl ?_ | refine ify ?_ | refine ifn ?_ | refine i6 ?_ | refine ati ?_ | refine mst ?_ | refine rmd ?_ | refine ibo (fun _ => ?_) (fun _ => ?_)) <;> conv => whnf))
      refine ⟨i + 1, _, _, ⟨by omega, fun k y hk hy => ?_⟩, .refl _ _, ⟨rfl, rfl, rfl, rfl, trivial⟩, ⟨rfl, trivial⟩, by omega⟩
      rcases Nat.lt_or_ge k i with hl | hl
      · exact hok k y hl hy
      · have : k = i := by omega
        subst this
        rw [hx] at hy; cases hy; exact hxe
  · rw [eIdx_no (fun k x hk hx => hok k x (by omega) hx)]
    ((conv => whnf); repeat' ((first | refine odw ?_ | refine ify ?_ | refine ifn ?_ | refine i6 ?_ | refine ati ?_ | refine mst ?_ | refine rmd ?_ | refine ibo (fun _ => ?_) (fun _ => ?_)) <;> conv => whnf))
    exact rfl
def pl_sce : List (Nat × Plan) := []
def G_sce : List FuncId := []
theorem cok_sce : codeOk Tryz.prog G_sce pl_sce (Tryz.f288.body.getD .skip) = true := by kernel_rfl
theorem run_sce (vs : Array Value) (w : World) : (callFunc 288 vs).run C1.P w = .ok (.enter 288 vs) w := by kernel_rfl
theorem econtains_pure (E : List Edg) (e : Edg) (hm : E.length ≤ 9223372036854775807) : Pure C1 288 [dEs E, dE e] (fun y => y = .bool (decide (e ∈ E))) := by
  have h := eindex_pure E e hm
  refine pure_of c1_ok (pl := pl_sce) (G := G_sce) Tryz.func288 rfl Tryz.ntmps288 run_sce cok_sce (by simp) ?_
  (conv => whnf)
  (repeat' ((first | refine ord_ok (by (conv => whnf); (repeat' ((first | refine call_eq rfl h ?_ | refine ify ?_ | refine ifn ?_ | refine i6 ?_ | refine ati ?_ | refine mst ?_ | refine rmd ?_ | refine ibo (fun _ => ?_) (fun _ => ?_)) <;> conv => whnf)); (all_goals (repeat' (first | exact trivial | exact rfl | refine And.intro ?_ ?_)))) ?_ | refine call_eq rfl h ?_ | refine ify ?_ | refine ifn ?_ | refine i6 ?_ | refine ati ?_ | refine mst ?_ | refine rmd ?_ | refine ibo (fun _ => ?_) (fun _ => ?_)) <;> conv => whnf))
  exact congrArg Da.bool (decide_eq_decide.2 eIdx_mem)
def pl_pth : List (Nat × Plan) := [(1, .leaf [0, 1, 0, 0, 0, 2, 2, 0] [0, 2, 3, 4, 1, 5, 6, 7] [0, 1, 0, 0, 12, 28, 63, 127])]
def G_pth : List FuncId := [92, 288]
theorem cok_pth : codeOk Tryz.prog G_pth pl_pth (Tryz.f281.body.getD .skip) = true := by kernel_rfl
theorem run_pth (vs : Array Value) (w : World) : (callFunc 281 vs).run C1.P w = .ok (.enter 281 vs) w := by kernel_rfl
theorem phas_pure (p : Pt) (a b : Int) (hme : p.edges.length ≤ 9223372036854775807) : Pure C1 281 [dPt p, .int .i64 a, .int .i64 b] (fun y => y = .bool (decide (turn ⟨a, b⟩ ∈ p.edges))) := by
  have h1 := pturned_pure ⟨a, b⟩
  have h2 := econtains_pure p.edges (turn ⟨a, b⟩) hme
  refine pure_of c1_ok (pl := pl_pth) (G := G_pth) Tryz.func281 rfl Tryz.ntmps281 run_pth cok_pth (by simp) ?_
  (conv => whnf)
  (repeat' ((first | refine ord_ok (by (conv => whnf); (repeat' ((first | refine call_eq rfl h1 ?_ | refine call_eq rfl h2 ?_ | refine ify ?_ | refine ifn ?_ | refine i6 ?_ | refine ati ?_ | refine mst ?_ | refine rmd ?_ | refine ibo (fun _ => ?_) (fun _ => ?_)) <;> conv => whnf)); (all_goals (repeat' (first | exact trivial | exact rfl | refine And.intro ?_ ?_)))) ?_ | refine call_eq rfl h1 ?_ | refine call_eq rfl h2 ?_ | refine ify ?_ | refine ifn ?_ | refine i6 ?_ | refine ati ?_ | refine mst ?_ | refine rmd ?_ | refine ibo (fun _ => ?_) (fun _ => ?_)) <;> conv => whnf))
  exact rfl
theorem rightP_none {p : Pt} (h : pErr p = none) : rightP p = .nili := by
  unfold pErr at h
  unfold rightP
  split at h
  · cases h
  · rename_i hl
    rw [hl]
    simp only
    rw [h]
end Go.Proofs.YtaadeobcnamgdaaGreatDoor
end
