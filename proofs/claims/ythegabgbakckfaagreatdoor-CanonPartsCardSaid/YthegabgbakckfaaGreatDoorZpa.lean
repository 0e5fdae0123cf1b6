/- Merged: Pta Ptc Ptd. -/
import Derived.Test.YthegabgbakckfaaGreatDoorGra
import Derived.Test.YthegabgbakckfaaGreatDoorGrd
import Derived.Test.YthegabgbakckfaaGreatDoorFal
section
/- Patterns, plain: which are right. -/
namespace Go.Gr
/-- a pattern -/
structure Pt where
  labels : List Int
  edges : List Edg
theorem findSome_at {α : Type} {f : Nat → Option α} {n i : Nat} {y : α} (h : ∀ k, k < i → f k = none) (hi : f i = some y) (hn : i < n) : (List.range n).findSome? f = some y := by
  rw [List.findSome?_eq_some_iff]
  refine ⟨List.range i, i, (List.range (n - i - 1)).map (fun k => i + 1 + k), ?_, hi, fun k hk => h k (List.mem_range.1 hk)⟩
  apply List.ext_getElem?
  intro k
  by_cases h1 : k < n
  · rw [List.getElem?_range h1]
    rcases Nat.lt_trichotomy k i with h2 | h2 | h2
    · rw [List.getElem?_append_left (by simpa using h2), List.getElem?_range h2]
    · subst h2
      rw [List.getElem?_append_right (by simp), List.length_range, Nat.sub_self]; rfl
    · rw [List.getElem?_append_right (by simp; omega), List.length_range]
      obtain ⟨d, hd⟩ : ∃ d, k - i = d + 1 := ⟨k - i - 1, by omega⟩
      rw [hd, List.getElem?_cons_succ, List.getElem?_map, List.getElem?_range (by omega)]
      simp; omega
  · rw [List.getElem?_eq_none (by simp; omega), List.getElem?_eq_none (by simp; omega)]
theorem findSome_no {α : Type} {f : Nat → Option α} {n : Nat} (h : ∀ k, k < n → f k = none) : (List.range n).findSome? f = none := by
  rw [List.findSome?_eq_none_iff]
  exact fun k hk => h k (List.mem_range.1 hk)
/-- the fault of labels -/
def lErr (l : List Int) : Option (Int × Nat) := if 8 < l.length then some (6, 0) else (List.range l.length).findSome? fun i => if badLabel ((l[i]?).getD 0) then some (3, i) else none
/-- the fault of an edge behind another one -/
def eBad (n : Nat) (p : Option Edg) (e : Edg) : Option Int :=
  if ¬ (0 ≤ min e.a e.b ∧ max e.a e.b < n) then some 3 else if e.b ≤ e.a then some 2 else match p with
    | none => none
    | some q => if cmpE q e < 0 then none else some 2
def eAt (n : Nat) (E : List Edg) (i : Nat) : Option (Int × Nat) := match E[i]? with
  | none => none
  | some e => (eBad n (if i = 0 then none else E[i - 1]?) e).map fun c => (c, i)
def eErr (n : Nat) (E : List Edg) : Option (Int × Nat) := (List.range E.length).findSome? (eAt n E)
/-- a pattern's fault: its code, its place -/
def pErr (p : Pt) : Option (Int × Nat) := match lErr p.labels with
  | some x => some x
  | none => eErr p.labels.length p.edges
theorem lErr_none {l : List Int} (h : lErr l = none) : l.length ≤ 8 ∧ ∀ x ∈ l, 0 ≤ x ∧ x ≤ 255 := by
  unfold lErr at h
  split at h
  · cases h
  · refine ⟨by omega, fun x hx => ?_⟩
    obtain ⟨i, hi, rfl⟩ := List.mem_iff_getElem.1 hx
    have := (List.findSome?_eq_none_iff.1 h) i (List.mem_range.2 hi)
    rw [List.getElem?_eq_getElem hi] at this
    simp [badLabel] at this
    omega
theorem eErr_none {n : Nat} {E : List Edg} (h : eErr n E = none) : (∀ e ∈ E, 0 ≤ e.a ∧ e.a < e.b ∧ e.b < n) ∧ ∀ i x y, E[i]? = some x → E[i + 1]? = some y → cmpE x y < 0 := by
  have key : ∀ i e, E[i]? = some e → eBad n (if i = 0 then none else E[i - 1]?) e = none := by
    intro i e hx
    have := (List.findSome?_eq_none_iff.1 h) i (List.mem_range.2 (List.getElem?_eq_some_iff.1 hx).1)
    unfold eAt at this
    rw [hx] at this
    simpa using this
  refine ⟨fun e he => ?_, fun i x y hx hy => ?_⟩
  · obtain ⟨i, hi, rfl⟩ := List.mem_iff_getElem.1 he
    have := key i _ (List.getElem?_eq_getElem hi)
    unfold eBad at this
    split at this
    · cases this
    · split at this
      · cases this
      · omega
  · have := key (i + 1) y hy
    rw [if_neg (by omega), Nat.add_sub_cancel, hx] at this
    unfold eBad at this
    split at this
    · cases this
    · split at this
      · cases this
      · simp only at this
        split at this
        · assumption
        · cases this
end Go.Gr
end

section
/- pat: turned, order, within, labels, Right, Has. slices.Index, Contains at edges. ref08: labels, out, less, Right, Has. -/
namespace Go.Proofs.YthegabgbakckfaaGreatDoor
open Go.Sx Go.RowKit Go.Reg Go.Gr

set_option maxRecDepth 100000
def patS : ByteArray := ⟨#[112, 97, 116, 116, 101, 114, 110]⟩
def labS : ByteArray := ⟨#[108, 97, 98, 101, 108]⟩
def edgS : ByteArray := ⟨#[101, 100, 103, 101]⟩
def dPt (p : Pt) : Da := .agg [dIs p.labels, dEs p.edges]
def labelsY (l : List Int) : Da := match lErr l with
  | none => .nili
  | some (c, i) => dF c i (if c = 6 then patS else labS)
def rightP (p : Pt) : Da := match lErr p.labels with
  | some (c, i) => dF c i (if c = 6 then patS else labS)
  | none => match eErr p.labels.length p.edges with
    | none => .nili
    | some (c, i) => dF c i edgS
def codeP (x : Option (Int × Nat)) : Da := match x with
  | none => .tuple [.int .i64 0, .int .i64 0]
  | some (c, i) => .tuple [.int .i64 c, .int .i64 i]
theorem lErr_big {l : List Int} (h : 8 < l.length) : lErr l = some (6, 0) := if_pos h
theorem lErr_at {l : List Int} {i : Nat} {x : Int} (h8 : ¬ 8 < l.length) (h : ∀ k y, k < i → l[k]? = some y → badLabel y = false) (hx : l[i]? = some x) (hb : badLabel x = true) : lErr l = some (3, i) := by
  unfold lErr
  rw [if_neg h8]
  refine findSome_at (i := i) (fun k hk => ?_) ?_ (List.getElem?_eq_some_iff.1 hx).1
  · have hkl : k < l.length := by have := (List.getElem?_eq_some_iff.1 hx).1; omega
    have := h k _ hk (List.getElem?_eq_getElem hkl)
    rw [List.getElem?_eq_getElem hkl]
    simp [this]
  · rw [hx]; simp [hb]
theorem lErr_no {l : List Int} (h8 : ¬ 8 < l.length) (h : ∀ k y, k < l.length → l[k]? = some y → badLabel y = false) : lErr l = none := by
  unfold lErr
  rw [if_neg h8]
  refine findSome_no fun k hk => ?_
  have := h k _ hk (List.getElem?_eq_getElem hk)
  rw [List.getElem?_eq_getElem hk]
  simp [this]
theorem bad_step {l : List Int} {i : Nat} {x : Int} (h : ∀ k y, k < i → l[k]? = some y → badLabel y = false) (hx : l[i]? = some x) (hb : badLabel x = false) : ∀ k y, k < i + 1 → l[k]? = some y → badLabel y = false := by
  intro k y hk hy
  rcases Nat.lt_or_ge k i with hl | hl
  · exact h k y hl hy
  · have : k = i := by omega
    subst this
    rw [hx] at hy; cases hy; exact hb
theorem bad_is {x : Int} (h : ¬ (0 ≤ x ∧ x ≤ 255)) : badLabel x = true := by simp [badLabel]; omega
theorem bad_not {x : Int} (h : 0 ≤ x ∧ x ≤ 255) : badLabel x = false := by simp [badLabel]; omega
def pl_ptl : List (Nat × Plan) := []
def G_ptl : List FuncId := []
theorem cok_ptl : codeOk Tryz.prog G_ptl pl_ptl (Tryz.f107.body.getD .skip) = true := by kernel_rfl
theorem run_ptl (vs : Array Value) (w : World) : (callFunc 107 vs).run C1.P w = .ok (.enter 107 vs) w := by kernel_rfl
theorem plabels_pure (l : List Int) (hm : l.length ≤ 9223372036854775807) : Pure C1 107 [dIs l] (fun y => y = labelsY l) := by
  have hdl : (l.map dI).length = l.length := List.length_map _
  refine pure_of c1_ok (pl := pl_ptl) (G := G_ptl) Tryz.func107 rfl Tryz.ntmps107 run_ptl cok_ptl (by simp) ?_
  by_cases h8 : 8 < l.length
  · have e : labelsY l = dF 6 0 patS := by unfold labelsY; rw [lErr_big h8]; rfl
    rw [e]
    (conv => whnf)
    (repeat' ((first | refine ord_ok (by (conv => whnf); (repeat' ((first | refine call_eq rfl (fnew_pure 6 0 patS) ?_ | refine ify ?_ | refine ifn ?_ | refine i6 ?_ | refine ati ?_ | refine mst ?_ | refine rmd ?_ | refine ibo (fun _ => ?_) (fun _ => ?_)) <;> conv => whnf)); (all_goals (repeat' (first | exact trivial | exact rfl | refine And.intro ?_ ?_)))) ?_ | refine call_eq rfl (fnew_pure 6 0 patS) ?_ | refine ify ?_ | refine ifn ?_ | refine i6 ?_ | refine ati ?_ | refine mst ?_ | refine rmd ?_ | refine ibo (fun _ => ?_) (fun _ => ?_)) <;> conv => whnf))
    exact rfl
  ((conv => whnf); repeat' ((first | refine odw ?_ | refine ify ?_ | refine ifn ?_ | refine i6 ?_ | refine ati ?_ | refine mst ?_ | refine rmd ?_ | refine ibo (fun _ => ?_) (fun _ => ?_)) <;> conv => whnf))
  refine loop_lo (ι := Nat) (fun i => i ≤ l.length ∧ ∀ k y, k < i → l[k]? = some y → badLabel y = false) (fun i => [(11, .d (.int .i64 i)), (10, .d (.int .i64 l.length)), (9, .d (dIs l))]) (fun _ => []) (fun i => l.length - i) 0 (fun _ => rfl) ⟨Nat.zero_le _, (by intro k y h; omega)⟩ (.refl _ _) ⟨rfl, by rw [← hdl]; rfl, rfl, trivial⟩ trivial ?_
  rintro i ⟨hi, hok⟩
  refine sxCode_sound c1_ok (G := G_ptl) (pl := pl_ptl) _ _ _ _ (by kernel_rfl) ?_
  by_cases hil : i < l.length
  · have hx := List.getElem?_eq_getElem hil
    generalize l[i] = x at hx
    have hxd : (l.map dI)[i]? = some (.int .i64 x) := by rw [List.getElem?_map, hx]; rfl
    by_cases hb : 0 ≤ x ∧ x ≤ 255
    · (conv => whnf)
      (repeat' ((first | refine ord_ok (by (conv => whnf); (repeat' ((first | refine at_da hxd rfl ?_ | refine ify ?_ | refine ifn ?_ | refine i6 ?_ | refine ati ?_ | refine mst ?_ | refine rmd ?_ | refine ibo (fun _ => ?_) (fun _ => ?_)) <;> conv => whnf)); (all_goals (repeat' (first | exact trivial | exact rfl | refine And.intro ?_ ?_)))) ?_ | refine at_da hxd rfl ?_ | refine ify ?_ | refine ifn ?_ | refine i6 ?_ | refine ati ?_ | refine mst ?_ | refine rmd ?_ | refine ibo (fun _ => ?_) (fun _ => ?_)) <;> conv => whnf))
      exact ⟨i + 1, _, _, ⟨by omega, bad_step hok hx (bad_not hb)⟩, .refl _ _, ⟨rfl, rfl, rfl, trivial⟩, trivial, by omega⟩
    · have e : labelsY l = dF 3 i labS := by unfold labelsY; rw [lErr_at h8 hok hx (bad_is hb)]; rfl
      rw [e]
      by_cases h0 : x < 0
      · (conv => whnf)
        (repeat' ((first | refine ord_ok (by (conv => whnf); (repeat' ((first | refine at_da hxd rfl ?_ | refine call_eq rfl (fnew_pure 3 i labS) ?_ | refine ify ?_ | refine ifn ?_ | refine i6 ?_ | refine ati ?_ | refine mst ?_ | refine rmd ?_ | refine ibo (fun _ => ?_) (fun _ => ?_)) <;> conv => whnf)); (all_goals (repeat' (first | exact trivial | exact rfl | refine And.intro ?_ ?_)))) ?_ | refine at_da hxd rfl ?_ | refine call_eq rfl (fnew_pure 3 i labS) ?_ | refine ify ?_ | refine ifn ?_ | refine i6 ?_ | refine ati ?_ | refine mst ?_ | refine rmd ?_ | refine ibo (fun _ => ?_) (fun _ => ?_)) <;> conv => whnf))
        exact rfl
      · (conv => whnf)
        (repeat' ((first | refine ord_ok (by (conv => whnf); (repeat' ((first | refine at_da hxd rfl ?_ | refine call_eq rfl (fnew_pure 3 i labS) ?_ | refine ify ?_ | refine ifn ?_ | refine i6 ?_ | refine ati ?_ | refine mst ?_ | refine rmd ?_ | refine ibo (fun _ => ?_) (fun _ => ?_)) <;> conv => whnf)); (all_goals (repeat' (first | exact trivial | exact rfl | refine And.intro ?_ ?_)))) ?_ | refine at_da hxd rfl ?_ | refine call_eq rfl (fnew_pure 3 i labS) ?_ | refine ify ?_ | refine ifn ?_ | refine i6 ?_ | refine ati ?_ | refine mst ?_ | refine rmd ?_ | refine ibo (fun _ => ?_) (fun _ => ?_)) <;> conv => whnf))
        exact rfl
  · have e : labelsY l = .nili := by unfold labelsY; rw [lErr_no h8 (fun k y hk hy => hok k y (by omega) hy)]
    rw [e]
    ((conv => whnf); repeat' ((first | refine odw ?_ | refine ify ?_ | refine ifn ?_ | refine i6 ?_ | refine ati ?_ | refine mst ?_ | refine rmd ?_ | refine ibo (fun _ => ?_) (fun _ => ?_)) <;> conv => whnf))
    exact rfl
def pl_rfl8 : List (Nat × Plan) := []
def G_rfl8 : List FuncId := []
theorem cok_rfl8 : codeOk Tryz.prog G_rfl8 pl_rfl8 (Tryz.f61.body.getD .skip) = true := by kernel_rfl
theorem run_rfl8 (vs : Array Value) (w : World) : (callFunc 61 vs).run C1.P w = .ok (.enter 61 vs) w := by kernel_rfl
theorem rlabels_pure (l : List Int) (hm : l.length ≤ 9223372036854775807) : Pure C1 61 [dIs l] (fun y => y = codeP (lErr l)) := by
  have hdl : (l.map dI).length = l.length := List.length_map _
  refine pure_of c1_ok (pl := pl_rfl8) (G := G_rfl8) Tryz.func61 rfl Tryz.ntmps61 run_rfl8 cok_rfl8 (by simp) ?_
  by_cases h8 : 8 < l.length
  · rw [lErr_big h8]
    ((conv => whnf); repeat' ((first | refine odw ?_ | refine ify ?_ | refine ifn ?_ | refine i6 ?_ | refine ati ?_ | refine mst ?_ | refine rmd ?_ | refine ibo (fun _ => ?_) (fun _ => ?_)) <;> conv => whnf))
    exact rfl
  ((conv => whnf); repeat' ((first | refine odw ?_ | refine ify ?_ | refine ifn ?_ | refine i6 ?_ | refine ati ?_ | refine mst ?_ | refine rmd ?_ | refine ibo (fun _ => ?_) (fun _ => ?_)) <;> conv => whnf))
  refine loop_lo (ι := Nat) (fun i => i ≤ l.length ∧ ∀ k y, k < i → l[k]? = some y → badLabel y = false) (fun i => [(4, .d (.int .i64 i)), (0, .d (dIs l))]) (fun _ => []) (fun i => l.length - i) 0 (fun _ => rfl) ⟨Nat.zero_le _, (by intro k y h; omega)⟩ (.refl _ _) ⟨rfl, rfl, trivial⟩ trivial ?_
  rintro i ⟨hi, hok⟩
  refine sxCode_sound c1_ok (G := G_rfl8) (pl := pl_rfl8) _ _ _ _ (by kernel_rfl) ?_
  by_cases hil : i < l.length
  · have hx := List.getElem?_eq_getElem hil
    generalize l[i] = x at hx
    have hxd : (l.map dI)[i]? = some (.int .i64 x) := by rw [List.getElem?_map, hx]; rfl
    by_cases hb : 0 ≤ x ∧ x ≤ 255
    · (conv => whnf)
      (repeat' ((first | refine ord_ok (by (conv => whnf); (repeat' ((first | refine at_da hxd rfl ?_ | refine ify ?_ | refine ifn ?_ | refine i6 ?_ | refine ati ?_ | refine mst ?_ | refine rmd ?_ | refine ibo (fun _ => ?_) (fun _ => ?_)) <;> conv => whnf)); (all_goals (repeat' (first | exact trivial | exact rfl | refine And.intro ?_ ?_)))) ?_ | refine at_da hxd rfl ?_ | refine ify ?_ | refine ifn ?_ | refine i6 ?_ | refine ati ?_ | refine mst ?_ | refine rmd ?_ | refine ibo (fun _ => ?_) (fun _ => ?_)) <;> conv => whnf))
      exact ⟨i + 1, _, _, ⟨by omega, bad_step hok hx (bad_not hb)⟩, .refl _ _, ⟨rfl, rfl, trivial⟩, trivial, by omega⟩
    · rw [lErr_at h8 hok hx (bad_is hb)]
      by_cases h0 : x < 0
      · (conv => whnf)
        (repeat' ((first | refine ord_ok (by (conv => whnf); (repeat' ((first | refine at_da hxd rfl ?_ | refine ify ?_ | refine ifn ?_ | refine i6 ?_ | refine ati ?_ | refine mst ?_ | refine rmd ?_ | refine ibo (fun _ => ?_) (fun _ => ?_)) <;> conv => whnf)); (all_goals (repeat' (first | exact trivial | exact rfl | refine And.intro ?_ ?_)))) ?_ | refine at_da hxd rfl ?_ | refine ify ?_ | refine ifn ?_ | refine i6 ?_ | refine ati ?_ | refine mst ?_ | refine rmd ?_ | refine ibo (fun _ => ?_) (fun _ => ?_)) <;> conv => whnf))
        exact rfl
      · (conv => whnf)
        (repeat' ((first | refine ord_ok (by (conv => whnf); (repeat' ((first | refine at_da hxd rfl ?_ | refine ify ?_ | refine ifn ?_ | refine i6 ?_ | refine ati ?_ | refine mst ?_ | refine rmd ?_ | refine ibo (fun _ => ?_) (fun _ => ?_)) <;> conv => whnf)); (all_goals (repeat' (first | exact trivial | exact rfl | refine And.intro ?_ ?_)))) ?_ | refine at_da hxd rfl ?_ | refine ify ?_ | refine ifn ?_ | refine i6 ?_ | refine ati ?_ | refine mst ?_ | refine rmd ?_ | refine ibo (fun _ => ?_) (fun _ => ?_)) <;> conv => whnf))
        exact rfl
  · rw [lErr_no h8 (fun k y hk hy => hok k y (by omega) hy)]
    ((conv => whnf); repeat' ((first | refine odw ?_ | refine ify ?_ | refine ifn ?_ | refine i6 ?_ | refine ati ?_ | refine mst ?_ | refine rmd ?_ | refine ibo (fun _ => ?_) (fun _ => ?_)) <;> conv => whnf))
    exact rfl
def pl_ptt : List (Nat × Plan) := []
def G_ptt : List FuncId := []
theorem cok_ptt : codeOk Tryz.prog G_ptt pl_ptt (Tryz.f74.body.getD .skip) = true := by kernel_rfl
theorem run_ptt (vs : Array Value) (w : World) : (callFunc 74 vs).run C1.P w = .ok (.enter 74 vs) w := by kernel_rfl
theorem pturned_pure (e : Edg) : Pure C1 74 [dE e] (fun y => y = dE (turn e)) := by
  refine pure_of c1_ok (pl := pl_ptt) (G := G_ptt) Tryz.func74 rfl Tryz.ntmps74 run_ptt cok_ptt (by simp) ?_
  ((conv => whnf); repeat' ((first | refine odw ?_ | refine ify ?_ | refine ifn ?_ | refine i6 ?_ | refine ati ?_ | refine mst ?_ | refine rmd ?_ | refine ibo (fun _ => ?_) (fun _ => ?_)) <;> conv => whnf))
  exact rfl
def pl_ptw : List (Nat × Plan) := []
def G_ptw : List FuncId := []
theorem cok_ptw : codeOk Tryz.prog G_ptw pl_ptw (Tryz.f108.body.getD .skip) = true := by kernel_rfl
theorem run_ptw (vs : Array Value) (w : World) : (callFunc 108 vs).run C1.P w = .ok (.enter 108 vs) w := by kernel_rfl
theorem within_pure (e : Edg) (n : Nat) : Pure C1 108 [dE e, .int .i64 n] (fun y => y = .bool (decide (0 ≤ min e.a e.b ∧ max e.a e.b < n))) := by
  refine pure_of c1_ok (pl := pl_ptw) (G := G_ptw) Tryz.func108 rfl Tryz.ntmps108 run_ptw cok_ptw (by simp) ?_
  by_cases h1 : 0 ≤ min e.a e.b
  · by_cases h2 : max e.a e.b < n
    · rw [decide_eq_true ⟨h1, h2⟩]
      ((conv => whnf); repeat' ((first | refine odw ?_ | refine ify ?_ | refine ifn ?_ | refine i6 ?_ | refine ati ?_ | refine mst ?_ | refine rmd ?_ | refine ibo (fun _ => ?_) (fun _ => ?_)) <;> conv => whnf))
      exact congrArg Da.bool (decide_eq_true h2)
    · rw [decide_eq_false (fun h => h2 h.2)]
      ((conv => whnf); repeat' ((first | refine odw ?_ | refine ify ?_ | refine ifn ?_ | refine i6 ?_ | refine ati ?_ | refine mst ?_ | refine rmd ?_ | refine ibo (fun _ => ?_) (fun _ => ?_)) <;> conv => whnf))
      exact congrArg Da.bool (decide_eq_false h2)
  · rw [decide_eq_false (fun h => h1 h.1)]
    ((conv => whnf); repeat' ((first | refine odw ?_ | refine ify ?_ | refine ifn ?_ | refine i6 ?_ | refine ati ?_ | refine mst ?_ | refine rmd ?_ | refine ibo (fun _ => ?_) (fun _ => ?_)) <;> conv => whnf))
    exact rfl
def pl_pto : List (Nat × Plan) := [(1, .leaf [0, 1, 0, 1, 2, 0, 1, 0, 1, 2, 6, 2, 0] [0, 2, 5, 7, 1, 3, 6, 8, 4, 9, 10, 11, 12] [0, 1, 0, 4, 15, 0, 32, 0, 128, 511, 1023, 2047, 4095])]
def G_pto : List FuncId := [78, 77]
theorem cok_pto : codeOk Tryz.prog G_pto pl_pto (Tryz.f76.body.getD .skip) = true := by kernel_rfl
theorem run_pto (vs : Array Value) (w : World) : (callFunc 76 vs).run C1.P w = .ok (.enter 76 vs) w := by kernel_rfl
theorem porder_pure (x y : Edg) : Pure C1 76 [dE x, dE y] (fun z => z = .int .i64 (cmpE x y)) := by
  refine pure_of c1_ok (pl := pl_pto) (G := G_pto) Tryz.func76 rfl Tryz.ntmps76 run_pto cok_pto (by simp) ?_
  have h1 := compare_pure x.a y.a
  have h2 := compare_pure x.b y.b
  have h3 := or_pure (cmpI x.a y.a) (cmpI x.b y.b)
  (conv => whnf)
  (repeat' ((first | refine ord_ok (by (conv => whnf); (repeat' ((first | refine call_eq rfl h1 ?_ | refine call_eq rfl h2 ?_ | refine call_eqb tab rfl h3 rfl ?_ | refine ify ?_ | refine ifn ?_ | refine i6 ?_ | refine ati ?_ | refine mst ?_ | refine rmd ?_ | refine ibo (fun _ => ?_) (fun _ => ?_)) <;> conv => whnf)); (all_goals (repeat' (first | exact trivial | exact rfl | refine And.intro ?_ ?_)))) ?_ | refine call_eq rfl h1 ?_ | refine call_eq rfl h2 ?_ | refine call_eqb tab rfl h3 rfl ?_ | refine ify ?_ | refine ifn ?_ | refine i6 ?_ | refine ati ?_ | refine mst ?_ | refine rmd ?_ | refine ibo (fun _ => ?_) (fun _ => ?_)) <;> conv => whnf))
  exact rfl
def pl_ro8 : List (Nat × Plan) := []
def G_ro8 : List FuncId := []
theorem cok_ro8 : codeOk Tryz.prog G_ro8 pl_ro8 (Tryz.f62.body.getD .skip) = true := by kernel_rfl
theorem run_ro8 (vs : Array Value) (w : World) : (callFunc 62 vs).run C1.P w = .ok (.enter 62 vs) w := by kernel_rfl
theorem rout_pure (e : Edg) (n : Nat) : Pure C1 62 [dE e, .int .i64 n] (fun y => y = .bool (decide (¬ (0 ≤ min e.a e.b ∧ max e.a e.b < n)))) := by
  refine pure_of c1_ok (pl := pl_ro8) (G := G_ro8) Tryz.func62 rfl Tryz.ntmps62 run_ro8 cok_ro8 (by simp) ?_
  by_cases h1 : e.a < 0
  · rw [decide_eq_true (by omega)]
    ((conv => whnf); repeat' ((first | refine odw ?_ | refine ify ?_ | refine ifn ?_ | refine i6 ?_ | refine ati ?_ | refine mst ?_ | refine rmd ?_ | refine ibo (fun _ => ?_) (fun _ => ?_)) <;> conv => whnf))
    exact rfl
  by_cases h2 : e.b < 0
  · rw [decide_eq_true (by omega)]
    ((conv => whnf); repeat' ((first | refine odw ?_ | refine ify ?_ | refine ifn ?_ | refine i6 ?_ | refine ati ?_ | refine mst ?_ | refine rmd ?_ | refine ibo (fun _ => ?_) (fun _ => ?_)) <;> conv => whnf))
    exact rfl
  by_cases h3 : (n : Int) ≤ e.a
  · rw [decide_eq_true (by omega)]
    ((conv => whnf); repeat' ((first | refine odw ?_ | refine ify ?_ | refine ifn ?_ | refine i6 ?_ | refine ati ?_ | refine mst ?_ | refine rmd ?_ | refine ibo (fun _ => ?_) (fun _ => ?_)) <;> conv => whnf))
    exact rfl
  by_cases h4 : (n : Int) ≤ e.b
  · rw [decide_eq_true (by omega)]
    ((conv => whnf); repeat' ((first | refine odw ?_ | refine ify ?_ | refine ifn ?_ | refine i6 ?_ | refine ati ?_ | refine mst ?_ | refine rmd ?_ | refine ibo (fun _ => ?_) (fun _ => ?_)) <;> conv => whnf))
    exact congrArg Da.bool (decide_eq_true h4)
  · rw [decide_eq_false (by omega)]
    ((conv => whnf); repeat' ((first | refine odw ?_ | refine ify ?_ | refine ifn ?_ | refine i6 ?_ | refine ati ?_ | refine mst ?_ | refine rmd ?_ | refine ibo (fun _ => ?_) (fun _ => ?_)) <;> conv => whnf))
    exact congrArg Da.bool (decide_eq_false h4)
def pl_rl8 : List (Nat × Plan) := []
def G_rl8 : List FuncId := []
theorem cok_rl8 : codeOk Tryz.prog G_rl8 pl_rl8 (Tryz.f63.body.getD .skip) = true := by kernel_rfl
theorem run_rl8 (vs : Array Value) (w : World) : (callFunc 63 vs).run C1.P w = .ok (.enter 63 vs) w := by kernel_rfl
theorem rless8_pure (x y : Edg) : Pure C1 63 [dE x, dE y] (fun z => z = .bool (decide (cmpE x y < 0))) := by
  refine pure_of c1_ok (pl := pl_rl8) (G := G_rl8) Tryz.func63 rfl Tryz.ntmps63 run_rl8 cok_rl8 (by simp) ?_
  have hc : cmpE x y < 0 ↔ x.a < y.a ∨ (x.a = y.a ∧ x.b < y.b) := by
    unfold cmpE cmpI
    repeat' split
    all_goals omega
  by_cases h1 : x.a < y.a
  · rw [decide_eq_true (hc.2 (.inl h1))]
    ((conv => whnf); repeat' ((first | refine odw ?_ | refine ify ?_ | refine ifn ?_ | refine i6 ?_ | refine ati ?_ | refine mst ?_ | refine rmd ?_ | refine ibo (fun _ => ?_) (fun _ => ?_)) <;> conv => whnf))
    exact rfl
  by_cases h2 : x.a = y.a
  · by_cases h3 : x.b < y.b
    · rw [decide_eq_true (hc.2 (.inr ⟨h2, h3⟩))]
      ((conv => whnf); repeat' ((first | refine odw ?_ | refine ify ?_ | refine ifn ?_ | refine i6 ?_ | refine ati ?_ | refine mst ?_ | refine rmd ?_ | refine ibo (fun _ => ?_) (fun _ => ?_)) <;> conv => whnf))
      exact congrArg Da.bool (decide_eq_true h3)
    · rw [decide_eq_false (fun h => by rcases hc.1 h with h | h; exact h1 h; exact h3 h.2)]
      ((conv => whnf); repeat' ((first | refine odw ?_ | refine ify ?_ | refine ifn ?_ | refine i6 ?_ | refine ati ?_ | refine mst ?_ | refine rmd ?_ | refine ibo (fun _ => ?_) (fun _ => ?_)) <;> conv => whnf))
      exact congrArg Da.bool (decide_eq_false h3)
  · rw [decide_eq_false (fun h => by rcases hc.1 h with h | h; exact h1 h; exact h2 h.1)]
    ((conv => whnf); repeat' ((first | refine odw ?_ | refine ify ?_ | refine ifn ?_ | refine i6 ?_ | refine ati ?_ | refine mst ?_ | refine rmd ?_ | refine ibo (fun _ => ?_) (fun _ => ?_)) <;> conv => whnf))
    exact rfl
end Go.Proofs.YthegabgbakckfaaGreatDoor
end

section
/- pat: Right, Has. slices.Index, Contains at edges. ref08: Right, Has, Made. ref12: Whole. law08: Of. -/
namespace Go.Gr
theorem eAt_none {n : Nat} {E : List Edg} {i : Nat} {e : Edg} (hx : E[i]? = some e) (h1 : 0 ≤ min e.a e.b ∧ max e.a e.b < n) (h2 : e.a < e.b) (h3 : i = 0 ∨ ∃ q, E[i - 1]? = some q ∧ cmpE q e < 0) : eAt n E i = none := by
  unfold eAt
  rw [hx]
  simp only [Option.map_eq_none_iff]
  unfold eBad
  rw [if_neg (fun h => h h1), if_neg (by omega)]
  rcases h3 with h3 | ⟨q, h3, h4⟩
  · rw [if_pos h3]
  · by_cases h0 : i = 0
    · rw [if_pos h0]
    · rw [if_neg h0, h3]
      simp only
      rw [if_pos h4]
theorem eAt_out {n : Nat} {E : List Edg} {i : Nat} {e : Edg} (hx : E[i]? = some e) (h1 : ¬ (0 ≤ min e.a e.b ∧ max e.a e.b < n)) : eAt n E i = some (3, i) := by
  unfold eAt
  rw [hx]
  simp only
  unfold eBad
  rw [if_pos h1]; rfl
theorem eAt_form {n : Nat} {E : List Edg} {i : Nat} {e : Edg} (hx : E[i]? = some e) (h1 : 0 ≤ min e.a e.b ∧ max e.a e.b < n) (h2 : e.b ≤ e.a) : eAt n E i = some (2, i) := by
  unfold eAt
  rw [hx]
  simp only
  unfold eBad
  rw [if_neg (fun h => h h1), if_pos h2]; rfl
theorem eAt_order {n : Nat} {E : List Edg} {i : Nat} {e q : Edg} (hx : E[i]? = some e) (h1 : 0 ≤ min e.a e.b ∧ max e.a e.b < n) (h2 : e.a < e.b) (h0 : i ≠ 0) (hq : E[i - 1]? = some q) (h3 : ¬ cmpE q e < 0) : eAt n E i = some (2, i) := by
  unfold eAt
  rw [hx]
  simp only
  unfold eBad
  rw [if_neg (fun h => h h1), if_neg (by omega), if_neg h0, hq]
  simp only
  rw [if_neg h3]; rfl
theorem eErr_at {n : Nat} {E : List Edg} {i : Nat} {y : Int × Nat} (h : ∀ k, k < i → eAt n E k = none) (hi : eAt n E i = some y) : eErr n E = some y := by
  have hl : i < E.length := by
    rcases Nat.lt_or_ge i E.length with h | h
    · exact h
    · unfold eAt at hi
      rw [List.getElem?_eq_none h] at hi
      cases hi
  exact findSome_at h hi hl
theorem eErr_no {n : Nat} {E : List Edg} (h : ∀ k, k < E.length → eAt n E k = none) : eErr n E = none := findSome_no h
theorem none_step {n : Nat} {E : List Edg} {i : Nat} (h : ∀ k, k < i → eAt n E k = none) (hi : eAt n E i = none) : ∀ k, k < i + 1 → eAt n E k = none := by
  intro k hk
  rcases Nat.lt_or_ge k i with hl | hl
  · exact h k hl
  · have : k = i := by omega
    subst this; exact hi
/-- a document's edge, either way round -/
def hasR (E : List Edg) (x y : Int) : Bool := E.any fun e => decide (e.a = x ∧ e.b = y ∨ e.a = y ∧ e.b = x)
/-- where an edge stands -/
def eIdx (E : List Edg) (e : Edg) : Int := match E.findIdx? (fun x => decide (x = e)) with
  | none => -1
  | some i => i
theorem eIdx_at {E : List Edg} {e : Edg} {i : Nat} (h : ∀ k x, k < i → E[k]? = some x → x ≠ e) (hx : E[i]? = some e) : eIdx E e = i := by
  have : E.findIdx? (fun x => decide (x = e)) = some i := by
    rw [List.findIdx?_eq_some_iff_getElem]
    obtain ⟨h1, h2⟩ := List.getElem?_eq_some_iff.1 hx
    refine ⟨h1, by simp [h2], fun j hj => ?_⟩
    have := h j _ hj (List.getElem?_eq_getElem (by omega))
    simpa using this
  unfold eIdx; rw [this]
theorem eIdx_no {E : List Edg} {e : Edg} (h : ∀ k x, k < E.length → E[k]? = some x → x ≠ e) : eIdx E e = -1 := by
  have : E.findIdx? (fun x => decide (x = e)) = none := by
    rw [List.findIdx?_eq_none_iff]
    intro x hx
    obtain ⟨i, hi, rfl⟩ := List.mem_iff_getElem.1 hx
    simpa using h i _ hi (List.getElem?_eq_getElem hi)
  unfold eIdx; rw [this]
theorem eIdx_mem {E : List Edg} {e : Edg} : (0 ≤ eIdx E e) ↔ e ∈ E := by
  unfold eIdx
  cases h : E.findIdx? (fun x => decide (x = e)) with
  | none =>
    rw [List.findIdx?_eq_none_iff] at h
    refine ⟨fun h => by simp at h, fun he => ?_⟩
    have := h e he
    simp at this
  | some i =>
    rw [List.findIdx?_eq_some_iff_getElem] at h
    obtain ⟨h1, h2, _⟩ := h
    refine ⟨fun _ => ?_, fun _ => by simp⟩
    have h2 : E[i] = e := by simpa using h2
    rw [← h2]; exact List.getElem_mem h1
end Go.Gr
namespace Go.Proofs.YthegabgbakckfaaGreatDoor
open Go.Sx Go.RowKit Go.Reg Go.Gr

set_option maxRecDepth 100000
def pl_ptr : List (Nat × Plan) := [(9, .leaf [0, 1, 0, 1, 0, 0, 0, 0, 0, 0, 1, 0, 0, 0, 1, 1, 2, 0, 0, 0, 0] [0, 2, 1, 3, 4, 5, 6, 7, 8, 9, 11, 12, 10, 13, 14, 15, 16, 17, 18, 19, 20] [0, 1, 0, 4, 15, 31, 63, 127, 255, 511, 1023, 511, 2559, 8191, 16383, 511, 65535, 131071, 262143, 524287, 1048575])]
def G_ptr : List FuncId := [76, 108]
theorem cok_ptr : codeOk Tryz.prog G_ptr pl_ptr (Tryz.f49.body.getD .skip) = true := by kernel_rfl
theorem run_ptr (vs : Array Value) (w : World) : (callFunc 49 vs).run C1.P w = .ok (.enter 49 vs) w := by kernel_rfl
set_option maxHeartbeats 4000000 in
theorem pright_pure (p : Pt) (hm : p.labels.length ≤ 9223372036854775807) (hme : p.edges.length ≤ 9223372036854775807) : Pure C1 49 [dPt p] (fun y => y = rightP p) := by
  have hdl : (p.labels.map dI).length = p.labels.length := List.length_map _
  have hde : (p.edges.map dE).length = p.edges.length := List.length_map _
  have hlb := plabels_pure p.labels hm
  refine pure_of c1_ok (pl := pl_ptr) (G := G_ptr) Tryz.func49 rfl Tryz.ntmps49 run_ptr cok_ptr (by simp) ?_
  cases hl : lErr p.labels with
  | some x =>
    obtain ⟨c, i⟩ := x
    have e1 : labelsY p.labels = dF c i (if c = 6 then patS else labS) := by unfold labelsY; rw [hl]
    have e2 : rightP p = dF c i (if c = 6 then patS else labS) := by unfold rightP; rw [hl]
    rw [e1] at hlb
    rw [e2]
    (conv => whnf)
    (repeat' ((first | refine ord_ok (by (conv => whnf); (repeat' ((first | refine call_eq rfl hlb ?_ | refine ify ?_ | refine ifn ?_ | refine i6 ?_ | refine ati ?_ | refine mst ?_ | refine rmd ?_ | refine ibo (fun _ => ?_) (fun _ => ?_)) <;> conv => whnf)); (all_goals (repeat' (first | exact trivial | exact rfl | refine And.intro ?_ ?_)))) ?_ | refine call_eq rfl hlb ?_ | refine ify ?_ | refine ifn ?_ | refine i6 ?_ | refine ati ?_ | refine mst ?_ | refine rmd ?_ | refine ibo (fun _ => ?_) (fun _ => ?_)) <;> conv => whnf))
    exact rfl
  | none =>
    have e1 : labelsY p.labels = .nili := by unfold labelsY; rw [hl]
    rw [e1] at hlb
    have e2 : rightP p = match eErr p.labels.length p.edges with | none => .nili | some (c, i) => dF c i edgS := by unfold rightP; rw [hl]; try rfl
    rw [e2]
    (conv => whnf)
    (repeat' ((first | refine ord_ok (by (conv => whnf); (repeat' ((first | refine call_eq rfl hlb ?_ | refine ify ?_ | refine ifn ?_ | refine i6 ?_ | refine ati ?_ | refine mst ?_ | refine rmd ?_ | refine ibo (fun _ => ?_) (fun _ => ?_)) <;> conv => whnf)); (all_goals (repeat' (first | exact trivial | exact rfl | refine And.intro ?_ ?_)))) ?_ | refine call_eq rfl hlb ?_ | refine ify ?_ | refine ifn ?_ | refine i6 ?_ | refine ati ?_ | refine mst ?_ | refine rmd ?_ | refine ibo (fun _ => ?_) (fun _ => ?_)) <;> conv => whnf))
    refine loop_lo (ι := Nat) (fun i => i ≤ p.edges.length ∧ ∀ k, k < i → eAt p.labels.length p.edges k = none) (fun i => [(15, .d (.int .i64 i)), (14, .d (.int .i64 p.edges.length)), (13, .d (dEs p.edges)), (1, .own 1)]) (fun _ => [(1, .cells 35 [.d (dIs p.labels), .d (dEs p.edges)])]) (fun i => p.edges.length - i) 0 (fun _ => rfl) ⟨Nat.zero_le _, (by intro k h; omega)⟩ (.refl _ _) ⟨rfl, by rw [← hde]; rfl, rfl, rfl, trivial⟩ ⟨rfl, trivial⟩ ?_
    rintro i ⟨hi, hok⟩
    refine sxCode_sound c1_ok (G := G_ptr) (pl := pl_ptr) _ _ _ _ (by kernel_rfl) ?_
    by_cases hil : i < p.edges.length
    · have hx := List.getElem?_eq_getElem hil
      generalize p.edges[i] = e at hx
      have hxd : (p.edges.map dE)[i]? = some (.agg [.int .i64 e.a, .int .i64 e.b]) := by rw [List.getElem?_map, hx]; rfl
      have hwi := within_pure e p.labels.length
      rw [← hdl] at hwi
      by_cases h1 : 0 ≤ min e.a e.b ∧ max e.a e.b < p.labels.length
      · rw [decide_eq_true (by rw [hdl]; exact h1)] at hwi
        by_cases h2 : e.a < e.b
        · by_cases h0 : i = 0
          · subst h0
            (conv => whnf)
            (repeat' ((first | refine ord_ok (by (conv => whnf); (repeat' ((first | refine at_da hxd rfl ?_ | refine call_eq rfl hwi ?_ | refine ify ?_ | refine ifn ?_ | refine i6 ?_ | refine ati ?_ | refine mst ?_ | refine rmd ?_ | refine ibo (fun _ => ?_) (fun _ => ?_)) <;> conv => whnf)); (all_goals (repeat' (first | exact trivial | exact rfl | refine And.intro ?_ ?_)))) ?_ | refine at_da hxd rfl ?_ | refine call_eq rfl hwi ?_ | refine ify ?_ | refine ifn ?_ | refine i6 ?_ | refine ati ?_ | refine mst ?_ | refine rmd ?_ | refine ibo (fun _ => ?_) (fun _ => ?_)) <;> conv => whnf))
            exact ⟨0 + 1, _, _, ⟨by omega, none_step hok (eAt_none hx h1 h2 (.inl rfl))⟩, .refl _ _, ⟨rfl, rfl, rfl, rfl, trivial⟩, ⟨rfl, trivial⟩, by omega⟩
          · have hy := List.getElem?_eq_getElem (l := p.edges) (i := i - 1) (by omega)
            generalize p.edges[i - 1]'(by omega) = q at hy
            have hyd : (p.edges.map dE)[i - 1]? = some (.agg [.int .i64 q.a, .int .i64 q.b]) := by rw [List.getElem?_map, hy]; rfl
            have hor := porder_pure q e
            by_cases h3 : cmpE q e < 0
            · (conv => whnf)
              (repeat' ((first | refine ord_ok (by (conv => whnf); (repeat' ((first | refine at_da hxd rfl ?_ | refine call_eq rfl hwi ?_ | refine at_da hyd (by omega) ?_ | refine call_eq rfl hor ?_ | refine ify ?_ | refine ifn ?_ | refine i6 ?_ | refine ati ?_ | refine mst ?_ | refine rmd ?_ | refine ibo (fun _ => ?_) (fun _ => ?_)) <;> conv => whnf)); (all_goals (repeat' (first | exact trivial | exact rfl | refine And.intro ?_ ?_)))) ?_ | refine at_da hxd rfl ?_ | refine call_eq rfl hwi ?_ | refine at_da hyd (by omega) ?_ | refine call_eq rfl hor ?_ | refine ify ?_ | refine ifn ?_ | refine i6 ?_ | refine ati ?_ | refine mst ?_ | refine rmd ?_ | refine ibo (fun _ => ?_) (fun _ => ?_)) <;> conv => whnf))
              exact ⟨i + 1, _, _, ⟨by omega, none_step hok (eAt_none hx h1 h2 (.inr ⟨q, hy, h3⟩))⟩, .refl _ _, ⟨rfl, rfl, rfl, rfl, trivial⟩, ⟨rfl, trivial⟩, by omega⟩
            · rw [eErr_at hok (eAt_order hx h1 h2 h0 hy h3)]
              (conv => whnf)
              (repeat' ((first | refine ord_ok (by (conv => whnf); (repeat' ((first | refine at_da hxd rfl ?_ | refine call_eq rfl hwi ?_ | refine at_da hyd (by omega) ?_ | refine call_eq rfl hor ?_ | refine call_eq rfl (fnew_pure 2 i edgS) ?_ | refine ify ?_ | refine ifn ?_ | refine i6 ?_ | refine ati ?_ | refine mst ?_ | refine rmd ?_ | refine ibo (fun _ => ?_) (fun _ => ?_)) <;> conv => whnf)); (all_goals (repeat' (first | exact trivial | exact rfl | refine And.intro ?_ ?_)))) ?_ | refine at_da hxd rfl ?_ | refine call_eq rfl hwi ?_ | refine at_da hyd (by omega) ?_ | refine call_eq rfl hor ?_ | refine call_eq rfl (fnew_pure 2 i edgS) ?_ | refine ify ?_ | refine ifn ?_ | refine i6 ?_ | refine ati ?_ | refine mst ?_ | refine rmd ?_ | refine ibo (fun _ => ?_) (fun _ => ?_)) <;> conv => whnf))
              exact rfl
        · rw [eErr_at hok (eAt_form hx h1 (by omega))]
          (conv => whnf)
          (repeat' ((first | refine ord_ok (by (conv => whnf); (repeat' ((first | refine at_da hxd rfl ?_ | refine call_eq rfl hwi ?_ | refine call_eq rfl (fnew_pure 2 i edgS) ?_ | refine ify ?_ | refine ifn ?_ | refine i6 ?_ | refine ati ?_ | refine mst ?_ | refine rmd ?_ | refine ibo (fun _ => ?_) (fun _ => ?_)) <;> conv => whnf)); (all_goals (repeat' (first | exact trivial | exact rfl | refine And.intro ?_ ?_)))) ?_ | refine at_da hxd rfl ?_ | refine call_eq rfl hwi ?_ | refine call_eq rfl (fnew_pure 2 i edgS) ?_ | refine ify ?_ | refine ifn ?_ | refine i6 ?_ | refine ati ?_ | refine mst ?_ | refine rmd ?_ | refine ibo (fun _ => ?_) (fun _ => ?_)) <;> conv => whnf))
          exact rfl
      · rw [decide_eq_false (by rw [hdl]; exact h1)] at hwi
        rw [eErr_at hok (eAt_out hx h1)]
        (conv => whnf)
        (repeat' ((first | refine ord_ok (by (conv => whnf); (repeat' ((first | refine at_da hxd rfl ?_ | refine call_eq rfl hwi ?_ | refine call_eq rfl (fnew_pure 3 i edgS) ?_ | refine ify ?_ | refine ifn ?_ | refine i6 ?_ | refine ati ?_ | refine mst ?_ | refine rmd ?_ | refine ibo (fun _ => ?_) (fun _ => ?_)) <;> conv => whnf)); (all_goals (repeat' (first | exact trivial | exact rfl | refine And.intro ?_ ?_)))) ?_ | refine at_da hxd rfl ?_ | refine call_eq rfl hwi ?_ | refine call_eq rfl (fnew_pure 3 i edgS) ?_ | refine ify ?_ | refine ifn ?_ | refine i6 ?_ | refine ati ?_ | refine mst ?_ | refine rmd ?_ | refine ibo (fun _ => ?_) (fun _ => ?_)) <;> conv => whnf))
        exact rfl
    · rw [eErr_no (fun k hk => hok k (by omega))]
      ((conv => whnf); repeat' ((first | refine odw ?_ | refine ify ?_ | refine ifn ?_ | refine i6 ?_ | refine ati ?_ | refine mst ?_ | refine rmd ?_ | refine ibo (fun _ => ?_) (fun _ => ?_)) <;> conv => whnf))
      exact rfl
def pl_r8r : List (Nat × Plan) := [(5, .leaf [0, 1, 0, 0, 1, 0, 1, 0, 2] [0, 2, 5, 1, 3, 4, 6, 7, 8] [0, 1, 0, 7, 15, 0, 32, 96, 255]),
  (7, .leaf [0, 1, 0, 0, 0, 1, 0, 1, 0, 0, 0, 1, 0, 0, 0, 0, 0, 0, 1, 0, 0, 0, 1, 0, 1, 0, 0, 1, 2, 0, 0, 0] [0, 2, 6, 8, 1, 3, 4, 5, 7, 9, 10, 11, 12, 13, 14, 15, 16, 17, 19, 20, 23, 25, 18, 21, 22, 24, 26, 27, 28, 29, 30, 31] [0, 1, 0, 7, 15, 31, 0, 64, 0, 448, 960, 1984, 4095, 8191, 16383, 32767, 65535, 131071, 262143, 131071, 655359, 2097151, 4194303, 131071, 8519679, 131071, 58851327, 125960191, 268435455, 536870911, 1073741823, 2147483647])]
def G_r8r : List FuncId := [62, 63]
theorem cok_r8r : codeOk Tryz.prog G_r8r pl_r8r (Tryz.f17.body.getD .skip) = true := by kernel_rfl
theorem run_r8r (vs : Array Value) (w : World) : (callFunc 17 vs).run C1.P w = .ok (.enter 17 vs) w := by kernel_rfl
set_option maxHeartbeats 4000000 in
theorem rright_pure (p : Pt) (hm : p.labels.length ≤ 9223372036854775807) (hme : p.edges.length ≤ 9223372036854775807) : Pure C1 17 [dPt p] (fun y => y = codeP (pErr p)) := by
  have hdl : (p.labels.map dI).length = p.labels.length := List.length_map _
  have hde : (p.edges.map dE).length = p.edges.length := List.length_map _
  have hlb := rlabels_pure p.labels hm
  refine pure_of c1_ok (pl := pl_r8r) (G := G_r8r) Tryz.func17 rfl Tryz.ntmps17 run_r8r cok_r8r (by simp) ?_
  cases hl : lErr p.labels with
  | some x =>
    obtain ⟨c, i⟩ := x
    have hc0 : c ≠ 0 := by
      intro e
      subst e
      unfold lErr at hl
      split at hl
      · simp at hl
      · obtain ⟨l1, k, l2, _, h2, _⟩ := List.findSome?_eq_some_iff.1 hl
        split at h2 <;> simp at h2
    have e2 : pErr p = some (c, i) := by unfold pErr; rw [hl]
    rw [hl] at hlb
    rw [e2]
    (conv => whnf)
    (repeat' ((first | refine ord_ok (by (conv => whnf); (repeat' ((first | refine call_eq rfl hlb ?_ | refine ify ?_ | refine ifn ?_ | refine i6 ?_ | refine ati ?_ | refine mst ?_ | refine rmd ?_ | refine ibo (fun _ => ?_) (fun _ => ?_)) <;> conv => whnf)); (all_goals (repeat' (first | exact trivial | exact rfl | refine And.intro ?_ ?_)))) ?_ | refine call_eq rfl hlb ?_ | refine ify ?_ | refine ifn ?_ | refine i6 ?_ | refine ati ?_ | refine mst ?_ | refine rmd ?_ | refine ibo (fun _ => ?_) (fun _ => ?_)) <;> conv => whnf))
    refine loop_lo (ι := Unit) (fun _ => True) (fun _ => [(6, .d (.int .i64 0)), (5, .d (.int .i64 i)), (4, .d (.int .i64 c)), (1, .own 1)]) (fun _ => [(1, .cells 25 [.d (dIs p.labels), .d (dEs p.edges)])]) (fun _ => 0) () (fun _ => rfl) trivial (.refl _ _) ⟨rfl, rfl, rfl, rfl, trivial⟩ ⟨rfl, trivial⟩ ?_
    intro _ _
    refine sxCode_sound c1_ok (G := G_r8r) (pl := pl_r8r) _ _ _ _ (by kernel_rfl) ?_
    ((conv => whnf); repeat' ((first | refine odw ?_ | refine ify ?_ | refine ifn ?_ | refine i6 ?_ | refine ati ?_ | refine mst ?_ | refine rmd ?_ | refine ibo (fun _ => ?_) (fun _ => ?_)) <;> conv => whnf))
    exact rfl
  | none =>
    rw [hl] at hlb
    have e2 : pErr p = eErr p.labels.length p.edges := by unfold pErr; rw [hl]
    rw [e2]
    (conv => whnf)
    (repeat' ((first | refine ord_ok (by (conv => whnf); (repeat' ((first | refine call_eq rfl hlb ?_ | refine ify ?_ | refine ifn ?_ | refine i6 ?_ | refine ati ?_ | refine mst ?_ | refine rmd ?_ | refine ibo (fun _ => ?_) (fun _ => ?_)) <;> conv => whnf)); (all_goals (repeat' (first | exact trivial | exact rfl | refine And.intro ?_ ?_)))) ?_ | refine call_eq rfl hlb ?_ | refine ify ?_ | refine ifn ?_ | refine i6 ?_ | refine ati ?_ | refine mst ?_ | refine rmd ?_ | refine ibo (fun _ => ?_) (fun _ => ?_)) <;> conv => whnf))
    refine loop_lo (ι := Nat) (fun i => i ≤ p.edges.length ∧ ∀ k, k < i → eAt p.labels.length p.edges k = none) (fun i => [(6, .d (.int .i64 i)), (5, .d (.int .i64 0)), (4, .d (.int .i64 0)), (1, .own 1)]) (fun _ => [(1, .cells 25 [.d (dIs p.labels), .d (dEs p.edges)])]) (fun i => p.edges.length - i) 0 (fun _ => rfl) ⟨Nat.zero_le _, (by intro k h; omega)⟩ (.refl _ _) ⟨rfl, rfl, rfl, rfl, trivial⟩ ⟨rfl, trivial⟩ ?_
    rintro i ⟨hi, hok⟩
    refine sxCode_sound c1_ok (G := G_r8r) (pl := pl_r8r) _ _ _ _ (by kernel_rfl) ?_
    by_cases hil : i < p.edges.length
    · have hx := List.getElem?_eq_getElem hil
      generalize p.edges[i] = e at hx
      have hxd : (p.edges.map dE)[i]? = some (.agg [.int .i64 e.a, .int .i64 e.b]) := by rw [List.getElem?_map, hx]; rfl
      have hwi := rout_pure e p.labels.length
      rw [← hdl] at hwi
      by_cases h1 : 0 ≤ min e.a e.b ∧ max e.a e.b < p.labels.length
      · rw [decide_eq_false (by rw [hdl]; exact fun h => h h1)] at hwi
        by_cases h2 : e.a < e.b
        · by_cases h0 : i = 0
          · subst h0
            (conv => whnf)
            (repeat' ((first | refine ord_ok (by (conv => whnf); (repeat' ((first | refine at_da hxd rfl ?_ | refine call_eq rfl hwi ?_ | refine ify ?_ | refine ifn ?_ | refine i6 ?_ | refine ati ?_ | refine mst ?_ | refine rmd ?_ | refine ibo (fun _ => ?_) (fun _ => ?_)) <;> conv => whnf)); (all_goals (repeat' (first | exact trivial | exact rfl | refine And.intro ?_ ?_)))) ?_ | refine at_da hxd rfl ?_ | refine call_eq rfl hwi ?_ | refine ify ?_ | refine ifn ?_ | refine i6 ?_ | refine ati ?_ | refine mst ?_ | refine rmd ?_ | refine ibo (fun _ => ?_) (fun _ => ?_)) <;> conv => whnf))
            exact ⟨0 + 1, _, _, ⟨by omega, none_step hok (eAt_none hx h1 h2 (.inl rfl))⟩, .refl _ _, ⟨rfl, rfl, rfl, rfl, trivial⟩, ⟨rfl, trivial⟩, by omega⟩
          · have hy := List.getElem?_eq_getElem (l := p.edges) (i := i - 1) (by omega)
            generalize p.edges[i - 1]'(by omega) = q at hy
            have hyd : (p.edges.map dE)[i - 1]? = some (.agg [.int .i64 q.a, .int .i64 q.b]) := by rw [List.getElem?_map, hy]; rfl
            have hor := rless8_pure q e
            by_cases h3 : cmpE q e < 0
            · rw [decide_eq_true h3] at hor
              (conv => whnf)
              (repeat' ((first | refine ord_ok (by (conv => whnf); (repeat' ((first | refine at_da hxd rfl ?_ | refine call_eq rfl hwi ?_ | refine at_da hyd (by omega) ?_ | refine call_eq rfl hor ?_ | refine ify ?_ | refine ifn ?_ | refine i6 ?_ | refine ati ?_ | refine mst ?_ | refine rmd ?_ | refine ibo (fun _ => ?_) (fun _ => ?_)) <;> conv => whnf)); (all_goals (repeat' (first | exact trivial | exact rfl | refine And.intro ?_ ?_)))) ?_ | refine at_da hxd rfl ?_ | refine call_eq rfl hwi ?_ | refine at_da hyd (by omega) ?_ | refine call_eq rfl hor ?_ | refine ify ?_ | refine ifn ?_ | refine i6 ?_ | refine ati ?_ | refine mst ?_ | refine rmd ?_ | refine ibo (fun _ => ?_) (fun _ => ?_)) <;> conv => whnf))
              exact ⟨i + 1, _, _, ⟨by omega, none_step hok (eAt_none hx h1 h2 (.inr ⟨q, hy, h3⟩))⟩, .refl _ _, ⟨rfl, rfl, rfl, rfl, trivial⟩, ⟨rfl, trivial⟩, by omega⟩
            · rw [decide_eq_false h3] at hor
              rw [eErr_at hok (eAt_order hx h1 h2 h0 hy h3)]
              (conv => whnf)
              (repeat' ((first | refine ord_ok (by (conv => whnf); (repeat' ((first | refine at_da hxd rfl ?_ | refine call_eq rfl hwi ?_ | refine at_da hyd (by omega) ?_ | refine call_eq rfl hor ?_ | refine ify ?_ | refine ifn ?_ | refine i6 ?_ | refine ati ?_ | refine mst ?_ | refine rmd ?_ | refine ibo (fun _ => ?_) (fun _ => ?_)) <;> conv => whnf)); (all_goals (repeat' (first | exact trivial | exact rfl | refine And.intro ?_ ?_)))) ?_ | refine at_da hxd rfl ?_ | refine call_eq rfl hwi ?_ | refine at_da hyd (by omega) ?_ | refine call_eq rfl hor ?_ | refine ify ?_ | refine ifn ?_ | refine i6 ?_ | refine ati ?_ | refine mst ?_ | refine rmd ?_ | refine ibo (fun _ => ?_) (fun _ => ?_)) <;> conv => whnf))
              exact rfl
        · rw [eErr_at hok (eAt_form hx h1 (by omega))]
          (conv => whnf)
          (repeat' ((first | refine ord_ok (by (conv => whnf); (repeat' ((first | refine at_da hxd rfl ?_ | refine call_eq rfl hwi ?_ | refine ify ?_ | refine ifn ?_ | refine i6 ?_ | refine ati ?_ | refine mst ?_ | refine rmd ?_ | refine ibo (fun _ => ?_) (fun _ => ?_)) <;> conv => whnf)); (all_goals (repeat' (first | exact trivial | exact rfl | refine And.intro ?_ ?_)))) ?_ | refine at_da hxd rfl ?_ | refine call_eq rfl hwi ?_ | refine ify ?_ | refine ifn ?_ | refine i6 ?_ | refine ati ?_ | refine mst ?_ | refine rmd ?_ | refine ibo (fun _ => ?_) (fun _ => ?_)) <;> conv => whnf))
          exact rfl
      · rw [decide_eq_true (by rw [hdl]; exact h1)] at hwi
        rw [eErr_at hok (eAt_out hx h1)]
        (conv => whnf)
        (repeat' ((first | refine ord_ok (by (conv => whnf); (repeat' ((first | refine at_da hxd rfl ?_ | refine call_eq rfl hwi ?_ | refine ify ?_ | refine ifn ?_ | refine i6 ?_ | refine ati ?_ | refine mst ?_ | refine rmd ?_ | refine ibo (fun _ => ?_) (fun _ => ?_)) <;> conv => whnf)); (all_goals (repeat' (first | exact trivial | exact rfl | refine And.intro ?_ ?_)))) ?_ | refine at_da hxd rfl ?_ | refine call_eq rfl hwi ?_ | refine ify ?_ | refine ifn ?_ | refine i6 ?_ | refine ati ?_ | refine mst ?_ | refine rmd ?_ | refine ibo (fun _ => ?_) (fun _ => ?_)) <;> conv => whnf))
        exact rfl
    · rw [eErr_no (fun k hk => hok k (by omega))]
      ((conv => whnf); repeat' ((first | refine odw ?_ | refine ify ?_ | refine ifn ?_ | refine i6 ?_ | refine ati ?_ | refine mst ?_ | refine rmd ?_ | refine ibo (fun _ => ?_) (fun _ => ?_)) <;> conv => whnf))
      exact rfl
def pl_sie : List (Nat × Plan) := [(4, .leaf [1, 0, 0, 0, 1, 3] [1, 2, 3, 0, 4, 5] [0, 0, 0, 6, 14, 31])]
def G_sie : List FuncId := []
theorem cok_sie : codeOk Tryz.prog G_sie pl_sie (Tryz.f102.body.getD .skip) = true := by kernel_rfl
theorem run_sie (vs : Array Value) (w : World) : (callFunc 102 vs).run C1.P w = .ok (.enter 102 vs) w := by kernel_rfl
theorem eindex_pure (E : List Edg) (e : Edg) (hm : E.length ≤ 9223372036854775807) : Pure C1 102 [dEs E, dE e] (fun y => y = .int .i64 (eIdx E e)) := by
  have hde : (E.map dE).length = E.length := List.length_map _
  refine pure_of c1_ok (pl := pl_sie) (G := G_sie) Tryz.func102 rfl Tryz.ntmps102 run_sie cok_sie (by simp) ?_
  ((conv => whnf); repeat' ((first | refine odw ?_ | refine ify ?_ | refine ifn ?_ | refine i6 ?_ | refine ati ?_ | refine mst ?_ | refine rmd ?_ | refine ibo (fun _ => ?_) (fun _ => ?_)) <;> conv => whnf))
  refine loop_lo (ι := Nat) (fun i => i ≤ E.length ∧ ∀ k x, k < i → E[k]? = some x → x ≠ e) (fun i => [(8, .d (.int .i64 i)), (7, .d (.int .i64 E.length)), (3, .own 3), (0, .d (dEs E))]) (fun _ => [(3, .cells 77 [.d (.int .i64 e.a), .d (.int .i64 e.b)])]) (fun i => E.length - i) 0 (fun _ => rfl) ⟨Nat.zero_le _, (by intro k x h; omega)⟩ (.refl _ _) ⟨rfl, by rw [← hde]; rfl, rfl, rfl, trivial⟩ ⟨rfl, trivial⟩ ?_
  rintro i ⟨hi, hok⟩
  refine sxCode_sound c1_ok (G := G_sie) (pl := pl_sie) _ _ _ _ (by kernel_rfl) ?_
  by_cases hil : i < E.length
  · have hx := List.getElem?_eq_getElem hil
    generalize E[i] = x at hx
    have hxd : (E.map dE)[i]? = some (.agg [.int .i64 x.a, .int .i64 x.b]) := by rw [List.getElem?_map, hx]; rfl
    by_cases hxe : x = e
    · subst hxe
      rw [eIdx_at hok hx]
      (conv => whnf)
      (repeat' ((first | refine ord_ok (by (conv => whnf); (repeat' ((first | refine at_da hxd rfl ?_ | refine ify ?_ | refine ifn ?_ | refine i6 ?_ | refine ati ?_ | refine mst ?_ | refine rmd ?_ | refine ibo (fun _ => ?_) (fun _ => ?_)) <;> conv => whnf)); (all_goals (repeat' (first | exact trivial | exact rfl | refine And.intro ?_ ?_)))) ?_ | refine at_da hxd rfl ?_ | refine ify ?_ | refine ifn ?_ | refine i6 ?_ | refine ati ?_ | refine mst ?_ | refine rmd ?_ | refine ibo (fun _ => ?_) (fun _ => ?_)) <;> conv => whnf))
      exact rfl
    · have hne : ¬ (e.a = x.a ∧ e.b = x.b) := fun h => hxe (by cases x; cases e; simp only at h; rw [h.1, h.2])
      (conv => whnf)
      (repeat' ((first | refine ord_ok (by (conv => whnf); (repeat' ((first | refine at_da hxd rfl ?_ | refine ify ?_ | refine ifn ?_ | refine i6 ?_ | refine ati ?_ | refine mst ?_ | refine rmd ?_ | refine ibo (fun _ => ?_) (fun _ => ?_)) <;> conv => whnf)); (all_goals (repeat' (first | exact trivial | exact rfl | refine And.intro ?_ ?_)))) ?_ | refine at_da hxd rfl ?_ | refine ify ?_ | refine ifn ?_ | refine i6 ?_ | refine ati ?_ | refine mst ?_ | refine rmd ?_ | refine ibo (fun _ => ?_) (fun _ => ?_)) <;> conv => whnf))
      refine ⟨i + 1, _, _, ⟨by omega, fun k y hk hy => ?_⟩, .refl _ _, ⟨rfl, rfl, rfl, rfl, trivial⟩, ⟨rfl, trivial⟩, by omega⟩
      rcases Nat.lt_or_ge k i with hl | hl
      · exact hok k y hl hy
      · have : k = i := by omega
        subst this
        rw [hx] at hy; cases hy; exact hxe
  · rw [eIdx_no (fun k x hk hx => hok k x (by omega) hx)]
    ((conv => whnf); repeat' ((first | refine odw ?_ | refine ify ?_ | refine ifn ?_ | refine i6 ?_ | refine ati ?_ | refine mst ?_ | refine rmd ?_ | refine ibo (fun _ => ?_) (fun _ => ?_)) <;> conv => whnf))
    exact rfl
def pl_sce : List (Nat × Plan) := []
def G_sce : List FuncId := []
theorem cok_sce : codeOk Tryz.prog G_sce pl_sce (Tryz.f105.body.getD .skip) = true := by kernel_rfl
theorem run_sce (vs : Array Value) (w : World) : (callFunc 105 vs).run C1.P w = .ok (.enter 105 vs) w := by kernel_rfl
theorem econtains_pure (E : List Edg) (e : Edg) (hm : E.length ≤ 9223372036854775807) : Pure C1 105 [dEs E, dE e] (fun y => y = .bool (decide (e ∈ E))) := by
  have h := eindex_pure E e hm
  refine pure_of c1_ok (pl := pl_sce) (G := G_sce) Tryz.func105 rfl Tryz.ntmps105 run_sce cok_sce (by simp) ?_
  (conv => whnf)
  (repeat' ((first | refine ord_ok (by (conv => whnf); (repeat' ((first | refine call_eq rfl h ?_ | refine ify ?_ | refine ifn ?_ | refine i6 ?_ | refine ati ?_ | refine mst ?_ | refine rmd ?_ | refine ibo (fun _ => ?_) (fun _ => ?_)) <;> conv => whnf)); (all_goals (repeat' (first | exact trivial | exact rfl | refine And.intro ?_ ?_)))) ?_ | refine call_eq rfl h ?_ | refine ify ?_ | refine ifn ?_ | refine i6 ?_ | refine ati ?_ | refine mst ?_ | refine rmd ?_ | refine ibo (fun _ => ?_) (fun _ => ?_)) <;> conv => whnf))
  exact congrArg Da.bool (decide_eq_decide.2 eIdx_mem)
def pl_pth : List (Nat × Plan) := [(1, .leaf [0, 1, 0, 0, 0, 2, 2, 0] [0, 2, 3, 4, 1, 5, 6, 7] [0, 1, 0, 0, 12, 28, 63, 127])]
def G_pth : List FuncId := [74, 105]
theorem cok_pth : codeOk Tryz.prog G_pth pl_pth (Tryz.f45.body.getD .skip) = true := by kernel_rfl
theorem run_pth (vs : Array Value) (w : World) : (callFunc 45 vs).run C1.P w = .ok (.enter 45 vs) w := by kernel_rfl
theorem phas_pure (p : Pt) (a b : Int) (hme : p.edges.length ≤ 9223372036854775807) : Pure C1 45 [dPt p, .int .i64 a, .int .i64 b] (fun y => y = .bool (decide (turn ⟨a, b⟩ ∈ p.edges))) := by
  have h1 := pturned_pure ⟨a, b⟩
  have h2 := econtains_pure p.edges (turn ⟨a, b⟩) hme
  refine pure_of c1_ok (pl := pl_pth) (G := G_pth) Tryz.func45 rfl Tryz.ntmps45 run_pth cok_pth (by simp) ?_
  (conv => whnf)
  (repeat' ((first | refine ord_ok (by (conv => whnf); (repeat' ((first | refine call_eq rfl h1 ?_ | refine call_eq rfl h2 ?_ | refine ify ?_ | refine ifn ?_ | refine i6 ?_ | refine ati ?_ | refine mst ?_ | refine rmd ?_ | refine ibo (fun _ => ?_) (fun _ => ?_)) <;> conv => whnf)); (all_goals (repeat' (first | exact trivial | exact rfl | refine And.intro ?_ ?_)))) ?_ | refine call_eq rfl h1 ?_ | refine call_eq rfl h2 ?_ | refine ify ?_ | refine ifn ?_ | refine i6 ?_ | refine ati ?_ | refine mst ?_ | refine rmd ?_ | refine ibo (fun _ => ?_) (fun _ => ?_)) <;> conv => whnf))
  exact rfl
def pl_r8h : List (Nat × Plan) := []
def G_r8h : List FuncId := []
theorem cok_r8h : codeOk Tryz.prog G_r8h pl_r8h (Tryz.f65.body.getD .skip) = true := by kernel_rfl
theorem run_r8h (vs : Array Value) (w : World) : (callFunc 65 vs).run C1.P w = .ok (.enter 65 vs) w := by kernel_rfl
set_option maxHeartbeats 4000000 in
theorem rhas_pure (p : Pt) (a b : Int) (hme : p.edges.length ≤ 9223372036854775807) : Pure C1 65 [dPt p, .int .i64 a, .int .i64 b] (fun y => y = .bool (hasR p.edges a b)) := by
  have hde : (p.edges.map dE).length = p.edges.length := List.length_map _
  refine pure_of c1_ok (pl := pl_r8h) (G := G_r8h) Tryz.func65 rfl Tryz.ntmps65 run_r8h cok_r8h (by simp) ?_
  ((conv => whnf); repeat' ((first | refine odw ?_ | refine ify ?_ | refine ifn ?_ | refine i6 ?_ | refine ati ?_ | refine mst ?_ | refine rmd ?_ | refine ibo (fun _ => ?_) (fun _ => ?_)) <;> conv => whnf))
  refine loop_lo (ι := Nat) (fun i => i ≤ p.edges.length ∧ ∀ k x, k < i → p.edges[k]? = some x → ¬ (x.a = a ∧ x.b = b ∨ x.a = b ∧ x.b = a)) (fun i => [(7, .d (.int .i64 i)), (3, .own 3), (2, .d (.int .i64 b)), (1, .d (.int .i64 a))]) (fun _ => [(3, .cells 25 [.d (dIs p.labels), .d (dEs p.edges)])]) (fun i => p.edges.length - i) 0 (fun _ => rfl) ⟨Nat.zero_le _, (by intro k x h; omega)⟩ (.refl _ _) ⟨rfl, rfl, rfl, rfl, trivial⟩ ⟨rfl, trivial⟩ ?_
  rintro i ⟨hi, hok⟩
  refine sxCode_sound c1_ok (G := G_r8h) (pl := pl_r8h) _ _ _ _ (by kernel_rfl) ?_
  by_cases hil : i < p.edges.length
  · have hx := List.getElem?_eq_getElem hil
    generalize p.edges[i] = x at hx
    have hxd : (p.edges.map dE)[i]? = some (.agg [.int .i64 x.a, .int .i64 x.b]) := by rw [List.getElem?_map, hx]; rfl
    by_cases hc : x.a = a ∧ x.b = b ∨ x.a = b ∧ x.b = a
    · have ht : hasR p.edges a b = true := by
        unfold hasR
        rw [List.any_eq_true]
        exact ⟨x, List.mem_of_getElem? hx, decide_eq_true hc⟩
      rw [ht]
      by_cases h1 : x.a = a ∧ x.b = b
      · obtain ⟨h1, h2⟩ := h1
        (conv => whnf)
        (repeat' ((first | refine ord_ok (by (conv => whnf); (repeat' ((first | refine at_da hxd rfl ?_ | refine ify ?_ | refine ifn ?_ | refine i6 ?_ | refine ati ?_ | refine mst ?_ | refine rmd ?_ | refine ibo (fun _ => ?_) (fun _ => ?_)) <;> conv => whnf)); (all_goals (repeat' (first | exact trivial | exact rfl | refine And.intro ?_ ?_)))) ?_ | refine at_da hxd rfl ?_ | refine ify ?_ | refine ifn ?_ | refine i6 ?_ | refine ati ?_ | refine mst ?_ | refine rmd ?_ | refine ibo (fun _ => ?_) (fun _ => ?_)) <;> conv => whnf))
        exact rfl
      · obtain ⟨h3, h4⟩ := hc.resolve_left h1
        by_cases h5 : x.a = a
        · have h6 : ¬ x.b = b := fun h => h1 ⟨h5, h⟩
          (conv => whnf)
          (repeat' ((first | refine ord_ok (by (conv => whnf); (repeat' ((first | refine at_da hxd rfl ?_ | refine ify ?_ | refine ifn ?_ | refine i6 ?_ | refine ati ?_ | refine mst ?_ | refine rmd ?_ | refine ibo (fun _ => ?_) (fun _ => ?_)) <;> conv => whnf)); (all_goals (repeat' (first | exact trivial | exact rfl | refine And.intro ?_ ?_)))) ?_ | refine at_da hxd rfl ?_ | refine ify ?_ | refine ifn ?_ | refine i6 ?_ | refine ati ?_ | refine mst ?_ | refine rmd ?_ | refine ibo (fun _ => ?_) (fun _ => ?_)) <;> conv => whnf))
          exact rfl
        · (conv => whnf)
          (repeat' ((first | refine ord_ok (by (conv => whnf); (repeat' ((first | refine at_da hxd rfl ?_ | refine ify ?_ | refine ifn ?_ | refine i6 ?_ | refine ati ?_ | refine mst ?_ | refine rmd ?_ | refine ibo (fun _ => ?_) (fun _ => ?_)) <;> conv => whnf)); (all_goals (repeat' (first | exact trivial | exact rfl | refine And.intro ?_ ?_)))) ?_ | refine at_da hxd rfl ?_ | refine ify ?_ | refine ifn ?_ | refine i6 ?_ | refine ati ?_ | refine mst ?_ | refine rmd ?_ | refine ibo (fun _ => ?_) (fun _ => ?_)) <;> conv => whnf))
          exact rfl
    · have hs : ∀ k y, k < i + 1 → p.edges[k]? = some y → ¬ (y.a = a ∧ y.b = b ∨ y.a = b ∧ y.b = a) := by
        intro k y hk hy
        rcases Nat.lt_or_ge k i with hl | hl
        · exact hok k y hl hy
        · have : k = i := by omega
          subst this
          rw [hx] at hy; cases hy; exact hc
      by_cases h1 : x.a = a
      · have h2 : ¬ x.b = b := fun h => hc (.inl ⟨h1, h⟩)
        by_cases h3 : x.a = b
        · have h4 : ¬ x.b = a := fun h => hc (.inr ⟨h3, h⟩)
          (conv => whnf)
          (repeat' ((first | refine ord_ok (by (conv => whnf); (repeat' ((first | refine at_da hxd rfl ?_ | refine ify ?_ | refine ifn ?_ | refine i6 ?_ | refine ati ?_ | refine mst ?_ | refine rmd ?_ | refine ibo (fun _ => ?_) (fun _ => ?_)) <;> conv => whnf)); (all_goals (repeat' (first | exact trivial | exact rfl | refine And.intro ?_ ?_)))) ?_ | refine at_da hxd rfl ?_ | refine ify ?_ | refine ifn ?_ | refine i6 ?_ | refine ati ?_ | refine mst ?_ | refine rmd ?_ | refine ibo (fun _ => ?_) (fun _ => ?_)) <;> conv => whnf))
          exact ⟨i + 1, _, _, ⟨by omega, hs⟩, .refl _ _, ⟨rfl, rfl, rfl, rfl, trivial⟩, ⟨rfl, trivial⟩, by omega⟩
        · (conv => whnf)
          (repeat' ((first | refine ord_ok (by (conv => whnf); (repeat' ((first | refine at_da hxd rfl ?_ | refine ify ?_ | refine ifn ?_ | refine i6 ?_ | refine ati ?_ | refine mst ?_ | refine rmd ?_ | refine ibo (fun _ => ?_) (fun _ => ?_)) <;> conv => whnf)); (all_goals (repeat' (first | exact trivial | exact rfl | refine And.intro ?_ ?_)))) ?_ | refine at_da hxd rfl ?_ | refine ify ?_ | refine ifn ?_ | refine i6 ?_ | refine ati ?_ | refine mst ?_ | refine rmd ?_ | refine ibo (fun _ => ?_) (fun _ => ?_)) <;> conv => whnf))
          exact ⟨i + 1, _, _, ⟨by omega, hs⟩, .refl _ _, ⟨rfl, rfl, rfl, rfl, trivial⟩, ⟨rfl, trivial⟩, by omega⟩
      · by_cases h3 : x.a = b
        · have h4 : ¬ x.b = a := fun h => hc (.inr ⟨h3, h⟩)
          (conv => whnf)
          (repeat' ((first | refine ord_ok (by (conv => whnf); (repeat' ((first | refine at_da hxd rfl ?_ | refine ify ?_ | refine ifn ?_ | refine i6 ?_ | refine ati ?_ | refine mst ?_ | refine rmd ?_ | refine ibo (fun _ => ?_) (fun _ => ?_)) <;> conv => whnf)); (all_goals (repeat' (first | exact trivial | exact rfl | refine And.intro ?_ ?_)))) ?_ | refine at_da hxd rfl ?_ | refine ify ?_ | refine ifn ?_ | refine i6 ?_ | refine ati ?_ | refine mst ?_ | refine rmd ?_ | refine ibo (fun _ => ?_) (fun _ => ?_)) <;> conv => whnf))
          exact ⟨i + 1, _, _, ⟨by omega, hs⟩, .refl _ _, ⟨rfl, rfl, rfl, rfl, trivial⟩, ⟨rfl, trivial⟩, by omega⟩
        · (conv => whnf)
          (repeat' ((first | refine ord_ok (by (conv => whnf); (repeat' ((first | refine at_da hxd rfl ?_ | refine ify ?_ | refine ifn ?_ | refine i6 ?_ | refine ati ?_ | refine mst ?_ | refine rmd ?_ | refine ibo (fun _ => ?_) (fun _ => ?_)) <;> conv => whnf)); (all_goals (repeat' (first | exact trivial | exact rfl | refine And.intro ?_ ?_)))) ?_ | refine at_da hxd rfl ?_ | refine ify ?_ | refine ifn ?_ | refine i6 ?_ | refine ati ?_ | refine mst ?_ | refine rmd ?_ | refine ibo (fun _ => ?_) (fun _ => ?_)) <;> conv => whnf))
          exact ⟨i + 1, _, _, ⟨by omega, hs⟩, .refl _ _, ⟨rfl, rfl, rfl, rfl, trivial⟩, ⟨rfl, trivial⟩, by omega⟩
  · have ht : hasR p.edges a b = false := by
      unfold hasR
      rw [List.any_eq_false]
      intro x hx
      obtain ⟨k, hk, rfl⟩ := List.mem_iff_getElem.1 hx
      simpa using hok k _ (by omega) (List.getElem?_eq_getElem hk)
    rw [ht]
    ((conv => whnf); repeat' ((first | refine odw ?_ | refine ify ?_ | refine ifn ?_ | refine i6 ?_ | refine ati ?_ | refine mst ?_ | refine rmd ?_ | refine ibo (fun _ => ?_) (fun _ => ?_)) <;> conv => whnf))
    exact rfl
theorem rightP_none {p : Pt} (h : pErr p = none) : rightP p = .nili := by
  unfold pErr at h
  unfold rightP
  split at h
  · cases h
  · rename_i hl
    rw [hl]
    simp only
    rw [h]
end Go.Proofs.YthegabgbakckfaaGreatDoor
end
