/- Merged: Pta Ptc Ptd Pte Qip Qif Qig Qih. -/
import Derived.Test.YthegabgbakckfaaGreatDoorGra
import Derived.Test.YthegabgbakckfaaGreatDoorGrd
import Derived.Test.YthegabgbakckfaaGreatDoorFau
import Derived.Test.YthegabgbakckfaaGreatDoorRfa
import Derived.Test.YthegabgbakckfaaGreatDoorGrh
import Derived.Test.YthegabgbakckfaaGreatDoorClp
import Derived.Test.YthegabgbakckfaaGreatDoorGrs
import Derived.Test.YthegabgbakckfaaGreatDoorLnf
section
/- Patterns, plain: which are right. -/
namespace Go.Gr
/-- a pattern -/
structure Pt where
  labels : List Int
  edges : List Edg
theorem findSome_at {α : Type} {f : Nat → Option α} {n i : Nat} {y : α} (h : ∀ k, k < i → f k = none) (hi : f i = some y) (hn : i < n) : (List.range n).findSome? f = some y := by
  rw [List.findSome?_eq_some_iff]
  refine ⟨List.range i, i, (List.range (n - i - 1)).map (fun k => i + 1 + k), ?_, hi, fun k hk => h k (List.mem_range.1 hk)⟩
  apply List.ext_getElem?
  intro k
  by_cases h1 : k < n
  · rw [List.getElem?_range h1]
    rcases Nat.lt_trichotomy k i with h2 | h2 | h2
    · rw [List.getElem?_append_left (by simpa using h2), List.getElem?_range h2]
    · subst h2
      rw [List.getElem?_append_right (by simp), List.length_range, Nat.sub_self]; rfl
    · rw [List.getElem?_append_right (by simp; omega), List.length_range]
      obtain ⟨d, hd⟩ : ∃ d, k - i = d + 1 := ⟨k - i - 1, by omega⟩
      rw [hd, List.getElem?_cons_succ, List.getElem?_map, List.getElem?_range (by omega)]
      simp; omega
  · rw [List.getElem?_eq_none (by simp; omega), List.getElem?_eq_none (by simp; omega)]
theorem findSome_no {α : Type} {f : Nat → Option α} {n : Nat} (h : ∀ k, k < n → f k = none) : (List.range n).findSome? f = none := by
  rw [List.findSome?_eq_none_iff]
  exact fun k hk => h k (List.mem_range.1 hk)
/-- the fault of labels -/
def lErr (l : List Int) : Option (Int × Nat) := if 8 < l.length then some (6, 0) else (List.range l.length).findSome? fun i => if badLabel ((l[i]?).getD 0) then some (3, i) else none
/-- the fault of an edge behind another one -/
def eBad (n : Nat) (p : Option Edg) (e : Edg) : Option Int :=
  if ¬ (0 ≤ min e.a e.b ∧ max e.a e.b < n) then some 3 else if e.b ≤ e.a then some 2 else match p with
    | none => none
    | some q => if cmpE q e < 0 then none else some 2
def eAt (n : Nat) (E : List Edg) (i : Nat) : Option (Int × Nat) := match E[i]? with
  | none => none
  | some e => (eBad n (if i = 0 then none else E[i - 1]?) e).map fun c => (c, i)
def eErr (n : Nat) (E : List Edg) : Option (Int × Nat) := (List.range E.length).findSome? (eAt n E)
/-- a pattern's fault: its code, its place -/
def pErr (p : Pt) : Option (Int × Nat) := match lErr p.labels with
  | some x => some x
  | none => eErr p.labels.length p.edges
theorem lErr_none {l : List Int} (h : lErr l = none) : l.length ≤ 8 ∧ ∀ x ∈ l, 0 ≤ x ∧ x ≤ 255 := by
  unfold lErr at h
  split at h
  · cases h
  · refine ⟨by omega, fun x hx => ?_⟩
    obtain ⟨i, hi, rfl⟩ := List.mem_iff_getElem.1 hx
    have := (List.findSome?_eq_none_iff.1 h) i (List.mem_range.2 hi)
    rw [List.getElem?_eq_getElem hi] at this
    simp [badLabel] at this
    omega
theorem eErr_none {n : Nat} {E : List Edg} (h : eErr n E = none) : (∀ e ∈ E, 0 ≤ e.a ∧ e.a < e.b ∧ e.b < n) ∧ ∀ i x y, E[i]? = some x → E[i + 1]? = some y → cmpE x y < 0 := by
  have key : ∀ i e, E[i]? = some e → eBad n (if i = 0 then none else E[i - 1]?) e = none := by
    intro i e hx
    have := (List.findSome?_eq_none_iff.1 h) i (List.mem_range.2 (List.getElem?_eq_some_iff.1 hx).1)
    unfold eAt at this
    rw [hx] at this
    simpa using this
  refine ⟨fun e he => ?_, fun i x y hx hy => ?_⟩
  · obtain ⟨i, hi, rfl⟩ := List.mem_iff_getElem.1 he
    have := key i _ (List.getElem?_eq_getElem hi)
    unfold eBad at this
    split at this
    · cases this
    · split at this
      · cases this
      · omega
  · have := key (i + 1) y hy
    rw [if_neg (by omega), Nat.add_sub_cancel, hx] at this
    unfold eBad at this
    split at this
    · cases this
    · split at this
      · cases this
      · simp only at this
        split at this
        · assumption
        · cases this
end Go.Gr
end

section
/- pat: turned, order, within, labels, Right, Has. slices.Index, Contains at edges. ref08: labels, out, less, Right, Has. -/
namespace Go.Proofs.YthegabgbakckfaaGreatDoor
open Go.Sx Go.RowKit Go.Reg Go.Gr

set_option maxRecDepth 100000
def patS : ByteArray := ⟨#[112, 97, 116, 116, 101, 114, 110]⟩
def labS : ByteArray := ⟨#[108, 97, 98, 101, 108]⟩
def edgS : ByteArray := ⟨#[101, 100, 103, 101]⟩
def dPt (p : Pt) : Da := .agg [dIs p.labels, dEs p.edges]
def labelsY (l : List Int) : Da := match lErr l with
  | none => .nili
  | some (c, i) => dF c i (if c = 6 then patS else labS)
def rightP (p : Pt) : Da := match lErr p.labels with
  | some (c, i) => dF c i (if c = 6 then patS else labS)
  | none => match eErr p.labels.length p.edges with
    | none => .nili
    | some (c, i) => dF c i edgS
def codeP (x : Option (Int × Nat)) : Da := match x with
  | none => .tuple [.int .i64 0, .int .i64 0]
  | some (c, i) => .tuple [.int .i64 c, .int .i64 i]
theorem lErr_big {l : List Int} (h : 8 < l.length) : lErr l = some (6, 0) := if_pos h
theorem lErr_at {l : List Int} {i : Nat} {x : Int} (h8 : ¬ 8 < l.length) (h : ∀ k y, k < i → l[k]? = some y → badLabel y = false) (hx : l[i]? = some x) (hb : badLabel x = true) : lErr l = some (3, i) := by
  unfold lErr
  rw [if_neg h8]
  refine findSome_at (i := i) (fun k hk => ?_) ?_ (List.getElem?_eq_some_iff.1 hx).1
  · have hkl : k < l.length := by have := (List.getElem?_eq_some_iff.1 hx).1; omega
    have := h k _ hk (List.getElem?_eq_getElem hkl)
    rw [List.getElem?_eq_getElem hkl]
    simp [this]
  · rw [hx]; simp [hb]
theorem lErr_no {l : List Int} (h8 : ¬ 8 < l.length) (h : ∀ k y, k < l.length → l[k]? = some y → badLabel y = false) : lErr l = none := by
  unfold lErr
  rw [if_neg h8]
  refine findSome_no fun k hk => ?_
  have := h k _ hk (List.getElem?_eq_getElem hk)
  rw [List.getElem?_eq_getElem hk]
  simp [this]
theorem bad_step {l : List Int} {i : Nat} {x : Int} (h : ∀ k y, k < i → l[k]? = some y → badLabel y = false) (hx : l[i]? = some x) (hb : badLabel x = false) : ∀ k y, k < i + 1 → l[k]? = some y → badLabel y = false := by
  intro k y hk hy
  rcases Nat.lt_or_ge k i with hl | hl
  · exact h k y hl hy
  · have : k = i := by omega
    subst this
    rw [hx] at hy; cases hy; exact hb
theorem bad_is {x : Int} (h : ¬ (0 ≤ x ∧ x ≤ 255)) : badLabel x = true := by simp [badLabel]; omega
theorem bad_not {x : Int} (h : 0 ≤ x ∧ x ≤ 255) : badLabel x = false := by simp [badLabel]; omega
def pl_ptl : List (Nat × Plan) := []
def G_ptl : List FuncId := []
theorem cok_ptl : codeOk Tryz.prog G_ptl pl_ptl (Tryz.f107.body.getD .skip) = true := by kernel_rfl
theorem run_ptl (vs : Array Value) (w : World) : (callFunc 107 vs).run C1.P w = .ok (.enter 107 vs) w := by kernel_rfl
theorem plabels_pure (l : List Int) (hm : l.length ≤ 9000000000000000000) : Pure C1 107 [dIs l] (fun y => y = labelsY l) := by
  have hdl : (l.map dI).length = l.length := List.length_map _
  refine pure_of c1_ok (pl := pl_ptl) (G := G_ptl) Tryz.func107 rfl Tryz.ntmps107 run_ptl cok_ptl (by simp) ?_
  by_cases h8 : 8 < l.length
  · have e : labelsY l = dF 6 0 patS := by unfold labelsY; rw [lErr_big h8]; rfl
    rw [e]
    (conv => whnf)
    (repeat' ((first | refine ord_ok (by (conv => whnf); (repeat' ((first | refine call_eq rfl (fnew_pure 6 0 patS) ?_ | refine ify ?_ | refine ifn ?_ | refine i6 ?_ | refine ati ?_ | refine mst ?_ | refine rmd ?_ | refine ibo (fun _ => ?_) (fun _ => ?_)) <;> conv => whnf)); (all_goals (repeat' (first | exact trivial | exact rfl | refine And.intro ?_ ?_)))) ?_ | refine call_eq rfl (fnew_pure 6 0 patS) ?_ | refine ify ?_ | refine ifn ?_ | refine i6 ?_ | refine ati ?_ | refine mst ?_ | refine rmd ?_ | refine ibo (fun _ => ?_) (fun _ => ?_)) <;> conv => whnf))
    exact rfl
  ((conv => whnf); repeat' ((first | refine odw ?_ | refine ify ?_ | refine ifn ?_ | refine i6 ?_ | refine ati ?_ | refine mst ?_ | refine rmd ?_ | refine ibo (fun _ => ?_) (fun _ => ?_)) <;> conv => whnf))
  refine loop_lo (ι := Nat) (fun i => i ≤ l.length ∧ ∀ k y, k < i → l[k]? = some y → badLabel y = false) (fun i => [(11, .d (.int .i64 i)), (10, .d (.int .i64 l.length)), (9, .d (dIs l))]) (fun _ => []) (fun i => l.length - i) 0 (fun _ => rfl) ⟨Nat.zero_le _, (by intro k y h; omega)⟩ (.refl _ _) ⟨rfl, by rw [← hdl]; rfl, rfl, trivial⟩ trivial ?_
  rintro i ⟨hi, hok⟩
  refine sxCode_sound c1_ok (G := G_ptl) (pl := pl_ptl) _ _ _ _ (by kernel_rfl) ?_
  by_cases hil : i < l.length
  · have hx := List.getElem?_eq_getElem hil
    generalize l[i] = x at hx
    have hxd : (l.map dI)[i]? = some (.int .i64 x) := by rw [List.getElem?_map, hx]; rfl
    by_cases hb : 0 ≤ x ∧ x ≤ 255
    · (conv => whnf)
      (repeat' ((first | refine ord_ok (by (conv => whnf); (repeat' ((first | refine at_da hxd rfl ?_ | refine ify ?_ | refine ifn ?_ | refine i6 ?_ | refine ati ?_ | refine mst ?_ | refine rmd ?_ | refine ibo (fun _ => ?_) (fun _ => ?_)) <;> conv => whnf)); (all_goals (repeat' (first | exact trivial | exact rfl | refine And.intro ?_ ?_)))) ?_ | refine at_da hxd rfl ?_ | refine ify ?_ | refine ifn ?_ | refine i6 ?_ | refine ati ?_ | refine mst ?_ | refine rmd ?_ | refine ibo (fun _ => ?_) (fun _ => ?_)) <;> conv => whnf))
      exact ⟨i + 1, _, _, ⟨by omega, bad_step hok hx (bad_not hb)⟩, .refl _ _, ⟨rfl, rfl, rfl, trivial⟩, trivial, by omega⟩
    · have e : labelsY l = dF 3 i labS := by unfold labelsY; rw [lErr_at h8 hok hx (bad_is hb)]; rfl
      rw [e]
      by_cases h0 : x < 0
      · (conv => whnf)
        (repeat' ((first | refine ord_ok (by (conv => whnf); (repeat' ((first | refine at_da hxd rfl ?_ | refine call_eq rfl (fnew_pure 3 i labS) ?_ | refine ify ?_ | refine ifn ?_ | refine i6 ?_ | refine ati ?_ | refine mst ?_ | refine rmd ?_ | refine ibo (fun _ => ?_) (fun _ => ?_)) <;> conv => whnf)); (all_goals (repeat' (first | exact trivial | exact rfl | refine And.intro ?_ ?_)))) ?_ | refine at_da hxd rfl ?_ | refine call_eq rfl (fnew_pure 3 i labS) ?_ | refine ify ?_ | refine ifn ?_ | refine i6 ?_ | refine ati ?_ | refine mst ?_ | refine rmd ?_ | refine ibo (fun _ => ?_) (fun _ => ?_)) <;> conv => whnf))
        exact rfl
      · (conv => whnf)
        (repeat' ((first | refine ord_ok (by (conv => whnf); (repeat' ((first | refine at_da hxd rfl ?_ | refine call_eq rfl (fnew_pure 3 i labS) ?_ | refine ify ?_ | refine ifn ?_ | refine i6 ?_ | refine ati ?_ | refine mst ?_ | refine rmd ?_ | refine ibo (fun _ => ?_) (fun _ => ?_)) <;> conv => whnf)); (all_goals (repeat' (first | exact trivial | exact rfl | refine And.intro ?_ ?_)))) ?_ | refine at_da hxd rfl ?_ | refine call_eq rfl (fnew_pure 3 i labS) ?_ | refine ify ?_ | refine ifn ?_ | refine i6 ?_ | refine ati ?_ | refine mst ?_ | refine rmd ?_ | refine ibo (fun _ => ?_) (fun _ => ?_)) <;> conv => whnf))
        exact rfl
  · have e : labelsY l = .nili := by unfold labelsY; rw [lErr_no h8 (fun k y hk hy => hok k y (by omega) hy)]
    rw [e]
    ((conv => whnf); repeat' ((first | refine odw ?_ | refine ify ?_ | refine ifn ?_ | refine i6 ?_ | refine ati ?_ | refine mst ?_ | refine rmd ?_ | refine ibo (fun _ => ?_) (fun _ => ?_)) <;> conv => whnf))
    exact rfl
def pl_rfl8 : List (Nat × Plan) := []
def G_rfl8 : List FuncId := []
theorem cok_rfl8 : codeOk Tryz.prog G_rfl8 pl_rfl8 (Tryz.f61.body.getD .skip) = true := by kernel_rfl
theorem run_rfl8 (vs : Array Value) (w : World) : (callFunc 61 vs).run C1.P w = .ok (.enter 61 vs) w := by kernel_rfl
theorem rlabels_pure (l : List Int) (hm : l.length ≤ 9000000000000000000) : Pure C1 61 [dIs l] (fun y => y = codeP (lErr l)) := by
  have hdl : (l.map dI).length = l.length := List.length_map _
  refine pure_of c1_ok (pl := pl_rfl8) (G := G_rfl8) Tryz.func61 rfl Tryz.ntmps61 run_rfl8 cok_rfl8 (by simp) ?_
  by_cases h8 : 8 < l.length
  · rw [lErr_big h8]
    ((conv => whnf); repeat' ((first | refine odw ?_ | refine ify ?_ | refine ifn ?_ | refine i6 ?_ | refine ati ?_ | refine mst ?_ | refine rmd ?_ | refine ibo (fun _ => ?_) (fun _ => ?_)) <;> conv => whnf))
    exact rfl
  ((conv => whnf); repeat' ((first | refine odw ?_ | refine ify ?_ | refine ifn ?_ | refine i6 ?_ | refine ati ?_ | refine mst ?_ | refine rmd ?_ | refine ibo (fun _ => ?_) (fun _ => ?_)) <;> conv => whnf))
  refine loop_lo (ι := Nat) (fun i => i ≤ l.length ∧ ∀ k y, k < i → l[k]? = some y → badLabel y = false) (fun i => [(4, .d (.int .i64 i)), (0, .d (dIs l))]) (fun _ => []) (fun i => l.length - i) 0 (fun _ => rfl) ⟨Nat.zero_le _, (by intro k y h; omega)⟩ (.refl _ _) ⟨rfl, rfl, trivial⟩ trivial ?_
  rintro i ⟨hi, hok⟩
  refine sxCode_sound c1_ok (G := G_rfl8) (pl := pl_rfl8) _ _ _ _ (by kernel_rfl) ?_
  by_cases hil : i < l.length
  · have hx := List.getElem?_eq_getElem hil
    generalize l[i] = x at hx
    have hxd : (l.map dI)[i]? = some (.int .i64 x) := by rw [List.getElem?_map, hx]; rfl
    by_cases hb : 0 ≤ x ∧ x ≤ 255
    · (conv => whnf)
      (repeat' ((first | refine ord_ok (by (conv => whnf); (repeat' ((first | refine at_da hxd rfl ?_ | refine ify ?_ | refine ifn ?_ | refine i6 ?_ | refine ati ?_ | refine mst ?_ | refine rmd ?_ | refine ibo (fun _ => ?_) (fun _ => ?_)) <;> conv => whnf)); (all_goals (repeat' (first | exact trivial | exact rfl | refine And.intro ?_ ?_)))) ?_ | refine at_da hxd rfl ?_ | refine ify ?_ | refine ifn ?_ | refine i6 ?_ | refine ati ?_ | refine mst ?_ | refine rmd ?_ | refine ibo (fun _ => ?_) (fun _ => ?_)) <;> conv => whnf))
      exact ⟨i + 1, _, _, ⟨by omega, bad_step hok hx (bad_not hb)⟩, .refl _ _, ⟨rfl, rfl, trivial⟩, trivial, by omega⟩
    · rw [lErr_at h8 hok hx (bad_is hb)]
      by_cases h0 : x < 0
      · (conv => whnf)
        (repeat' ((first | refine ord_ok (by (conv => whnf); (repeat' ((first | refine at_da hxd rfl ?_ | refine ify ?_ | refine ifn ?_ | refine i6 ?_ | refine ati ?_ | refine mst ?_ | refine rmd ?_ | refine ibo (fun _ => ?_) (fun _ => ?_)) <;> conv => whnf)); (all_goals (repeat' (first | exact trivial | exact rfl | refine And.intro ?_ ?_)))) ?_ | refine at_da hxd rfl ?_ | refine ify ?_ | refine ifn ?_ | refine i6 ?_ | refine ati ?_ | refine mst ?_ | refine rmd ?_ | refine ibo (fun _ => ?_) (fun _ => ?_)) <;> conv => whnf))
        exact rfl
      · (conv => whnf)
        (repeat' ((first | refine ord_ok (by (conv => whnf); (repeat' ((first | refine at_da hxd rfl ?_ | refine ify ?_ | refine ifn ?_ | refine i6 ?_ | refine ati ?_ | refine mst ?_ | refine rmd ?_ | refine ibo (fun _ => ?_) (fun _ => ?_)) <;> conv => whnf)); (all_goals (repeat' (first | exact trivial | exact rfl | refine And.intro ?_ ?_)))) ?_ | refine at_da hxd rfl ?_ | refine ify ?_ | refine ifn ?_ | refine i6 ?_ | refine ati ?_ | refine mst ?_ | refine rmd ?_ | refine ibo (fun _ => ?_) (fun _ => ?_)) <;> conv => whnf))
        exact rfl
  · rw [lErr_no h8 (fun k y hk hy => hok k y (by omega) hy)]
    ((conv => whnf); repeat' ((first | refine odw ?_ | refine ify ?_ | refine ifn ?_ | refine i6 ?_ | refine ati ?_ | refine mst ?_ | refine rmd ?_ | refine ibo (fun _ => ?_) (fun _ => ?_)) <;> conv => whnf))
    exact rfl
def pl_ptt : List (Nat × Plan) := []
def G_ptt : List FuncId := []
theorem cok_ptt : codeOk Tryz.prog G_ptt pl_ptt (Tryz.f74.body.getD .skip) = true := by kernel_rfl
theorem run_ptt (vs : Array Value) (w : World) : (callFunc 74 vs).run C1.P w = .ok (.enter 74 vs) w := by kernel_rfl
theorem pturned_pure (e : Edg) : Pure C1 74 [dE e] (fun y => y = dE (turn e)) := by
  refine pure_of c1_ok (pl := pl_ptt) (G := G_ptt) Tryz.func74 rfl Tryz.ntmps74 run_ptt cok_ptt (by simp) ?_
  ((conv => whnf); repeat' ((first | refine odw ?_ | refine ify ?_ | refine ifn ?_ | refine i6 ?_ | refine ati ?_ | refine mst ?_ | refine rmd ?_ | refine ibo (fun _ => ?_) (fun _ => ?_)) <;> conv => whnf))
  exact rfl
def pl_ptw : List (Nat × Plan) := []
def G_ptw : List FuncId := []
theorem cok_ptw : codeOk Tryz.prog G_ptw pl_ptw (Tryz.f108.body.getD .skip) = true := by kernel_rfl
theorem run_ptw (vs : Array Value) (w : World) : (callFunc 108 vs).run C1.P w = .ok (.enter 108 vs) w := by kernel_rfl
theorem within_pure (e : Edg) (n : Nat) : Pure C1 108 [dE e, .int .i64 n] (fun y => y = .bool (decide (0 ≤ min e.a e.b ∧ max e.a e.b < n))) := by
  refine pure_of c1_ok (pl := pl_ptw) (G := G_ptw) Tryz.func108 rfl Tryz.ntmps108 run_ptw cok_ptw (by simp) ?_
  by_cases h1 : 0 ≤ min e.a e.b
  · by_cases h2 : max e.a e.b < n
    · rw [decide_eq_true ⟨h1, h2⟩]
      ((conv => whnf); repeat' ((first | refine odw ?_ | refine ify ?_ | refine ifn ?_ | refine i6 ?_ | refine ati ?_ | refine mst ?_ | refine rmd ?_ | refine ibo (fun _ => ?_) (fun _ => ?_)) <;> conv => whnf))
      exact congrArg Da.bool (decide_eq_true h2)
    · rw [decide_eq_false (fun h => h2 h.2)]
      ((conv => whnf); repeat' ((first | refine odw ?_ | refine ify ?_ | refine ifn ?_ | refine i6 ?_ | refine ati ?_ | refine mst ?_ | refine rmd ?_ | refine ibo (fun _ => ?_) (fun _ => ?_)) <;> conv => whnf))
      exact congrArg Da.bool (decide_eq_false h2)
  · rw [decide_eq_false (fun h => h1 h.1)]
    ((conv => whnf); repeat' ((first | refine odw ?_ | refine ify ?_ | refine ifn ?_ | refine i6 ?_ | refine ati ?_ | refine mst ?_ | refine rmd ?_ | refine ibo (fun _ => ?_) (fun _ => ?_)) <;> conv => whnf))
    exact rfl
def pl_pto : List (Nat × Plan) := [(1, .leaf [0, 1, 0, 1, 2, 0, 1, 0, 1, 2, 6, 2, 0] [0, 2, 5, 7, 1, 3, 6, 8, 4, 9, 10, 11, 12] [0, 1, 0, 4, 15, 0, 32, 0, 128, 511, 1023, 2047, 4095])]
def G_pto : List FuncId := [78, 77]
theorem cok_pto : codeOk Tryz.prog G_pto pl_pto (Tryz.f76.body.getD .skip) = true := by kernel_rfl
theorem run_pto (vs : Array Value) (w : World) : (callFunc 76 vs).run C1.P w = .ok (.enter 76 vs) w := by kernel_rfl
theorem porder_pure (x y : Edg) : Pure C1 76 [dE x, dE y] (fun z => z = .int .i64 (cmpE x y)) := by
  refine pure_of c1_ok (pl := pl_pto) (G := G_pto) Tryz.func76 rfl Tryz.ntmps76 run_pto cok_pto (by simp) ?_
  have h1 := compare_pure x.a y.a
  have h2 := compare_pure x.b y.b
  have h3 := or_pure (cmpI x.a y.a) (cmpI x.b y.b)
  (conv => whnf)
  (repeat' ((first | refine ord_ok (by (conv => whnf); (repeat' ((first | refine call_eq rfl h1 ?_ | refine call_eq rfl h2 ?_ | refine call_eqb tab rfl h3 rfl ?_ | refine ify ?_ | refine ifn ?_ | refine i6 ?_ | refine ati ?_ | refine mst ?_ | refine rmd ?_ | refine ibo (fun _ => ?_) (fun _ => ?_)) <;> conv => whnf)); (all_goals (repeat' (first | exact trivial | exact rfl | refine And.intro ?_ ?_)))) ?_ | refine call_eq rfl h1 ?_ | refine call_eq rfl h2 ?_ | refine call_eqb tab rfl h3 rfl ?_ | refine ify ?_ | refine ifn ?_ | refine i6 ?_ | refine ati ?_ | refine mst ?_ | refine rmd ?_ | refine ibo (fun _ => ?_) (fun _ => ?_)) <;> conv => whnf))
  exact rfl
def pl_ro8 : List (Nat × Plan) := []
def G_ro8 : List FuncId := []
theorem cok_ro8 : codeOk Tryz.prog G_ro8 pl_ro8 (Tryz.f62.body.getD .skip) = true := by kernel_rfl
theorem run_ro8 (vs : Array Value) (w : World) : (callFunc 62 vs).run C1.P w = .ok (.enter 62 vs) w := by kernel_rfl
theorem rout_pure (e : Edg) (n : Nat) : Pure C1 62 [dE e, .int .i64 n] (fun y => y = .bool (decide (¬ (0 ≤ min e.a e.b ∧ max e.a e.b < n)))) := by
  refine pure_of c1_ok (pl := pl_ro8) (G := G_ro8) Tryz.func62 rfl Tryz.ntmps62 run_ro8 cok_ro8 (by simp) ?_
  by_cases h1 : e.a < 0
  · rw [decide_eq_true (by omega)]
    ((conv => whnf); repeat' ((first | refine odw ?_ | refine ify ?_ | refine ifn ?_ | refine i6 ?_ | refine ati ?_ | refine mst ?_ | refine rmd ?_ | refine ibo (fun _ => ?_) (fun _ => ?_)) <;> conv => whnf))
    exact rfl
  by_cases h2 : e.b < 0
  · rw [decide_eq_true (by omega)]
    ((conv => whnf); repeat' ((first | refine odw ?_ | refine ify ?_ | refine ifn ?_ | refine i6 ?_ | refine ati ?_ | refine mst ?_ | refine rmd ?_ | refine ibo (fun _ => ?_) (fun _ => ?_)) <;> conv => whnf))
    exact rfl
  by_cases h3 : (n : Int) ≤ e.a
  · rw [decide_eq_true (by omega)]
    ((conv => whnf); repeat' ((first | refine odw ?_ | refine ify ?_ | refine ifn ?_ | refine i6 ?_ | refine ati ?_ | refine mst ?_ | refine rmd ?_ | refine ibo (fun _ => ?_) (fun _ => ?_)) <;> conv => whnf))
    exact rfl
  by_cases h4 : (n : Int) ≤ e.b
  · rw [decide_eq_true (by omega)]
    ((conv => whnf); repeat' ((first | refine odw ?_ | refine ify ?_ | refine ifn ?_ | refine i6 ?_ | refine ati ?_ | refine mst ?_ | refine rmd ?_ | refine ibo (fun _ => ?_) (fun _ => ?_)) <;> conv => whnf))
    exact congrArg Da.bool (decide_eq_true h4)
  · rw [decide_eq_false (by omega)]
    ((conv => whnf); repeat' ((first | refine odw ?_ | refine ify ?_ | refine ifn ?_ | refine i6 ?_ | refine ati ?_ | refine mst ?_ | refine rmd ?_ | refine ibo (fun _ => ?_) (fun _ => ?_)) <;> conv => whnf))
    exact congrArg Da.bool (decide_eq_false h4)
def pl_rl8 : List (Nat × Plan) := []
def G_rl8 : List FuncId := []
theorem cok_rl8 : codeOk Tryz.prog G_rl8 pl_rl8 (Tryz.f63.body.getD .skip) = true := by kernel_rfl
theorem run_rl8 (vs : Array Value) (w : World) : (callFunc 63 vs).run C1.P w = .ok (.enter 63 vs) w := by kernel_rfl
theorem rless8_pure (x y : Edg) : Pure C1 63 [dE x, dE y] (fun z => z = .bool (decide (cmpE x y < 0))) := by
  refine pure_of c1_ok (pl := pl_rl8) (G := G_rl8) Tryz.func63 rfl Tryz.ntmps63 run_rl8 cok_rl8 (by simp) ?_
  have hc : cmpE x y < 0 ↔ x.a < y.a ∨ (x.a = y.a ∧ x.b < y.b) := by
    unfold cmpE cmpI
    repeat' split
    all_goals omega
  by_cases h1 : x.a < y.a
  · rw [decide_eq_true (hc.2 (.inl h1))]
    ((conv => whnf); repeat' ((first | refine odw ?_ | refine ify ?_ | refine ifn ?_ | refine i6 ?_ | refine ati ?_ | refine mst ?_ | refine rmd ?_ | refine ibo (fun _ => ?_) (fun _ => ?_)) <;> conv => whnf))
    exact rfl
  by_cases h2 : x.a = y.a
  · by_cases h3 : x.b < y.b
    · rw [decide_eq_true (hc.2 (.inr ⟨h2, h3⟩))]
      ((conv => whnf); repeat' ((first | refine odw ?_ | refine ify ?_ | refine ifn ?_ | refine i6 ?_ | refine ati ?_ | refine mst ?_ | refine rmd ?_ | refine ibo (fun _ => ?_) (fun _ => ?_)) <;> conv => whnf))
      exact congrArg Da.bool (decide_eq_true h3)
    · rw [decide_eq_false (fun h => by rcases hc.1 h with h | h; exact h1 h; exact h3 h.2)]
      ((conv => whnf); repeat' ((first | refine odw ?_ | refine ify ?_ | refine ifn ?_ | refine i6 ?_ | refine ati ?_ | refine mst ?_ | refine rmd ?_ | refine ibo (fun _ => ?_) (fun _ => ?_)) <;> conv => whnf))
      exact congrArg Da.bool (decide_eq_false h3)
  · rw [decide_eq_false (fun h => by rcases hc.1 h with h | h; exact h1 h; exact h2 h.1)]
    ((conv => whnf); repeat' ((first | refine odw ?_ | refine ify ?_ | refine ifn ?_ | refine i6 ?_ | refine ati ?_ | refine mst ?_ | refine rmd ?_ | refine ibo (fun _ => ?_) (fun _ => ?_)) <;> conv => whnf))
    exact rfl
end Go.Proofs.YthegabgbakckfaaGreatDoor
end

section
/- pat: Right, Has. slices.Index, Contains at edges. ref08: Right, Has, Made. ref12: Whole. law08: Of. -/
namespace Go.Gr
theorem eAt_none {n : Nat} {E : List Edg} {i : Nat} {e : Edg} (hx : E[i]? = some e) (h1 : 0 ≤ min e.a e.b ∧ max e.a e.b < n) (h2 : e.a < e.b) (h3 : i = 0 ∨ ∃ q, E[i - 1]? = some q ∧ cmpE q e < 0) : eAt n E i = none := by
  unfold eAt
  rw [hx]
  simp only [Option.map_eq_none_iff]
  unfold eBad
  rw [if_neg (fun h => h h1), if_neg (by omega)]
  rcases h3 with h3 | ⟨q, h3, h4⟩
  · rw [if_pos h3]
  · by_cases h0 : i = 0
    · rw [if_pos h0]
    · rw [if_neg h0, h3]
      simp only
      rw [if_pos h4]
theorem eAt_out {n : Nat} {E : List Edg} {i : Nat} {e : Edg} (hx : E[i]? = some e) (h1 : ¬ (0 ≤ min e.a e.b ∧ max e.a e.b < n)) : eAt n E i = some (3, i) := by
  unfold eAt
  rw [hx]
  simp only
  unfold eBad
  rw [if_pos h1]; rfl
theorem eAt_form {n : Nat} {E : List Edg} {i : Nat} {e : Edg} (hx : E[i]? = some e) (h1 : 0 ≤ min e.a e.b ∧ max e.a e.b < n) (h2 : e.b ≤ e.a) : eAt n E i = some (2, i) := by
  unfold eAt
  rw [hx]
  simp only
  unfold eBad
  rw [if_neg (fun h => h h1), if_pos h2]; rfl
theorem eAt_order {n : Nat} {E : List Edg} {i : Nat} {e q : Edg} (hx : E[i]? = some e) (h1 : 0 ≤ min e.a e.b ∧ max e.a e.b < n) (h2 : e.a < e.b) (h0 : i ≠ 0) (hq : E[i - 1]? = some q) (h3 : ¬ cmpE q e < 0) : eAt n E i = some (2, i) := by
  unfold eAt
  rw [hx]
  simp only
  unfold eBad
  rw [if_neg (fun h => h h1), if_neg (by omega), if_neg h0, hq]
  simp only
  rw [if_neg h3]; rfl
theorem eErr_at {n : Nat} {E : List Edg} {i : Nat} {y : Int × Nat} (h : ∀ k, k < i → eAt n E k = none) (hi : eAt n E i = some y) : eErr n E = some y := by
  have hl : i < E.length := by
    rcases Nat.lt_or_ge i E.length with h | h
    · exact h
    · unfold eAt at hi
      rw [List.getElem?_eq_none h] at hi
      cases hi
  exact findSome_at h hi hl
theorem eErr_no {n : Nat} {E : List Edg} (h : ∀ k, k < E.length → eAt n E k = none) : eErr n E = none := findSome_no h
theorem none_step {n : Nat} {E : List Edg} {i : Nat} (h : ∀ k, k < i → eAt n E k = none) (hi : eAt n E i = none) : ∀ k, k < i + 1 → eAt n E k = none := by
  intro k hk
  rcases Nat.lt_or_ge k i with hl | hl
  · exact h k hl
  · have : k = i := by omega
    subst this; exact hi
/-- a document's edge, either way round -/
def hasR (E : List Edg) (x y : Int) : Bool := E.any fun e => decide (e.a = x ∧ e.b = y ∨ e.a = y ∧ e.b = x)
/-- where an edge stands -/
def eIdx (E : List Edg) (e : Edg) : Int := match E.findIdx? (fun x => decide (x = e)) with
  | none => -1
  | some i => i
theorem eIdx_at {E : List Edg} {e : Edg} {i : Nat} (h : ∀ k x, k < i → E[k]? = some x → x ≠ e) (hx : E[i]? = some e) : eIdx E e = i := by
  have : E.findIdx? (fun x => decide (x = e)) = some i := by
    rw [List.findIdx?_eq_some_iff_getElem]
    obtain ⟨h1, h2⟩ := List.getElem?_eq_some_iff.1 hx
    refine ⟨h1, by simp [h2], fun j hj => ?_⟩
    have := h j _ hj (List.getElem?_eq_getElem (by omega))
    simpa using this
  unfold eIdx; rw [this]
theorem eIdx_no {E : List Edg} {e : Edg} (h : ∀ k x, k < E.length → E[k]? = some x → x ≠ e) : eIdx E e = -1 := by
  have : E.findIdx? (fun x => decide (x = e)) = none := by
    rw [List.findIdx?_eq_none_iff]
    intro x hx
    obtain ⟨i, hi, rfl⟩ := List.mem_iff_getElem.1 hx
    simpa using h i _ hi (List.getElem?_eq_getElem hi)
  unfold eIdx; rw [this]
theorem eIdx_mem {E : List Edg} {e : Edg} : (0 ≤ eIdx E e) ↔ e ∈ E := by
  unfold eIdx
  cases h : E.findIdx? (fun x => decide (x = e)) with
  | none =>
    rw [List.findIdx?_eq_none_iff] at h
    refine ⟨fun h => by simp at h, fun he => ?_⟩
    have := h e he
    simp at this
  | some i =>
    rw [List.findIdx?_eq_some_iff_getElem] at h
    obtain ⟨h1, h2, _⟩ := h
    refine ⟨fun _ => ?_, fun _ => by simp⟩
    have h2 : E[i] = e := by simpa using h2
    rw [← h2]; exact List.getElem_mem h1
end Go.Gr
namespace Go.Proofs.YthegabgbakckfaaGreatDoor
open Go.Sx Go.RowKit Go.Reg Go.Gr

set_option maxRecDepth 100000
def pl_ptr : List (Nat × Plan) := [(9, .leaf [0, 1, 0, 1, 0, 0, 0, 0, 0, 0, 1, 0, 0, 0, 1, 1, 2, 0, 0, 0, 0] [0, 2, 1, 3, 4, 5, 6, 7, 8, 9, 11, 12, 10, 13, 14, 15, 16, 17, 18, 19, 20] [0, 1, 0, 4, 15, 31, 63, 127, 255, 511, 1023, 511, 2559, 8191, 16383, 511, 65535, 131071, 262143, 524287, 1048575])]
def G_ptr : List FuncId := [76, 108]
theorem cok_ptr : codeOk Tryz.prog G_ptr pl_ptr (Tryz.f49.body.getD .skip) = true := by kernel_rfl
theorem run_ptr (vs : Array Value) (w : World) : (callFunc 49 vs).run C1.P w = .ok (.enter 49 vs) w := by kernel_rfl
set_option maxHeartbeats 4000000 in
theorem pright_pure (p : Pt) (hm : p.labels.length ≤ 9000000000000000000) (hme : p.edges.length ≤ 9000000000000000000) : Pure C1 49 [dPt p] (fun y => y = rightP p) := by
  have hdl : (p.labels.map dI).length = p.labels.length := List.length_map _
  have hde : (p.edges.map dE).length = p.edges.length := List.length_map _
  have hlb := plabels_pure p.labels hm
  refine pure_of c1_ok (pl := pl_ptr) (G := G_ptr) Tryz.func49 rfl Tryz.ntmps49 run_ptr cok_ptr (by simp) ?_
  cases hl : lErr p.labels with
  | some x =>
    obtain ⟨c, i⟩ := x
    have e1 : labelsY p.labels = dF c i (if c = 6 then patS else labS) := by unfold labelsY; rw [hl]
    have e2 : rightP p = dF c i (if c = 6 then patS else labS) := by unfold rightP; rw [hl]
    rw [e1] at hlb
    rw [e2]
    (conv => whnf)
    (repeat' ((first | refine ord_ok (by (conv => whnf); (repeat' ((first | refine call_eq rfl hlb ?_ | refine ify ?_ | refine ifn ?_ | refine i6 ?_ | refine ati ?_ | refine mst ?_ | refine rmd ?_ | refine ibo (fun _ => ?_) (fun _ => ?_)) <;> conv => whnf)); (all_goals (repeat' (first | exact trivial | exact rfl | refine And.intro ?_ ?_)))) ?_ | refine call_eq rfl hlb ?_ | refine ify ?_ | refine ifn ?_ | refine i6 ?_ | refine ati ?_ | refine mst ?_ | refine rmd ?_ | refine ibo (fun _ => ?_) (fun _ => ?_)) <;> conv => whnf))
    exact rfl
  | none =>
    have e1 : labelsY p.labels = .nili := by unfold labelsY; rw [hl]
    rw [e1] at hlb
    have e2 : rightP p = match eErr p.labels.length p.edges with | none => .nili | some (c, i) => dF c i edgS := by unfold rightP; rw [hl]; try rfl
    rw [e2]
    (conv => whnf)
    (repeat' ((first | refine ord_ok (by (conv => whnf); (repeat' ((first | refine call_eq rfl hlb ?_ | refine ify ?_ | refine ifn ?_ | refine i6 ?_ | refine ati ?_ | refine mst ?_ | refine rmd ?_ | refine ibo (fun _ => ?_) (fun _ => ?_)) <;> conv => whnf)); (all_goals (repeat' (first | exact trivial | exact rfl | refine And.intro ?_ ?_)))) ?_ | refine call_eq rfl hlb ?_ | refine ify ?_ | refine ifn ?_ | refine i6 ?_ | refine ati ?_ | refine mst ?_ | refine rmd ?_ | refine ibo (fun _ => ?_) (fun _ => ?_)) <;> conv => whnf))
    refine loop_lo (ι := Nat) (fun i => i ≤ p.edges.length ∧ ∀ k, k < i → eAt p.labels.length p.edges k = none) (fun i => [(15, .d (.int .i64 i)), (14, .d (.int .i64 p.edges.length)), (13, .d (dEs p.edges)), (1, .own 1)]) (fun _ => [(1, .cells 35 [.d (dIs p.labels), .d (dEs p.edges)])]) (fun i => p.edges.length - i) 0 (fun _ => rfl) ⟨Nat.zero_le _, (by intro k h; omega)⟩ (.refl _ _) ⟨rfl, by rw [← hde]; rfl, rfl, rfl, trivial⟩ ⟨rfl, trivial⟩ ?_
    rintro i ⟨hi, hok⟩
    refine sxCode_sound c1_ok (G := G_ptr) (pl := pl_ptr) _ _ _ _ (by kernel_rfl) ?_
    by_cases hil : i < p.edges.length
    · have hx := List.getElem?_eq_getElem hil
      generalize p.edges[i] = e at hx
      have hxd : (p.edges.map dE)[i]? = some (.agg [.int .i64 e.a, .int .i64 e.b]) := by rw [List.getElem?_map, hx]; rfl
      have hwi := within_pure e p.labels.length
      rw [← hdl] at hwi
      by_cases h1 : 0 ≤ min e.a e.b ∧ max e.a e.b < p.labels.length
      · rw [decide_eq_true (by rw [hdl]; exact h1)] at hwi
        by_cases h2 : e.a < e.b
        · by_cases h0 : i = 0
          · subst h0
            (conv => whnf)
            (repeat' ((first | refine ord_ok (by (conv => whnf); (repeat' ((first | refine at_da hxd rfl ?_ | refine call_eq rfl hwi ?_ | refine ify ?_ | refine ifn ?_ | refine i6 ?_ | refine ati ?_ | refine mst ?_ | refine rmd ?_ | refine ibo (fun _ => ?_) (fun _ => ?_)) <;> conv => whnf)); (all_goals (repeat' (first | exact trivial | exact rfl | refine And.intro ?_ ?_)))) ?_ | refine at_da hxd rfl ?_ | refine call_eq rfl hwi ?_ | refine ify ?_ | refine ifn ?_ | refine i6 ?_ | refine ati ?_ | refine mst ?_ | refine rmd ?_ | refine ibo (fun _ => ?_) (fun _ => ?_)) <;> conv => whnf))
            exact ⟨0 + 1, _, _, ⟨by omega, none_step hok (eAt_none hx h1 h2 (.inl rfl))⟩, .refl _ _, ⟨rfl, rfl, rfl, rfl, trivial⟩, ⟨rfl, trivial⟩, by omega⟩
          · have hy := List.getElem?_eq_getElem (l := p.edges) (i := i - 1) (by omega)
            generalize p.edges[i - 1]'(by omega) = q at hy
            have hyd : (p.edges.map dE)[i - 1]? = some (.agg [.int .i64 q.a, .int .i64 q.b]) := by rw [List.getElem?_map, hy]; rfl
            have hor := porder_pure q e
            by_cases h3 : cmpE q e < 0
            · (conv => whnf)
              (repeat' ((first | refine ord_ok (by (conv => whnf); (repeat' ((first | refine at_da hxd rfl ?_ | refine call_eq rfl hwi ?_ | refine at_da hyd (by omega) ?_ | refine call_eq rfl hor ?_ | refine ify ?_ | refine ifn ?_ | refine i6 ?_ | refine ati ?_ | refine mst ?_ | refine rmd ?_ | refine ibo (fun _ => ?_) (fun _ => ?_)) <;> conv => whnf)); (all_goals (repeat' (first | exact trivial | exact rfl | refine And.intro ?_ ?_)))) ?_ | refine at_da hxd rfl ?_ | refine call_eq rfl hwi ?_ | refine at_da hyd (by omega) ?_ | refine call_eq rfl hor ?_ | refine ify ?_ | refine ifn ?_ | refine i6 ?_ | refine ati ?_ | refine mst ?_ | refine rmd ?_ | refine ibo (fun _ => ?_) (fun _ => ?_)) <;> conv => whnf))
              exact ⟨i + 1, _, _, ⟨by omega, none_step hok (eAt_none hx h1 h2 (.inr ⟨q, hy, h3⟩))⟩, .refl _ _, ⟨rfl, rfl, rfl, rfl, trivial⟩, ⟨rfl, trivial⟩, by omega⟩
            · rw [eErr_at hok (eAt_order hx h1 h2 h0 hy h3)]
              (conv => whnf)
              (repeat' ((first | refine ord_ok (by (conv => whnf); (repeat' ((first | refine at_da hxd rfl ?_ | refine call_eq rfl hwi ?_ | refine at_da hyd (by omega) ?_ | refine call_eq rfl hor ?_ | refine call_eq rfl (fnew_pure 2 i edgS) ?_ | refine ify ?_ | refine ifn ?_ | refine i6 ?_ | refine ati ?_ | refine mst ?_ | refine rmd ?_ | refine ibo (fun _ => ?_) (fun _ => ?_)) <;> conv => whnf)); (all_goals (repeat' (first | exact trivial | exact rfl | refine And.intro ?_ ?_)))) ?_ | refine at_da hxd rfl ?_ | refine call_eq rfl hwi ?_ | refine at_da hyd (by omega) ?_ | refine call_eq rfl hor ?_ | refine call_eq rfl (fnew_pure 2 i edgS) ?_ | refine ify ?_ | refine ifn ?_ | refine i6 ?_ | refine ati ?_ | refine mst ?_ | refine rmd ?_ | refine ibo (fun _ => ?_) (fun _ => ?_)) <;> conv => whnf))
              exact rfl
        · rw [eErr_at hok (eAt_form hx h1 (by omega))]
          (conv => whnf)
          (repeat' ((first | refine ord_ok (by (conv => whnf); (repeat' ((first | refine at_da hxd rfl ?_ | refine call_eq rfl hwi ?_ | refine call_eq rfl (fnew_pure 2 i edgS) ?_ | refine ify ?_ | refine ifn ?_ | refine i6 ?_ | refine ati ?_ | refine mst ?_ | refine rmd ?_ | refine ibo (fun _ => ?_) (fun _ => ?_)) <;> conv => whnf)); (all_goals (repeat' (first | exact trivial | exact rfl | refine And.intro ?_ ?_)))) ?_ | refine at_da hxd rfl ?_ | refine call_eq rfl hwi ?_ | refine call_eq rfl (fnew_pure 2 i edgS) ?_ | refine ify ?_ | refine ifn ?_ | refine i6 ?_ | refine ati ?_ | refine mst ?_ | refine rmd ?_ | refine ibo (fun _ => ?_) (fun _ => ?_)) <;> conv => whnf))
          exact rfl
      · rw [decide_eq_false (by rw [hdl]; exact h1)] at hwi
        rw [eErr_at hok (eAt_out hx h1)]
        (conv => whnf)
        (repeat' ((first | refine ord_ok (by (conv => whnf); (repeat' ((first | refine at_da hxd rfl ?_ | refine call_eq rfl hwi ?_ | refine call_eq rfl (fnew_pure 3 i edgS) ?_ | refine ify ?_ | refine ifn ?_ | refine i6 ?_ | refine ati ?_ | refine mst ?_ | refine rmd ?_ | refine ibo (fun _ => ?_) (fun _ => ?_)) <;> conv => whnf)); (all_goals (repeat' (first | exact trivial | exact rfl | refine And.intro ?_ ?_)))) ?_ | refine at_da hxd rfl ?_ | refine call_eq rfl hwi ?_ | refine call_eq rfl (fnew_pure 3 i edgS) ?_ | refine ify ?_ | refine ifn ?_ | refine i6 ?_ | refine ati ?_ | refine mst ?_ | refine rmd ?_ | refine ibo (fun _ => ?_) (fun _ => ?_)) <;> conv => whnf))
        exact rfl
    · rw [eErr_no (fun k hk => hok k (by omega))]
      ((conv => whnf); repeat' ((first | refine odw ?_ | refine ify ?_ | refine ifn ?_ | refine i6 ?_ | refine ati ?_ | refine mst ?_ | refine rmd ?_ | refine ibo (fun _ => ?_) (fun _ => ?_)) <;> conv => whnf))
      exact rfl
def pl_r8r : List (Nat × Plan) := [(5, .leaf [0, 1, 0, 0, 1, 0, 1, 0, 2] [0, 2, 5, 1, 3, 4, 6, 7, 8] [0, 1, 0, 7, 15, 0, 32, 96, 255]),
  (7, .leaf [0, 1, 0, 0, 0, 1, 0, 1, 0, 0, 0, 1, 0, 0, 0, 0, 0, 0, 1, 0, 0, 0, 1, 0, 1, 0, 0, 1, 2, 0, 0, 0] [0, 2, 6, 8, 1, 3, 4, 5, 7, 9, 10, 11, 12, 13, 14, 15, 16, 17, 19, 20, 23, 25, 18, 21, 22, 24, 26, 27, 28, 29, 30, 31] [0, 1, 0, 7, 15, 31, 0, 64, 0, 448, 960, 1984, 4095, 8191, 16383, 32767, 65535, 131071, 262143, 131071, 655359, 2097151, 4194303, 131071, 8519679, 131071, 58851327, 125960191, 268435455, 536870911, 1073741823, 2147483647])]
def G_r8r : List FuncId := [62, 63]
theorem cok_r8r : codeOk Tryz.prog G_r8r pl_r8r (Tryz.f17.body.getD .skip) = true := by kernel_rfl
theorem run_r8r (vs : Array Value) (w : World) : (callFunc 17 vs).run C1.P w = .ok (.enter 17 vs) w := by kernel_rfl
set_option maxHeartbeats 4000000 in
theorem rright_pure (p : Pt) (hm : p.labels.length ≤ 9000000000000000000) (hme : p.edges.length ≤ 9000000000000000000) : Pure C1 17 [dPt p] (fun y => y = codeP (pErr p)) := by
  have hdl : (p.labels.map dI).length = p.labels.length := List.length_map _
  have hde : (p.edges.map dE).length = p.edges.length := List.length_map _
  have hlb := rlabels_pure p.labels hm
  refine pure_of c1_ok (pl := pl_r8r) (G := G_r8r) Tryz.func17 rfl Tryz.ntmps17 run_r8r cok_r8r (by simp) ?_
  cases hl : lErr p.labels with
  | some x =>
    obtain ⟨c, i⟩ := x
    have hc0 : c ≠ 0 := by
      intro e
      subst e
      unfold lErr at hl
      split at hl
      · simp at hl
      · obtain ⟨l1, k, l2, _, h2, _⟩ := List.findSome?_eq_some_iff.1 hl
        split at h2 <;> simp at h2
    have e2 : pErr p = some (c, i) := by unfold pErr; rw [hl]
    rw [hl] at hlb
    rw [e2]
    (conv => whnf)
    (repeat' ((first | refine ord_ok (by (conv => whnf); (repeat' ((first | refine call_eq rfl hlb ?_ | refine ify ?_ | refine ifn ?_ | refine i6 ?_ | refine ati ?_ | refine mst ?_ | refine rmd ?_ | refine ibo (fun _ => ?_) (fun _ => ?_)) <;> conv => whnf)); (all_goals (repeat' (first | exact trivial | exact rfl | refine And.intro ?_ ?_)))) ?_ | refine call_eq rfl hlb ?_ | refine ify ?_ | refine ifn ?_ | refine i6 ?_ | refine ati ?_ | refine mst ?_ | refine rmd ?_ | refine ibo (fun _ => ?_) (fun _ => ?_)) <;> conv => whnf))
    refine loop_lo (ι := Unit) (fun _ => True) (fun _ => [(6, .d (.int .i64 0)), (5, .d (.int .i64 i)), (4, .d (.int .i64 c)), (1, .own 1)]) (fun _ => [(1, .cells 25 [.d (dIs p.labels), .d (dEs p.edges)])]) (fun _ => 0) () (fun _ => rfl) trivial (.refl _ _) ⟨rfl, rfl, rfl, rfl, trivial⟩ ⟨rfl, trivial⟩ ?_
    intro _ _
    refine sxCode_sound c1_ok (G := G_r8r) (pl := pl_r8r) _ _ _ _ (by kernel_rfl) ?_
    ((conv => whnf); repeat' ((first | refine odw ?_ | refine ify ?_ | refine ifn ?_ | refine i6 ?_ | refine ati ?_ | refine mst ?_ | refine rmd ?_ | refine ibo (fun _ => ?_) (fun _ => ?_)) <;> conv => whnf))
    exact rfl
  | none =>
    rw [hl] at hlb
    have e2 : pErr p = eErr p.labels.length p.edges := by unfold pErr; rw [hl]
    rw [e2]
    (conv => whnf)
    (repeat' ((first | refine ord_ok (by (conv => whnf); (repeat' ((first | refine call_eq rfl hlb ?_ | refine ify ?_ | refine ifn ?_ | refine i6 ?_ | refine ati ?_ | refine mst ?_ | refine rmd ?_ | refine ibo (fun _ => ?_) (fun _ => ?_)) <;> conv => whnf)); (all_goals (repeat' (first | exact trivial | exact rfl | refine And.intro ?_ ?_)))) ?_ | refine call_eq rfl hlb ?_ | refine ify ?_ | refine ifn ?_ | refine i6 ?_ | refine ati ?_ | refine mst ?_ | refine rmd ?_ | refine ibo (fun _ => ?_) (fun _ => ?_)) <;> conv => whnf))
    refine loop_lo (ι := Nat) (fun i => i ≤ p.edges.length ∧ ∀ k, k < i → eAt p.labels.length p.edges k = none) (fun i => [(6, .d (.int .i64 i)), (5, .d (.int .i64 0)), (4, .d (.int .i64 0)), (1, .own 1)]) (fun _ => [(1, .cells 25 [.d (dIs p.labels), .d (dEs p.edges)])]) (fun i => p.edges.length - i) 0 (fun _ => rfl) ⟨Nat.zero_le _, (by intro k h; omega)⟩ (.refl _ _) ⟨rfl, rfl, rfl, rfl, trivial⟩ ⟨rfl, trivial⟩ ?_
    rintro i ⟨hi, hok⟩
    refine sxCode_sound c1_ok (G := G_r8r) (pl := pl_r8r) _ _ _ _ (by kernel_rfl) ?_
    by_cases hil : i < p.edges.length
    · have hx := List.getElem?_eq_getElem hil
      generalize p.edges[i] = e at hx
      have hxd : (p.edges.map dE)[i]? = some (.agg [.int .i64 e.a, .int .i64 e.b]) := by rw [List.getElem?_map, hx]; rfl
      have hwi := rout_pure e p.labels.length
      rw [← hdl] at hwi
      by_cases h1 : 0 ≤ min e.a e.b ∧ max e.a e.b < p.labels.length
      · rw [decide_eq_false (by rw [hdl]; exact fun h => h h1)] at hwi
        by_cases h2 : e.a < e.b
        · by_cases h0 : i = 0
          · subst h0
            (conv => whnf)
            (repeat' ((first | refine ord_ok (by (conv => whnf); (repeat' ((first | refine at_da hxd rfl ?_ | refine call_eq rfl hwi ?_ | refine ify ?_ | refine ifn ?_ | refine i6 ?_ | refine ati ?_ | refine mst ?_ | refine rmd ?_ | refine ibo (fun _ => ?_) (fun _ => ?_)) <;> conv => whnf)); (all_goals (repeat' (first | exact trivial | exact rfl | refine And.intro ?_ ?_)))) ?_ | refine at_da hxd rfl ?_ | refine call_eq rfl hwi ?_ | refine ify ?_ | refine ifn ?_ | refine i6 ?_ | refine ati ?_ | refine mst ?_ | refine rmd ?_ | refine ibo (fun _ => ?_) (fun _ => ?_)) <;> conv => whnf))
            exact ⟨0 + 1, _, _, ⟨by omega, none_step hok (eAt_none hx h1 h2 (.inl rfl))⟩, .refl _ _, ⟨rfl, rfl, rfl, rfl, trivial⟩, ⟨rfl, trivial⟩, by omega⟩
          · have hy := List.getElem?_eq_getElem (l := p.edges) (i := i - 1) (by omega)
            generalize p.edges[i - 1]'(by omega) = q at hy
            have hyd : (p.edges.map dE)[i - 1]? = some (.agg [.int .i64 q.a, .int .i64 q.b]) := by rw [List.getElem?_map, hy]; rfl
            have hor := rless8_pure q e
            by_cases h3 : cmpE q e < 0
            · rw [decide_eq_true h3] at hor
              (conv => whnf)
              (repeat' ((first | refine ord_ok (by (conv => whnf); (repeat' ((first | refine at_da hxd rfl ?_ | refine call_eq rfl hwi ?_ | refine at_da hyd (by omega) ?_ | refine call_eq rfl hor ?_ | refine ify ?_ | refine ifn ?_ | refine i6 ?_ | refine ati ?_ | refine mst ?_ | refine rmd ?_ | refine ibo (fun _ => ?_) (fun _ => ?_)) <;> conv => whnf)); (all_goals (repeat' (first | exact trivial | exact rfl | refine And.intro ?_ ?_)))) ?_ | refine at_da hxd rfl ?_ | refine call_eq rfl hwi ?_ | refine at_da hyd (by omega) ?_ | refine call_eq rfl hor ?_ | refine ify ?_ | refine ifn ?_ | refine i6 ?_ | refine ati ?_ | refine mst ?_ | refine rmd ?_ | refine ibo (fun _ => ?_) (fun _ => ?_)) <;> conv => whnf))
              exact ⟨i + 1, _, _, ⟨by omega, none_step hok (eAt_none hx h1 h2 (.inr ⟨q, hy, h3⟩))⟩, .refl _ _, ⟨rfl, rfl, rfl, rfl, trivial⟩, ⟨rfl, trivial⟩, by omega⟩
            · rw [decide_eq_false h3] at hor
              rw [eErr_at hok (eAt_order hx h1 h2 h0 hy h3)]
              (conv => whnf)
              (repeat' ((first | refine ord_ok (by (conv => whnf); (repeat' ((first | refine at_da hxd rfl ?_ | refine call_eq rfl hwi ?_ | refine at_da hyd (by omega) ?_ | refine call_eq rfl hor ?_ | refine ify ?_ | refine ifn ?_ | refine i6 ?_ | refine ati ?_ | refine mst ?_ | refine rmd ?_ | refine ibo (fun _ => ?_) (fun _ => ?_)) <;> conv => whnf)); (all_goals (repeat' (first | exact trivial | exact rfl | refine And.intro ?_ ?_)))) ?_ | refine at_da hxd rfl ?_ | refine call_eq rfl hwi ?_ | refine at_da hyd (by omega) ?_ | refine call_eq rfl hor ?_ | refine ify ?_ | refine ifn ?_ | refine i6 ?_ | refine ati ?_ | refine mst ?_ | refine rmd ?_ | refine ibo (fun _ => ?_) (fun _ => ?_)) <;> conv => whnf))
              exact rfl
        · rw [eErr_at hok (eAt_form hx h1 (by omega))]
          (conv => whnf)
          (repeat' ((first | refine ord_ok (by (conv => whnf); (repeat' ((first | refine at_da hxd rfl ?_ | refine call_eq rfl hwi ?_ | refine ify ?_ | refine ifn ?_ | refine i6 ?_ | refine ati ?_ | refine mst ?_ | refine rmd ?_ | refine ibo (fun _ => ?_) (fun _ => ?_)) <;> conv => whnf)); (all_goals (repeat' (first | exact trivial | exact rfl | refine And.intro ?_ ?_)))) ?_ | refine at_da hxd rfl ?_ | refine call_eq rfl hwi ?_ | refine ify ?_ | refine ifn ?_ | refine i6 ?_ | refine ati ?_ | refine mst ?_ | refine rmd ?_ | refine ibo (fun _ => ?_) (fun _ => ?_)) <;> conv => whnf))
          exact rfl
      · rw [decide_eq_true (by rw [hdl]; exact h1)] at hwi
        rw [eErr_at hok (eAt_out hx h1)]
        (conv => whnf)
        (repeat' ((first | refine ord_ok (by (conv => whnf); (repeat' ((first | refine at_da hxd rfl ?_ | refine call_eq rfl hwi ?_ | refine ify ?_ | refine ifn ?_ | refine i6 ?_ | refine ati ?_ | refine mst ?_ | refine rmd ?_ | refine ibo (fun _ => ?_) (fun _ => ?_)) <;> conv => whnf)); (all_goals (repeat' (first | exact trivial | exact rfl | refine And.intro ?_ ?_)))) ?_ | refine at_da hxd rfl ?_ | refine call_eq rfl hwi ?_ | refine ify ?_ | refine ifn ?_ | refine i6 ?_ | refine ati ?_ | refine mst ?_ | refine rmd ?_ | refine ibo (fun _ => ?_) (fun _ => ?_)) <;> conv => whnf))
        exact rfl
    · rw [eErr_no (fun k hk => hok k (by omega))]
      ((conv => whnf); repeat' ((first | refine odw ?_ | refine ify ?_ | refine ifn ?_ | refine i6 ?_ | refine ati ?_ | refine mst ?_ | refine rmd ?_ | refine ibo (fun _ => ?_) (fun _ => ?_)) <;> conv => whnf))
      exact rfl
def pl_sie : List (Nat × Plan) := [(4, .leaf [1, 0, 0, 0, 1, 3] [1, 2, 3, 0, 4, 5] [0, 0, 0, 6, 14, 31])]
def G_sie : List FuncId := []
theorem cok_sie : codeOk Tryz.prog G_sie pl_sie (Tryz.f102.body.getD .skip) = true := by kernel_rfl
theorem run_sie (vs : Array Value) (w : World) : (callFunc 102 vs).run C1.P w = .ok (.enter 102 vs) w := by kernel_rfl
theorem eindex_pure (E : List Edg) (e : Edg) (hm : E.length ≤ 9000000000000000000) : Pure C1 102 [dEs E, dE e] (fun y => y = .int .i64 (eIdx E e)) := by
  have hde : (E.map dE).length = E.length := List.length_map _
  refine pure_of c1_ok (pl := pl_sie) (G := G_sie) Tryz.func102 rfl Tryz.ntmps102 run_sie cok_sie (by simp) ?_
  ((conv => whnf); repeat' ((first | refine odw ?_ | refine ify ?_ | refine ifn ?_ | refine i6 ?_ | refine ati ?_ | refine mst ?_ | refine rmd ?_ | refine ibo (fun _ => ?_) (fun _ => ?_)) <;> conv => whnf))
  refine loop_lo (ι := Nat) (fun i => i ≤ E.length ∧ ∀ k x, k < i → E[k]? = some x → x ≠ e) (fun i => [(8, .d (.int .i64 i)), (7, .d (.int .i64 E.length)), (3, .own 3), (0, .d (dEs E))]) (fun _ => [(3, .cells 77 [.d (.int .i64 e.a), .d (.int .i64 e.b)])]) (fun i => E.length - i) 0 (fun _ => rfl) ⟨Nat.zero_le _, (by intro k x h; omega)⟩ (.refl _ _) ⟨rfl, by rw [← hde]; rfl, rfl, rfl, trivial⟩ ⟨rfl, trivial⟩ ?_
  rintro i ⟨hi, hok⟩
  refine sxCode_sound c1_ok (G := G_sie) (pl := pl_sie) _ _ _ _ (by kernel_rfl) ?_
  by_cases hil : i < E.length
  · have hx := List.getElem?_eq_getElem hil
    generalize E[i] = x at hx
    have hxd : (E.map dE)[i]? = some (.agg [.int .i64 x.a, .int .i64 x.b]) := by rw [List.getElem?_map, hx]; rfl
    by_cases hxe : x = e
    · subst hxe
      rw [eIdx_at hok hx]
      (conv => whnf)
      (repeat' ((first | refine ord_ok (by (conv => whnf); (repeat' ((first | refine at_da hxd rfl ?_ | refine ify ?_ | refine ifn ?_ | refine i6 ?_ | refine ati ?_ | refine mst ?_ | refine rmd ?_ | refine ibo (fun _ => ?_) (fun _ => ?_)) <;> conv => whnf)); (all_goals (repeat' (first | exact trivial | exact rfl | refine And.intro ?_ ?_)))) ?_ | refine at_da hxd rfl ?_ | refine ify ?_ | refine ifn ?_ | refine i6 ?_ | refine ati ?_ | refine mst ?_ | refine rmd ?_ | refine ibo (fun _ => ?_) (fun _ => ?_)) <;> conv => whnf))
      exact rfl
    · have hne : ¬ (e.a = x.a ∧ e.b = x.b) := fun h => hxe (by cases x; cases e; simp only at h; rw [h.1, h.2])
      (conv => whnf)
      (repeat' ((first | refine ord_ok (by (conv => whnf); (repeat' ((first | refine at_da hxd rfl ?_ | refine ify ?_ | refine ifn ?_ | refine i6 ?_ | refine ati ?_ | refine mst ?_ | refine rmd ?_ | refine ibo (fun _ => ?_) (fun _ => ?_)) <;> conv => whnf)); (all_goals (repeat' (first | exact trivial | exact rfl | refine And.intro ?_ ?_)))) ?_ | refine at_da hxd rfl ?_ | refine ify ?_ | refine ifn ?_ | refine i6 ?_ | refine ati ?_ | refine mst ?_ | refine rmd ?_ | refine ibo (fun _ => ?_) (fun _ => ?_)) <;> conv => whnf))
      refine ⟨i + 1, _, _, ⟨by omega, fun k y hk hy => ?_⟩, .refl _ _, ⟨rfl, rfl, rfl, rfl, trivial⟩, ⟨rfl, trivial⟩, by omega⟩
      rcases Nat.lt_or_ge k i with hl | hl
      · exact hok k y hl hy
      · have : k = i := by omega
        subst this
        rw [hx] at hy; cases hy; exact hxe
  · rw [eIdx_no (fun k x hk hx => hok k x (by omega) hx)]
    ((conv => whnf); repeat' ((first | refine odw ?_ | refine ify ?_ | refine ifn ?_ | refine i6 ?_ | refine ati ?_ | refine mst ?_ | refine rmd ?_ | refine ibo (fun _ => ?_) (fun _ => ?_)) <;> conv => whnf))
    exact rfl
def pl_sce : List (Nat × Plan) := []
def G_sce : List FuncId := []
theorem cok_sce : codeOk Tryz.prog G_sce pl_sce (Tryz.f105.body.getD .skip) = true := by kernel_rfl
theorem run_sce (vs : Array Value) (w : World) : (callFunc 105 vs).run C1.P w = .ok (.enter 105 vs) w := by kernel_rfl
theorem econtains_pure (E : List Edg) (e : Edg) (hm : E.length ≤ 9000000000000000000) : Pure C1 105 [dEs E, dE e] (fun y => y = .bool (decide (e ∈ E))) := by
  have h := eindex_pure E e hm
  refine pure_of c1_ok (pl := pl_sce) (G := G_sce) Tryz.func105 rfl Tryz.ntmps105 run_sce cok_sce (by simp) ?_
  (conv => whnf)
  (repeat' ((first | refine ord_ok (by (conv => whnf); (repeat' ((first | refine call_eq rfl h ?_ | refine ify ?_ | refine ifn ?_ | refine i6 ?_ | refine ati ?_ | refine mst ?_ | refine rmd ?_ | refine ibo (fun _ => ?_) (fun _ => ?_)) <;> conv => whnf)); (all_goals (repeat' (first | exact trivial | exact rfl | refine And.intro ?_ ?_)))) ?_ | refine call_eq rfl h ?_ | refine ify ?_ | refine ifn ?_ | refine i6 ?_ | refine ati ?_ | refine mst ?_ | refine rmd ?_ | refine ibo (fun _ => ?_) (fun _ => ?_)) <;> conv => whnf))
  exact congrArg Da.bool (decide_eq_decide.2 eIdx_mem)
def pl_pth : List (Nat × Plan) := [(1, .leaf [0, 1, 0, 0, 0, 2, 2, 0] [0, 2, 3, 4, 1, 5, 6, 7] [0, 1, 0, 0, 12, 28, 63, 127])]
def G_pth : List FuncId := [74, 105]
theorem cok_pth : codeOk Tryz.prog G_pth pl_pth (Tryz.f45.body.getD .skip) = true := by kernel_rfl
theorem run_pth (vs : Array Value) (w : World) : (callFunc 45 vs).run C1.P w = .ok (.enter 45 vs) w := by kernel_rfl
theorem phas_pure (p : Pt) (a b : Int) (hme : p.edges.length ≤ 9000000000000000000) : Pure C1 45 [dPt p, .int .i64 a, .int .i64 b] (fun y => y = .bool (decide (turn ⟨a, b⟩ ∈ p.edges))) := by
  have h1 := pturned_pure ⟨a, b⟩
  have h2 := econtains_pure p.edges (turn ⟨a, b⟩) hme
  refine pure_of c1_ok (pl := pl_pth) (G := G_pth) Tryz.func45 rfl Tryz.ntmps45 run_pth cok_pth (by simp) ?_
  (conv => whnf)
  (repeat' ((first | refine ord_ok (by (conv => whnf); (repeat' ((first | refine call_eq rfl h1 ?_ | refine call_eq rfl h2 ?_ | refine ify ?_ | refine ifn ?_ | refine i6 ?_ | refine ati ?_ | refine mst ?_ | refine rmd ?_ | refine ibo (fun _ => ?_) (fun _ => ?_)) <;> conv => whnf)); (all_goals (repeat' (first | exact trivial | exact rfl | refine And.intro ?_ ?_)))) ?_ | refine call_eq rfl h1 ?_ | refine call_eq rfl h2 ?_ | refine ify ?_ | refine ifn ?_ | refine i6 ?_ | refine ati ?_ | refine mst ?_ | refine rmd ?_ | refine ibo (fun _ => ?_) (fun _ => ?_)) <;> conv => whnf))
  exact rfl
def pl_r8h : List (Nat × Plan) := []
def G_r8h : List FuncId := []
theorem cok_r8h : codeOk Tryz.prog G_r8h pl_r8h (Tryz.f65.body.getD .skip) = true := by kernel_rfl
theorem run_r8h (vs : Array Value) (w : World) : (callFunc 65 vs).run C1.P w = .ok (.enter 65 vs) w := by kernel_rfl
set_option maxHeartbeats 4000000 in
theorem rhas_pure (p : Pt) (a b : Int) (hme : p.edges.length ≤ 9000000000000000000) : Pure C1 65 [dPt p, .int .i64 a, .int .i64 b] (fun y => y = .bool (hasR p.edges a b)) := by
  have hde : (p.edges.map dE).length = p.edges.length := List.length_map _
  refine pure_of c1_ok (pl := pl_r8h) (G := G_r8h) Tryz.func65 rfl Tryz.ntmps65 run_r8h cok_r8h (by simp) ?_
  ((conv => whnf); repeat' ((first | refine odw ?_ | refine ify ?_ | refine ifn ?_ | refine i6 ?_ | refine ati ?_ | refine mst ?_ | refine rmd ?_ | refine ibo (fun _ => ?_) (fun _ => ?_)) <;> conv => whnf))
  refine loop_lo (ι := Nat) (fun i => i ≤ p.edges.length ∧ ∀ k x, k < i → p.edges[k]? = some x → ¬ (x.a = a ∧ x.b = b ∨ x.a = b ∧ x.b = a)) (fun i => [(7, .d (.int .i64 i)), (3, .own 3), (2, .d (.int .i64 b)), (1, .d (.int .i64 a))]) (fun _ => [(3, .cells 25 [.d (dIs p.labels), .d (dEs p.edges)])]) (fun i => p.edges.length - i) 0 (fun _ => rfl) ⟨Nat.zero_le _, (by intro k x h; omega)⟩ (.refl _ _) ⟨rfl, rfl, rfl, rfl, trivial⟩ ⟨rfl, trivial⟩ ?_
  rintro i ⟨hi, hok⟩
  refine sxCode_sound c1_ok (G := G_r8h) (pl := pl_r8h) _ _ _ _ (by kernel_rfl) ?_
  by_cases hil : i < p.edges.length
  · have hx := List.getElem?_eq_getElem hil
    generalize p.edges[i] = x at hx
    have hxd : (p.edges.map dE)[i]? = some (.agg [.int .i64 x.a, .int .i64 x.b]) := by rw [List.getElem?_map, hx]; rfl
    by_cases hc : x.a = a ∧ x.b = b ∨ x.a = b ∧ x.b = a
    · have ht : hasR p.edges a b = true := by
        unfold hasR
        rw [List.any_eq_true]
        exact ⟨x, List.mem_of_getElem? hx, decide_eq_true hc⟩
      rw [ht]
      by_cases h1 : x.a = a ∧ x.b = b
      · obtain ⟨h1, h2⟩ := h1
        (conv => whnf)
        (repeat' ((first | refine ord_ok (by (conv => whnf); (repeat' ((first | refine at_da hxd rfl ?_ | refine ify ?_ | refine ifn ?_ | refine i6 ?_ | refine ati ?_ | refine mst ?_ | refine rmd ?_ | refine ibo (fun _ => ?_) (fun _ => ?_)) <;> conv => whnf)); (all_goals (repeat' (first | exact trivial | exact rfl | refine And.intro ?_ ?_)))) ?_ | refine at_da hxd rfl ?_ | refine ify ?_ | refine ifn ?_ | refine i6 ?_ | refine ati ?_ | refine mst ?_ | refine rmd ?_ | refine ibo (fun _ => ?_) (fun _ => ?_)) <;> conv => whnf))
        exact rfl
      · obtain ⟨h3, h4⟩ := hc.resolve_left h1
        by_cases h5 : x.a = a
        · have h6 : ¬ x.b = b := fun h => h1 ⟨h5, h⟩
          (conv => whnf)
          (repeat' ((first | refine ord_ok (by (conv => whnf); (repeat' ((first | refine at_da hxd rfl ?_ | refine ify ?_ | refine ifn ?_ | refine i6 ?_ | refine ati ?_ | refine mst ?_ | refine rmd ?_ | refine ibo (fun _ => ?_) (fun _ => ?_)) <;> conv => whnf)); (all_goals (repeat' (first | exact trivial | exact rfl | refine And.intro ?_ ?_)))) ?_ | refine at_da hxd rfl ?_ | refine ify ?_ | refine ifn ?_ | refine i6 ?_ | refine ati ?_ | refine mst ?_ | refine rmd ?_ | refine ibo (fun _ => ?_) (fun _ => ?_)) <;> conv => whnf))
          exact rfl
        · (conv => whnf)
          (repeat' ((first | refine ord_ok (by (conv => whnf); (repeat' ((first | refine at_da hxd rfl ?_ | refine ify ?_ | refine ifn ?_ | refine i6 ?_ | refine ati ?_ | refine mst ?_ | refine rmd ?_ | refine ibo (fun _ => ?_) (fun _ => ?_)) <;> conv => whnf)); (all_goals (repeat' (first | exact trivial | exact rfl | refine And.intro ?_ ?_)))) ?_ | refine at_da hxd rfl ?_ | refine ify ?_ | refine ifn ?_ | refine i6 ?_ | refine ati ?_ | refine mst ?_ | refine rmd ?_ | refine ibo (fun _ => ?_) (fun _ => ?_)) <;> conv => whnf))
          exact rfl
    · have hs : ∀ k y, k < i + 1 → p.edges[k]? = some y → ¬ (y.a = a ∧ y.b = b ∨ y.a = b ∧ y.b = a) := by
        intro k y hk hy
        rcases Nat.lt_or_ge k i with hl | hl
        · exact hok k y hl hy
        · have : k = i := by omega
          subst this
          rw [hx] at hy; cases hy; exact hc
      by_cases h1 : x.a = a
      · have h2 : ¬ x.b = b := fun h => hc (.inl ⟨h1, h⟩)
        by_cases h3 : x.a = b
        · have h4 : ¬ x.b = a := fun h => hc (.inr ⟨h3, h⟩)
          (conv => whnf)
          (repeat' ((first | refine ord_ok (by (conv => whnf); (repeat' ((first | refine at_da hxd rfl ?_ | refine ify ?_ | refine ifn ?_ | refine i6 ?_ | refine ati ?_ | refine mst ?_ | refine rmd ?_ | refine ibo (fun _ => ?_) (fun _ => ?_)) <;> conv => whnf)); (all_goals (repeat' (first | exact trivial | exact rfl | refine And.intro ?_ ?_)))) ?_ | refine at_da hxd rfl ?_ | refine ify ?_ | refine ifn ?_ | refine i6 ?_ | refine ati ?_ | refine mst ?_ | refine rmd ?_ | refine ibo (fun _ => ?_) (fun _ => ?_)) <;> conv => whnf))
          exact ⟨i + 1, _, _, ⟨by omega, hs⟩, .refl _ _, ⟨rfl, rfl, rfl, rfl, trivial⟩, ⟨rfl, trivial⟩, by omega⟩
        · (conv => whnf)
          (repeat' ((first | refine ord_ok (by (conv => whnf); (repeat' ((first | refine at_da hxd rfl ?_ | refine ify ?_ | refine ifn ?_ | refine i6 ?_ | refine ati ?_ | refine mst ?_ | refine rmd ?_ | refine ibo (fun _ => ?_) (fun _ => ?_)) <;> conv => whnf)); (all_goals (repeat' (first | exact trivial | exact rfl | refine And.intro ?_ ?_)))) ?_ | refine at_da hxd rfl ?_ | refine ify ?_ | refine ifn ?_ | refine i6 ?_ | refine ati ?_ | refine mst ?_ | refine rmd ?_ | refine ibo (fun _ => ?_) (fun _ => ?_)) <;> conv => whnf))
          exact ⟨i + 1, _, _, ⟨by omega, hs⟩, .refl _ _, ⟨rfl, rfl, rfl, rfl, trivial⟩, ⟨rfl, trivial⟩, by omega⟩
      · by_cases h3 : x.a = b
        · have h4 : ¬ x.b = a := fun h => hc (.inr ⟨h3, h⟩)
          (conv => whnf)
          (repeat' ((first | refine ord_ok (by (conv => whnf); (repeat' ((first | refine at_da hxd rfl ?_ | refine ify ?_ | refine ifn ?_ | refine i6 ?_ | refine ati ?_ | refine mst ?_ | refine rmd ?_ | refine ibo (fun _ => ?_) (fun _ => ?_)) <;> conv => whnf)); (all_goals (repeat' (first | exact trivial | exact rfl | refine And.intro ?_ ?_)))) ?_ | refine at_da hxd rfl ?_ | refine ify ?_ | refine ifn ?_ | refine i6 ?_ | refine ati ?_ | refine mst ?_ | refine rmd ?_ | refine ibo (fun _ => ?_) (fun _ => ?_)) <;> conv => whnf))
          exact ⟨i + 1, _, _, ⟨by omega, hs⟩, .refl _ _, ⟨rfl, rfl, rfl, rfl, trivial⟩, ⟨rfl, trivial⟩, by omega⟩
        · (conv => whnf)
          (repeat' ((first | refine ord_ok (by (conv => whnf); (repeat' ((first | refine at_da hxd rfl ?_ | refine ify ?_ | refine ifn ?_ | refine i6 ?_ | refine ati ?_ | refine mst ?_ | refine rmd ?_ | refine ibo (fun _ => ?_) (fun _ => ?_)) <;> conv => whnf)); (all_goals (repeat' (first | exact trivial | exact rfl | refine And.intro ?_ ?_)))) ?_ | refine at_da hxd rfl ?_ | refine ify ?_ | refine ifn ?_ | refine i6 ?_ | refine ati ?_ | refine mst ?_ | refine rmd ?_ | refine ibo (fun _ => ?_) (fun _ => ?_)) <;> conv => whnf))
          exact ⟨i + 1, _, _, ⟨by omega, hs⟩, .refl _ _, ⟨rfl, rfl, rfl, rfl, trivial⟩, ⟨rfl, trivial⟩, by omega⟩
  · have ht : hasR p.edges a b = false := by
      unfold hasR
      rw [List.any_eq_false]
      intro x hx
      obtain ⟨k, hk, rfl⟩ := List.mem_iff_getElem.1 hx
      simpa using hok k _ (by omega) (List.getElem?_eq_getElem hk)
    rw [ht]
    ((conv => whnf); repeat' ((first | refine odw ?_ | refine ify ?_ | refine ifn ?_ | refine i6 ?_ | refine ati ?_ | refine mst ?_ | refine rmd ?_ | refine ibo (fun _ => ?_) (fun _ => ?_)) <;> conv => whnf))
    exact rfl
end Go.Proofs.YthegabgbakckfaaGreatDoor
end

section
/- ref08: Made. ref12: Whole. law08: Of. -/
namespace Go.Gr
/-- pairs of places, the lesser first, of which f is told -/
def rowF (f : Nat → Nat → Bool) (a b : Nat) : List Edg := ((List.range b).filter fun x => decide (a < x) && f a x).map fun x : Nat => ⟨(a : Int), (x : Int)⟩
def rowsF (f : Nat → Nat → Bool) (n a : Nat) : List Edg := (List.range a).flatMap fun j => rowF f j n
theorem rowF_start (f : Nat → Nat → Bool) (a : Nat) : rowF f a (a + 1) = [] := by
  unfold rowF
  have : (List.range (a + 1)).filter (fun x => decide (a < x) && f a x) = [] := by
    rw [List.filter_eq_nil_iff]
    intro b hb
    have := List.mem_range.1 hb
    simp; omega
  rw [this]; rfl
theorem rowF_step {f : Nat → Nat → Bool} {a b : Nat} (h : a < b) : rowF f a (b + 1) = rowF f a b ++ if f a b then [⟨(a : Int), (b : Int)⟩] else [] := by
  unfold rowF
  rw [List.range_succ, List.filter_append, List.map_append]
  congr 1
  by_cases hf : f a b <;> simp [h, hf]
theorem rowsF_step (f : Nat → Nat → Bool) (n a : Nat) : rowsF f n (a + 1) = rowsF f n a ++ rowF f a n := by simp [rowsF, List.range_succ]
theorem rowF_len (f : Nat → Nat → Bool) (a b : Nat) : (rowF f a b).length ≤ b := by
  unfold rowF
  rw [List.length_map]
  exact Nat.le_trans (List.length_filter_le _ _) (by simp)
theorem rowsF_len (f : Nat → Nat → Bool) (n : Nat) : ∀ a, (rowsF f n a).length ≤ a * n
  | 0 => by simp [rowsF]
  | a + 1 => by
    have h1 := rowsF_len f n a
    have h2 := rowF_len f a n
    rw [rowsF_step, List.length_append, Nat.add_mul, Nat.one_mul]; omega
theorem mem_rowsF {f : Nat → Nat → Bool} {n a : Nat} {e : Edg} : e ∈ rowsF f n a ↔ ∃ j x : Nat, j < a ∧ x < n ∧ j < x ∧ f j x = true ∧ e = ⟨(j : Int), (x : Int)⟩ := by
  simp only [rowsF, rowF, List.mem_flatMap, List.mem_range, List.mem_map, List.mem_filter, Bool.and_eq_true, decide_eq_true_eq]
  constructor
  · rintro ⟨j, hj, x, ⟨h1, h2, h3⟩, rfl⟩; exact ⟨j, x, hj, h1, h2, h3, rfl⟩
  · rintro ⟨j, x, hj, h1, h2, h3, rfl⟩; exact ⟨j, hj, x, ⟨h1, h2, h3⟩, rfl⟩
def pairF (E : List Edg) (L : List Int) (a b : Nat) : Bool := hasR E ((L[a]?).getD 0) ((L[b]?).getD 0)
/-- what a list's pattern has for edges -/
def madeE (E : List Edg) (L : List Int) : List Edg := rowsF (pairF E L) L.length L.length
end Go.Gr
namespace Go.Proofs.YthegabgbakckfaaGreatDoor
open Go.Sx Go.RowKit Go.Reg Go.Gr

set_option maxRecDepth 100000
def pl_r8m : List (Nat × Plan) := [(8, .leaf [1, 0, 0, 0, 1, 0, 0, 0, 1, 2] [1, 2, 3, 5, 6, 7, 0, 4, 8, 9] [0, 0, 0, 6, 14, 0, 0, 96, 224, 511])]
def G_r8m : List FuncId := [65]
theorem cok_r8m : codeOk Tryz.prog G_r8m pl_r8m (Tryz.f89.body.getD .skip) = true := by kernel_rfl
theorem run_r8m (vs : Array Value) (w : World) : (callFunc 89 vs).run C1.P w = .ok (.enter 89 vs) w := by kernel_rfl
set_option maxHeartbeats 4000000 in
theorem rmade_pure (l : List Int) (p : Pt) (L : List Int) (hL : L.length ≤ 1000) (hme : p.edges.length ≤ 9000000000000000000) : Pure C1 89 [dIs l, dPt p, dIs L] (fun y => y = dPt ⟨l, madeE p.edges L⟩) := by
  have hdL : (L.map dI).length = L.length := List.length_map _
  have hL2 : L.length * L.length ≤ 1000 * 1000 := Nat.mul_le_mul hL hL
  refine pure_of c1_ok (pl := pl_r8m) (G := G_r8m) Tryz.func89 rfl Tryz.ntmps89 run_r8m cok_r8m (by simp) ?_
  ((conv => whnf); repeat' ((first | refine odw ?_ | refine ify ?_ | refine ifn ?_ | refine i6 ?_ | refine ati ?_ | refine mst ?_ | refine rmd ?_ | refine ibo (fun _ => ?_) (fun _ => ?_)) <;> conv => whnf))
  refine loop_lo (ι := Nat) (fun a => a ≤ L.length) (fun a => [(8, .d (.int .i64 a)), (7, .own 7), (6, .own 6), (4, .own 4), (2, .d (dIs L))]) (fun a => [(4, .cells 25 [.d (dIs p.labels), .d (dEs p.edges)]), (6, .cells 25 [.d .nils, .d .nils]), (7, .cells 25 [.d (dIs l), .own 301]), (301, .slice 94 2 ((rowsF (pairF p.edges L) L.length a).map dE))]) (fun a => L.length - a) 0 (fun _ => rfl) (Nat.zero_le _) (.ownc 7 301 94 2 rfl rfl (.there _ (.here _)) (.refl _ _)) ⟨rfl, rfl, rfl, rfl, rfl, trivial⟩ ⟨rfl, rfl, rfl, rfl, trivial⟩ ?_
  intro a ha
  refine sxCode_sound c1_ok (G := G_r8m) (pl := pl_r8m) _ _ _ _ (by kernel_rfl) ?_
  by_cases hal : a < L.length
  · ((conv => whnf); repeat' ((first | refine odw ?_ | refine ify ?_ | refine ifn ?_ | refine i6 ?_ | refine ati ?_ | refine mst ?_ | refine rmd ?_ | refine ibo (fun _ => ?_) (fun _ => ?_)) <;> conv => whnf))
    have hx := List.getElem?_eq_getElem hal
    have hxd : (L.map dI)[a]? = some (.int .i64 L[a]) := by rw [List.getElem?_map, hx]; rfl
    have hrl := rowsF_len (pairF p.edges L) L.length a
    have hrl2 : a * L.length ≤ L.length * L.length := Nat.mul_le_mul_right _ ha
    refine loop_lo (ι := Nat) (fun b => a + 1 ≤ b ∧ b ≤ L.length) (fun b => [(9, .d (.int .i64 b)), (8, .d (.int .i64 a)), (7, .own 7), (6, .own 6), (4, .own 4), (2, .d (dIs L))]) (fun b => [(4, .cells 25 [.d (dIs p.labels), .d (dEs p.edges)]), (6, .cells 25 [.d .nils, .d .nils]), (7, .cells 25 [.d (dIs l), .own 301]), (301, .slice 94 2 ((rowsF (pairF p.edges L) L.length a ++ rowF (pairF p.edges L) a b).map dE))]) (fun b => L.length - b) (a + 1) (fun _ => rfl) ⟨Nat.le_refl _, hal⟩ (.refl _ _) ⟨int_is (by omega), rfl, rfl, rfl, rfl, rfl, trivial⟩ ⟨rfl, rfl, rfl, by rw [rowF_start, List.append_nil]; rfl, trivial⟩ ?_
    rintro b ⟨hab, hb⟩
    refine sxCode_sound c1_ok (G := G_r8m) (pl := pl_r8m) _ _ _ _ (by kernel_rfl) ?_
    by_cases hbl : b < L.length
    · have hy := List.getElem?_eq_getElem hbl
      have hyd : (L.map dI)[b]? = some (.int .i64 L[b]) := by rw [List.getElem?_map, hy]; rfl
      have hh := rhas_pure p L[a] L[b] hme
      have hf : pairF p.edges L a b = hasR p.edges L[a] L[b] := by unfold pairF; rw [hx, hy]; rfl
      have hst := rowF_step (f := pairF p.edges L) (a := a) (b := b) (by omega)
      have hrl3 := rowF_len (pairF p.edges L) a b
      have hll : ((rowsF (pairF p.edges L) L.length a ++ rowF (pairF p.edges L) a b).map dE).length ≤ 2000000 := by rw [List.length_map, List.length_append]; omega
      cases hv : hasR p.edges L[a] L[b] with
      | true =>
        rw [hv] at hh hf
        rw [hf, if_pos rfl] at hst
        (conv => whnf)
        (repeat' ((first | refine ord_ok (by (conv => whnf); (repeat' ((first | refine at_da hxd rfl ?_ | refine at_da hyd rfl ?_ | refine call_eqb tab rfl hh rfl ?_ | refine ify ?_ | refine ifn ?_ | refine i6 ?_ | refine ati ?_ | refine mst ?_ | refine rmd ?_ | refine ibo (fun _ => ?_) (fun _ => ?_)) <;> conv => whnf)); (all_goals (repeat' (first | exact trivial | exact rfl | refine And.intro ?_ ?_)))) ?_ | refine at_da hxd rfl ?_ | refine at_da hyd rfl ?_ | refine call_eqb tab rfl hh rfl ?_ | refine ify ?_ | refine ifn ?_ | refine i6 ?_ | refine ati ?_ | refine mst ?_ | refine rmd ?_ | refine ibo (fun _ => ?_) (fun _ => ?_)) <;> conv => whnf))
        refine ⟨b + 1, _, _, ⟨by omega, by omega⟩, .refl _ _, ⟨int_is (by omega), rfl, rfl, rfl, rfl, rfl, trivial⟩, ⟨rfl, rfl, rfl, ?_, trivial⟩, by omega⟩
        refine slice_is ?_
        rw [hst]; simp [dE]
      | false =>
        rw [hv] at hh hf
        rw [hf, if_neg (by decide), List.append_nil] at hst
        (conv => whnf)
        (repeat' ((first | refine ord_ok (by (conv => whnf); (repeat' ((first | refine at_da hxd rfl ?_ | refine at_da hyd rfl ?_ | refine call_eqb tab rfl hh rfl ?_ | refine ify ?_ | refine ifn ?_ | refine i6 ?_ | refine ati ?_ | refine mst ?_ | refine rmd ?_ | refine ibo (fun _ => ?_) (fun _ => ?_)) <;> conv => whnf)); (all_goals (repeat' (first | exact trivial | exact rfl | refine And.intro ?_ ?_)))) ?_ | refine at_da hxd rfl ?_ | refine at_da hyd rfl ?_ | refine call_eqb tab rfl hh rfl ?_ | refine ify ?_ | refine ifn ?_ | refine i6 ?_ | refine ati ?_ | refine mst ?_ | refine rmd ?_ | refine ibo (fun _ => ?_) (fun _ => ?_)) <;> conv => whnf))
        exact ⟨b + 1, _, _, ⟨by omega, by omega⟩, .refl _ _, ⟨int_is (by omega), rfl, rfl, rfl, rfl, rfl, trivial⟩, ⟨rfl, rfl, rfl, slice_is (by rw [hst]), trivial⟩, by omega⟩
    · have hbe : b = L.length := by omega
      subst hbe
      ((conv => whnf); repeat' ((first | refine odw ?_ | refine ify ?_ | refine ifn ?_ | refine i6 ?_ | refine ati ?_ | refine mst ?_ | refine rmd ?_ | refine ibo (fun _ => ?_) (fun _ => ?_)) <;> conv => whnf))
      refine ⟨a + 1, _, _, by omega, .refl _ _, ⟨int_is (by omega), rfl, rfl, rfl, rfl, trivial⟩, ⟨rfl, rfl, rfl, slice_is (by rw [rowsF_step]), trivial⟩, by omega⟩
  · have hae : a = L.length := by omega
    subst hae
    ((conv => whnf); repeat' ((first | refine odw ?_ | refine ify ?_ | refine ifn ?_ | refine i6 ?_ | refine ati ?_ | refine mst ?_ | refine rmd ?_ | refine ibo (fun _ => ?_) (fun _ => ?_)) <;> conv => whnf))
    exact rfl
def pl_r12w : List (Nat × Plan) := [(5, .leaf [0, 0, 1, 0, 0, 0, 1, 0, 1, 6, 3, 0] [0, 1, 3, 4, 5, 2, 6, 7, 8, 9, 10, 11] [0, 0, 2, 0, 0, 24, 56, 126, 254, 510, 1023, 2047])]
def G_r12w : List FuncId := [89]
theorem cok_r12w : codeOk Tryz.prog G_r12w pl_r12w (Tryz.f33.body.getD .skip) = true := by kernel_rfl
theorem run_r12w (vs : Array Value) (w : World) : (callFunc 33 vs).run C1.P w = .ok (.enter 33 vs) w := by kernel_rfl
set_option maxHeartbeats 4000000 in
theorem whole_pure (G : Gr) (L : List Int) (hL : L.length ≤ 1000) (hGe : G.edges.length ≤ 9000000000000000000) (hv : ∀ x ∈ L, 0 ≤ x ∧ x < G.labels.length) : Pure C1 33 [dM G.labels G.edges, dIs L] (fun y => y = dPt ⟨L.map (labelV G), madeE G.edges L⟩) := by
  have hdL : (L.map dI).length = L.length := List.length_map _
  have hdG : (G.labels.map dI).length = G.labels.length := List.length_map _
  refine pure_of c1_ok (pl := pl_r12w) (G := G_r12w) Tryz.func33 rfl Tryz.ntmps33 run_r12w cok_r12w (by simp) ?_
  ((conv => whnf); repeat' ((first | refine odw ?_ | refine ify ?_ | refine ifn ?_ | refine i6 ?_ | refine ati ?_ | refine mst ?_ | refine rmd ?_ | refine ibo (fun _ => ?_) (fun _ => ?_)) <;> conv => whnf))
  refine loop_lo (ι := Nat) (fun i => i ≤ L.length) (fun i => [(6, .d (.int .i64 i)), (5, .own 300), (4, .own 4), (2, .own 2), (1, .d (dIs L))]) (fun i => [(2, .cells 28 [.d (dIs G.labels), .d (dEs G.edges)]), (4, .cells 25 [.d .nils, .d .nils]), (300, .slice 3 1 (((L.take i).map (labelV G)).map dI))]) (fun i => L.length - i) 0 (fun _ => rfl) (Nat.zero_le _) (.own 5 300 3 1 rfl rfl (.refl _ _)) ⟨rfl, rfl, rfl, rfl, rfl, trivial⟩ ⟨rfl, rfl, rfl, trivial⟩ ?_
  intro i hi
  refine sxCode_sound c1_ok (G := G_r12w) (pl := pl_r12w) _ _ _ _ (by kernel_rfl) ?_
  by_cases hil : i < L.length
  · have hx := List.getElem?_eq_getElem hil
    have hxv := hv _ (List.getElem_mem hil)
    generalize L[i] = x at hx hxv
    obtain ⟨v, rfl⟩ := Int.eq_ofNat_of_zero_le hxv.1
    have hvl : v < G.labels.length := by omega
    have hxd : (L.map dI)[i]? = some (.int .i64 v) := by rw [List.getElem?_map, hx]; rfl
    have hlv : (G.labels.map dI)[v]? = some (.int .i64 (labelV G v)) := by
      rw [List.getElem?_map, List.getElem?_eq_getElem hvl]
      unfold labelV
      rw [if_pos (by omega), Int.toNat_natCast, List.getElem?_eq_getElem hvl]; rfl
    have hll : (((L.take i).map (labelV G)).map dI).length = i := by simp only [List.length_map, List.length_take]; omega
    (conv => whnf)
    (repeat' ((first | refine ord_ok (by (conv => whnf); (repeat' ((first | refine at_da hxd rfl ?_ | refine at_da hlv rfl ?_ | refine ify ?_ | refine ifn ?_ | refine i6 ?_ | refine ati ?_ | refine mst ?_ | refine rmd ?_ | refine ibo (fun _ => ?_) (fun _ => ?_)) <;> conv => whnf)); (all_goals (repeat' (first | exact trivial | exact rfl | refine And.intro ?_ ?_)))) ?_ | refine at_da hxd rfl ?_ | refine at_da hlv rfl ?_ | refine ify ?_ | refine ifn ?_ | refine i6 ?_ | refine ati ?_ | refine mst ?_ | refine rmd ?_ | refine ibo (fun _ => ?_) (fun _ => ?_)) <;> conv => whnf))
    refine ⟨i + 1, _, _, by omega, .refl _ _, ⟨rfl, rfl, rfl, rfl, rfl, trivial⟩, ⟨rfl, rfl, ?_, trivial⟩, by omega⟩
    refine slice_is ?_
    rw [List.take_add_one, hx]; simp [dI]
  · have e : L.take i = L := List.take_of_length_le (by omega)
    rw [e]
    have hmd := rmade_pure (L.map (labelV G)) ⟨G.labels, G.edges⟩ L hL hGe
    ((conv => whnf); repeat' ((first | refine odw ?_ | refine ify ?_ | refine ifn ?_ | refine i6 ?_ | refine ati ?_ | refine mst ?_ | refine rmd ?_ | refine ibo (fun _ => ?_) (fun _ => ?_)) <;> conv => whnf))
    refine call_frz 300 rfl ?_
    refine call_eq rfl hmd ?_
    ((conv => whnf); repeat' ((first | refine odw ?_ | refine ify ?_ | refine ifn ?_ | refine i6 ?_ | refine ati ?_ | refine mst ?_ | refine rmd ?_ | refine ibo (fun _ => ?_) (fun _ => ?_)) <;> conv => whnf))
    exact rfl
def pl_l8of : List (Nat × Plan) := [(1, .leaf [0, 1, 0, 1, 2, 0, 3] [0, 2, 1, 3, 4, 5, 6] [0, 1, 0, 4, 12, 31, 63])]
def G_l8of : List FuncId := [59]
theorem cok_l8of : codeOk Tryz.prog G_l8of pl_l8of (Tryz.f16.body.getD .skip) = true := by kernel_rfl
theorem run_l8of (vs : Array Value) (w : World) : (callFunc 16 vs).run C1.P w = .ok (.enter 16 vs) w := by kernel_rfl
theorem lawpt_pure (p : Pt) (hm : p.edges.length ≤ 4294967296) : Pure C1 16 [dPt p] (fun y => y = dPt p) := by
  have h := lawof_pure p.edges hm
  refine pure_of c1_ok (pl := pl_l8of) (G := G_l8of) Tryz.func16 rfl Tryz.ntmps16 run_l8of cok_l8of (by simp) ?_
  (conv => whnf)
  (repeat' ((first | refine ord_ok (by (conv => whnf); (repeat' ((first | refine call_eq rfl h ?_ | refine ify ?_ | refine ifn ?_ | refine i6 ?_ | refine ati ?_ | refine mst ?_ | refine rmd ?_ | refine ibo (fun _ => ?_) (fun _ => ?_)) <;> conv => whnf)); (all_goals (repeat' (first | exact trivial | exact rfl | refine And.intro ?_ ?_)))) ?_ | refine call_eq rfl h ?_ | refine ify ?_ | refine ifn ?_ | refine i6 ?_ | refine ati ?_ | refine mst ?_ | refine rmd ?_ | refine ibo (fun _ => ?_) (fun _ => ?_)) <;> conv => whnf))
  exact rfl
end Go.Proofs.YthegabgbakckfaaGreatDoor
end

section
/- quick, plain: all images of a pattern. -/
namespace Go.Gr
/-- may a vertex be next in an image? -/
def fitV (L : Int → Int) (H : Int → Int → Bool) (pl : Nat → Int) (ph : Nat → Nat → Bool) (whole : Bool) (l : List Int) (v : Int) : Bool :=
  decide (L v = pl l.length) && (!decide (v ∈ l) && (List.range l.length).all fun i => match l[i]? with
    | none => true
    | some u => (!ph i l.length || H u v) && (!whole || !H u v || ph i l.length))
section
variable {n : Nat} {ok : List Int → Int → Bool}
/-- lists of k more that begin with l, each place of which is right -/
def imgs (n : Nat) (ok : List Int → Int → Bool) : Nat → List Int → List (List Int)
  | 0, l => [l]
  | k + 1, l => ((List.range n).filter fun v : Nat => ok l v).flatMap fun v : Nat => imgs n ok k (l ++ [(v : Int)])
/-- all lists of one more -/
def stepL (n : Nat) (X : List (List Int)) : List (List Int) := X.flatMap fun l => ((List.range n).filter fun v : Nat => !decide ((v : Int) ∈ l)).map fun v : Nat => l ++ [(v : Int)]
def iterL (n : Nat) : Nat → List (List Int) → List (List Int)
  | 0, X => X
  | k + 1, X => iterL n k (stepL n X)
theorem iterL_succ (n : Nat) : ∀ (k : Nat) (X : List (List Int)), iterL n (k + 1) X = stepL n (iterL n k X)
  | 0, _ => rfl
  | k + 1, X => by
    show iterL n (k + 1) (stepL n X) = _
    rw [iterL_succ n k]; rfl
theorem stepL_append (n : Nat) (X Y : List (List Int)) : stepL n (X ++ Y) = stepL n X ++ stepL n Y := by simp [stepL]
theorem iterL_append (n : Nat) : ∀ (k : Nat) (X Y : List (List Int)), iterL n k (X ++ Y) = iterL n k X ++ iterL n k Y
  | 0, _, _ => rfl
  | k + 1, X, Y => by show iterL n k (stepL n (X ++ Y)) = _; rw [stepL_append, iterL_append n k]; rfl
theorem iterL_nil (n : Nat) : ∀ k : Nat, iterL n k [] = []
  | 0 => rfl
  | k + 1 => iterL_nil n k
theorem iterL_flat (n k : Nat) : ∀ X : List (List Int), iterL n k X = X.flatMap fun l => iterL n k [l]
  | [] => iterL_nil n k
  | l :: X => by
    rw [show l :: X = [l] ++ X from rfl, iterL_append, iterL_flat n k X]; rfl
/-- is each place of a list right, from the j-th on? -/
def okAll (ok : List Int → Int → Bool) (j : Nat) (L : List Int) : Bool := (List.range L.length).all fun i => decide (i < j) || (match L[i]? with | none => true | some v => ok (L.take i) v)
theorem okAll_step {ok : List Int → Int → Bool} {L : List Int} {j : Nat} {v : Int} (hv : L[j]? = some v) : okAll ok j L = (ok (L.take j) v && okAll ok (j + 1) L) := by
  have hj : j < L.length := (List.getElem?_eq_some_iff.1 hv).1
  rw [Bool.eq_iff_iff]
  simp only [okAll, Bool.and_eq_true, List.all_eq_true, List.mem_range, Bool.or_eq_true, decide_eq_true_eq]
  constructor
  · intro h
    refine ⟨?_, fun i hi => ?_⟩
    · rcases h j hj with h1 | h1
      · omega
      · rw [hv] at h1; exact h1
    · rcases h i hi with h1 | h1
      · exact .inl (by omega)
      · exact .inr h1
  · rintro ⟨h1, h2⟩ i hi
    rcases Nat.lt_trichotomy i j with h3 | h3 | h3
    · exact .inl h3
    · subst h3; right; rw [hv]; exact h1
    · rcases h2 i hi with h4 | h4
      · omega
      · exact .inr h4
theorem okAll_end {ok : List Int → Int → Bool} {L : List Int} {j : Nat} (h : L.length ≤ j) : okAll ok j L = true := by
  simp only [okAll, List.all_eq_true, List.mem_range, Bool.or_eq_true, decide_eq_true_eq]
  intro i hi; left; omega
/-- each list that comes of l begins with it -/
theorem iterL_begins (n : Nat) : ∀ (k : Nat) (l L : List Int), L ∈ iterL n k [l] → L.take l.length = l ∧ L.length = l.length + k
  | 0, l, L, h => by
    rw [List.mem_singleton.1 h]
    exact ⟨List.take_length, rfl⟩
  | k + 1, l, L, h => by
    have h : L ∈ iterL n k (stepL n [l]) := h
    rw [iterL_flat] at h
    obtain ⟨l', h1, h2⟩ := List.mem_flatMap.1 h
    simp only [stepL, List.flatMap_cons, List.flatMap_nil, List.append_nil, List.mem_map, List.mem_filter] at h1
    obtain ⟨v, _, rfl⟩ := h1
    obtain ⟨h3, h4⟩ := iterL_begins n k _ _ h2
    rw [List.length_append, List.length_singleton] at h3 h4
    refine ⟨?_, by omega⟩
    have := congrArg (List.take l.length) h3
    rw [List.take_take, Nat.min_eq_left (by omega), List.take_left' rfl] at this
    exact this
theorem imgs_eq {n : Nat} {ok : List Int → Int → Bool} (hok : ∀ l v, ok l v = true → v ∉ l) : ∀ (k : Nat) (l : List Int), imgs n ok k l = (iterL n k [l]).filter (okAll ok l.length)
  | 0, l => by simp [imgs, iterL, okAll_end (ok := ok) (Nat.le_refl _)]
  | k + 1, l => by
    show _ = (iterL n k (stepL n [l])).filter _
    rw [iterL_flat, List.filter_flatMap]
    simp only [stepL, List.flatMap_cons, List.flatMap_nil, List.append_nil, List.flatMap_map]
    unfold imgs
    generalize List.range n = R
    induction R with
    | nil => rfl
    | cons v R ih =>
      have hs : ∀ L ∈ iterL n k [l ++ [(v : Int)]], okAll ok l.length L = (ok l v && okAll ok (l.length + 1) L) := by
        intro L hL
        obtain ⟨h1, h2⟩ := iterL_begins n k _ _ hL
        rw [List.length_append, List.length_singleton] at h1 h2
        have hv : L[l.length]? = some (v : Int) := by
          have := congrArg (fun x => x[l.length]?) h1
          simp only [List.getElem?_take, Nat.lt_succ_self, if_true] at this
          rw [this, List.getElem?_append_right (Nat.le_refl _), Nat.sub_self]; rfl
        have ht : L.take l.length = l := by
          have := congrArg (List.take l.length) h1
          rw [List.take_take, Nat.min_eq_left (by omega), List.take_left' rfl] at this
          exact this
        rw [okAll_step hv, ht]
      by_cases hv : ok l (v : Int) = true
      · have hm := hok _ _ hv
        rw [List.filter_cons_of_pos (p := fun v : Nat => ok l v) hv, List.filter_cons_of_pos (by simpa using hm), List.flatMap_cons, List.flatMap_cons, ih]
        congr 1
        rw [imgs_eq hok k, List.length_append, List.length_singleton]
        refine List.filter_congr fun L hL => ?_
        rw [hs L hL, hv, Bool.true_and]
      · rw [List.filter_cons_of_neg (p := fun v : Nat => ok l v) hv, ih]
        by_cases hm : (v : Int) ∈ l
        · rw [List.filter_cons_of_neg (by simpa using hm)]
        · rw [List.filter_cons_of_pos (by simpa using hm), List.flatMap_cons]
          have : List.filter (okAll ok l.length) (iterL n k [l ++ [(v : Int)]]) = [] := by
            rw [List.filter_eq_nil_iff]
            intro L hL
            rw [hs L hL]
            simp [hv]
          rw [this, List.nil_append]
theorem iterL_len (n k : Nat) {L : List Int} (h : L ∈ iterL n k [[]]) : L.length = k := by
  have := (iterL_begins n k [] L h).2
  simpa using this
end
end Go.Gr
end

section
/- quick: fits, images, Images. -/
namespace Go.Gr
open Go.Proofs.YthegabgbakckfaaGreatDoor
def plOf (p : Pt) (i : Nat) : Int := (p.labels[i]?).getD 0
def phOf (p : Pt) (i j : Nat) : Bool := decide (turn ⟨(i : Int), (j : Int)⟩ ∈ p.edges)
def hasG (G : Gr) (u v : Int) : Bool := decide (turn ⟨u, v⟩ ∈ G.edges)
/-- may a vertex be next in an image of a pattern? -/
def okI (G : Gr) (p : Pt) (whole : Bool) (l : List Int) (v : Int) : Bool := fitV (labelV G) (hasG G) (plOf p) (phOf p) whole l v
def okB (G : Gr) (p : Pt) (whole : Bool) (n i : Nat) (u v : Int) : Bool := (!phOf p i n || hasG G u v) && (!whole || !hasG G u v || phOf p i n)
theorem okI_label {G : Gr} {p : Pt} {whole : Bool} {l : List Int} {v : Int} (h : labelV G v ≠ plOf p l.length) : okI G p whole l v = false := by simp [okI, fitV, h]
theorem okI_mem {G : Gr} {p : Pt} {whole : Bool} {l : List Int} {v : Int} (h : v ∈ l) : okI G p whole l v = false := by simp [okI, fitV, h]
theorem okI_at {G : Gr} {p : Pt} {whole : Bool} {l : List Int} {v u : Int} {i : Nat} (hx : l[i]? = some u) (h : okB G p whole l.length i u v = false) : okI G p whole l v = false := by
  unfold okI fitV
  rw [Bool.and_eq_false_iff]; right
  rw [Bool.and_eq_false_iff]; right
  rw [List.all_eq_false]
  refine ⟨i, List.mem_range.2 (List.getElem?_eq_some_iff.1 hx).1, ?_⟩
  rw [hx]
  simpa [okB] using h
theorem okI_yes {G : Gr} {p : Pt} {whole : Bool} {l : List Int} {v : Int} (h1 : labelV G v = plOf p l.length) (h2 : v ∉ l) (h : ∀ k u, k < l.length → l[k]? = some u → okB G p whole l.length k u v = true) : okI G p whole l v = true := by
  unfold okI fitV
  rw [Bool.and_eq_true, Bool.and_eq_true]
  refine ⟨decide_eq_true h1, by simpa using h2, ?_⟩
  rw [List.all_eq_true]
  intro i hi
  have hi := List.mem_range.1 hi
  rw [List.getElem?_eq_getElem hi]
  exact h i _ hi (List.getElem?_eq_getElem hi)
theorem okI_not {G : Gr} {p : Pt} {whole : Bool} {l : List Int} {v : Int} (h : okI G p whole l v = true) : v ∉ l := fun hm => by rw [okI_mem hm] at h; cases h
theorem imgs_len {n : Nat} {ok : List Int → Int → Bool} : ∀ (k : Nat) (l : List Int), (imgs n ok k l).length ≤ n ^ k
  | 0, l => by simp [imgs]
  | k + 1, l => by
    unfold imgs
    rw [List.length_flatMap, Nat.pow_succ, Nat.mul_comm]
    have h1 : (((List.range n).filter fun v : Nat => ok l v).map fun v : Nat => (imgs n ok k (l ++ [(v : Int)])).length).sum ≤ ((List.range n).filter fun v : Nat => ok l v).length * n ^ k := by
      generalize (List.range n).filter (fun v : Nat => ok l v) = R
      induction R with
      | nil => simp
      | cons v R ih =>
        have := imgs_len (n := n) (ok := ok) k (l ++ [(v : Int)])
        simp only [List.map_cons, List.sum_cons, List.length_cons, Nat.add_mul, Nat.one_mul]; omega
    refine Nat.le_trans h1 (Nat.mul_le_mul_right _ ?_)
    exact Nat.le_trans (List.length_filter_le _ _) (by simp)
def outF (n : Nat) (ok : List Int → Int → Bool) (k : Nat) (l : List Int) (v : Nat) : List (List Int) := ((List.range v).filter fun v : Nat => ok l v).flatMap fun v : Nat => imgs n ok k (l ++ [(v : Int)])
theorem outF_step {n : Nat} {ok : List Int → Int → Bool} {k : Nat} {l : List Int} {v : Nat} : outF n ok k l (v + 1) = outF n ok k l v ++ if ok l v then imgs n ok k (l ++ [(v : Int)]) else [] := by
  unfold outF
  rw [List.range_succ, List.filter_append, List.flatMap_append]
  congr 1
  by_cases h : ok l v <;> simp [h]
theorem outF_len {n : Nat} {ok : List Int → Int → Bool} {k : Nat} {l : List Int} : ∀ v, (outF n ok k l v).length ≤ v * n ^ k
  | 0 => by simp [outF]
  | v + 1 => by
    have h1 := outF_len (n := n) (ok := ok) (k := k) (l := l) v
    have h2 := imgs_len (n := n) (ok := ok) k (l ++ [(v : Int)])
    rw [outF_step, List.length_append, Nat.add_mul, Nat.one_mul]
    split
    · omega
    · simp only [List.length_nil]; omega
end Go.Gr
namespace Go.Proofs.YthegabgbakckfaaGreatDoor
open Go.Sx Go.RowKit Go.Reg Go.Gr

set_option maxRecDepth 100000
def dLL (X : List (List Int)) : Da := .list 1 (X.map dIs)
theorem clip_fn : ClipFn C1 127 := by
  intro w a n c hn hc
  refine ⟨by kernel_rfl, ?_⟩
  show Calls Tryz.prog _ _ _ _
  go_enter Tryz.func127, Tryz.ntmps127
  go_wp2
  go_ret
  exact ⟨rfl, rfl⟩
def pl_qfi : List (Nat × Plan) := [(2, .leaf [0, 0, 2, 0, 1, 0, 0, 1, 0, 0, 0, 0, 2, 0] [0, 1, 3, 5, 4, 6, 7, 2, 8, 9, 10, 11, 12, 13] [0, 0, 3, 0, 8, 0, 56, 120, 255, 511, 1023, 1023, 4095, 8191]),
  (7, .leaf [0, 0, 0, 2, 1, 0, 0, 2, 0, 0] [0, 1, 2, 5, 6, 4, 3, 7, 8, 9] [0, 0, 0, 7, 0, 0, 0, 127, 255, 511])]
def G_qfi : List FuncId := [51, 137, 83, 45]
theorem cok_qfi : codeOk Tryz.prog G_qfi pl_qfi (Tryz.f126.body.getD .skip) = true := by kernel_rfl
theorem run_qfi (vs : Array Value) (w : World) : (callFunc 126 vs).run C1.P w = .ok (.enter 126 vs) w := by kernel_rfl
set_option maxHeartbeats 4000000 in
theorem fits_pure (G : Gr) (hG : G.Ok) (p : Pt) (l : List Int) (v : Int) (whole : Bool) (hl : l.length < p.labels.length) (h8 : p.labels.length ≤ 8) (hpe : p.edges.length ≤ 100000) : Pure C1 126 [dG G, dPt p, dIs l, .int .i64 v, .bool whole] (fun y => y = .bool (okI G p whole l v)) := by
  have hdl : (l.map dI).length = l.length := List.length_map _
  have h1 := label_pure G v
  have h2 := contains_pure l v
  have hpx : (p.labels.map dI)[l.length]? = some (.int .i64 (plOf p l.length)) := by
    rw [List.getElem?_map, List.getElem?_eq_getElem hl]
    unfold plOf
    rw [List.getElem?_eq_getElem hl]; rfl
  refine pure_of c1_ok (pl := pl_qfi) (G := G_qfi) Tryz.func126 rfl Tryz.ntmps126 run_qfi cok_qfi (by simp) ?_
  rcases Decidable.em (labelV G v ≠ plOf p l.length) with hlab | hlab
  · rw [okI_label hlab]
    (conv => whnf)
    (repeat' ((first | refine ord_ok (by (conv => whnf); (repeat' ((first | refine call_eq rfl h1 ?_ | refine at_da hpx (by omega) ?_ | refine ify ?_ | refine ifn ?_ | refine i6 ?_ | refine ati ?_ | refine mst ?_ | refine rmd ?_ | refine ibo (fun _ => ?_) (fun _ => ?_)) <;> conv => whnf)); (all_goals (repeat' (first | exact trivial | exact rfl | refine And.intro ?_ ?_)))) ?_ | refine call_eq rfl h1 ?_ | refine at_da hpx (by omega) ?_ | refine ify ?_ | refine ifn ?_ | refine i6 ?_ | refine ati ?_ | refine mst ?_ | refine rmd ?_ | refine ibo (fun _ => ?_) (fun _ => ?_)) <;> conv => whnf))
    exact rfl
  have hlab : labelV G v = plOf p l.length := Decidable.not_not.1 hlab
  by_cases hm : v ∈ l
  · rw [okI_mem hm]
    rw [decide_eq_true hm] at h2
    (conv => whnf)
    (repeat' ((first | refine ord_ok (by (conv => whnf); (repeat' ((first | refine call_eq rfl h1 ?_ | refine at_da hpx (by omega) ?_ | refine call_eq rfl h2 ?_ | refine ify ?_ | refine ifn ?_ | refine i6 ?_ | refine ati ?_ | refine mst ?_ | refine rmd ?_ | refine ibo (fun _ => ?_) (fun _ => ?_)) <;> conv => whnf)); (all_goals (repeat' (first | exact trivial | exact rfl | refine And.intro ?_ ?_)))) ?_ | refine call_eq rfl h1 ?_ | refine at_da hpx (by omega) ?_ | refine call_eq rfl h2 ?_ | refine ify ?_ | refine ifn ?_ | refine i6 ?_ | refine ati ?_ | refine mst ?_ | refine rmd ?_ | refine ibo (fun _ => ?_) (fun _ => ?_)) <;> conv => whnf))
    exact rfl
  rw [decide_eq_false hm] at h2
  (conv => whnf)
  (repeat' ((first | refine ord_ok (by (conv => whnf); (repeat' ((first | refine call_eq rfl h1 ?_ | refine at_da hpx (by omega) ?_ | refine call_eq rfl h2 ?_ | refine ify ?_ | refine ifn ?_ | refine i6 ?_ | refine ati ?_ | refine mst ?_ | refine rmd ?_ | refine ibo (fun _ => ?_) (fun _ => ?_)) <;> conv => whnf)); (all_goals (repeat' (first | exact trivial | exact rfl | refine And.intro ?_ ?_)))) ?_ | refine call_eq rfl h1 ?_ | refine at_da hpx (by omega) ?_ | refine call_eq rfl h2 ?_ | refine ify ?_ | refine ifn ?_ | refine i6 ?_ | refine ati ?_ | refine mst ?_ | refine rmd ?_ | refine ibo (fun _ => ?_) (fun _ => ?_)) <;> conv => whnf))
  refine loop_lo (ι := Nat) (fun i => i ≤ l.length ∧ ∀ k u, k < i → l[k]? = some u → okB G p whole l.length k u v = true) (fun i => [(34, .d (.int .i64 i)), (33, .d (.int .i64 l.length)), (32, .d (dIs l)), (11, .d (.int .i64 l.length)), (6, .own 6), (4, .d (.bool whole)), (3, .d (.int .i64 v)), (0, .d (dG G))]) (fun _ => [(6, .cells 35 [.d (dIs p.labels), .d (dEs p.edges)])]) (fun i => l.length - i) 0 (fun _ => rfl) ⟨Nat.zero_le _, (by intro k u h; omega)⟩ (.refl _ _) ⟨rfl, by rw [← hdl]; rfl, rfl, by rw [← hdl]; rfl, rfl, rfl, rfl, rfl, trivial⟩ ⟨rfl, trivial⟩ ?_
  rintro i ⟨hi, hok⟩
  refine sxCode_sound c1_ok (G := G_qfi) (pl := pl_qfi) _ _ _ _ (by kernel_rfl) ?_
  by_cases hil : i < l.length
  · have hx := List.getElem?_eq_getElem hil
    generalize l[i] = u at hx
    have hxd : (l.map dI)[i]? = some (.int .i64 u) := by rw [List.getElem?_map, hx]; rfl
    have h3 := hasE_pure G hG u v
    have h4 := phas_pure p i l.length (by omega)
    have hob : okB G p whole l.length i u v = ((!decide (turn ⟨(i : Int), (l.length : Int)⟩ ∈ p.edges) || decide (turn ⟨u, v⟩ ∈ G.edges)) && (!whole || !decide (turn ⟨u, v⟩ ∈ G.edges) || decide (turn ⟨(i : Int), (l.length : Int)⟩ ∈ p.edges))) := rfl
    have hst : okB G p whole l.length i u v = true → ∀ k w, k < i + 1 → l[k]? = some w → okB G p whole l.length k w v = true := by
      intro hb k w hk hw
      rcases Nat.lt_or_ge k i with hlt | hlt
      · exact hok k w hlt hw
      · have : k = i := by omega
        subst this
        rw [hx] at hw; cases hw; exact hb
    have hno := fun hb => okI_at (G := G) (p := p) (whole := whole) (v := v) hx hb
    cases hw : decide (turn ⟨(i : Int), (l.length : Int)⟩ ∈ p.edges) <;> cases hs : decide (turn ⟨u, v⟩ ∈ G.edges) <;> cases whole <;> rw [hw] at h4 hob <;> rw [hs] at h3 hob <;> simp only [Bool.not_true, Bool.not_false, Bool.true_and, Bool.and_true, Bool.false_and, Bool.and_false, Bool.or_true, Bool.true_or, Bool.or_false, Bool.false_or] at hob <;> (conv => whnf) <;> (repeat' ((first | refine ord_ok (by (conv => whnf); (repeat' ((first | refine at_da hxd rfl ?_ | refine call_eq rfl h3 ?_ | refine call_eq rfl h4 ?_ | refine ify ?_ | refine ifn ?_ | refine i6 ?_ | refine ati ?_ | refine mst ?_ | refine rmd ?_ | refine ibo (fun _ => ?_) (fun _ => ?_)) <;> conv => whnf)); (all_goals (repeat' (first | exact trivial | exact rfl | refine And.intro ?_ ?_)))) ?_ | refine at_da hxd rfl ?_ | refine call_eq rfl h3 ?_ | refine call_eq rfl h4 ?_ | refine ify ?_ | refine ifn ?_ | refine i6 ?_ | refine ati ?_ | refine mst ?_ | refine rmd ?_ | refine ibo (fun _ => ?_) (fun _ => ?_)) <;> conv => whnf))
    all_goals first | (exact ⟨i + 1, _, _, ⟨by omega, hst hob⟩, .refl _ _, ⟨rfl, rfl, rfl, rfl, rfl, rfl, rfl, rfl, trivial⟩, ⟨rfl, trivial⟩, by omega⟩) | (rw [hno hob]; exact rfl)
  · rw [okI_yes hlab hm (fun k u hk hx => hok k u (by omega) hx)]
    ((conv => whnf); repeat' ((first | refine odw ?_ | refine ify ?_ | refine ifn ?_ | refine i6 ?_ | refine ati ?_ | refine mst ?_ | refine rmd ?_ | refine ibo (fun _ => ?_) (fun _ => ?_)) <;> conv => whnf))
    exact rfl
theorem pow_le8 {n k : Nat} (hn : n ≤ 10) (hk : k ≤ 8) : n ^ k ≤ 100000000 :=
  Nat.le_trans (Nat.pow_le_pow_left hn k) (Nat.pow_le_pow_right (n := 10) (by omega) hk)
def pl_qim : List (Nat × Plan) := [(8, .split 2 7 (.split 4 6 (.leaf [0, 0, 1, 0, 2, 0, 6, 3, 0, 2, 3, 0] [0, 1, 3, 5, 8, 2, 4, 6, 7, 9, 10, 11] [0, 0, 0, 0, 8, 0, 56, 124, 0, 510, 1023, 2047]) (.leaf [0, 0, 1, 0, 2, 0, 6, 3, 0, 2, 3, 0] [0, 1, 3, 5, 8, 2, 6, 4, 7, 9, 10, 11] [0, 0, 0, 0, 104, 0, 32, 124, 0, 510, 1023, 2047])) (.split 4 6 (.leaf [0, 0, 1, 0, 2, 0, 6, 3, 0, 2, 3, 0] [0, 1, 3, 5, 8, 4, 6, 7, 2, 9, 10, 11] [0, 0, 248, 0, 8, 0, 56, 120, 0, 510, 1023, 2047]) (.leaf [0, 0, 1, 0, 2, 0, 6, 3, 0, 2, 3, 0] [0, 1, 3, 5, 8, 6, 4, 7, 2, 9, 10, 11] [0, 0, 248, 0, 104, 0, 32, 120, 0, 510, 1023, 2047])))]
def G_qim : List FuncId := [50, 126, 127, 60]
theorem cok_qim : codeOk Tryz.prog G_qim pl_qim (Tryz.f60.body.getD .skip) = true := by kernel_rfl
theorem run_qim (vs : Array Value) (w : World) : (callFunc 60 vs).run C1.P w = .ok (.enter 60 vs) w := by kernel_rfl
set_option maxHeartbeats 4000000 in
theorem images_pure (G : Gr) (hG : G.Ok) (p : Pt) (whole : Bool) (h8 : p.labels.length ≤ 8) (hG10 : G.labels.length ≤ 10) (hpe : p.edges.length ≤ 100000) : ∀ (k : Nat) (l : List Int), l.length + k = p.labels.length → Pure C1 60 [dG G, dPt p, dIs l, .bool whole] (fun y => y = dLL (imgs G.labels.length (okI G p whole) k l))
  | 0, l, hk => by
    have hdl : (l.map dI).length = l.length := List.length_map _
    have hdp : (p.labels.map dI).length = p.labels.length := List.length_map _
    refine pure_of c1_ok (pl := pl_qim) (G := G_qim) Tryz.func60 rfl Tryz.ntmps60 run_qim cok_qim (by simp) ?_
    ((conv => whnf); repeat' ((first | refine odw ?_ | refine ify ?_ | refine ifn ?_ | refine i6 ?_ | refine ati ?_ | refine mst ?_ | refine rmd ?_ | refine ibo (fun _ => ?_) (fun _ => ?_)) <;> conv => whnf))
    refine call_mksl 18 rfl rfl (clone_sl l (by omega)) ?_
    rintro ds rfl
    ((conv => whnf); repeat' ((first | refine odw ?_ | refine ify ?_ | refine ifn ?_ | refine i6 ?_ | refine ati ?_ | refine mst ?_ | refine rmd ?_ | refine ibo (fun _ => ?_) (fun _ => ?_)) <;> conv => whnf))
    refine op_again c1_ok (G := []) (.frz 18 rfl (.refl _ _)) (.inr rfl) ?_
    ((conv => whnf); repeat' ((first | refine odw ?_ | refine ify ?_ | refine ifn ?_ | refine i6 ?_ | refine ati ?_ | refine mst ?_ | refine rmd ?_ | refine ibo (fun _ => ?_) (fun _ => ?_)) <;> conv => whnf))
    exact rfl
  | k + 1, l, hk => by
    have hdl : (l.map dI).length = l.length := List.length_map _
    have hdp : (p.labels.map dI).length = p.labels.length := List.length_map _
    have hlen := len_pure G
    have hpow : G.labels.length ^ k ≤ 100000000 := pow_le8 hG10 (by omega)
    refine pure_of c1_ok (pl := pl_qim) (G := G_qim) Tryz.func60 rfl Tryz.ntmps60 run_qim cok_qim (by simp) ?_
    (conv => whnf)
    (repeat' ((first | refine ord_ok (by (conv => whnf); (repeat' ((first | refine call_eq rfl hlen ?_ | refine ify ?_ | refine ifn ?_ | refine i6 ?_ | refine ati ?_ | refine mst ?_ | refine rmd ?_ | refine ibo (fun _ => ?_) (fun _ => ?_)) <;> conv => whnf)); (all_goals (repeat' (first | exact trivial | exact rfl | refine And.intro ?_ ?_)))) ?_ | refine call_eq rfl hlen ?_ | refine ify ?_ | refine ifn ?_ | refine i6 ?_ | refine ati ?_ | refine mst ?_ | refine rmd ?_ | refine ibo (fun _ => ?_) (fun _ => ?_)) <;> conv => whnf))
    refine loop_lo (ι := Nat) (fun v => v ≤ G.labels.length) (fun v => [(22, .d (.int .i64 v)), (21, .d (.int .i64 G.labels.length)), (9, .own 300), (5, .own 5), (3, .d (.bool whole)), (2, .d (dIs l)), (0, .d (dG G))]) (fun v => [(5, .cells 35 [.d (dIs p.labels), .d (dEs p.edges)]), (300, .slice 22 1 ((outF G.labels.length (okI G p whole) k l v).map dIs))]) (fun v => G.labels.length - v) 0 (fun _ => rfl) (Nat.zero_le _) (.own 9 300 22 1 rfl rfl (.refl _ _)) ⟨rfl, rfl, rfl, rfl, rfl, rfl, rfl, trivial⟩ ⟨rfl, rfl, trivial⟩ ?_
    intro v hv
    refine sxCode_sound c1_ok (G := G_qim) (pl := pl_qim) _ _ _ _ (by kernel_rfl) ?_
    by_cases hvl : v < G.labels.length
    · have hfi := fits_pure G hG p l v whole (by omega) h8 hpe
      have hih := images_pure G hG p whole h8 hG10 hpe k (l ++ [(v : Int)]) (by rw [List.length_append, List.length_singleton]; omega)
      rw [show dIs (l ++ [(v : Int)]) = .list 1 (l.map dI ++ [.int .i64 v]) by simp [dIs, dI]] at hih
      have hst := outF_step (n := G.labels.length) (ok := okI G p whole) (k := k) (l := l) (v := v)
      have hol := outF_len (n := G.labels.length) (ok := okI G p whole) (k := k) (l := l) v
      have hil := imgs_len (n := G.labels.length) (ok := okI G p whole) k (l ++ [(v : Int)])
      have hmul : v * G.labels.length ^ k ≤ 10 * 100000000 := Nat.mul_le_mul (by omega) hpow
      have hom : ((outF G.labels.length (okI G p whole) k l v).map dIs).length ≤ 1000000000 := by rw [List.length_map]; omega
      have him : ((imgs G.labels.length (okI G p whole) k (l ++ [(v : Int)])).map dIs).length ≤ 100000000 := by rw [List.length_map]; omega
      cases hf : okI G p whole l v with
      | false =>
        rw [hf] at hfi hst
        rw [if_neg (by decide), List.append_nil] at hst
        (conv => whnf)
        (repeat' ((first | refine ord_ok (by (conv => whnf); (repeat' ((first | refine call_eqb tab rfl hfi rfl ?_ | refine ify ?_ | refine ifn ?_ | refine i6 ?_ | refine ati ?_ | refine mst ?_ | refine rmd ?_ | refine ibo (fun _ => ?_) (fun _ => ?_)) <;> conv => whnf)); (all_goals (repeat' (first | exact trivial | exact rfl | refine And.intro ?_ ?_)))) ?_ | refine call_eqb tab rfl hfi rfl ?_ | refine ify ?_ | refine ifn ?_ | refine i6 ?_ | refine ati ?_ | refine mst ?_ | refine rmd ?_ | refine ibo (fun _ => ?_) (fun _ => ?_)) <;> conv => whnf))
        exact ⟨v + 1, _, _, by omega, .refl _ _, ⟨rfl, rfl, rfl, rfl, rfl, rfl, rfl, trivial⟩, ⟨rfl, slice_is (by rw [hst]), trivial⟩, by omega⟩
      | true =>
        rw [hf] at hfi hst
        rw [if_pos rfl] at hst
        (conv => whnf)
        (repeat' ((first | refine ord_ok (by (conv => whnf); (repeat' ((first | refine call_eqb tab rfl hfi rfl ?_ | refine call_clip 400 rfl rfl clip_fn fun a => ?_ | refine op_appClip 400 38 35 c1_ok rfl rfl rfl rfl (by decide) (by decide) rfl rfl rfl rfl (by simp) rfl rfl rfl (mostOf_le (by simp only [List.length_map, List.length_cons, List.length_nil]; omega) rfl rfl) rfl ⟨rfl, rfl, rfl, rfl, trivial⟩ ?_ | refine call_frz 38 rfl ?_ | refine call_eq rfl hih ?_ | refine ify ?_ | refine ifn ?_ | refine i6 ?_ | refine ati ?_ | refine mst ?_ | refine rmd ?_ | refine ibo (fun _ => ?_) (fun _ => ?_)) <;> conv => whnf)); (all_goals (repeat' (first | exact trivial | exact rfl | refine And.intro ?_ ?_)))) ?_ | refine call_eqb tab rfl hfi rfl ?_ | refine call_clip 400 rfl rfl clip_fn fun a => ?_ | refine op_appClip 400 38 35 c1_ok rfl rfl rfl rfl (by decide) (by decide) rfl rfl rfl rfl (by simp) rfl rfl rfl (mostOf_le (by simp only [List.length_map, List.length_cons, List.length_nil]; omega) rfl rfl) rfl ⟨rfl, rfl, rfl, rfl, trivial⟩ ?_ | refine call_frz 38 rfl ?_ | refine call_eq rfl hih ?_ | refine ify ?_ | refine ifn ?_ | refine i6 ?_ | refine ati ?_ | refine mst ?_ | refine rmd ?_ | refine ibo (fun _ => ?_) (fun _ => ?_)) <;> conv => whnf))
        exact ⟨v + 1, _, _, by omega, .refl _ _, ⟨rfl, rfl, rfl, rfl, rfl, rfl, rfl, trivial⟩, ⟨rfl, slice_is (by rw [hst, List.map_append]), trivial⟩, by omega⟩
    · have hve : v = G.labels.length := by omega
      subst hve
      ((conv => whnf); repeat' ((first | refine odw ?_ | refine ify ?_ | refine ifn ?_ | refine i6 ?_ | refine ati ?_ | refine mst ?_ | refine rmd ?_ | refine ibo (fun _ => ?_) (fun _ => ?_)) <;> conv => whnf))
      exact rfl
end Go.Proofs.YthegabgbakckfaaGreatDoor
end

section
/- quick: Images. ref12: Images. -/
namespace Go.Gr
open Go.Proofs.YthegabgbakckfaaGreatDoor
/-- one list more, by vertices below v -/
def stepV (l : List Int) (v : Nat) : List (List Int) := ((List.range v).filter fun v : Nat => !decide ((v : Int) ∈ l)).map fun v : Nat => l ++ [(v : Int)]
theorem stepV_succ (l : List Int) (v : Nat) : stepV l (v + 1) = stepV l v ++ if (v : Int) ∈ l then [] else [l ++ [(v : Int)]] := by
  unfold stepV
  rw [List.range_succ, List.filter_append, List.map_append]
  congr 1
  by_cases h : (v : Int) ∈ l <;> simp [h]
theorem stepL_take {n : Nat} {X : List (List Int)} {i : Nat} {l : List Int} (h : X[i]? = some l) : stepL n (X.take (i + 1)) = stepL n (X.take i) ++ stepV l n := by
  rw [List.take_add_one, h, stepL_append]
  simp [stepL, stepV]
theorem stepV_len (l : List Int) (v : Nat) : (stepV l v).length ≤ v := by
  unfold stepV
  rw [List.length_map]
  exact Nat.le_trans (List.length_filter_le _ _) (by simp)
theorem stepL_len (n : Nat) : ∀ X : List (List Int), (stepL n X).length ≤ X.length * n
  | [] => by simp [stepL]
  | l :: X => by
    have h1 := stepL_len n X
    have h2 := stepV_len l n
    have e : stepL n (l :: X) = stepV l n ++ stepL n X := rfl
    rw [e, List.length_append, List.length_cons, Nat.add_mul, Nat.one_mul]; omega
theorem iterL_count (n : Nat) : ∀ k : Nat, (iterL n k [[]]).length ≤ n ^ k
  | 0 => by simp [iterL]
  | k + 1 => by
    rw [iterL_succ]
    have h1 := stepL_len n (iterL n k [[]])
    have h2 := Nat.mul_le_mul_right n (iterL_count n k)
    rw [Nat.pow_succ]; omega
theorem iterL_mem {n : Nat} : ∀ {k : Nat} {L : List Int}, L ∈ iterL n k [[]] → L.Nodup ∧ ∀ x ∈ L, 0 ≤ x ∧ x < n
  | 0, L, h => by
    rw [List.mem_singleton.1 h]
    exact ⟨List.nodup_nil, fun x hx => (List.not_mem_nil hx).elim⟩
  | k + 1, L, h => by
    rw [iterL_succ] at h
    simp only [stepL, List.mem_flatMap, List.mem_map, List.mem_filter, List.mem_range, Bool.not_eq_true', decide_eq_false_iff_not] at h
    obtain ⟨l, hl, v, ⟨hv, hn⟩, rfl⟩ := h
    obtain ⟨h1, h2⟩ := iterL_mem hl
    refine ⟨?_, fun x hx => ?_⟩
    · rw [List.nodup_append]
      exact ⟨h1, by simp, fun a ha b hb => by rw [List.mem_singleton.1 hb]; exact fun e => hn (e ▸ ha)⟩
    · rcases List.mem_append.1 hx with hx | hx
      · exact h2 x hx
      · rw [List.mem_singleton.1 hx]; omega
/-- tests, one behind the other -/
def okIv (b : Bool) (d : Nat → Bool) : Nat → Bool
  | 0 => b
  | u + 1 => okIv b d u && d u
def okN (c : Nat → Bool) (d : Nat → Nat → Bool) : Nat → Bool
  | 0 => true
  | v + 1 => okIv (okN c d v && c v) (fun u => d u v) v
theorem okIv_iff {b : Bool} {d : Nat → Bool} : ∀ {u : Nat}, okIv b d u = true ↔ b = true ∧ ∀ k, k < u → d k = true
  | 0 => ⟨fun h => ⟨h, fun k hk => absurd hk (Nat.not_lt_zero k)⟩, fun h => h.1⟩
  | u + 1 => by
    simp only [okIv, Bool.and_eq_true, okIv_iff (u := u)]
    constructor
    · rintro ⟨⟨h1, h2⟩, h3⟩
      refine ⟨h1, fun k hk => ?_⟩
      rcases Nat.lt_or_ge k u with h | h
      · exact h2 k h
      · have : k = u := by omega
        subst this; exact h3
    · rintro ⟨h1, h2⟩
      exact ⟨⟨h1, fun k hk => h2 k (by omega)⟩, h2 u (by omega)⟩
theorem okN_iff {c : Nat → Bool} {d : Nat → Nat → Bool} : ∀ {v : Nat}, okN c d v = true ↔ ∀ k, k < v → c k = true ∧ ∀ u, u < k → d u k = true
  | 0 => ⟨fun _ k hk => absurd hk (Nat.not_lt_zero k), fun _ => rfl⟩
  | v + 1 => by
    simp only [okN, okIv_iff, Bool.and_eq_true, okN_iff (v := v)]
    constructor
    · rintro ⟨⟨h1, h2⟩, h3⟩ k hk
      rcases Nat.lt_or_ge k v with h | h
      · exact h1 k h
      · have : k = v := by omega
        subst this; exact ⟨h2, h3⟩
    · intro h
      exact ⟨⟨fun k hk => h k (by omega), (h v (by omega)).1⟩, (h v (by omega)).2⟩
def cL (G : Gr) (p : Pt) (L : List Int) (v : Nat) : Bool := decide (labelV G ((L[v]?).getD 0) = plOf p v)
def dLt (E : List Edg) (p : Pt) (whole : Bool) (L : List Int) (u v : Nat) : Bool := (hasR (madeE E L) u v || !hasR p.edges u v) && (hasR p.edges u v || !hasR (madeE E L) u v || !whole)
/-- is a list an image, by the document? -/
def okL (G : Gr) (p : Pt) (whole : Bool) (L : List Int) : Bool := okN (cL G p L) (dLt G.edges p whole L) p.labels.length
end Go.Gr
namespace Go.Proofs.YthegabgbakckfaaGreatDoor
open Go.Sx Go.RowKit Go.Reg Go.Gr

set_option maxRecDepth 100000
theorem rightP_none {p : Pt} (h : pErr p = none) : rightP p = .nili := by
  unfold pErr at h
  unfold rightP
  split at h
  · cases h
  · rename_i hl
    rw [hl]
    simp only
    rw [h]
theorem rightP_some {p : Pt} {c : Int} {i : Nat} (h : pErr p = some (c, i)) : ∃ s, rightP p = dF c i s := by
  unfold pErr at h
  unfold rightP
  split at h
  · rename_i x hl
    cases h
    rw [hl]
    exact ⟨_, rfl⟩
  · rename_i hl
    rw [hl]
    simp only
    rw [h]
    exact ⟨_, rfl⟩
def imagesY (G : Gr) (p : Pt) (whole : Bool) : Da := if pErr p = none ∧ p.labels ≠ [] then dLL (imgs G.labels.length (okI G p whole) p.labels.length []) else .nils
def pl_qiI : List (Nat × Plan) := []
def G_qiI : List FuncId := [49, 60]
theorem cok_qiI : codeOk Tryz.prog G_qiI pl_qiI (Tryz.f15.body.getD .skip) = true := by kernel_rfl
theorem run_qiI (vs : Array Value) (w : World) : (callFunc 15 vs).run C1.P w = .ok (.enter 15 vs) w := by kernel_rfl
theorem qimages_pure (G : Gr) (hG : G.Ok) (p : Pt) (whole : Bool) (hG10 : G.labels.length ≤ 10) (hpl : p.labels.length ≤ 9000000000000000000) (hpe : p.edges.length ≤ 100000) : Pure C1 15 [dG G, dPt p, .bool whole] (fun y => y = imagesY G p whole) := by
  have hdp : (p.labels.map dI).length = p.labels.length := List.length_map _
  have hr := pright_pure p hpl (by omega)
  refine pure_of c1_ok (pl := pl_qiI) (G := G_qiI) Tryz.func15 rfl Tryz.ntmps15 run_qiI cok_qiI (by simp) ?_
  cases he : pErr p with
  | some x =>
    obtain ⟨c, i⟩ := x
    obtain ⟨s, hs⟩ := rightP_some he
    rw [hs] at hr
    have e : imagesY G p whole = .nils := by unfold imagesY; rw [if_neg (fun h => by rw [he] at h; cases h.1)]
    rw [e]
    (conv => whnf)
    (repeat' ((first | refine ord_ok (by (conv => whnf); (repeat' ((first | refine call_eq rfl hr ?_ | refine ify ?_ | refine ifn ?_ | refine i6 ?_ | refine ati ?_ | refine mst ?_ | refine rmd ?_ | refine ibo (fun _ => ?_) (fun _ => ?_)) <;> conv => whnf)); (all_goals (repeat' (first | exact trivial | exact rfl | refine And.intro ?_ ?_)))) ?_ | refine call_eq rfl hr ?_ | refine ify ?_ | refine ifn ?_ | refine i6 ?_ | refine ati ?_ | refine mst ?_ | refine rmd ?_ | refine ibo (fun _ => ?_) (fun _ => ?_)) <;> conv => whnf))
    exact rfl
  | none =>
    rw [rightP_none he] at hr
    by_cases h0 : p.labels.length = 0
    · have e : imagesY G p whole = .nils := by unfold imagesY; rw [if_neg (fun h => h.2 (List.eq_nil_of_length_eq_zero h0))]
      rw [e]
      (conv => whnf)
      (repeat' ((first | refine ord_ok (by (conv => whnf); (repeat' ((first | refine call_eq rfl hr ?_ | refine ify ?_ | refine ifn ?_ | refine i6 ?_ | refine ati ?_ | refine mst ?_ | refine rmd ?_ | refine ibo (fun _ => ?_) (fun _ => ?_)) <;> conv => whnf)); (all_goals (repeat' (first | exact trivial | exact rfl | refine And.intro ?_ ?_)))) ?_ | refine call_eq rfl hr ?_ | refine ify ?_ | refine ifn ?_ | refine i6 ?_ | refine ati ?_ | refine mst ?_ | refine rmd ?_ | refine ibo (fun _ => ?_) (fun _ => ?_)) <;> conv => whnf))
      exact rfl
    · have e : imagesY G p whole = dLL (imgs G.labels.length (okI G p whole) p.labels.length []) := by unfold imagesY; rw [if_pos ⟨he, fun h => h0 (by rw [h]; rfl)⟩]
      rw [e]
      have h8 : p.labels.length ≤ 8 := by
        unfold pErr at he
        split at he
        · cases he
        · rename_i hl
          exact (lErr_none hl).1
      have him := images_pure G hG p whole h8 hG10 hpe p.labels.length [] (by simp)
      have him2 : Pure C1 60 [dG G, dPt p, .nils, .bool whole] (fun y => y = dLL (imgs G.labels.length (okI G p whole) p.labels.length [])) := Sx.Pure.lax (.cons (.refl _) (.cons (.refl _) (.cons (.nils 1) (.cons (.refl _) .nil)))) him
      (conv => whnf)
      (repeat' ((first | refine ord_ok (by (conv => whnf); (repeat' ((first | refine call_eq rfl hr ?_ | refine call_eq rfl him2 ?_ | refine ify ?_ | refine ifn ?_ | refine i6 ?_ | refine ati ?_ | refine mst ?_ | refine rmd ?_ | refine ibo (fun _ => ?_) (fun _ => ?_)) <;> conv => whnf)); (all_goals (repeat' (first | exact trivial | exact rfl | refine And.intro ?_ ?_)))) ?_ | refine call_eq rfl hr ?_ | refine call_eq rfl him2 ?_ | refine ify ?_ | refine ifn ?_ | refine i6 ?_ | refine ati ?_ | refine mst ?_ | refine rmd ?_ | refine ibo (fun _ => ?_) (fun _ => ?_)) <;> conv => whnf))
      exact rfl
def pl_r12i : List (Nat × Plan) := [(19, .split 5 6 (.leaf [1, 0, 0, 0, 1, 2, 6, 3] [1, 2, 3, 0, 4, 5, 6, 7] [0, 0, 0, 6, 14, 31, 63, 127]) (.leaf [1, 0, 0, 0, 1, 2, 6, 3] [1, 2, 3, 0, 4, 6, 5, 7] [0, 0, 0, 6, 14, 95, 0, 127])),
  (24, .leaf [0, 0, 0, 1, 0, 0, 1, 0, 1, 0, 0, 1, 0, 0, 0] [0, 1, 2, 4, 7, 9, 3, 5, 6, 8, 10, 11, 12, 13, 14] [0, 1, 3, 7, 3, 31, 63, 3, 131, 3, 899, 1923, 4095, 8191, 16383]),
  (28, .leaf [1, 0, 0, 2, 1, 0, 0, 2, 0, 0] [1, 2, 5, 6, 0, 4, 3, 7, 8, 9] [0, 0, 0, 7, 0, 0, 0, 127, 255, 511])]
def G_r12i : List FuncId := [64, 33, 65]
theorem cok_r12i : codeOk Tryz.prog G_r12i pl_r12i (Tryz.f18.body.getD .skip) = true := by kernel_rfl
theorem run_r12i (vs : Array Value) (w : World) : (callFunc 18 vs).run C1.P w = .ok (.enter 18 vs) w := by kernel_rfl
set_option maxHeartbeats 8000000 in
theorem rimages_pure (G : Gr) (p : Pt) (whole : Bool) (hG10 : G.labels.length ≤ 10) (hGe : G.edges.length ≤ 100000) (h8 : p.labels.length ≤ 8) (h0 : 0 < p.labels.length) (hpe : p.edges.length ≤ 100000) : Pure C1 18 [dM G.labels G.edges, dPt p, .bool whole] (fun y => y = dLL ((iterL G.labels.length p.labels.length [[]]).filter (okL G p whole))) := by
  have hdp : (p.labels.map dI).length = p.labels.length := List.length_map _
  have hdG : (G.labels.map dI).length = G.labels.length := List.length_map _
  refine pure_of c1_ok (pl := pl_r12i) (G := G_r12i) Tryz.func18 rfl Tryz.ntmps18 run_r12i cok_r12i (by simp) ?_
  ((conv => whnf); repeat' ((first | refine odw ?_ | refine ify ?_ | refine ifn ?_ | refine i6 ?_ | refine ati ?_ | refine mst ?_ | refine rmd ?_ | refine ibo (fun _ => ?_) (fun _ => ?_)) <;> conv => whnf))
  refine op_again c1_ok (G := []) (.frz 20 rfl (.refl _ _)) (.inr rfl) ?_
  ((conv => whnf); repeat' ((first | refine odw ?_ | refine ify ?_ | refine ifn ?_ | refine i6 ?_ | refine ati ?_ | refine mst ?_ | refine rmd ?_ | refine ibo (fun _ => ?_) (fun _ => ?_)) <;> conv => whnf))
  refine loop_lo (ι := Nat) (fun k => k ≤ p.labels.length) (fun k => [(8, .d (.int .i64 k)), (7, .d (dLL (iterL G.labels.length k [[]]))), (4, .own 4), (3, .own 3), (2, .d (.bool whole))]) (fun _ => [(3, .cells 28 [.d (dIs G.labels), .d (dEs G.edges)]), (4, .cells 25 [.d (dIs p.labels), .d (dEs p.edges)])]) (fun k => p.labels.length - k) 0 (fun _ => rfl) (Nat.zero_le _) (.frz 21 rfl (.refl _ _)) ⟨rfl, rfl, rfl, rfl, rfl, trivial⟩ ⟨rfl, rfl, trivial⟩ ?_
  intro k hk
  refine sxCode_sound c1_ok (G := G_r12i) (pl := pl_r12i) _ _ _ _ (by kernel_rfl) ?_
  by_cases hkl : k < p.labels.length
  · have hXl := iterL_count G.labels.length k
    have hXp := pow_le8 hG10 (show k ≤ 8 by omega)
    have hsu := iterL_succ G.labels.length k [[]]
    have hXn : ∀ L ∈ iterL G.labels.length k [[]], L.length = k := fun L hL => iterL_len _ _ hL
    generalize iterL G.labels.length k [[]] = X at hXl hsu hXn ⊢
    have hdX : (X.map dIs).length = X.length := List.length_map _
    ((conv => whnf); repeat' ((first | refine odw ?_ | refine ify ?_ | refine ifn ?_ | refine i6 ?_ | refine ati ?_ | refine mst ?_ | refine rmd ?_ | refine ibo (fun _ => ?_) (fun _ => ?_)) <;> conv => whnf))
    refine loop_lo (ι := Nat) (fun i => i ≤ X.length) (fun i => [(10, .d (.int .i64 i)), (9, .own 300), (8, .d (.int .i64 k)), (7, .d (dLL X)), (4, .own 4), (3, .own 3), (2, .d (.bool whole))]) (fun i => [(3, .cells 28 [.d (dIs G.labels), .d (dEs G.edges)]), (4, .cells 25 [.d (dIs p.labels), .d (dEs p.edges)]), (300, .slice 22 1 ((stepL G.labels.length (X.take i)).map dIs))]) (fun i => X.length - i) 0 (fun _ => rfl) (Nat.zero_le _) (.own 9 300 22 1 rfl rfl (.refl _ _)) ⟨rfl, rfl, rfl, rfl, rfl, rfl, rfl, trivial⟩ ⟨rfl, rfl, rfl, trivial⟩ ?_
    intro i hi
    refine sxCode_sound c1_ok (G := G_r12i) (pl := pl_r12i) _ _ _ _ (by kernel_rfl) ?_
    by_cases hil : i < X.length
    · have hx := List.getElem?_eq_getElem hil
      generalize X[i] = l at hx
      have hxd : (X.map dIs)[i]? = some (dIs l) := by rw [List.getElem?_map, hx]; rfl
      have hsl := stepL_len G.labels.length (X.take i)
      have hmul : (X.take i).length * G.labels.length ≤ 100000000 * 10 := Nat.mul_le_mul (by rw [List.length_take]; omega) hG10
      ((conv => whnf); repeat' ((first | refine odw ?_ | refine ify ?_ | refine ifn ?_ | refine i6 ?_ | refine ati ?_ | refine mst ?_ | refine rmd ?_ | refine ibo (fun _ => ?_) (fun _ => ?_)) <;> conv => whnf))
      refine loop_lo (ι := Nat) (fun v => v ≤ G.labels.length) (fun v => [(11, .d (.int .i64 v)), (10, .d (.int .i64 i)), (9, .own 300), (8, .d (.int .i64 k)), (7, .d (dLL X)), (4, .own 4), (3, .own 3), (2, .d (.bool whole))]) (fun v => [(3, .cells 28 [.d (dIs G.labels), .d (dEs G.edges)]), (4, .cells 25 [.d (dIs p.labels), .d (dEs p.edges)]), (300, .slice 22 1 ((stepL G.labels.length (X.take i) ++ stepV l v).map dIs))]) (fun v => G.labels.length - v) 0 (fun _ => rfl) (Nat.zero_le _) (.refl _ _) ⟨rfl, rfl, rfl, rfl, rfl, rfl, rfl, rfl, trivial⟩ ⟨rfl, rfl, by rw [show stepV l 0 = [] from rfl, List.append_nil]; rfl, trivial⟩ ?_
      intro v hv
      refine sxCode_sound c1_ok (G := G_r12i) (pl := pl_r12i) _ _ _ _ (by kernel_rfl) ?_
      by_cases hvl : v < G.labels.length
      · have hh := has06_pure l v
        have hvs := stepV_len l v
        have hss := stepV_succ l v
        have hol : ((stepL G.labels.length (X.take i) ++ stepV l v).map dIs).length ≤ 2000000000 := by rw [List.length_map, List.length_append]; omega
        by_cases hm : (v : Int) ∈ l
        · rw [decide_eq_true hm] at hh
          rw [if_pos hm, List.append_nil] at hss
          (conv => whnf)
          (repeat' ((first | refine ord_ok (by (conv => whnf); (repeat' ((first | refine at_da hxd rfl ?_ | refine call_eqb tab rfl hh rfl ?_ | refine ify ?_ | refine ifn ?_ | refine i6 ?_ | refine ati ?_ | refine mst ?_ | refine rmd ?_ | refine ibo (fun _ => ?_) (fun _ => ?_)) <;> conv => whnf)); (all_goals (repeat' (first | exact trivial | exact rfl | refine And.intro ?_ ?_)))) ?_ | refine at_da hxd rfl ?_ | refine call_eqb tab rfl hh rfl ?_ | refine ify ?_ | refine ifn ?_ | refine i6 ?_ | refine ati ?_ | refine mst ?_ | refine rmd ?_ | refine ibo (fun _ => ?_) (fun _ => ?_)) <;> conv => whnf))
          exact ⟨v + 1, _, _, by omega, .refl _ _, ⟨rfl, rfl, rfl, rfl, rfl, rfl, rfl, rfl, trivial⟩, ⟨rfl, rfl, slice_is (by rw [hss]), trivial⟩, by omega⟩
        · rw [decide_eq_false hm] at hh
          rw [if_neg hm] at hss
          have hll := hXn l (List.mem_of_getElem? hx)
          have hdl : (l.map dI).length = l.length := List.length_map _
          (conv => whnf)
          (repeat' ((first | refine ord_ok (by (conv => whnf); (repeat' ((first | refine at_da hxd rfl ?_ | refine call_eqb tab rfl hh rfl ?_ | refine ify ?_ | refine ifn ?_ | refine i6 ?_ | refine ati ?_ | refine mst ?_ | refine rmd ?_ | refine ibo (fun _ => ?_) (fun _ => ?_)) <;> conv => whnf)); (all_goals (repeat' (first | exact trivial | exact rfl | refine And.intro ?_ ?_)))) ?_ | refine at_da hxd rfl ?_ | refine call_eqb tab rfl hh rfl ?_ | refine ify ?_ | refine ifn ?_ | refine i6 ?_ | refine ati ?_ | refine mst ?_ | refine rmd ?_ | refine ibo (fun _ => ?_) (fun _ => ?_)) <;> conv => whnf))
          refine op_again c1_ok (G := []) (.frz 50 rfl (.refl _ _)) (.inr rfl) ?_
          ((conv => whnf); repeat' ((first | refine odw ?_ | refine ify ?_ | refine ifn ?_ | refine i6 ?_ | refine ati ?_ | refine mst ?_ | refine rmd ?_ | refine ibo (fun _ => ?_) (fun _ => ?_)) <;> conv => whnf))
          refine ⟨v + 1, _, _, by omega, .refl _ _, ⟨rfl, rfl, rfl, rfl, rfl, rfl, rfl, rfl, trivial⟩, ⟨rfl, rfl, slice_is ?_, trivial⟩, by omega⟩
          rw [hss]; simp [dIs, dI]
      · have hve : v = G.labels.length := by omega
        subst hve
        ((conv => whnf); repeat' ((first | refine odw ?_ | refine ify ?_ | refine ifn ?_ | refine i6 ?_ | refine ati ?_ | refine mst ?_ | refine rmd ?_ | refine ibo (fun _ => ?_) (fun _ => ?_)) <;> conv => whnf))
        refine ⟨i + 1, _, _, by omega, .refl _ _, ⟨rfl, rfl, rfl, rfl, rfl, rfl, rfl, trivial⟩, ⟨rfl, rfl, slice_is (by rw [stepL_take hx]), trivial⟩, by omega⟩
    · have hie : i = X.length := by omega
      subst hie
      rw [List.take_length]
      ((conv => whnf); repeat' ((first | refine odw ?_ | refine ify ?_ | refine ifn ?_ | refine i6 ?_ | refine ati ?_ | refine mst ?_ | refine rmd ?_ | refine ibo (fun _ => ?_) (fun _ => ?_)) <;> conv => whnf))
      refine ⟨k + 1, _, _, by omega, .frz 300 rfl (.refl _ _), ⟨rfl, by rw [hsu]; rfl, rfl, rfl, rfl, trivial⟩, ⟨rfl, rfl, trivial⟩, by omega⟩
  · have hke : k = p.labels.length := by omega
    subst hke
    have hXl := iterL_count G.labels.length p.labels.length
    have hXp := pow_le8 hG10 h8
    have hXn : ∀ L ∈ iterL G.labels.length p.labels.length [[]], L.length = p.labels.length := fun L hL => iterL_len _ _ hL
    have hXm : ∀ L ∈ iterL G.labels.length p.labels.length [[]], ∀ x ∈ L, 0 ≤ x ∧ x < G.labels.length := fun L hL => (iterL_mem hL).2
    generalize iterL G.labels.length p.labels.length [[]] = X at hXl hXn hXm ⊢
    have hdX : (X.map dIs).length = X.length := List.length_map _
    ((conv => whnf); repeat' ((first | refine odw ?_ | refine ify ?_ | refine ifn ?_ | refine i6 ?_ | refine ati ?_ | refine mst ?_ | refine rmd ?_ | refine ibo (fun _ => ?_) (fun _ => ?_)) <;> conv => whnf))
    refine loop_lo (ι := Nat) (fun i => i ≤ X.length) (fun i => [(13, .d (.int .i64 i)), (12, .own 301), (7, .d (dLL X)), (4, .own 4), (3, .own 3), (2, .d (.bool whole))]) (fun i => [(3, .cells 28 [.d (dIs G.labels), .d (dEs G.edges)]), (4, .cells 25 [.d (dIs p.labels), .d (dEs p.edges)]), (301, .slice 22 1 (((X.take i).filter (okL G p whole)).map dIs))]) (fun i => X.length - i) 0 (fun _ => rfl) (Nat.zero_le _) (.own 12 301 22 1 rfl rfl (.refl _ _)) ⟨rfl, rfl, rfl, rfl, rfl, rfl, trivial⟩ ⟨rfl, rfl, rfl, trivial⟩ ?_
    intro i hi
    refine sxCode_sound c1_ok (G := G_r12i) (pl := pl_r12i) _ _ _ _ (by kernel_rfl) ?_
    by_cases hil : i < X.length
    · have hx := List.getElem?_eq_getElem hil
      generalize X[i] = L at hx
      have hxd : (X.map dIs)[i]? = some (dIs L) := by rw [List.getElem?_map, hx]; rfl
      have hLm := List.mem_of_getElem? hx
      have hLn := hXn L hLm
      have hwh := whole_pure G L (by omega) (by omega) (hXm L hLm)
      have hfl : ((X.take i).filter (okL G p whole)).length ≤ i := by have := List.length_filter_le (okL G p whole) (X.take i); rw [List.length_take] at this; omega
      have hfm : (((X.take i).filter (okL G p whole)).map dIs).length ≤ 100000000 := by rw [List.length_map]; omega
      have htk : (X.take (i + 1)).filter (okL G p whole) = (X.take i).filter (okL G p whole) ++ if okL G p whole L then [L] else [] := by
        rw [List.take_add_one, hx, List.filter_append]
        congr 1
        by_cases h : okL G p whole L <;> simp [h]
      have hmE : (madeE G.edges L).length ≤ 1000000 := by
        have := rowsF_len (pairF G.edges L) L.length L.length
        have h2 : L.length * L.length ≤ 8 * 8 := Nat.mul_le_mul (by omega) (by omega)
        unfold madeE; omega
      (conv => whnf)
      (repeat' ((first | refine ord_ok (by (conv => whnf); (repeat' ((first | refine at_da hxd rfl ?_ | refine call_eq rfl hwh ?_ | refine ify ?_ | refine ifn ?_ | refine i6 ?_ | refine ati ?_ | refine mst ?_ | refine rmd ?_ | refine ibo (fun _ => ?_) (fun _ => ?_)) <;> conv => whnf)); (all_goals (repeat' (first | exact trivial | exact rfl | refine And.intro ?_ ?_)))) ?_ | refine at_da hxd rfl ?_ | refine call_eq rfl hwh ?_ | refine ify ?_ | refine ifn ?_ | refine i6 ?_ | refine ati ?_ | refine mst ?_ | refine rmd ?_ | refine ibo (fun _ => ?_) (fun _ => ?_)) <;> conv => whnf))
      refine loop_lo (ι := Nat) (fun v => v ≤ p.labels.length) (fun v => [(16, .d (.int .i64 v)), (15, .d (.bool (okN (cL G p L) (dLt G.edges p whole L) v))), (14, .own 14), (13, .d (.int .i64 i)), (12, .own 301), (7, .d (dLL X)), (4, .own 4), (3, .own 3), (2, .d (.bool whole))]) (fun v => [(3, .cells 28 [.d (dIs G.labels), .d (dEs G.edges)]), (4, .cells 25 [.d (dIs p.labels), .d (dEs p.edges)]), (14, .cells 25 [.d (dIs (L.map (labelV G))), .d (dEs (madeE G.edges L))]), (301, .slice 22 1 (((X.take i).filter (okL G p whole)).map dIs))]) (fun v => p.labels.length - v) 0 (fun _ => rfl) (Nat.zero_le _) (.lax 15 rfl (.prop _ (decide_eq_true (by omega))) (.refl _ _)) ⟨rfl, rfl, rfl, rfl, rfl, rfl, rfl, rfl, rfl, trivial⟩ ⟨rfl, rfl, rfl, rfl, trivial⟩ ?_
      intro v hv
      refine sxCode_sound c1_ok (G := G_r12i) (pl := pl_r12i) _ _ _ _ (by kernel_rfl) ?_
      by_cases hvl : v < p.labels.length
      · have hLx := List.getElem?_eq_getElem (l := L) (i := v) (by omega)
        have hlx : ((L.map (labelV G)).map dI)[v]? = some (.int .i64 (labelV G ((L[v]?).getD 0))) := by rw [List.getElem?_map, List.getElem?_map, hLx]; rfl
        have hpx : (p.labels.map dI)[v]? = some (.int .i64 (plOf p v)) := by
          rw [List.getElem?_map, List.getElem?_eq_getElem hvl]
          unfold plOf
          rw [List.getElem?_eq_getElem hvl]; rfl
        cases hb : okN (cL G p L) (dLt G.edges p whole L) v with
        | false =>
          (conv => whnf)
          (repeat' ((first | refine ord_ok (by (conv => whnf); (repeat' ((first | refine at_da hlx rfl ?_ | refine at_da hpx rfl ?_ | refine ify ?_ | refine ifn ?_ | refine i6 ?_ | refine ati ?_ | refine mst ?_ | refine rmd ?_ | refine ibo (fun _ => ?_) (fun _ => ?_)) <;> conv => whnf)); (all_goals (repeat' (first | exact trivial | exact rfl | refine And.intro ?_ ?_)))) ?_ | refine at_da hlx rfl ?_ | refine at_da hpx rfl ?_ | refine ify ?_ | refine ifn ?_ | refine i6 ?_ | refine ati ?_ | refine mst ?_ | refine rmd ?_ | refine ibo (fun _ => ?_) (fun _ => ?_)) <;> conv => whnf))
          refine loop_lo (ι := Nat) (fun u => u ≤ v) (fun u => [(17, .d (.int .i64 u)), (16, .d (.int .i64 v)), (15, .d (.bool (okIv (okN (cL G p L) (dLt G.edges p whole L) v && cL G p L v) (fun u => dLt G.edges p whole L u v) u))), (14, .own 14), (13, .d (.int .i64 i)), (12, .own 301), (7, .d (dLL X)), (4, .own 4), (3, .own 3), (2, .d (.bool whole))]) (fun u => [(3, .cells 28 [.d (dIs G.labels), .d (dEs G.edges)]), (4, .cells 25 [.d (dIs p.labels), .d (dEs p.edges)]), (14, .cells 25 [.d (dIs (L.map (labelV G))), .d (dEs (madeE G.edges L))]), (301, .slice 22 1 (((X.take i).filter (okL G p whole)).map dIs))]) (fun u => v - u) 0 (fun _ => rfl) (Nat.zero_le _) (.refl _ _) ⟨rfl, rfl, by show _ = Dat.d (.bool (okN _ _ _ && _)); rw [hb]; rfl, rfl, rfl, rfl, rfl, rfl, rfl, rfl, trivial⟩ ⟨rfl, rfl, rfl, rfl, trivial⟩ ?_
          intro u hu
          refine sxCode_sound c1_ok (G := G_r12i) (pl := pl_r12i) _ _ _ _ (by kernel_rfl) ?_
          by_cases hul : u < v
          · have h1 := rhas_pure ⟨L.map (labelV G), madeE G.edges L⟩ u v (by simp only; omega)
            have h2 := rhas_pure p u v (by omega)
            have hd : dLt G.edges p whole L u v = ((hasR (madeE G.edges L) u v || !hasR p.edges u v) && (hasR p.edges u v || !hasR (madeE G.edges L) u v || !whole)) := rfl
            have hst : okIv (okN (cL G p L) (dLt G.edges p whole L) v && cL G p L v) (fun u => dLt G.edges p whole L u v) (u + 1) = (okIv (okN (cL G p L) (dLt G.edges p whole L) v && cL G p L v) (fun u => dLt G.edges p whole L u v) u && dLt G.edges p whole L u v) := rfl
            rw [hd] at hst
            cases hb : okIv (okN (cL G p L) (dLt G.edges p whole L) v && cL G p L v) (fun u => dLt G.edges p whole L u v) u <;> cases his : hasR (madeE G.edges L) u v <;> cases hwa : hasR p.edges u v <;> cases hwo : whole <;> rw [hb, his, hwa, hwo] at hst <;> rw [his] at h1 <;> rw [hwa] at h2 <;> (conv => whnf) <;> (repeat' ((first | refine ord_ok (by (conv => whnf); (repeat' ((first | refine call_eq rfl h1 ?_ | refine call_eq rfl h2 ?_ | refine ify ?_ | refine ifn ?_ | refine i6 ?_ | refine ati ?_ | refine mst ?_ | refine rmd ?_ | refine ibo (fun _ => ?_) (fun _ => ?_)) <;> conv => whnf)); (all_goals (repeat' (first | exact trivial | exact rfl | refine And.intro ?_ ?_)))) ?_ | refine call_eq rfl h1 ?_ | refine call_eq rfl h2 ?_ | refine ify ?_ | refine ifn ?_ | refine i6 ?_ | refine ati ?_ | refine mst ?_ | refine rmd ?_ | refine ibo (fun _ => ?_) (fun _ => ?_)) <;> conv => whnf))
            all_goals exact ⟨u + 1, _, _, by omega, .refl _ _, ⟨rfl, rfl, by rw [hst]; rfl, rfl, rfl, rfl, rfl, rfl, rfl, rfl, trivial⟩, ⟨rfl, rfl, rfl, rfl, trivial⟩, by omega⟩
          · have hue : u = v := by omega
            subst hue
            ((conv => whnf); repeat' ((first | refine odw ?_ | refine ify ?_ | refine ifn ?_ | refine i6 ?_ | refine ati ?_ | refine mst ?_ | refine rmd ?_ | refine ibo (fun _ => ?_) (fun _ => ?_)) <;> conv => whnf))
            exact ⟨u + 1, _, _, by omega, .refl _ _, ⟨rfl, rfl, rfl, rfl, rfl, rfl, rfl, rfl, rfl, trivial⟩, ⟨rfl, rfl, rfl, rfl, trivial⟩, by omega⟩
        | true =>
          (conv => whnf)
          (repeat' ((first | refine ord_ok (by (conv => whnf); (repeat' ((first | refine at_da hlx rfl ?_ | refine at_da hpx rfl ?_ | refine ify ?_ | refine ifn ?_ | refine i6 ?_ | refine ati ?_ | refine mst ?_ | refine rmd ?_ | refine ibo (fun _ => ?_) (fun _ => ?_)) <;> conv => whnf)); (all_goals (repeat' (first | exact trivial | exact rfl | refine And.intro ?_ ?_)))) ?_ | refine at_da hlx rfl ?_ | refine at_da hpx rfl ?_ | refine ify ?_ | refine ifn ?_ | refine i6 ?_ | refine ati ?_ | refine mst ?_ | refine rmd ?_ | refine ibo (fun _ => ?_) (fun _ => ?_)) <;> conv => whnf))
          refine loop_lo (ι := Nat) (fun u => u ≤ v) (fun u => [(17, .d (.int .i64 u)), (16, .d (.int .i64 v)), (15, .d (.bool (okIv (okN (cL G p L) (dLt G.edges p whole L) v && cL G p L v) (fun u => dLt G.edges p whole L u v) u))), (14, .own 14), (13, .d (.int .i64 i)), (12, .own 301), (7, .d (dLL X)), (4, .own 4), (3, .own 3), (2, .d (.bool whole))]) (fun u => [(3, .cells 28 [.d (dIs G.labels), .d (dEs G.edges)]), (4, .cells 25 [.d (dIs p.labels), .d (dEs p.edges)]), (14, .cells 25 [.d (dIs (L.map (labelV G))), .d (dEs (madeE G.edges L))]), (301, .slice 22 1 (((X.take i).filter (okL G p whole)).map dIs))]) (fun u => v - u) 0 (fun _ => rfl) (Nat.zero_le _) (.lax 15 rfl (.prop _ rfl) (.refl _ _)) ⟨rfl, rfl, by show _ = Dat.d (.bool (okN _ _ _ && _)); rw [hb, Bool.true_and]; rfl, rfl, rfl, rfl, rfl, rfl, rfl, rfl, trivial⟩ ⟨rfl, rfl, rfl, rfl, trivial⟩ ?_
          intro u hu
          refine sxCode_sound c1_ok (G := G_r12i) (pl := pl_r12i) _ _ _ _ (by kernel_rfl) ?_
          by_cases hul : u < v
          · have h1 := rhas_pure ⟨L.map (labelV G), madeE G.edges L⟩ u v (by simp only; omega)
            have h2 := rhas_pure p u v (by omega)
            have hd : dLt G.edges p whole L u v = ((hasR (madeE G.edges L) u v || !hasR p.edges u v) && (hasR p.edges u v || !hasR (madeE G.edges L) u v || !whole)) := rfl
            have hst : okIv (okN (cL G p L) (dLt G.edges p whole L) v && cL G p L v) (fun u => dLt G.edges p whole L u v) (u + 1) = (okIv (okN (cL G p L) (dLt G.edges p whole L) v && cL G p L v) (fun u => dLt G.edges p whole L u v) u && dLt G.edges p whole L u v) := rfl
            rw [hd] at hst
            cases hb : okIv (okN (cL G p L) (dLt G.edges p whole L) v && cL G p L v) (fun u => dLt G.edges p whole L u v) u <;> cases his : hasR (madeE G.edges L) u v <;> cases hwa : hasR p.edges u v <;> cases hwo : whole <;> rw [hb, his, hwa, hwo] at hst <;> rw [his] at h1 <;> rw [hwa] at h2 <;> (conv => whnf) <;> (repeat' ((first | refine ord_ok (by (conv => whnf); (repeat' ((first | refine call_eq rfl h1 ?_ | refine call_eq rfl h2 ?_ | refine ify ?_ | refine ifn ?_ | refine i6 ?_ | refine ati ?_ | refine mst ?_ | refine rmd ?_ | refine ibo (fun _ => ?_) (fun _ => ?_)) <;> conv => whnf)); (all_goals (repeat' (first | exact trivial | exact rfl | refine And.intro ?_ ?_)))) ?_ | refine call_eq rfl h1 ?_ | refine call_eq rfl h2 ?_ | refine ify ?_ | refine ifn ?_ | refine i6 ?_ | refine ati ?_ | refine mst ?_ | refine rmd ?_ | refine ibo (fun _ => ?_) (fun _ => ?_)) <;> conv => whnf))
            all_goals exact ⟨u + 1, _, _, by omega, .refl _ _, ⟨rfl, rfl, by rw [hst]; rfl, rfl, rfl, rfl, rfl, rfl, rfl, rfl, trivial⟩, ⟨rfl, rfl, rfl, rfl, trivial⟩, by omega⟩
          · have hue : u = v := by omega
            subst hue
            ((conv => whnf); repeat' ((first | refine odw ?_ | refine ify ?_ | refine ifn ?_ | refine i6 ?_ | refine ati ?_ | refine mst ?_ | refine rmd ?_ | refine ibo (fun _ => ?_) (fun _ => ?_)) <;> conv => whnf))
            exact ⟨u + 1, _, _, by omega, .refl _ _, ⟨rfl, rfl, rfl, rfl, rfl, rfl, rfl, rfl, rfl, trivial⟩, ⟨rfl, rfl, rfl, rfl, trivial⟩, by omega⟩
      · have hve : v = p.labels.length := by omega
        subst hve
        cases hb : okN (cL G p L) (dLt G.edges p whole L) p.labels.length with
        | false =>
          have ho : okL G p whole L = false := hb
          rw [ho, if_neg (by decide), List.append_nil] at htk
          ((conv => whnf); repeat' ((first | refine odw ?_ | refine ify ?_ | refine ifn ?_ | refine i6 ?_ | refine ati ?_ | refine mst ?_ | refine rmd ?_ | refine ibo (fun _ => ?_) (fun _ => ?_)) <;> conv => whnf))
          exact ⟨i + 1, _, _, by omega, .refl _ _, ⟨rfl, rfl, rfl, rfl, rfl, rfl, trivial⟩, ⟨rfl, rfl, slice_is (by rw [htk]), trivial⟩, by omega⟩
        | true =>
          have ho : okL G p whole L = true := hb
          rw [ho, if_pos rfl] at htk
          (conv => whnf)
          (repeat' ((first | refine ord_ok (by (conv => whnf); (repeat' ((first | refine at_da hxd rfl ?_ | refine ify ?_ | refine ifn ?_ | refine i6 ?_ | refine ati ?_ | refine mst ?_ | refine rmd ?_ | refine ibo (fun _ => ?_) (fun _ => ?_)) <;> conv => whnf)); (all_goals (repeat' (first | exact trivial | exact rfl | refine And.intro ?_ ?_)))) ?_ | refine at_da hxd rfl ?_ | refine ify ?_ | refine ifn ?_ | refine i6 ?_ | refine ati ?_ | refine mst ?_ | refine rmd ?_ | refine ibo (fun _ => ?_) (fun _ => ?_)) <;> conv => whnf))
          exact ⟨i + 1, _, _, by omega, .refl _ _, ⟨rfl, rfl, rfl, rfl, rfl, rfl, trivial⟩, ⟨rfl, rfl, slice_is (by rw [htk, List.map_append]; rfl), trivial⟩, by omega⟩
    · have hie : i = X.length := by omega
      subst hie
      rw [List.take_length]
      ((conv => whnf); repeat' ((first | refine odw ?_ | refine ify ?_ | refine ifn ?_ | refine i6 ?_ | refine ati ?_ | refine mst ?_ | refine rmd ?_ | refine ibo (fun _ => ?_) (fun _ => ?_)) <;> conv => whnf))
      exact rfl
end Go.Proofs.YthegabgbakckfaaGreatDoor
end

section
/- quick, plain: images are those of the document. -/
namespace Go.Gr
open Go.Proofs.YthegabgbakckfaaGreatDoor
theorem turn_lt {a b : Int} (h : a ≤ b) : turn ⟨a, b⟩ = ⟨a, b⟩ := by unfold turn; simp only [Edg.mk.injEq]; omega
theorem turn_gt {a b : Int} (h : b ≤ a) : turn ⟨a, b⟩ = ⟨b, a⟩ := by unfold turn; simp only [Edg.mk.injEq]; omega
theorem hasR_turn {E : List Edg} (h : ∀ e ∈ E, e.a < e.b) (x y : Int) : hasR E x y = decide (turn ⟨x, y⟩ ∈ E) := by
  rw [Bool.eq_iff_iff, decide_eq_true_eq]
  unfold hasR
  rw [List.any_eq_true]
  constructor
  · rintro ⟨e, he, hc⟩
    have hc := of_decide_eq_true hc
    have hl := h e he
    obtain ⟨a, b⟩ := e
    simp only at hc hl
    rcases hc with ⟨rfl, rfl⟩ | ⟨rfl, rfl⟩
    · rw [turn_lt (by omega)]; exact he
    · rw [turn_gt (by omega)]; exact he
  · intro he
    refine ⟨_, he, decide_eq_true ?_⟩
    rcases Int.le_total x y with hxy | hxy
    · rw [turn_lt hxy]; exact .inl ⟨rfl, rfl⟩
    · rw [turn_gt hxy]; exact .inr ⟨rfl, rfl⟩
theorem madeE_lt {E : List Edg} {L : List Int} : ∀ e ∈ madeE E L, e.a < e.b := by
  intro e he
  obtain ⟨j, x, _, _, h, _, rfl⟩ := mem_rowsF.1 he
  simp only; omega
theorem hasR_made {E : List Edg} {L : List Int} {u v : Nat} (huv : u < v) (hv : v < L.length) : hasR (madeE E L) u v = pairF E L u v := by
  rw [hasR_turn madeE_lt, turn_lt (by omega), Bool.eq_iff_iff, decide_eq_true_eq]
  unfold madeE
  rw [mem_rowsF]
  constructor
  · rintro ⟨j, x, h1, h2, h3, h4, h5⟩
    simp only [Edg.mk.injEq] at h5
    have e1 : u = j := by omega
    have e2 : v = x := by omega
    rw [e1, e2]; exact h4
  · intro h
    exact ⟨u, v, by omega, hv, huv, h, rfl⟩
theorem okI_iff {G : Gr} {p : Pt} {whole : Bool} {l : List Int} {v : Int} : okI G p whole l v = true ↔ labelV G v = plOf p l.length ∧ v ∉ l ∧ ∀ k u, k < l.length → l[k]? = some u → okB G p whole l.length k u v = true := by
  constructor
  · intro h
    refine ⟨Decidable.byContradiction fun hn => ?_, okI_not h, fun k u _ hx => ?_⟩
    · rw [okI_label hn] at h; cases h
    · cases hb : okB G p whole l.length k u v with
      | true => rfl
      | false => rw [okI_at hx hb] at h; cases h
  · rintro ⟨h1, h2, h3⟩
    exact okI_yes h1 h2 h3
theorem okAll0_iff {ok : List Int → Int → Bool} {L : List Int} : okAll ok 0 L = true ↔ ∀ i v, L[i]? = some v → ok (L.take i) v = true := by
  simp only [okAll, List.all_eq_true, List.mem_range, Bool.or_eq_true, decide_eq_true_eq]
  constructor
  · intro h i v hx
    have := h i (List.getElem?_eq_some_iff.1 hx).1
    rw [hx] at this
    rcases this with h | h
    · omega
    · exact h
  · intro h i hi
    right
    rw [List.getElem?_eq_getElem hi]
    exact h i _ (List.getElem?_eq_getElem hi)
theorem images_same {G : Gr} (hG : G.Ok) {p : Pt} (hp : pErr p = none) (whole : Bool) : imgs G.labels.length (okI G p whole) p.labels.length [] = (iterL G.labels.length p.labels.length [[]]).filter (okL G p whole) := by
  have hpe : ∀ e ∈ p.edges, e.a < e.b := by
    unfold pErr at hp
    split at hp
    · cases hp
    · exact fun e he => ((eErr_none hp).1 e he).2.1
  have hGe : ∀ e ∈ G.edges, e.a < e.b := fun e he => (hG.edge e he).2.1
  rw [imgs_eq (fun l v h => okI_not h)]
  refine List.filter_congr fun L hL => ?_
  have hLn := iterL_len _ _ hL
  obtain ⟨hnd, _⟩ := iterL_mem hL
  rw [List.length_nil, Bool.eq_iff_iff, okAll0_iff]
  unfold okL
  rw [okN_iff]
  have key : ∀ u v x y, u < v → L[u]? = some x → L[v]? = some y → okB G p whole v u x y = dLt G.edges p whole L u v := by
    intro u v x y huv hx hy
    have hvl := (List.getElem?_eq_some_iff.1 hy).1
    unfold okB dLt
    rw [hasR_made huv hvl]
    unfold pairF
    rw [hx, hy]
    simp only [Option.getD_some]
    rw [hasR_turn hGe, hasR_turn hpe]
    unfold hasG phOf
    cases decide (turn ⟨x, y⟩ ∈ G.edges) <;> cases decide (turn ⟨(u : Int), (v : Int)⟩ ∈ p.edges) <;> cases whole <;> rfl
  constructor
  · intro h k hk
    have hx := List.getElem?_eq_getElem (l := L) (i := k) (by omega)
    have h1 := okI_iff.1 (h k _ hx)
    rw [List.length_take, Nat.min_eq_left (by omega)] at h1
    refine ⟨?_, fun u hu => ?_⟩
    · unfold cL; rw [hx]; exact decide_eq_true h1.1
    · have hy := List.getElem?_eq_getElem (l := L) (i := u) (by omega)
      rw [← key u k _ _ hu hy hx]
      exact h1.2.2 u _ hu (by rw [List.getElem?_take, if_pos hu]; exact hy)
  · intro h k v hx
    have hk := (List.getElem?_eq_some_iff.1 hx).1
    obtain ⟨h1, h2⟩ := h k (by omega)
    rw [okI_iff, List.length_take, Nat.min_eq_left (by omega)]
    refine ⟨?_, fun hm => ?_, fun u x hu hy => ?_⟩
    · unfold cL at h1
      rw [hx] at h1
      exact of_decide_eq_true h1
    · obtain ⟨u, hu, e⟩ := List.mem_take_iff_getElem.1 hm
      have h3 := (List.pairwise_iff_getElem.1 hnd) u k (by omega) hk (by omega)
      rw [(List.getElem?_eq_some_iff.1 hx).2] at h3
      exact h3 e
    · rw [List.getElem?_take, if_pos hu] at hy
      rw [key u k _ _ hu hy hx]
      exact h2 u hu
end Go.Gr
end
