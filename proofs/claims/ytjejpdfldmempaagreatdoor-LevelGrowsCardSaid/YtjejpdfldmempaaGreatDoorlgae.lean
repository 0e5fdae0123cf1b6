/- Merged: Ptc. -/
import Derived.Test.YtjejpdfldmempaaGreatDoorOen
import Derived.Test.YtjejpdfldmempaaGreatDoorlgac
import Derived.Test.YtjejpdfldmempaaGreatDoorlgad
section
namespace Go.Proofs.YtjejpdfldmempaaGreatDoor
open Go.Sx Go.RowKit Go.Reg Go.Gr
set_option maxRecDepth 100000
def patS : ByteArray := ⟨#[112, 97, 116, 116, 101, 114, 110]⟩
def labS : ByteArray := ⟨#[108, 97, 98, 101, 108]⟩
def edgS : ByteArray := ⟨#[101, 100, 103, 101]⟩
def dPt (p : Pt) : Da := .agg [dIs p.labels, dEs p.edges]
def labelsY (l : List Int) : Da := match lErr l with
 | none => .nili
 | some (c, i) => dF c i (if c = 6 then patS else labS)
def rightP (p : Pt) : Da := match lErr p.labels with
 | some (c, i) => dF c i (if c = 6 then patS else labS)
 | none => match eErr p.labels.length p.edges with
   | none => .nili
   | some (c, i) => dF c i edgS
def codeP (x : Option (Int × Nat)) : Da := match x with
 | none => .tuple [.int .i64 0, .int .i64 0]
 | some (c, i) => .tuple [.int .i64 c, .int .i64 i]
theorem lErr_big {l : List Int} (h : 8 < l.length) : lErr l = some (6, 0) := if_pos h
theorem lErr_at {l : List Int} {i : Nat} {x : Int} (h8 : ¬ 8 < l.length) (h : ∀ k y, k < i → l[k]? = some y → badLabel y = false) (hx : l[i]? = some x) (hb : badLabel x = true) : lErr l = some (3, i) := by
 unfold lErr
 rw [if_neg h8]
 refine findSome_at (i := i) (fun k hk => ?_) ?_ (List.getElem?_eq_some_iff.1 hx).1
 ·have hkl : k < l.length := by have := (List.getElem?_eq_some_iff.1 hx).1; omega
  have := h k _ hk (List.getElem?_eq_getElem hkl)
  rw [List.getElem?_eq_getElem hkl]
  simp [this]
 ·rw [hx]; simp [hb]
theorem lErr_no {l : List Int} (h8 : ¬ 8 < l.length) (h : ∀ k y, k < l.length → l[k]? = some y → badLabel y = false) : lErr l = none := by
 unfold lErr
 rw [if_neg h8]
 refine findSome_no fun k hk => ?_
 have := h k _ hk (List.getElem?_eq_getElem hk)
 rw [List.getElem?_eq_getElem hk]
 simp [this]
theorem bad_step {l : List Int} {i : Nat} {x : Int} (h : ∀ k y, k < i → l[k]? = some y → badLabel y = false) (hx : l[i]? = some x) (hb : badLabel x = false) : ∀ k y, k < i + 1 → l[k]? = some y → badLabel y = false := by
 intro k y hk hy
 rcases Nat.lt_or_ge k i with hl | hl
 ·exact h k y hl hy
 ·have : k = i := by omega
  subst this
  rw [hx] at hy; cases hy; exact hb
theorem bad_is {x : Int} (h : ¬ (0 ≤ x ∧ x ≤ 255)) : badLabel x = true := by simp [badLabel]; omega
theorem bad_not {x : Int} (h : 0 ≤ x ∧ x ≤ 255) : badLabel x = false := by simp [badLabel]; omega
def pl_ptl : List (Nat × Plan) := []
def G_ptl : List FuncId := []
theorem cok_ptl : codeOk Tryz.prog G_ptl pl_ptl (Tryz.f47.body.getD .skip) = true := by kernel_rfl
theorem run_ptl (vs : Array Value) (w : World) : (callFunc 47 vs).run C1.P w = .ok (.enter 47 vs) w := by kernel_rfl
theorem plabels_pure (l : List Int) (hm : l.length ≤ 9223372036854775807) : Pure C1 47 [dIs l] (fun y => y = labelsY l) := by
 have hdl : (l.map dI).length = l.length := List.length_map _
 refine pure_of c1_ok (pl := pl_ptl) (G := G_ptl) Tryz.func47 rfl Tryz.ntmps47 run_ptl cok_ptl (by simp) ?_
 by_cases h8 : 8 < l.length
 ·have e : labelsY l = dF 6 0 patS := by unfold labelsY; rw [lErr_big h8]; rfl
  rw [e]
  (conv => whnf)
  (repeat' ((first | refine ord_ok ?_ ?_ | refine call_eq rfl (fnew_pure 6 0 patS) ?_ | refine ify ?_ | refine ifn ?_ | refine i6 ?_ | refine ati ?_ | refine mst ?_ | refine rmd ?_ | refine ibo (fun _ => ?_) (fun _ => ?_) | exact oend) <;> conv => whnf))
  exact rfl
 ((conv => whnf); repeat' ((first | refine odw ?_ | refine ify ?_ | refine ifn ?_ | refine i6 ?_ | refine ati ?_ | refine mst ?_ | refine rmd ?_ | refine ibo (fun _ => ?_) (fun _ => ?_)) <;> conv => whnf))
 refine loop_lo (ι := Nat) (fun i => i ≤ l.length ∧ ∀ k y, k < i → l[k]? = some y → badLabel y = false) (fun i => [(11, .d (.int .i64 i)), (10, .d (.int .i64 l.length)), (9, .d (dIs l))]) (fun _ => []) (fun i => l.length - i) 0 (fun _ => rfl) ⟨Nat.zero_le _, (by intro k y h; omega)⟩ (.refl _ _) ⟨rfl, by rw [← hdl]; rfl, rfl, trivial⟩ trivial ?_
 rintro i ⟨hi, hok⟩
 refine sxCode_sound c1_ok (G := G_ptl) (pl := pl_ptl) _ _ _ _ (by kernel_rfl) ?_
 by_cases hil : i < l.length
 ·have hx := List.getElem?_eq_getElem hil
  generalize l[i] = x at hx
  have hxd : (l.map dI)[i]? = some (.int .i64 x) := by rw [List.getElem?_map, hx]; rfl
  by_cases hb : 0 ≤ x ∧ x ≤ 255
  ·(conv => whnf)
   (repeat' ((first | refine ord_ok ?_ ?_ | refine at_da hxd rfl ?_ | refine ify ?_ | refine ifn ?_ | refine i6 ?_ | refine ati ?_ | refine mst ?_ | refine rmd ?_ | refine ibo (fun _ => ?_) (fun _ => ?_) | exact oend) <;> conv => whnf))
   exact ⟨i + 1, _, _, ⟨by omega, bad_step hok hx (bad_not hb)⟩, .refl _ _, ⟨rfl, rfl, rfl, trivial⟩, trivial, by omega⟩
  ·have e : labelsY l = dF 3 i labS := by unfold labelsY; rw [lErr_at h8 hok hx (bad_is hb)]; rfl
   rw [e]
   by_cases h0 : x < 0
   ·(conv => whnf)
    (repeat' ((first | refine ord_ok ?_ ?_ | refine at_da hxd rfl ?_ | refine call_eq rfl (fnew_pure 3 i labS) ?_ | refine ify ?_ | refine ifn ?_ | refine i6 ?_ | refine ati ?_ | refine mst ?_ | refine rmd ?_ | refine ibo (fun _ => ?_) (fun _ => ?_) | exact oend) <;> conv => whnf))
    exact rfl
   ·(conv => whnf)
    (repeat' ((first | refine ord_ok ?_ ?_ | refine at_da hxd rfl ?_ | refine call_eq rfl (fnew_pure 3 i labS) ?_ | refine ify ?_ | refine ifn ?_ | refine i6 ?_ | refine ati ?_ | refine mst ?_ | refine rmd ?_ | refine ibo (fun _ => ?_) (fun _ => ?_) | exact oend) <;> conv => whnf))
    exact rfl
 ·have e : labelsY l = .nili := by unfold labelsY; rw [lErr_no h8 (fun k y hk hy => hok k y (by omega) hy)]
  rw [e]
  ((conv => whnf); repeat' ((first | refine odw ?_ | refine ify ?_ | refine ifn ?_ | refine i6 ?_ | refine ati ?_ | refine mst ?_ | refine rmd ?_ | refine ibo (fun _ => ?_) (fun _ => ?_)) <;> conv => whnf))
  exact rfl
def pl_rfl8 : List (Nat × Plan) := []
def G_rfl8 : List FuncId := []
theorem cok_rfl8 : codeOk Tryz.prog G_rfl8 pl_rfl8 (Tryz.f180.body.getD .skip) = true := by kernel_rfl
theorem run_rfl8 (vs : Array Value) (w : World) : (callFunc 180 vs).run C1.P w = .ok (.enter 180 vs) w := by kernel_rfl
theorem rlabels_pure (l : List Int) (hm : l.length ≤ 9223372036854775807) : Pure C1 180 [dIs l] (fun y => y = codeP (lErr l)) := by
 have hdl : (l.map dI).length = l.length := List.length_map _
 refine pure_of c1_ok (pl := pl_rfl8) (G := G_rfl8) Tryz.func180 rfl Tryz.ntmps180 run_rfl8 cok_rfl8 (by simp) ?_
 by_cases h8 : 8 < l.length
 ·rw [lErr_big h8]
  ((conv => whnf); repeat' ((first | refine odw ?_ | refine ify ?_ | refine ifn ?_ | refine i6 ?_ | refine ati ?_ | refine mst ?_ | refine rmd ?_ | refine ibo (fun _ => ?_) (fun _ => ?_)) <;> conv => whnf))
  exact rfl
 ((conv => whnf); repeat' ((first | refine odw ?_ | refine ify ?_ | refine ifn ?_ | refine i6 ?_ | refine ati ?_ | refine mst ?_ | refine rmd ?_ | refine ibo (fun _ => ?_) (fun _ => ?_)) <;> conv => whnf))
 refine loop_lo (ι := Nat) (fun i => i ≤ l.length ∧ ∀ k y, k < i → l[k]? = some y → badLabel y = false) (fun i => [(4, .d (.int .i64 i)), (0, .d (dIs l))]) (fun _ => []) (fun i => l.length - i) 0 (fun _ => rfl) ⟨Nat.zero_le _, (by intro k y h; omega)⟩ (.refl _ _) ⟨rfl, rfl, trivial⟩ trivial ?_
 rintro i ⟨hi, hok⟩
 refine sxCode_sound c1_ok (G := G_rfl8) (pl := pl_rfl8) _ _ _ _ (by kernel_rfl) ?_
 by_cases hil : i < l.length
 ·have hx := List.getElem?_eq_getElem hil
  generalize l[i] = x at hx
  have hxd : (l.map dI)[i]? = some (.int .i64 x) := by rw [List.getElem?_map, hx]; rfl
  by_cases hb : 0 ≤ x ∧ x ≤ 255
  ·(conv => whnf)
   (repeat' ((first | refine ord_ok ?_ ?_ | refine at_da hxd rfl ?_ | refine ify ?_ | refine ifn ?_ | refine i6 ?_ | refine ati ?_ | refine mst ?_ | refine rmd ?_ | refine ibo (fun _ => ?_) (fun _ => ?_) | exact oend) <;> conv => whnf))
   exact ⟨i + 1, _, _, ⟨by omega, bad_step hok hx (bad_not hb)⟩, .refl _ _, ⟨rfl, rfl, trivial⟩, trivial, by omega⟩
  ·rw [lErr_at h8 hok hx (bad_is hb)]
   by_cases h0 : x < 0
   ·(conv => whnf)
    (repeat' ((first | refine ord_ok ?_ ?_ | refine at_da hxd rfl ?_ | refine ify ?_ | refine ifn ?_ | refine i6 ?_ | refine ati ?_ | refine mst ?_ | refine rmd ?_ | refine ibo (fun _ => ?_) (fun _ => ?_) | exact oend) <;> conv => whnf))
    exact rfl
   ·(conv => whnf)
    (repeat' ((first | refine ord_ok ?_ ?_ | refine at_da hxd rfl ?_ | refine ify ?_ | refine ifn ?_ | refine i6 ?_ | refine ati ?_ | refine mst ?_ | refine rmd ?_ | refine ibo (fun _ => ?_) (fun _ => ?_) | exact oend) <;> conv => whnf))
    exact rfl
 ·rw [lErr_no h8 (fun k y hk hy => hok k y (by omega) hy)]
  ((conv => whnf); repeat' ((first | refine odw ?_ | refine ify ?_ | refine ifn ?_ | refine i6 ?_ | refine ati ?_ | refine mst ?_ | refine rmd ?_ | refine ibo (fun _ => ?_) (fun _ => ?_)) <;> conv => whnf))
  exact rfl
def pl_ptt : List (Nat × Plan) := []
def G_ptt : List FuncId := []
theorem cok_ptt : codeOk Tryz.prog G_ptt pl_ptt (Tryz.f57.body.getD .skip) = true := by kernel_rfl
theorem run_ptt (vs : Array Value) (w : World) : (callFunc 57 vs).run C1.P w = .ok (.enter 57 vs) w := by kernel_rfl
theorem pturned_pure (e : Edg) : Pure C1 57 [dE e] (fun y => y = dE (turn e)) := by
 refine pure_of c1_ok (pl := pl_ptt) (G := G_ptt) Tryz.func57 rfl Tryz.ntmps57 run_ptt cok_ptt (by simp) ?_
 ((conv => whnf); repeat' ((first | refine odw ?_ | refine ify ?_ | refine ifn ?_ | refine i6 ?_ | refine ati ?_ | refine mst ?_ | refine rmd ?_ | refine ibo (fun _ => ?_) (fun _ => ?_)) <;> conv => whnf))
 exact rfl
def pl_ptw : List (Nat × Plan) := []
def G_ptw : List FuncId := []
theorem cok_ptw : codeOk Tryz.prog G_ptw pl_ptw (Tryz.f48.body.getD .skip) = true := by kernel_rfl
theorem run_ptw (vs : Array Value) (w : World) : (callFunc 48 vs).run C1.P w = .ok (.enter 48 vs) w := by kernel_rfl
theorem within_pure (e : Edg) (n : Nat) : Pure C1 48 [dE e, .int .i64 n] (fun y => y = .bool (decide (0 ≤ min e.a e.b ∧ max e.a e.b < n))) := by
 refine pure_of c1_ok (pl := pl_ptw) (G := G_ptw) Tryz.func48 rfl Tryz.ntmps48 run_ptw cok_ptw (by simp) ?_
 by_cases h1 : 0 ≤ min e.a e.b
 ·by_cases h2 : max e.a e.b < n
  ·rw [decide_eq_true ⟨h1, h2⟩]
   ((conv => whnf); repeat' ((first | refine odw ?_ | refine ify ?_ | refine ifn ?_ | refine i6 ?_ | refine ati ?_ | refine mst ?_ | refine rmd ?_ | refine ibo (fun _ => ?_) (fun _ => ?_)) <;> conv => whnf))
   exact congrArg Da.bool (decide_eq_true h2)
  ·rw [decide_eq_false (fun h => h2 h.2)]
   ((conv => whnf); repeat' ((first | refine odw ?_ | refine ify ?_ | refine ifn ?_ | refine i6 ?_ | refine ati ?_ | refine mst ?_ | refine rmd ?_ | refine ibo (fun _ => ?_) (fun _ => ?_)) <;> conv => whnf))
   exact congrArg Da.bool (decide_eq_false h2)
 ·rw [decide_eq_false (fun h => h1 h.1)]
  ((conv => whnf); repeat' ((first | refine odw ?_ | refine ify ?_ | refine ifn ?_ | refine i6 ?_ | refine ati ?_ | refine mst ?_ | refine rmd ?_ | refine ibo (fun _ => ?_) (fun _ => ?_)) <;> conv => whnf))
  exact rfl
def pl_pto : List (Nat × Plan) := [(1, .leaf [0, 1, 0, 1, 2, 0, 1, 0, 1, 2, 6, 2, 0] [0, 2, 5, 7, 1, 3, 6, 8, 4, 9, 10, 11, 12] [0, 1, 0, 4, 15, 0, 32, 0, 128, 511, 1023, 2047, 4095])]
def G_pto : List FuncId := [101, 100]
theorem cok_pto : codeOk Tryz.prog G_pto pl_pto (Tryz.f50.body.getD .skip) = true := by kernel_rfl
theorem run_pto (vs : Array Value) (w : World) : (callFunc 50 vs).run C1.P w = .ok (.enter 50 vs) w := by kernel_rfl
theorem porder_pure (x y : Edg) : Pure C1 50 [dE x, dE y] (fun z => z = .int .i64 (cmpE x y)) := by
 refine pure_of c1_ok (pl := pl_pto) (G := G_pto) Tryz.func50 rfl Tryz.ntmps50 run_pto cok_pto (by simp) ?_
 have h1 := compare_pure x.a y.a
 have h2 := compare_pure x.b y.b
 have h3 := or_pure (cmpI x.a y.a) (cmpI x.b y.b)
 (conv => whnf)
 (repeat' ((first | refine ord_ok ?_ ?_ | refine call_eq rfl h1 ?_ | refine call_eq rfl h2 ?_ | refine call_eqb tab rfl h3 rfl ?_ | refine ify ?_ | refine ifn ?_ | refine i6 ?_ | refine ati ?_ | refine mst ?_ | refine rmd ?_ | refine ibo (fun _ => ?_) (fun _ => ?_) | exact oend) <;> conv => whnf))
 exact rfl
def pl_ro8 : List (Nat × Plan) := []
def G_ro8 : List FuncId := []
theorem cok_ro8 : codeOk Tryz.prog G_ro8 pl_ro8 (Tryz.f181.body.getD .skip) = true := by kernel_rfl
theorem run_ro8 (vs : Array Value) (w : World) : (callFunc 181 vs).run C1.P w = .ok (.enter 181 vs) w := by kernel_rfl
theorem rout_pure (e : Edg) (n : Nat) : Pure C1 181 [dE e, .int .i64 n] (fun y => y = .bool (decide (¬ (0 ≤ min e.a e.b ∧ max e.a e.b < n)))) := by
 refine pure_of c1_ok (pl := pl_ro8) (G := G_ro8) Tryz.func181 rfl Tryz.ntmps181 run_ro8 cok_ro8 (by simp) ?_
 by_cases h1 : e.a < 0
 ·rw [decide_eq_true (by omega)]
  ((conv => whnf); repeat' ((first | refine odw ?_ | refine ify ?_ | refine ifn ?_ | refine i6 ?_ | refine ati ?_ | refine mst ?_ | refine rmd ?_ | refine ibo (fun _ => ?_) (fun _ => ?_)) <;> conv => whnf))
  exact rfl
 by_cases h2 : e.b < 0
 ·rw [decide_eq_true (by omega)]
  ((conv => whnf); repeat' ((first | refine odw ?_ | refine ify ?_ | refine ifn ?_ | refine i6 ?_ | refine ati ?_ | refine mst ?_ | refine rmd ?_ | refine ibo (fun _ => ?_) (fun _ => ?_)) <;> conv => whnf))
  exact rfl
 by_cases h3 : (n : Int) ≤ e.a
 ·rw [decide_eq_true (by omega)]
  ((conv => whnf); repeat' ((first | refine odw ?_ | refine ify ?_ | refine ifn ?_ | refine i6 ?_ | refine ati ?_ | refine mst ?_ | refine rmd ?_ | refine ibo (fun _ => ?_) (fun _ => ?_)) <;> conv => whnf))
  exact rfl
 by_cases h4 : (n : Int) ≤ e.b
 ·rw [decide_eq_true (by omega)]
  ((conv => whnf); repeat' ((first | refine odw ?_ | refine ify ?_ | refine ifn ?_ | refine i6 ?_ | refine ati ?_ | refine mst ?_ | refine rmd ?_ | refine ibo (fun _ => ?_) (fun _ => ?_)) <;> conv => whnf))
  exact congrArg Da.bool (decide_eq_true h4)
 ·rw [decide_eq_false (by omega)]
  ((conv => whnf); repeat' ((first | refine odw ?_ | refine ify ?_ | refine ifn ?_ | refine i6 ?_ | refine ati ?_ | refine mst ?_ | refine rmd ?_ | refine ibo (fun _ => ?_) (fun _ => ?_)) <;> conv => whnf))
  exact congrArg Da.bool (decide_eq_false h4)
def pl_rl8 : List (Nat × Plan) := []
def G_rl8 : List FuncId := []
theorem cok_rl8 : codeOk Tryz.prog G_rl8 pl_rl8 (Tryz.f182.body.getD .skip) = true := by kernel_rfl
theorem run_rl8 (vs : Array Value) (w : World) : (callFunc 182 vs).run C1.P w = .ok (.enter 182 vs) w := by kernel_rfl
theorem rless8_pure (x y : Edg) : Pure C1 182 [dE x, dE y] (fun z => z = .bool (decide (cmpE x y < 0))) := by
 refine pure_of c1_ok (pl := pl_rl8) (G := G_rl8) Tryz.func182 rfl Tryz.ntmps182 run_rl8 cok_rl8 (by simp) ?_
 have hc : cmpE x y < 0 ↔ x.a < y.a ∨ (x.a = y.a ∧ x.b < y.b) := by
  unfold cmpE cmpI
  repeat' split
  all_goals omega
 by_cases h1 : x.a < y.a
 ·rw [decide_eq_true (hc.2 (.inl h1))]
  ((conv => whnf); repeat' ((first | refine odw ?_ | refine ify ?_ | refine ifn ?_ | refine i6 ?_ | refine ati ?_ | refine mst ?_ | refine rmd ?_ | refine ibo (fun _ => ?_) (fun _ => ?_)) <;> conv => whnf))
  exact rfl
 by_cases h2 : x.a = y.a
 ·by_cases h3 : x.b < y.b
  ·rw [decide_eq_true (hc.2 (.inr ⟨h2, h3⟩))]
   ((conv => whnf); repeat' ((first | refine odw ?_ | refine ify ?_ | refine ifn ?_ | refine i6 ?_ | refine ati ?_ | refine mst ?_ | refine rmd ?_ | refine ibo (fun _ => ?_) (fun _ => ?_)) <;> conv => whnf))
   exact congrArg Da.bool (decide_eq_true h3)
  ·rw [decide_eq_false (fun h => by rcases hc.1 h with h | h; exact h1 h; exact h3 h.2)]
   ((conv => whnf); repeat' ((first | refine odw ?_ | refine ify ?_ | refine ifn ?_ | refine i6 ?_ | refine ati ?_ | refine mst ?_ | refine rmd ?_ | refine ibo (fun _ => ?_) (fun _ => ?_)) <;> conv => whnf))
   exact congrArg Da.bool (decide_eq_false h3)
 ·rw [decide_eq_false (fun h => by rcases hc.1 h with h | h; exact h1 h; exact h2 h.1)]
  ((conv => whnf); repeat' ((first | refine odw ?_ | refine ify ?_ | refine ifn ?_ | refine i6 ?_ | refine ati ?_ | refine mst ?_ | refine rmd ?_ | refine ibo (fun _ => ?_) (fun _ => ?_)) <;> conv => whnf))
  exact rfl
end Go.Proofs.YtjejpdfldmempaaGreatDoor
end
