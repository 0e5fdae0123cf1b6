/- Merged: Rfa. -/
import Derived.Test.YtjejpdfldmempaaGreatDoorOen
import Derived.Test.YtjejpdfldmempaaGreatDoorlgai
section
namespace Go.Proofs.YtjejpdfldmempaaGreatDoor
open Go.Sx Go.RowKit Go.Reg Go.Gr
set_option maxRecDepth 100000
def dM (labels : List Int) (S : List Edg) : Da := .agg [dIs labels, dEs S]
def dM0 : Da := .agg [.nils, .nils]
def pl_rturned : List (Nat × Plan) := []
def G_rturned : List FuncId := []
theorem cok_rturned : codeOk Tryz.prog G_rturned pl_rturned (Tryz.f162.body.getD .skip) = true := by kernel_rfl
theorem run_rturned (vs : Array Value) (w : World) : (callFunc 162 vs).run C1.P w = .ok (.enter 162 vs) w := by kernel_rfl
theorem rturned_pure (e : Edg) : Pure C1 162 [dE e] (fun y => y = dE (turn e)) := by
 refine pure_of c1_ok (pl := pl_rturned) (G := G_rturned) Tryz.func162 rfl Tryz.ntmps162 run_rturned cok_rturned (by simp) ?_
 by_cases h : e.b < e.a
 ·have e1 : turn e = ⟨e.b, e.a⟩ := by unfold turn; simp only [Edg.mk.injEq]; omega
  rw [e1]
  ((conv => whnf); repeat' ((first | refine odw ?_ | refine ify ?_ | refine ifn ?_ | refine i6 ?_ | refine ati ?_ | refine mst ?_ | refine rmd ?_ | refine ibo (fun _ => ?_) (fun _ => ?_)) <;> conv => whnf))
  exact rfl
 ·rw [turn_le (by omega)]
  ((conv => whnf); repeat' ((first | refine odw ?_ | refine ify ?_ | refine ifn ?_ | refine i6 ?_ | refine ati ?_ | refine mst ?_ | refine rmd ?_ | refine ibo (fun _ => ?_) (fun _ => ?_)) <;> conv => whnf))
  exact rfl
def pl_rless : List (Nat × Plan) := []
def G_rless : List FuncId := []
theorem cok_rless : codeOk Tryz.prog G_rless pl_rless (Tryz.f163.body.getD .skip) = true := by kernel_rfl
theorem run_rless (vs : Array Value) (w : World) : (callFunc 163 vs).run C1.P w = .ok (.enter 163 vs) w := by kernel_rfl
theorem rless_pure (x y : Edg) : Pure C1 163 [dE x, dE y] (fun r => r = .bool (decide (cmpE x y < 0))) := by
 refine pure_of c1_ok (pl := pl_rless) (G := G_rless) Tryz.func163 rfl Tryz.ntmps163 run_rless cok_rless (by simp) ?_
 have hc := cmpE_lt x y
 by_cases h : x.a = y.a
 ·((conv => whnf); repeat' ((first | refine odw ?_ | refine ify ?_ | refine ifn ?_ | refine i6 ?_ | refine ati ?_ | refine mst ?_ | refine rmd ?_ | refine ibo (fun _ => ?_) (fun _ => ?_)) <;> conv => whnf))
  show Da.plain _ = _
  have : (cmpE x y < 0) ↔ x.b < y.b := by rw [hc]; omega
  simp [Da.plain, this]
 ·((conv => whnf); repeat' ((first | refine odw ?_ | refine ify ?_ | refine ifn ?_ | refine i6 ?_ | refine ati ?_ | refine mst ?_ | refine rmd ?_ | refine ibo (fun _ => ?_) (fun _ => ?_)) <;> conv => whnf))
  show Da.plain _ = _
  have : (cmpE x y < 0) ↔ x.a < y.a := by rw [hc]; omega
  simp [Da.plain, this]
theorem dM_len {O : List Nat} {w : World} {labels : List Int} {S : List Edg} {v : Value} (h : Rep O w (dM labels S) v) : S.length ≤ maxLen := by
 obtain ⟨cs, r, rfl⟩ := h
 simp only [dM, dEs, RepC, RepCs] at r
 obtain ⟨_, _, _, _, c1, c2, _, ⟨a, c, css, _, h1, h2, _⟩, _⟩ := r
 rw [List.length_map] at h1
 omega
def pl_rid : List (Nat × Plan) := [(5, .leaf [0, 1, 0, 0, 1, 1, 3] [0, 2, 1, 3, 4, 5, 6] [0, 1, 0, 7, 15, 0, 63])]
def G_rid : List FuncId := []
theorem cok_rid : codeOk Tryz.prog G_rid pl_rid (Tryz.f133.body.getD .skip) = true := by kernel_rfl
theorem run_rid (vs : Array Value) (w : World) : (callFunc 133 vs).run C1.P w = .ok (.enter 133 vs) w := by kernel_rfl
theorem rid_pure (labels : List Int) (S : List Edg) (a b : Int) : Pure C1 133 [dM labels S, .int .i64 a, .int .i64 b] (fun y => y = .int .i64 (idE S (turn ⟨a, b⟩))) := by
 have hl : (S.map dE).length = S.length := List.length_map _
 refine Pure.assume (P := S.length ≤ maxLen) (fun O w us h => ?_) (fun hm => ?_)
 ·obtain ⟨v, vs, rfl, h1, _⟩ := reps_inv h
  exact dM_len h1
 unfold maxLen at hm
 refine pure_of c1_ok (pl := pl_rid) (G := G_rid) Tryz.func133 rfl Tryz.ntmps133 run_rid cok_rid (by simp) ?_
 ((conv => whnf); repeat' ((first | refine odw ?_ | refine ify ?_ | refine ifn ?_ | refine i6 ?_ | refine ati ?_ | refine mst ?_ | refine rmd ?_ | refine ibo (fun _ => ?_) (fun _ => ?_)) <;> conv => whnf))
 refine call_pure rfl (rturned_pure ⟨a, b⟩) ?_; rintro y rfl
 generalize turn ⟨a, b⟩ = t
 obtain ⟨ta, tb⟩ := t
 ((conv => whnf); repeat' ((first | refine odw ?_ | refine ify ?_ | refine ifn ?_ | refine i6 ?_ | refine ati ?_ | refine mst ?_ | refine rmd ?_ | refine ibo (fun _ => ?_) (fun _ => ?_)) <;> conv => whnf))
 refine loop_lo (ι := Nat) (fun i => i ≤ S.length ∧ ∀ x ∈ S.take i, x ≠ ⟨ta, tb⟩) (fun i => [(8, .d (.int .i64 i)), (7, .own 7), (3, .own 3)])
  (fun i => [(3, .cells 59 [.d (dIs labels), .d (dEs S)]), (7, .cells 137 [.d (.int .i64 ta), .d (.int .i64 tb)])]) (fun i => S.length - i) 0 (fun _ => rfl) ⟨Nat.zero_le _, by simp⟩ (.refl _ _) ⟨rfl, rfl, rfl, trivial⟩ ⟨rfl, rfl, trivial⟩ ?_
 rintro i ⟨hi, hne⟩
 refine sxCode_sound c1_ok (G := G_rid) (pl := pl_rid) _ _ _ _ (by kernel_rfl) ?_
 by_cases hlt : i < S.length
 ·have hx := List.getElem?_eq_getElem hlt
  generalize S[i] = x at hx
  obtain ⟨xa, xb⟩ := x
  have hxd : (S.map dE)[i]? = some (.agg [.int .i64 xa, .int .i64 xb]) := by rw [List.getElem?_map, hx]; rfl
  by_cases he : xa = ta ∧ xb = tb
  ·obtain ⟨rfl, rfl⟩ := he
   rw [idE_at hx hne]
   (repeat' ((first | refine ord_ok ?_ ?_ | refine at_da hxd rfl ?_ | refine ify ?_ | refine ifn ?_ | refine i6 ?_ | refine ati ?_ | refine mst ?_ | refine rmd ?_ | refine ibo (fun _ => ?_) (fun _ => ?_) | exact oend) <;> conv => whnf))
   exact rfl
  ·(repeat' ((first | refine ord_ok ?_ ?_ | refine at_da hxd rfl ?_ | refine ify ?_ | refine ifn ?_ | refine i6 ?_ | refine ati ?_ | refine mst ?_ | refine rmd ?_ | refine ibo (fun _ => ?_) (fun _ => ?_) | exact oend) <;> conv => whnf))
   refine ⟨i + 1, _, _, ⟨hlt, ?_⟩, .refl _ _, ⟨rfl, rfl, rfl, trivial⟩, ⟨rfl, rfl, trivial⟩, by omega⟩
   intro z hz
   rw [take_snoc hx] at hz
   rcases List.mem_append.1 hz with hz | hz
   ·exact hne z hz
   ·simp only [List.mem_singleton] at hz
    subst hz
    intro h
    exact he ⟨congrArg Edg.a h, congrArg Edg.b h⟩
 ·have hii : S.take i = S := List.take_of_length_le (by omega)
  rw [hii] at hne
  rw [idE_none (fun h => hne _ h rfl)]
  ((conv => whnf); repeat' ((first | refine odw ?_ | refine ify ?_ | refine ifn ?_ | refine i6 ?_ | refine ati ?_ | refine mst ?_ | refine rmd ?_ | refine ibo (fun _ => ?_) (fun _ => ?_)) <;> conv => whnf))
  exact rfl
def rnewY (labels : List Int) (edges : List Edg) : Da := match newErr labels edges with
 | some (c, a, _) => .tuple [dM0, .int .i64 c, .int .i64 a]
 | none => .tuple [dM labels (canon edges), .int .i64 0, .int .i64 0]
theorem rnewY_some {labels : List Int} {edges : List Edg} {c a : Int} {b : Bool} (h : newErr labels edges = some (c, a, b)) : rnewY labels edges = .tuple [dM0, .int .i64 c, .int .i64 a] := by unfold rnewY; rw [h]
theorem rnewY_none {labels : List Int} {edges : List Edg} (h : newErr labels edges = none) : rnewY labels edges = .tuple [dM labels (canon edges), .int .i64 0, .int .i64 0] := by unfold rnewY; rw [h]
theorem gcell_is {t k : Nat} {d : Dat} {a b : List Da} (h : a = b) : some (Own.cells t [d, .d (.list k a)]) = some (Own.cells t [d, .d (.list k b)]) := by rw [h]
def pl_rnew : List (Nat × Plan) := [(20, .leaf [0, 0, 1, 0, 0, 0, 0, 1, 0, 0, 1, 1, 2, 0] [0, 1, 2, 3, 4, 5, 6, 8, 7, 9, 10, 11, 12, 13] [0, 0, 2, 6, 15, 31, 63, 127, 63, 511, 1023, 63, 4095, 8191])]
def G_rnew : List FuncId := [163]
theorem cok_rnew : codeOk Tryz.prog G_rnew pl_rnew (Tryz.f112.body.getD .skip) = true := by kernel_rfl
theorem run_rnew (vs : Array Value) (w : World) : (callFunc 112 vs).run C1.P w = .ok (.enter 112 vs) w := by kernel_rfl
set_option maxHeartbeats 4000000 in
theorem rnew_pure (labels : List Int) (edges : List Edg) : Pure C1 112 [dIs labels, dEs edges] (fun y => y = rnewY labels edges) := by
 have hll : (labels.map dI).length = labels.length := List.length_map _
 have hel : (edges.map dE).length = edges.length := List.length_map _
 refine pure_of c1_ok (pl := pl_rnew) (G := G_rnew) Tryz.func112 rfl Tryz.ntmps112 run_rnew cok_rnew (by simp) ?_
 by_cases h1 : 4096 < labels.length
 ·rw [rnewY_some (newErr_large (.inl h1))]
  ((conv => whnf); repeat' ((first | refine odw ?_ | refine ify ?_ | refine ifn ?_ | refine i6 ?_ | refine ati ?_ | refine mst ?_ | refine rmd ?_ | refine ibo (fun _ => ?_) (fun _ => ?_)) <;> conv => whnf))
  exact rfl
 by_cases h2 : 16384 < edges.length
 ·rw [rnewY_some (newErr_large (.inr h2))]
  ((conv => whnf); repeat' ((first | refine odw ?_ | refine ify ?_ | refine ifn ?_ | refine i6 ?_ | refine ati ?_ | refine mst ?_ | refine rmd ?_ | refine ibo (fun _ => ?_) (fun _ => ?_)) <;> conv => whnf))
  exact rfl
 have h0 : ¬ (4096 < labels.length ∨ 16384 < edges.length) := by omega
 ((conv => whnf); repeat' ((first | refine odw ?_ | refine ify ?_ | refine ifn ?_ | refine i6 ?_ | refine ati ?_ | refine mst ?_ | refine rmd ?_ | refine ibo (fun _ => ?_) (fun _ => ?_)) <;> conv => whnf))
 refine loop_lo (ι := Nat) (fun v => v ≤ labels.length ∧ ∀ x ∈ labels.take v, badLabel x = false) (fun v => [(7, .d (.int .i64 v)), (4, .own 4), (1, .d (dEs edges)), (0, .d (dIs labels))])
  (fun _ => [(4, .cells 59 [.d .nils, .d .nils])]) (fun v => labels.length - v) 0 (fun _ => rfl) ⟨Nat.zero_le _, by simp⟩ (.refl _ _) ⟨rfl, rfl, rfl, rfl, trivial⟩ ⟨rfl, trivial⟩ ?_
 rintro v ⟨hv, hgood⟩
 refine sxCode_sound c1_ok (G := G_rnew) (pl := pl_rnew) _ _ _ _ (by kernel_rfl) ?_
 by_cases hlt : v < labels.length
 ·have hx := List.getElem?_eq_getElem hlt
  generalize labels[v] = x at hx
  have hxd : (labels.map dI)[v]? = some (.int .i64 x) := by rw [List.getElem?_map, hx]; rfl
  by_cases b1 : x < 0
  ·have hb : badLabel x = true := by simp [badLabel, b1]
   rw [rnewY_some (newErr_label h0 hx hb hgood)]
   (repeat' ((first | refine ord_ok ?_ ?_ | refine at_da hxd rfl ?_ | refine ify ?_ | refine ifn ?_ | refine i6 ?_ | refine ati ?_ | refine mst ?_ | refine rmd ?_ | refine ibo (fun _ => ?_) (fun _ => ?_) | exact oend) <;> conv => whnf))
   exact rfl
  by_cases b2 : 255 < x
  ·have hb : badLabel x = true := by simp [badLabel, b2]
   rw [rnewY_some (newErr_label h0 hx hb hgood)]
   (repeat' ((first | refine ord_ok ?_ ?_ | refine at_da hxd rfl ?_ | refine ify ?_ | refine ifn ?_ | refine i6 ?_ | refine ati ?_ | refine mst ?_ | refine rmd ?_ | refine ibo (fun _ => ?_) (fun _ => ?_) | exact oend) <;> conv => whnf))
   exact rfl
  ·have hb : badLabel x = false := by simp [badLabel]; omega
   (repeat' ((first | refine ord_ok ?_ ?_ | refine at_da hxd rfl ?_ | refine ify ?_ | refine ifn ?_ | refine i6 ?_ | refine ati ?_ | refine mst ?_ | refine rmd ?_ | refine ibo (fun _ => ?_) (fun _ => ?_) | exact oend) <;> conv => whnf))
   refine ⟨v + 1, _, _, ⟨hlt, ?_⟩, .refl _ _, ⟨rfl, rfl, rfl, rfl, trivial⟩, ⟨rfl, trivial⟩, by omega⟩
   intro z hz
   rw [List.take_add_one, hx] at hz
   rcases List.mem_append.1 hz with hz | hz
   ·exact hgood z hz
   ·simp at hz; subst hz; exact hb
 ·have hve : labels.take v = labels := List.take_of_length_le (by omega)
  rw [hve] at hgood
  have hvn : v = labels.length := by omega
  subst hvn
  clear hve hv hlt
  ((conv => whnf); repeat' ((first | refine odw ?_ | refine ify ?_ | refine ifn ?_ | refine i6 ?_ | refine ati ?_ | refine mst ?_ | refine rmd ?_ | refine ibo (fun _ => ?_) (fun _ => ?_)) <;> conv => whnf))
  refine loop_lo (ι := Nat × List Edg) (fun p => p.1 ≤ edges.length ∧ Part edges p.1 p.2 ∧ ∀ j, j < p.1 → ecodeAt labels.length edges j = 0) (fun p => [(9, .d (.int .i64 p.1)), (8, .own 8), (4, .own 4), (1, .d (dEs edges)), (0, .d (dIs labels))])
   (fun p => [(4, .cells 59 [.d .nils, .d .nils]), (8, .cells 59 [.d (dIs labels), .d (dEs p.2)])]) (fun p => edges.length - p.1) (0, []) (fun _ => rfl) ⟨Nat.zero_le _, Part.zero _, fun j hj => absurd hj (Nat.not_lt_zero j)⟩
   (.laxc 8 rfl (.same _ (.lax (.nils 2) .nil)) (.refl _ _)) ⟨rfl, rfl, rfl, rfl, rfl, trivial⟩ ⟨rfl, rfl, trivial⟩ ?_
  rintro ⟨i, S⟩ ⟨hi, hpart, hcode⟩
  simp only at hi hpart hcode
  refine sxCode_sound c1_ok (G := G_rnew) (pl := pl_rnew) _ _ _ _ (by kernel_rfl) ?_
  by_cases hlt : i < edges.length
  ·have hx := List.getElem?_eq_getElem hlt
   have hec : ecodeAt labels.length edges i = ecode labels.length ((edges.take i).map turn) edges[i] := by unfold ecodeAt; rw [hx]
   generalize edges[i] = e at hx hec
   have hmem := hpart.mem (turn e)
   have hSl : S.length = i := by rw [hpart.perm.length_eq, List.length_map, List.length_take]; omega
   have hxd : (edges.map dE)[i]? = some (dE e) := by rw [List.getElem?_map, hx]; rfl
   have hta : (turn e).a = min e.a e.b := rfl
   have htb : (turn e).b = max e.a e.b := rfl
   have htt : turn (turn e) = turn e := turn_turn e
   (repeat' ((first | refine ord_ok ?_ ?_ | refine at_da hxd rfl ?_ | refine ify ?_ | refine ifn ?_ | refine i6 ?_ | refine ati ?_ | refine mst ?_ | refine rmd ?_ | refine ibo (fun _ => ?_) (fun _ => ?_) | exact oend) <;> conv => whnf))
   refine call_pure rfl (rturned_pure e) ?_; rintro y rfl
   have hnext := fun k h1 h2 => hpart.next (k := k) hx h1 h2
   generalize htE : turn e = t at hmem hta htb htt hnext ⊢
   obtain ⟨ta, tb⟩ := t
   simp only at hta htb
   rw [show dE ⟨ta, tb⟩ = .agg [.int .i64 ta, .int .i64 tb] from rfl]
   by_cases c1 : ta < 0
   ·have hc : ecodeAt labels.length edges i = 3 := by rw [hec]; unfold ecode; rw [if_pos (.inl (by omega))]
    rw [rnewY_some (newErr_edge h0 hgood hlt (by rw [hc]; decide) hcode), hc]
    ((conv => whnf); repeat' ((first | refine odw ?_ | refine ify ?_ | refine ifn ?_ | refine i6 ?_ | refine ati ?_ | refine mst ?_ | refine rmd ?_ | refine ibo (fun _ => ?_) (fun _ => ?_)) <;> conv => whnf))
    exact rfl
   by_cases c2 : (labels.length : Int) ≤ tb
   ·have hc : ecodeAt labels.length edges i = 3 := by rw [hec]; unfold ecode; rw [if_pos (.inr (by omega))]
    rw [rnewY_some (newErr_edge h0 hgood hlt (by rw [hc]; decide) hcode), hc]
    ((conv => whnf); repeat' ((first | refine odw ?_ | refine ify ?_ | refine ifn ?_ | refine i6 ?_ | refine ati ?_ | refine mst ?_ | refine rmd ?_ | refine ibo (fun _ => ?_) (fun _ => ?_)) <;> conv => whnf))
    exact rfl
   by_cases c3 : ta = tb
   ·have hc : ecodeAt labels.length edges i = 1 := by rw [hec]; unfold ecode; rw [if_neg (by omega), if_pos (by omega)]
    rw [rnewY_some (newErr_edge h0 hgood hlt (by rw [hc]; decide) hcode), hc]
    ((conv => whnf); repeat' ((first | refine odw ?_ | refine ify ?_ | refine ifn ?_ | refine i6 ?_ | refine ati ?_ | refine mst ?_ | refine rmd ?_ | refine ibo (fun _ => ?_) (fun _ => ?_)) <;> conv => whnf))
    exact rfl
   ((conv => whnf); repeat' ((first | refine odw ?_ | refine ify ?_ | refine ifn ?_ | refine i6 ?_ | refine ati ?_ | refine mst ?_ | refine rmd ?_ | refine ibo (fun _ => ?_) (fun _ => ?_)) <;> conv => whnf))
   refine call_pure rfl (rid_pure labels S ta tb) ?_; rintro y rfl
   rw [htt]
   by_cases c4 : (⟨ta, tb⟩ : Edg) ∈ S
   ·have hc : ecodeAt labels.length edges i = 4 := by rw [hec]; unfold ecode; rw [if_neg (by omega), if_neg (by omega), if_pos (by rw [htE]; exact hmem.1 c4)]
    rw [rnewY_some (newErr_edge h0 hgood hlt (by rw [hc]; decide) hcode), hc]
    have hid := idE_nonneg.2 c4
    generalize idE S ⟨ta, tb⟩ = z at hid
    ((conv => whnf); repeat' ((first | refine odw ?_ | refine ify ?_ | refine ifn ?_ | refine i6 ?_ | refine ati ?_ | refine mst ?_ | refine rmd ?_ | refine ibo (fun _ => ?_) (fun _ => ?_)) <;> conv => whnf))
    exact rfl
   ·have hc : ecodeAt labels.length edges i = 0 := by rw [hec]; unfold ecode; rw [if_neg (by omega), if_neg (by omega), if_neg (by rw [htE]; exact fun h => c4 (hmem.2 h))]
    have hid : idE S ⟨ta, tb⟩ < 0 := by rw [idE_none c4]; decide
    generalize idE S ⟨ta, tb⟩ = z at hid
    ((conv => whnf); repeat' ((first | refine odw ?_ | refine ify ?_ | refine ifn ?_ | refine i6 ?_ | refine ati ?_ | refine mst ?_ | refine rmd ?_ | refine ibo (fun _ => ?_) (fun _ => ?_)) <;> conv => whnf))
    refine loop_lo (ι := Nat) (fun k => k ≤ S.length ∧ ∀ x ∈ S.take k, cmpE x ⟨ta, tb⟩ < 0) (fun k => [(11, .d (.int .i64 k)), (10, .own 10), (9, .d (.int .i64 i)), (8, .own 8), (4, .own 4), (1, .d (dEs edges)), (0, .d (dIs labels))])
     (fun _ => [(4, .cells 59 [.d .nils, .d .nils]), (8, .cells 59 [.d (dIs labels), .d (dEs S)]), (10, .cells 137 [.d (.int .i64 ta), .d (.int .i64 tb)])])
     (fun k => S.length - k) 0 (fun _ => rfl) ⟨Nat.zero_le _, by simp⟩ (.refl _ _) ⟨rfl, rfl, rfl, rfl, rfl, rfl, rfl, trivial⟩ ⟨rfl, rfl, rfl, trivial⟩ ?_
    rintro k ⟨hk, hkl⟩
    refine sxCode_sound c1_ok (G := G_rnew) (pl := pl_rnew) _ _ _ _ (by kernel_rfl) ?_
    have hSd : (S.map dE).length = S.length := List.length_map _
    by_cases hks : k < S.length
    ·have hxk := List.getElem?_eq_getElem hks
     generalize S[k] = x at hxk
     have hxkd : (S.map dE)[k]? = some (dE x) := by rw [List.getElem?_map, hxk]; rfl
     by_cases hl : cmpE x ⟨ta, tb⟩ < 0
     ·(repeat' ((first | refine ord_ok ?_ ?_ | refine at_da hxkd rfl ?_ | refine ify ?_ | refine ifn ?_ | refine i6 ?_ | refine ati ?_ | refine mst ?_ | refine rmd ?_ | refine ibo (fun _ => ?_) (fun _ => ?_) | exact oend) <;> conv => whnf))
      refine call_pure rfl (rless_pure x ⟨ta, tb⟩) ?_; rintro y rfl
      rw [decide_eq_true hl]
      ((conv => whnf); repeat' ((first | refine odw ?_ | refine ify ?_ | refine ifn ?_ | refine i6 ?_ | refine ati ?_ | refine mst ?_ | refine rmd ?_ | refine ibo (fun _ => ?_) (fun _ => ?_)) <;> conv => whnf))
      refine ⟨k + 1, _, _, ⟨hks, ?_⟩, .refl _ _, ⟨rfl, rfl, rfl, rfl, rfl, rfl, rfl, trivial⟩, ⟨rfl, rfl, rfl, trivial⟩, by omega⟩
      intro z hz
      rw [take_snoc hxk] at hz
      rcases List.mem_append.1 hz with hz | hz
      ·exact hkl z hz
      ·simp only [List.mem_singleton] at hz
       subst hz; exact hl
     ·have hstop : ∀ z, S[k]? = some z → ¬ cmpE z ⟨ta, tb⟩ < 0 := fun z hz => by rw [hxk] at hz; cases hz; exact hl
      (repeat' ((first | refine ord_ok ?_ ?_ | refine at_da hxkd rfl ?_ | refine ify ?_ | refine ifn ?_ | refine i6 ?_ | refine ati ?_ | refine mst ?_ | refine rmd ?_ | refine ibo (fun _ => ?_) (fun _ => ?_) | exact oend) <;> conv => whnf))
      refine call_pure rfl (rless_pure x ⟨ta, tb⟩) ?_; rintro y rfl
      rw [decide_eq_false hl]
      ((conv => whnf); repeat' ((first | refine odw ?_ | refine ify ?_ | refine ifn ?_ | refine i6 ?_ | refine ati ?_ | refine mst ?_ | refine rmd ?_ | refine ibo (fun _ => ?_) (fun _ => ?_)) <;> conv => whnf))
      (repeat' ((first | refine ord_ok ?_ ?_ | refine sl_is k rfl (by rw [List.length_map]; omega) ?_ | refine ify ?_ | refine ifn ?_ | refine i6 ?_ | refine ati ?_ | refine mst ?_ | refine rmd ?_ | refine ibo (fun _ => ?_) (fun _ => ?_) | exact oend) <;> conv => whnf))
      have hfin : ([] ++ (S.map dE).take k) ++ [.agg [.int .i64 ta, .int .i64 tb]] ++ (S.map dE).drop k = (insAt S k ⟨ta, tb⟩).map dE := by simp [insAt, dE]
      refine ⟨(i + 1, insAt S k ⟨ta, tb⟩), _, _, ⟨hlt, hnext k c4 hkl hstop, ?_⟩, .frz 99 rfl (.refl _ _), ⟨rfl, rfl, rfl, rfl, rfl, trivial⟩, ⟨rfl, gcell_is hfin, trivial⟩, by simp only; omega⟩
      intro j hj
      rcases Nat.lt_succ_iff_lt_or_eq.1 hj with h | h
      ·exact hcode j h
      ·rw [h]; exact hc
    ·have hke : k = S.length := by omega
     have hstop : ∀ z, S[k]? = some z → ¬ cmpE z ⟨ta, tb⟩ < 0 := fun z hz => by rw [List.getElem?_eq_none (by omega)] at hz; cases hz
     (repeat' ((first | refine ord_ok ?_ ?_ | refine sl_is k rfl (by rw [List.length_map]; omega) ?_ | refine ify ?_ | refine ifn ?_ | refine i6 ?_ | refine ati ?_ | refine mst ?_ | refine rmd ?_ | refine ibo (fun _ => ?_) (fun _ => ?_) | exact oend) <;> conv => whnf))
     have hfin : ([] ++ (S.map dE).take k) ++ [.agg [.int .i64 ta, .int .i64 tb]] ++ (S.map dE).drop k = (insAt S k ⟨ta, tb⟩).map dE := by simp [insAt, dE]
     refine ⟨(i + 1, insAt S k ⟨ta, tb⟩), _, _, ⟨hlt, hnext k c4 hkl hstop, ?_⟩, .frz 99 rfl (.refl _ _), ⟨rfl, rfl, rfl, rfl, rfl, trivial⟩, ⟨rfl, gcell_is hfin, trivial⟩, by simp only; omega⟩
     intro j hj
     rcases Nat.lt_succ_iff_lt_or_eq.1 hj with h | h
     ·exact hcode j h
     ·rw [h]; exact hc
  ·have hin : i = edges.length := by omega
   subst hin
   obtain rfl := hpart.all (Nat.le_refl _)
   rw [rnewY_none (newErr_none h0 hgood hcode)]
   ((conv => whnf); repeat' ((first | refine odw ?_ | refine ify ?_ | refine ifn ?_ | refine i6 ?_ | refine ati ?_ | refine mst ?_ | refine rmd ?_ | refine ibo (fun _ => ?_) (fun _ => ?_)) <;> conv => whnf))
   exact rfl
def pl_lawof : List (Nat × Plan) := []
def G_lawof : List FuncId := []
theorem cok_lawof : codeOk Tryz.prog G_lawof pl_lawof (Tryz.f46.body.getD .skip) = true := by kernel_rfl
theorem run_lawof (vs : Array Value) (w : World) : (callFunc 46 vs).run C1.P w = .ok (.enter 46 vs) w := by kernel_rfl
theorem lawof_pure (edges : List Edg) (hm : edges.length ≤ 4294967296) : Pure C1 46 [dEs edges] (fun y => y = dEs edges) := by
 have hel : (edges.map dE).length = edges.length := List.length_map _
 refine pure_of c1_ok (pl := pl_lawof) (G := G_lawof) Tryz.func46 rfl Tryz.ntmps46 run_lawof cok_lawof (by simp) ?_
 ((conv => whnf); repeat' ((first | refine odw ?_ | refine ify ?_ | refine ifn ?_ | refine i6 ?_ | refine ati ?_ | refine mst ?_ | refine rmd ?_ | refine ibo (fun _ => ?_) (fun _ => ?_)) <;> conv => whnf))
 refine loop_lo (ι := Nat) (fun i => i ≤ edges.length) (fun i => [(4, .d (.int .i64 i)), (3, .own 300), (0, .d (dEs edges))]) (fun i => [(300, .slice 103 2 ((edges.take i).map dE))]) (fun i => edges.length - i) 0 (fun _ => rfl) (Nat.zero_le _)
  (.own 3 300 103 2 rfl rfl (.refl _ _)) ⟨rfl, rfl, rfl, trivial⟩ ⟨rfl, trivial⟩ ?_
 intro i hi
 refine sxCode_sound c1_ok (G := G_lawof) (pl := pl_lawof) _ _ _ _ (by kernel_rfl) ?_
 by_cases hlt : i < edges.length
 ·have hx := List.getElem?_eq_getElem hlt
  generalize edges[i] = e at hx
  have hxd : (edges.map dE)[i]? = some (dE e) := by rw [List.getElem?_map, hx]; rfl
  have htl : (edges.take i).length = i := by rw [List.length_take]; omega
  (repeat' ((first | refine ord_ok ?_ ?_ | refine at_da hxd rfl ?_ | refine ify ?_ | refine ifn ?_ | refine i6 ?_ | refine ati ?_ | refine mst ?_ | refine rmd ?_ | refine ibo (fun _ => ?_) (fun _ => ?_) | exact oend) <;> conv => whnf))
  have hfin : (edges.take i).map dE ++ [dE e] = (edges.take (i + 1)).map dE := by rw [take_snoc hx, List.map_append]; rfl
  exact ⟨i + 1, _, _, hlt, .refl _ _, ⟨rfl, rfl, rfl, trivial⟩, ⟨slice_is hfin, trivial⟩, by omega⟩
 ·have hii : edges.take i = edges := List.take_of_length_le (by omega)
  rw [hii]
  ((conv => whnf); repeat' ((first | refine odw ?_ | refine ify ?_ | refine ifn ?_ | refine i6 ?_ | refine ati ?_ | refine mst ?_ | refine rmd ?_ | refine ibo (fun _ => ?_) (fun _ => ?_)) <;> conv => whnf))
  exact rfl
def madeG (labels : List Int) (edges : List Edg) : Option Gr := if labels.length ≤ 10 ∧ edges.length ≤ 30 then (match newErr labels edges with | some _ => none | none => some ⟨labels, canon edges⟩) else none
def madeY (labels : List Int) (edges : List Edg) : Da := match madeG labels edges with
 | some G => .tuple [dG G, dM G.labels G.edges, .bool true]
 | none => .tuple [.nilp, dM0, .bool false]
theorem madeG_some {labels : List Int} {edges : List Edg} {G : Gr} (h : madeG labels edges = some G) : G = ⟨labels, canon edges⟩ ∧ G.Ok ∧ labels.length ≤ 10 ∧ edges.length ≤ 30 ∧ newErr labels edges = none := by
 unfold madeG at h
 split at h
 ·rename_i hl
  split at h
  ·cases h
  ·rename_i hn
   cases h
   exact ⟨rfl, canon_ok hn, hl.1, hl.2, hn⟩
 ·cases h
def pl_made : List (Nat × Plan) := [(5, .leaf [0, 1, 0, 0, 0, 0, 0, 0, 0, 3, 0] [0, 2, 3, 4, 5, 6, 7, 8, 1, 9, 10] [0, 0, 0, 4, 12, 28, 60, 124, 29, 287, 1023])]
def G_made : List FuncId := []
theorem cok_made : codeOk Tryz.prog G_made pl_made (Tryz.f72.body.getD .skip) = true := by kernel_rfl
theorem run_made (vs : Array Value) (w : World) : (callFunc 72 vs).run C1.P w = .ok (.enter 72 vs) w := by kernel_rfl
theorem made_pure (labels : List Int) (edges : List Edg) : Pure C1 72 [dIs labels, dEs edges] (fun y => y = madeY labels edges) := by
 have hll : (labels.map dI).length = labels.length := List.length_map _
 have hel : (edges.map dE).length = edges.length := List.length_map _
 refine pure_of c1_ok (pl := pl_made) (G := G_made) Tryz.func72 rfl Tryz.ntmps72 run_made cok_made (by simp) ?_
 by_cases h1 : 10 < labels.length
 ·have e : madeY labels edges = .tuple [.nilp, dM0, .bool false] := by unfold madeY madeG; rw [if_neg (by omega)]
  rw [e]
  ((conv => whnf); repeat' ((first | refine odw ?_ | refine ify ?_ | refine ifn ?_ | refine i6 ?_ | refine ati ?_ | refine mst ?_ | refine rmd ?_ | refine ibo (fun _ => ?_) (fun _ => ?_)) <;> conv => whnf))
  exact rfl
 by_cases h2 : 30 < edges.length
 ·have e : madeY labels edges = .tuple [.nilp, dM0, .bool false] := by unfold madeY madeG; rw [if_neg (by omega)]
  rw [e]
  ((conv => whnf); repeat' ((first | refine odw ?_ | refine ify ?_ | refine ifn ?_ | refine i6 ?_ | refine ati ?_ | refine mst ?_ | refine rmd ?_ | refine ibo (fun _ => ?_) (fun _ => ?_)) <;> conv => whnf))
  exact rfl
 ((conv => whnf); repeat' ((first | refine odw ?_ | refine ify ?_ | refine ifn ?_ | refine i6 ?_ | refine ati ?_ | refine mst ?_ | refine rmd ?_ | refine ibo (fun _ => ?_) (fun _ => ?_)) <;> conv => whnf))
 refine call_pure rfl (rnew_pure labels edges) ?_; rintro y rfl
 rcases hn : newErr labels edges with _ | ⟨c, a, b⟩
 ·have e : madeY labels edges = .tuple [dG ⟨labels, canon edges⟩, dM labels (canon edges), .bool true] := by unfold madeY madeG; rw [if_pos (by omega), hn]
  rw [e, rnewY_none hn]
  ((conv => whnf); repeat' ((first | refine odw ?_ | refine ify ?_ | refine ifn ?_ | refine i6 ?_ | refine ati ?_ | refine mst ?_ | refine rmd ?_ | refine ibo (fun _ => ?_) (fun _ => ?_)) <;> conv => whnf))
  refine call_pure rfl (lawof_pure edges (by omega)) ?_; rintro y rfl
  ((conv => whnf); repeat' ((first | refine odw ?_ | refine ify ?_ | refine ifn ?_ | refine i6 ?_ | refine ati ?_ | refine mst ?_ | refine rmd ?_ | refine ibo (fun _ => ?_) (fun _ => ?_)) <;> conv => whnf))
  refine call_pure rfl (new_pure labels edges) ?_; rintro y rfl
  rw [newY_none hn]
  ((conv => whnf); repeat' ((first | refine odw ?_ | refine ify ?_ | refine ifn ?_ | refine i6 ?_ | refine ati ?_ | refine mst ?_ | refine rmd ?_ | refine ibo (fun _ => ?_) (fun _ => ?_)) <;> conv => whnf))
  all_goals exact rfl
 ·have e : madeY labels edges = .tuple [.nilp, dM0, .bool false] := by unfold madeY madeG; rw [if_pos (by omega), hn]
  rw [e, rnewY_some hn]
  ((conv => whnf); repeat' ((first | refine odw ?_ | refine ify ?_ | refine ifn ?_ | refine i6 ?_ | refine ati ?_ | refine mst ?_ | refine rmd ?_ | refine ibo (fun _ => ?_) (fun _ => ?_)) <;> conv => whnf))
  refine call_pure rfl (lawof_pure edges (by omega)) ?_; rintro y rfl
  ((conv => whnf); repeat' ((first | refine odw ?_ | refine ify ?_ | refine ifn ?_ | refine i6 ?_ | refine ati ?_ | refine mst ?_ | refine rmd ?_ | refine ibo (fun _ => ?_) (fun _ => ?_)) <;> conv => whnf))
  refine call_pure rfl (new_pure labels edges) ?_; rintro y rfl
  rw [newY_some hn]
  cases b
  ·((conv => whnf); repeat' ((first | refine odw ?_ | refine ify ?_ | refine ifn ?_ | refine i6 ?_ | refine ati ?_ | refine mst ?_ | refine rmd ?_ | refine ibo (fun _ => ?_) (fun _ => ?_)) <;> conv => whnf))
   all_goals exact rfl
  ·((conv => whnf); repeat' ((first | refine odw ?_ | refine ify ?_ | refine ifn ?_ | refine i6 ?_ | refine ati ?_ | refine mst ?_ | refine rmd ?_ | refine ibo (fun _ => ?_) (fun _ => ?_)) <;> conv => whnf))
   all_goals exact rfl
theorem made_case (labels : List Int) (edges : List Edg) : madeY labels edges = .tuple [.nilp, dM0, .bool false] ∨
  ∃ G : Gr, madeY labels edges = .tuple [dG G, dM G.labels G.edges, .bool true] ∧ G.Ok ∧ G.labels.length ≤ 10 ∧ G.edges.length ≤ 30 ∧ G = ⟨labels, canon edges⟩ ∧ newErr labels edges = none ∧ edges.length = G.edges.length := by
 rcases h : madeG labels edges with _ | G
 ·left; unfold madeY; rw [h]
 ·right
  obtain ⟨h1, h2, h3, h4, h5⟩ := madeG_some h
  refine ⟨G, by unfold madeY; rw [h], h2, ?_, ?_, h1, h5, ?_⟩
  ·rw [h1]; exact h3
  ·rw [h1]; simp only; rw [canon_len]; exact h4
  ·rw [h1]; simp only; rw [canon_len]
end Go.Proofs.YtjejpdfldmempaaGreatDoor
end
