/- Merged: Lnb Lnc. -/
import Derived.Test.YtjejpdfldmempaaGreatDoorOen
import Derived.Test.YtjejpdfldmempaaGreatDoorlgak
import Derived.Test.YtjejpdfldmempaaGreatDoorlgaj
import Derived.Test.YtjejpdfldmempaaGreatDoorlgal
import Derived.Test.YtjejpdfldmempaaGreatDoorSxu
section
namespace Go.Gr
theorem pairsN_le (d : Nat) : pairsN d ≤ d * d := by
 unfold pairsN
 have h : d * (d - 1) ≤ d * d := Nat.mul_le_mul_left d (by omega)
 omega
theorem pairs_int (d : Nat) (hd : d ≤ 32768) : 0 ≤ (d : Int) * ((d : Int) - 1) ∧ (d : Int) * ((d : Int) - 1) ≤ 1073741824 ∧ ((d : Int) * ((d : Int) - 1)).tdiv 2 = (pairsN d : Int) := by
 cases d with
 | zero => decide
 | succ d =>
   have e : ((d + 1 : Nat) : Int) * (((d + 1 : Nat) : Int) - 1) = (((d + 1) * d : Nat) : Int) := by push_cast; congr 1; omega
   rw [e]
   have h2 : (d + 1) * d ≤ 32768 * 32768 := Nat.mul_le_mul hd (by omega)
   refine ⟨by omega, by omega, ?_⟩
   rw [Int.tdiv_eq_ediv_of_nonneg (by omega)]
   unfold pairsN
   simp
theorem pairsOf_mono (E : List Edg) {v n : Nat} (h : v ≤ n) : (pairsOf E v).length ≤ (pairsOf E n).length := by
 induction n with
 | zero => have : v = 0 := by omega
           subst this; exact Nat.le_refl _
 | succ n ih =>
   rcases Nat.lt_or_ge v (n + 1) with h1 | h1
   ·have := ih (by omega); rw [pairsOf_step, List.length_append]; omega
   ·have : v = n + 1 := by omega
    subst this; exact Nat.le_refl _
theorem pairsOf_big (E : List Edg) (v : Nat) (h : ∀ u, (atD E u).length ≤ 32768) : (pairsOf E v).length ≤ v * 1073741824 := by
 induction v with
 | zero => simp [pairsOf]
 | succ v ih =>
   rw [pairsOf_step, List.length_append, pairUp_len]
   have h1 := pairsN_le (atD E v).length
   have h2 : (atD E v).length * (atD E v).length ≤ 32768 * 32768 := Nat.mul_le_mul (h v) (h v)
   omega
def pu (l : List Int) : Nat → List Edg
 | 0 => []
 | i + 1 => pu l i ++ (l.drop (i + 1)).map (fun b => ⟨(l[i]?).getD 0, b⟩)
theorem pu_cons (x : Int) (l : List Int) : ∀ i, pu (x :: l) (i + 1) = l.map (fun b => ⟨x, b⟩) ++ pu l i
 | 0 => by simp [pu]
 | i + 1 => by
   rw [pu, pu_cons x l i, pu]
   simp [List.append_assoc]
theorem pu_all : ∀ l : List Int, pu l l.length = pairUp l
 | [] => rfl
 | x :: l => by rw [List.length_cons, pu_cons, pu_all l]; rfl
theorem pu_mono (l : List Int) {i n : Nat} (h : i ≤ n) : (pu l i).length ≤ (pu l n).length := by
 induction n with
 | zero => have : i = 0 := by omega
           subst this; exact Nat.le_refl _
 | succ n ih =>
   rcases Nat.lt_or_ge i (n + 1) with h1 | h1
   ·have := ih (by omega); rw [pu, List.length_append]; omega
   ·have : i = n + 1 := by omega
    subst this; exact Nat.le_refl _
end Go.Gr
namespace Go.Proofs.YtjejpdfldmempaaGreatDoor
open Go.Sx Go.RowKit Go.Reg Go.Gr
set_option maxRecDepth 100000
theorem gr_ne {G : Gr} (h : G.Ok) : ∀ e ∈ G.edges, e.a ≠ e.b := fun e he => by have := h.edge e he; omega
theorem at_len {G : Gr} (h : G.Ok) (v : Nat) : (atD G.edges v).length = deg G.edges v := atD_len G.edges v (gr_ne h)
theorem at_le {G : Gr} (h : G.Ok) (v : Nat) : (atD G.edges v).length ≤ 32768 := by
 rw [at_len h]
 have h1 := deg_le G.edges v
 have h2 := h.esize
 omega
def pl_lpairs : List (Nat × Plan) := []
def G_lpairs : List FuncId := []
theorem cok_lpairs : codeOk Tryz.prog G_lpairs pl_lpairs (Tryz.f174.body.getD .skip) = true := by kernel_rfl
theorem run_lpairs (vs : Array Value) (w : World) : (callFunc 174 vs).run C1.P w = .ok (.enter 174 vs) w := by kernel_rfl
theorem pairs_pure (G : Gr) (hG : G.Ok) : Pure C1 174 [dG G] (fun y => y = .int .i64 (pairsOf G.edges G.labels.length).length) := by
 have hs := hG.size
 refine pure_of c1_ok (pl := pl_lpairs) (G := G_lpairs) Tryz.func174 rfl Tryz.ntmps174 run_lpairs cok_lpairs (by simp) ?_
 ((conv => whnf); repeat' ((first | refine odw ?_ | refine ify ?_ | refine ifn ?_ | refine i6 ?_ | refine ati ?_ | refine mst ?_ | refine rmd ?_ | refine ibo (fun _ => ?_) (fun _ => ?_)) <;> conv => whnf))
 refine call_pure rfl (len_pure G) ?_; rintro y rfl
 ((conv => whnf); repeat' ((first | refine odw ?_ | refine ify ?_ | refine ifn ?_ | refine i6 ?_ | refine ati ?_ | refine mst ?_ | refine rmd ?_ | refine ibo (fun _ => ?_) (fun _ => ?_)) <;> conv => whnf))
 refine loop_lo (ι := Nat) (fun v => v ≤ G.labels.length) (fun v => [(8, .d (.int .i64 v)), (7, .d (.int .i64 G.labels.length)), (3, .d (.int .i64 (pairsOf G.edges v).length)), (0, .d (dG G))]) (fun _ => []) (fun v => G.labels.length - v) 0 (fun _ => rfl) (Nat.zero_le _) (.refl _ _) ⟨rfl, rfl, rfl, rfl, trivial⟩ trivial ?_
 intro v hv
 refine sxCode_sound c1_ok (G := G_lpairs) (pl := pl_lpairs) _ _ _ _ (by kernel_rfl) ?_
 by_cases hlt : v < G.labels.length
 ·((conv => whnf); repeat' ((first | refine odw ?_ | refine ify ?_ | refine ifn ?_ | refine i6 ?_ | refine ati ?_ | refine mst ?_ | refine rmd ?_ | refine ibo (fun _ => ?_) (fun _ => ?_)) <;> conv => whnf))
  refine call_pure rfl (degree_pure G hG v) ?_; rintro y rfl
  have e : degV G v = (atD G.edges v).length := by unfold degV; rw [if_pos (by omega), Int.toNat_natCast, at_len hG]
  have hd := at_le hG v
  have hp := pairs_int (atD G.edges v).length hd
  have hb := pairsOf_big G.edges v (at_le hG)
  have hn2 := pairsN_le (atD G.edges v).length
  have hst : (pairsOf G.edges (v + 1)).length = (pairsOf G.edges v).length + pairsN (atD G.edges v).length := by rw [pairsOf_step, List.length_append, pairUp_len]
  have hbn := pairsOf_big G.edges (v + 1) (at_le hG)
  rw [e]
  generalize (atD G.edges v).length = d at *
  ((conv => whnf); repeat' ((first | refine odw ?_ | refine ify ?_ | refine ifn ?_ | refine i6 ?_ | refine ati ?_ | refine mst ?_ | refine rmd ?_ | refine ibo (fun _ => ?_) (fun _ => ?_)) <;> conv => whnf))
  exact ⟨v + 1, _, _, hlt, .refl _ _, ⟨rfl, rfl, int_is (by rw [hp.2.2, hst]; omega), rfl, trivial⟩, trivial, by omega⟩
 ·have hvn : v = G.labels.length := by omega
  subst hvn
  ((conv => whnf); repeat' ((first | refine odw ?_ | refine ify ?_ | refine ifn ?_ | refine i6 ?_ | refine ati ?_ | refine mst ?_ | refine rmd ?_ | refine ibo (fun _ => ?_) (fun _ => ?_)) <;> conv => whnf))
  exact rfl
def linesS : ByteArray := ⟨#[108, 105, 110, 101, 115]⟩
def lofY (G : Gr) : Da := if 16384 < (pairsOf G.edges G.labels.length).length then .tuple [.nilp, dS linesS (dF 6 0 graphS)] else .tuple [dG ⟨List.replicate G.edges.length 0, wantW G.edges G.edges.length⟩, .nili]
def pl_lof : List (Nat × Plan) := []
def G_lof : List FuncId := []
theorem cok_lof : codeOk Tryz.prog G_lof pl_lof (Tryz.f117.body.getD .skip) = true := by kernel_rfl
theorem run_lof (vs : Array Value) (w : World) : (callFunc 117 vs).run C1.P w = .ok (.enter 117 vs) w := by kernel_rfl
set_option maxHeartbeats 4000000 in
theorem lof_pure (G : Gr) (hG : G.Ok) (hm : G.edges.length ≤ 4096) : Pure C1 117 [dG G] (fun y => y = lofY G) := by
 have hs := hG.size
 refine pure_of c1_ok (pl := pl_lof) (G := G_lof) Tryz.func117 rfl Tryz.ntmps117 run_lof cok_lof (by simp) ?_
 ((conv => whnf); repeat' ((first | refine odw ?_ | refine ify ?_ | refine ifn ?_ | refine i6 ?_ | refine ati ?_ | refine mst ?_ | refine rmd ?_ | refine ibo (fun _ => ?_) (fun _ => ?_)) <;> conv => whnf))
 refine call_pure rfl (pairs_pure G hG) ?_; rintro y rfl
 by_cases hbig : 16384 < (pairsOf G.edges G.labels.length).length
 ·have e : lofY G = .tuple [.nilp, dS linesS (dF 6 0 graphS)] := by unfold lofY; rw [if_pos hbig]
  rw [e]
  ((conv => whnf); repeat' ((first | refine odw ?_ | refine ify ?_ | refine ifn ?_ | refine i6 ?_ | refine ati ?_ | refine mst ?_ | refine rmd ?_ | refine ibo (fun _ => ?_) (fun _ => ?_)) <;> conv => whnf))
  refine call_pure rfl (fnew_pure 6 0 graphS) ?_; rintro y rfl
  ((conv => whnf); repeat' ((first | refine odw ?_ | refine ify ?_ | refine ifn ?_ | refine i6 ?_ | refine ati ?_ | refine mst ?_ | refine rmd ?_ | refine ibo (fun _ => ?_) (fun _ => ?_)) <;> conv => whnf))
  refine call_pure rfl (in_f_pure linesS 6 0 graphS) ?_; rintro y rfl
  ((conv => whnf); repeat' ((first | refine odw ?_ | refine ify ?_ | refine ifn ?_ | refine i6 ?_ | refine ati ?_ | refine mst ?_ | refine rmd ?_ | refine ibo (fun _ => ?_) (fun _ => ?_)) <;> conv => whnf))
  exact rfl
 have e : lofY G = .tuple [dG ⟨List.replicate G.edges.length 0, wantW G.edges G.edges.length⟩, .nili] := by unfold lofY; rw [if_neg hbig]
 rw [e]
 ((conv => whnf); repeat' ((first | refine odw ?_ | refine ify ?_ | refine ifn ?_ | refine i6 ?_ | refine ati ?_ | refine mst ?_ | refine rmd ?_ | refine ibo (fun _ => ?_) (fun _ => ?_)) <;> conv => whnf))
 refine call_pure rfl (len_pure G) ?_; rintro y rfl
 ((conv => whnf); repeat' ((first | refine odw ?_ | refine ify ?_ | refine ifn ?_ | refine i6 ?_ | refine ati ?_ | refine mst ?_ | refine rmd ?_ | refine ibo (fun _ => ?_) (fun _ => ?_)) <;> conv => whnf))
 refine loop_lo (ι := Nat) (fun v => v ≤ G.labels.length) (fun v => [(20, .d (.int .i64 v)), (19, .d (.int .i64 G.labels.length)), (4, .own 300), (0, .d (dG G))]) (fun v => [(300, .slice 103 2 ((pairsOf G.edges v).map dE))]) (fun v => G.labels.length - v) 0 (fun _ => rfl) (Nat.zero_le _)
  (.own 4 300 103 2 rfl rfl (.refl _ _)) ⟨rfl, rfl, rfl, rfl, trivial⟩ ⟨rfl, trivial⟩ ?_
 intro v hv
 refine sxCode_sound c1_ok (G := G_lof) (pl := pl_lof) _ _ _ _ (by kernel_rfl) ?_
 by_cases hlt : v < G.labels.length
 ·have hcap := pairsOf_mono G.edges (show v + 1 ≤ G.labels.length by omega)
  rw [pairsOf_step, List.length_append] at hcap
  have hat : atY G v = dIs (atD G.edges v) := by unfold atY; rw [if_pos (by omega), Int.toNat_natCast]
  have hpall := pu_all (atD G.edges v)
  have hstep := pairsOf_step G.edges v
  have hl32 := at_le hG v
  ((conv => whnf); repeat' ((first | refine odw ?_ | refine ify ?_ | refine ifn ?_ | refine i6 ?_ | refine ati ?_ | refine mst ?_ | refine rmd ?_ | refine ibo (fun _ => ?_) (fun _ => ?_)) <;> conv => whnf))
  refine call_pure rfl (at_pure G hG v) ?_; rintro y rfl
  rw [hat]
  generalize atD G.edges v = l at *
  have hll : (l.map dI).length = l.length := List.length_map _
  ((conv => whnf); repeat' ((first | refine odw ?_ | refine ify ?_ | refine ifn ?_ | refine i6 ?_ | refine ati ?_ | refine mst ?_ | refine rmd ?_ | refine ibo (fun _ => ?_) (fun _ => ?_)) <;> conv => whnf))
  refine loop_lo (ι := Nat) (fun i => i ≤ l.length) (fun i => [(28, .d (.int .i64 i)), (27, .d (.int .i64 (l.map dI).length)), (26, .d (dIs l)), (6, .d (dIs l)), (20, .d (.int .i64 v)), (19, .d (.int .i64 G.labels.length)), (4, .own 300), (0, .d (dG G))])
   (fun i => [(300, .slice 103 2 ((pairsOf G.edges v ++ pu l i).map dE))]) (fun i => l.length - i) 0 (fun _ => rfl) (Nat.zero_le _) (.refl _ _) ⟨rfl, rfl, rfl, rfl, rfl, rfl, rfl, rfl, trivial⟩ ⟨slice_is (by simp [pu]), trivial⟩ ?_
  intro i hi
  refine sxCode_sound c1_ok (G := G_lof) (pl := pl_lof) _ _ _ _ (by kernel_rfl) ?_
  by_cases hil : i < l.length
  ·have hx := List.getElem?_eq_getElem hil
   have hpu : pu l (i + 1) = pu l i ++ (l.drop (i + 1)).map (fun b => ⟨l[i], b⟩) := by rw [pu, hx]; rfl
   generalize l[i] = a at hx hpu
   have hxd : (l.map dI)[i]? = some (.int .i64 a) := by rw [List.getElem?_map, hx]; rfl
   have hmn := pu_mono l (show i + 1 ≤ l.length by omega)
   rw [hpall] at hmn
   rw [hpu, List.length_append, List.length_map] at hmn
   (repeat' ((first | refine ord_ok ?_ ?_ | refine at_da hxd rfl ?_ | refine sl_is (i + 1) rfl (by rw [List.length_map]; omega) ?_ | refine ify ?_ | refine ifn ?_ | refine i6 ?_ | refine ati ?_ | refine mst ?_ | refine rmd ?_ | refine ibo (fun _ => ?_) (fun _ => ?_) | exact oend) <;> conv => whnf))
   rw [← List.map_drop]
   generalize hD : l.drop (i + 1) = D at hmn hpu ⊢
   have hDl : (D.map dI).length = D.length := List.length_map _
   refine loop_lo (ι := Nat) (fun k => k ≤ D.length) (fun k => [(38, .d (.int .i64 k)), (37, .d (.int .i64 (D.map dI).length)), (36, .d (dIs D)), (8, .d (.int .i64 a)), (28, .d (.int .i64 i)), (27, .d (.int .i64 (l.map dI).length)), (26, .d (dIs l)), (6, .d (dIs l)), (20, .d (.int .i64 v)), (19, .d (.int .i64 G.labels.length)), (4, .own 300), (0, .d (dG G))])
    (fun k => [(300, .slice 103 2 ((pairsOf G.edges v ++ pu l i ++ (D.take k).map (fun b => (⟨a, b⟩ : Edg))).map dE))]) (fun k => D.length - k) 0 (fun _ => rfl) (Nat.zero_le _) (.refl _ _) ⟨rfl, rfl, rfl, rfl, rfl, rfl, rfl, rfl, rfl, rfl, rfl, rfl, trivial⟩ ⟨slice_is (by simp), trivial⟩ ?_
   intro k hk
   refine sxCode_sound c1_ok (G := G_lof) (pl := pl_lof) _ _ _ _ (by kernel_rfl) ?_
   by_cases hkl : k < D.length
   ·have hxk := List.getElem?_eq_getElem hkl
    generalize D[k] = b at hxk
    have hxkd : (D.map dI)[k]? = some (.int .i64 b) := by rw [List.getElem?_map, hxk]; rfl
    have hfin : (pairsOf G.edges v ++ pu l i ++ (D.take k).map (fun b => (⟨a, b⟩ : Edg))).map dE ++ [.agg [.int .i64 a, .int .i64 b]] = (pairsOf G.edges v ++ pu l i ++ (D.take (k + 1)).map (fun b => (⟨a, b⟩ : Edg))).map dE := by
     rw [List.take_add_one, hxk]; simp [dE]
    (repeat' ((first | refine ord_ok ?_ ?_ | refine at_da hxkd rfl ?_ | refine ify ?_ | refine ifn ?_ | refine i6 ?_ | refine ati ?_ | refine mst ?_ | refine rmd ?_ | refine ibo (fun _ => ?_) (fun _ => ?_) | exact oend) <;> conv => whnf))
    exact ⟨k + 1, _, _, hkl, .refl _ _, ⟨rfl, rfl, rfl, rfl, rfl, rfl, rfl, rfl, rfl, rfl, rfl, rfl, trivial⟩, ⟨slice_is hfin, trivial⟩, by omega⟩
   ·have hkD : D.take k = D := List.take_of_length_le (by omega)
    rw [hkD]
    ((conv => whnf); repeat' ((first | refine odw ?_ | refine ify ?_ | refine ifn ?_ | refine i6 ?_ | refine ati ?_ | refine mst ?_ | refine rmd ?_ | refine ibo (fun _ => ?_) (fun _ => ?_)) <;> conv => whnf))
    exact ⟨i + 1, _, _, hil, .refl _ _, ⟨rfl, rfl, rfl, rfl, rfl, rfl, rfl, rfl, trivial⟩, ⟨slice_is (by rw [hpu, List.append_assoc]), trivial⟩, by omega⟩
  ·have hii : i = l.length := by omega
   subst hii
   rw [hpall]
   ((conv => whnf); repeat' ((first | refine odw ?_ | refine ify ?_ | refine ifn ?_ | refine i6 ?_ | refine ati ?_ | refine mst ?_ | refine rmd ?_ | refine ibo (fun _ => ?_) (fun _ => ?_)) <;> conv => whnf))
   exact ⟨v + 1, _, _, hlt, .refl _ _, ⟨rfl, rfl, rfl, rfl, trivial⟩, ⟨slice_is (by rw [hstep]), trivial⟩, by omega⟩
 ·have hvn : v = G.labels.length := by omega
  subst hvn
  ((conv => whnf); repeat' ((first | refine odw ?_ | refine ify ?_ | refine ifn ?_ | refine i6 ?_ | refine ati ?_ | refine mst ?_ | refine rmd ?_ | refine ibo (fun _ => ?_) (fun _ => ?_)) <;> conv => whnf))
  refine call_pure rfl (size_pure G) ?_; rintro y rfl
  (conv => whnf)
  (repeat' ((first | refine ord_ok ?_ ?_ | refine mk_ok G.edges.length rfl rfl (by omega) ?_ | refine ify ?_ | refine ifn ?_ | refine i6 ?_ | refine ati ?_ | refine mst ?_ | refine rmd ?_ | refine ibo (fun _ => ?_) (fun _ => ?_) | exact oend) <;> conv => whnf))
  have hz : List.replicate G.edges.length (dI 0) = (List.replicate G.edges.length 0).map dI := by simp
  refine call_frz 54 rfl ?_
  refine call_frz 300 rfl ?_
  refine call_pure (xs := [dIs (List.replicate G.edges.length 0), dEs (pairsOf G.edges G.labels.length)]) (by show some [Da.list 1 (List.replicate G.edges.length (dI 0)), _] = _; rw [hz]; rfl) (new_pure _ _) ?_; rintro y rfl
  rw [newY_none (lines_newErr hG hm (by omega)), lines_canon hG]
  ((conv => whnf); repeat' ((first | refine odw ?_ | refine ify ?_ | refine ifn ?_ | refine i6 ?_ | refine ati ?_ | refine mst ?_ | refine rmd ?_ | refine ibo (fun _ => ?_) (fun _ => ?_)) <;> conv => whnf))
  all_goals exact rfl
def touchV (E : List Edg) (a b : Int) : Bool := decide (0 ≤ a) && decide (0 ≤ b) && tch E a.toNat b.toNat
theorem touchV_no {E : List Edg} {a b : Int} (h : ¬ (0 ≤ a ∧ a < E.length) ∨ ¬ (0 ≤ b ∧ b < E.length) ∨ a = b) : touchV E a b = false := by
 unfold touchV tch
 by_cases ha : 0 ≤ a
 ·by_cases hb : 0 ≤ b
  ·obtain ⟨m, rfl⟩ := Int.eq_ofNat_of_zero_le ha
   obtain ⟨n, rfl⟩ := Int.eq_ofNat_of_zero_le hb
   simp only [Int.toNat_natCast]
   by_cases hm : m < E.length
   ·by_cases hn : n < E.length
    ·have : m = n := by omega
     subst this
     rw [List.getElem?_eq_getElem hm]; simp
    ·rw [List.getElem?_eq_none (l := E) (i := n) (by omega), List.getElem?_eq_getElem hm]; simp
   ·rw [List.getElem?_eq_none (l := E) (i := m) (by omega)]; simp
  ·simp [hb]
 ·simp [ha]
theorem touchV_at {E : List Edg} {m n : Nat} {x y : Edg} (hx : E[m]? = some x) (hy : E[n]? = some y) (hne : m ≠ n) : touchV E m n = (decide (x.a = y.a) || decide (x.a = y.b) || decide (x.b = y.a) || decide (x.b = y.b)) := by
 unfold touchV tch
 have h1 : (0 : Int) ≤ m := by omega
 have h2 : (0 : Int) ≤ n := by omega
 simp only [Int.toNat_natCast, hx, hy, h1, h2, decide_true, Bool.true_and, ne_eq, hne, not_false_eq_true]
def pl_ltouch : List (Nat × Plan) := []
def G_ltouch : List FuncId := []
theorem cok_ltouch : codeOk Tryz.prog G_ltouch pl_ltouch (Tryz.f192.body.getD .skip) = true := by kernel_rfl
theorem run_ltouch (vs : Array Value) (w : World) : (callFunc 192 vs).run C1.P w = .ok (.enter 192 vs) w := by kernel_rfl
set_option maxHeartbeats 1000000 in
theorem touch_pure (G : Gr) (a b : Int) : Pure C1 192 [dG G, .int .i64 a, .int .i64 b] (fun y => y = .bool (touchV G.edges a b)) := by
 refine pure_of c1_ok (pl := pl_ltouch) (G := G_ltouch) Tryz.func192 rfl Tryz.ntmps192 run_ltouch cok_ltouch (by simp) ?_
 ((conv => whnf); repeat' ((first | refine odw ?_ | refine ify ?_ | refine ifn ?_ | refine i6 ?_ | refine ati ?_ | refine mst ?_ | refine rmd ?_ | refine ibo (fun _ => ?_) (fun _ => ?_)) <;> conv => whnf))
 refine call_pure rfl (edge_pure G a) ?_; rintro y rfl
 by_cases ha : 0 ≤ a ∧ a < G.edges.length
 ·obtain ⟨m, rfl⟩ := Int.eq_ofNat_of_zero_le ha.1
  have hmm : m < G.edges.length := by omega
  have hx := List.getElem?_eq_getElem hmm
  generalize G.edges[m] = x at hx
  have e : edgeY G.edges (m : Int) = .tuple [dE x, .bool true] := by unfold edgeY; rw [if_pos ha, Int.toNat_natCast, hx]; rfl
  obtain ⟨xa, xb⟩ := x
  rw [e, show dE ⟨xa, xb⟩ = .agg [.int .i64 xa, .int .i64 xb] from rfl]
  ((conv => whnf); repeat' ((first | refine odw ?_ | refine ify ?_ | refine ifn ?_ | refine i6 ?_ | refine ati ?_ | refine mst ?_ | refine rmd ?_ | refine ibo (fun _ => ?_) (fun _ => ?_)) <;> conv => whnf))
  refine call_pure rfl (edge_pure G b) ?_; rintro y rfl
  by_cases hb : 0 ≤ b ∧ b < G.edges.length
  ·obtain ⟨n, rfl⟩ := Int.eq_ofNat_of_zero_le hb.1
   have hnn : n < G.edges.length := by omega
   have hy := List.getElem?_eq_getElem hnn
   generalize G.edges[n] = y at hy
   have e : edgeY G.edges (n : Int) = .tuple [dE y, .bool true] := by unfold edgeY; rw [if_pos hb, Int.toNat_natCast, hy]; rfl
   obtain ⟨ya, yb⟩ := y
   rw [e, show dE ⟨ya, yb⟩ = .agg [.int .i64 ya, .int .i64 yb] from rfl]
   by_cases hne : m = n
   ·rw [touchV_no (.inr (.inr (by rw [hne])))]
    ((conv => whnf); repeat' ((first | refine odw ?_ | refine ify ?_ | refine ifn ?_ | refine i6 ?_ | refine ati ?_ | refine mst ?_ | refine rmd ?_ | refine ibo (fun _ => ?_) (fun _ => ?_)) <;> conv => whnf))
    exact rfl
   ·rw [touchV_at hx hy hne]
    by_cases h1 : xa = ya
    ·((conv => whnf); repeat' ((first | refine odw ?_ | refine ify ?_ | refine ifn ?_ | refine i6 ?_ | refine ati ?_ | refine mst ?_ | refine rmd ?_ | refine ibo (fun _ => ?_) (fun _ => ?_)) <;> conv => whnf))
     exact Eq.trans (b := Da.bool true) rfl (by simp [h1])
    by_cases h2 : xa = yb
    ·((conv => whnf); repeat' ((first | refine odw ?_ | refine ify ?_ | refine ifn ?_ | refine i6 ?_ | refine ati ?_ | refine mst ?_ | refine rmd ?_ | refine ibo (fun _ => ?_) (fun _ => ?_)) <;> conv => whnf))
     exact Eq.trans (b := Da.bool true) rfl (by simp [h2])
    by_cases h3 : xb = ya
    ·((conv => whnf); repeat' ((first | refine odw ?_ | refine ify ?_ | refine ifn ?_ | refine i6 ?_ | refine ati ?_ | refine mst ?_ | refine rmd ?_ | refine ibo (fun _ => ?_) (fun _ => ?_)) <;> conv => whnf))
     exact Eq.trans (b := Da.bool true) rfl (by simp [h3])
    ·((conv => whnf); repeat' ((first | refine odw ?_ | refine ify ?_ | refine ifn ?_ | refine i6 ?_ | refine ati ?_ | refine mst ?_ | refine rmd ?_ | refine ibo (fun _ => ?_) (fun _ => ?_)) <;> conv => whnf))
     show Da.plain _ = _
     simp [Da.plain, h1, h2, h3]
  ·have e : edgeY G.edges b = .tuple [dE ⟨0, 0⟩, .bool false] := by unfold edgeY; rw [if_neg hb]
   rw [e, touchV_no (.inr (.inl hb))]
   ((conv => whnf); repeat' ((first | refine odw ?_ | refine ify ?_ | refine ifn ?_ | refine i6 ?_ | refine ati ?_ | refine mst ?_ | refine rmd ?_ | refine ibo (fun _ => ?_) (fun _ => ?_)) <;> conv => whnf))
   exact rfl
 ·have e : edgeY G.edges a = .tuple [dE ⟨0, 0⟩, .bool false] := by unfold edgeY; rw [if_neg ha]
  rw [e, touchV_no (.inl ha)]
  ((conv => whnf); repeat' ((first | refine odw ?_ | refine ify ?_ | refine ifn ?_ | refine i6 ?_ | refine ati ?_ | refine mst ?_ | refine rmd ?_ | refine ibo (fun _ => ?_) (fun _ => ?_)) <;> conv => whnf))
  refine call_pure rfl (edge_pure G b) ?_; rintro y rfl
  by_cases hb : 0 ≤ b ∧ b < G.edges.length
  ·have e : edgeY G.edges b = .tuple [dE ((G.edges[b.toNat]?).getD ⟨0, 0⟩), .bool true] := by unfold edgeY; rw [if_pos hb]
   rw [e]
   ((conv => whnf); repeat' ((first | refine odw ?_ | refine ify ?_ | refine ifn ?_ | refine i6 ?_ | refine ati ?_ | refine mst ?_ | refine rmd ?_ | refine ibo (fun _ => ?_) (fun _ => ?_)) <;> conv => whnf))
   exact rfl
  ·have e : edgeY G.edges b = .tuple [dE ⟨0, 0⟩, .bool false] := by unfold edgeY; rw [if_neg hb]
   rw [e]
   ((conv => whnf); repeat' ((first | refine odw ?_ | refine ify ?_ | refine ifn ?_ | refine i6 ?_ | refine ati ?_ | refine mst ?_ | refine rmd ?_ | refine ibo (fun _ => ?_) (fun _ => ?_)) <;> conv => whnf))
   exact rfl
theorem touchV_nat (E : List Edg) (m n : Nat) : touchV E m n = tch E m n := by
 unfold touchV
 have h1 : (0 : Int) ≤ m := by omega
 have h2 : (0 : Int) ≤ n := by omega
 simp [h1, h2]
def pl_rtouch : List (Nat × Plan) := [(3, .split 6 12 (.split 9 12 (.split 10 11 (.leaf [0, 1, 0, 0, 1, 0, 1, 0, 0, 1, 6, 6, 3, 3] [0, 2, 5, 7, 1, 3, 4, 6, 8, 9, 10, 11, 12, 13] [0, 1, 0, 7, 15, 0, 32, 0, 224, 480, 0, 1024, 4095, 8191]) (.leaf [0, 1, 0, 0, 1, 0, 1, 0, 0, 1, 6, 6, 3, 3] [0, 2, 5, 7, 1, 3, 4, 6, 8, 9, 11, 10, 12, 13] [0, 1, 0, 7, 15, 0, 32, 0, 224, 480, 2048, 0, 4095, 8191])) (.split 10 11 (.leaf [0, 1, 0, 0, 1, 0, 1, 0, 0, 1, 6, 6, 3, 3] [0, 2, 5, 7, 1, 3, 4, 6, 8, 10, 11, 12, 9, 13] [0, 1, 0, 7, 15, 0, 32, 0, 224, 7679, 0, 1024, 3199, 8191]) (.leaf [0, 1, 0, 0, 1, 0, 1, 0, 0, 1, 6, 6, 3, 3] [0, 2, 5, 7, 1, 3, 4, 6, 8, 11, 10, 12, 9, 13] [0, 1, 0, 7, 15, 0, 32, 0, 224, 7679, 2048, 0, 3199, 8191]))) (.split 10 11 (.leaf [0, 1, 0, 0, 1, 0, 1, 0, 0, 1, 6, 6, 3, 3] [0, 2, 5, 7, 1, 3, 4, 10, 11, 12, 6, 8, 9, 13] [0, 1, 0, 7, 15, 0, 7231, 0, 7423, 7679, 0, 1024, 3103, 8191]) (.leaf [0, 1, 0, 0, 1, 0, 1, 0, 0, 1, 6, 6, 3, 3] [0, 2, 5, 7, 1, 3, 4, 11, 10, 12, 6, 8, 9, 13] [0, 1, 0, 7, 15, 0, 7231, 0, 7423, 7679, 2048, 0, 3103, 8191])))]
def G_rtouch : List FuncId := []
theorem cok_rtouch : codeOk Tryz.prog G_rtouch pl_rtouch (Tryz.f120.body.getD .skip) = true := by kernel_rfl
theorem run_rtouch (vs : Array Value) (w : World) : (callFunc 120 vs).run C1.P w = .ok (.enter 120 vs) w := by kernel_rfl
set_option maxHeartbeats 1000000 in
theorem rtouch_pure (labels : List Int) (S : List Edg) (a b : Int) : Pure C1 120 [dM labels S, .int .i64 a, .int .i64 b] (fun y => y = .bool (touchV S a b)) := by
 have hl : (S.map dE).length = S.length := List.length_map _
 refine pure_of c1_ok (pl := pl_rtouch) (G := G_rtouch) Tryz.func120 rfl Tryz.ntmps120 run_rtouch cok_rtouch (by simp) ?_
 by_cases ha0 : a < 0
 ·rw [touchV_no (.inl (by omega))]
  ((conv => whnf); repeat' ((first | refine odw ?_ | refine ify ?_ | refine ifn ?_ | refine i6 ?_ | refine ati ?_ | refine mst ?_ | refine rmd ?_ | refine ibo (fun _ => ?_) (fun _ => ?_)) <;> conv => whnf))
  exact rfl
 by_cases hb0 : b < 0
 ·rw [touchV_no (.inr (.inl (by omega)))]
  ((conv => whnf); repeat' ((first | refine odw ?_ | refine ify ?_ | refine ifn ?_ | refine i6 ?_ | refine ati ?_ | refine mst ?_ | refine rmd ?_ | refine ibo (fun _ => ?_) (fun _ => ?_)) <;> conv => whnf))
  exact rfl
 by_cases ha1 : (S.length : Int) ≤ a
 ·rw [touchV_no (.inl (by omega))]
  ((conv => whnf); repeat' ((first | refine odw ?_ | refine ify ?_ | refine ifn ?_ | refine i6 ?_ | refine ati ?_ | refine mst ?_ | refine rmd ?_ | refine ibo (fun _ => ?_) (fun _ => ?_)) <;> conv => whnf))
  exact rfl
 by_cases hb1 : (S.length : Int) ≤ b
 ·rw [touchV_no (.inr (.inl (by omega)))]
  ((conv => whnf); repeat' ((first | refine odw ?_ | refine ify ?_ | refine ifn ?_ | refine i6 ?_ | refine ati ?_ | refine mst ?_ | refine rmd ?_ | refine ibo (fun _ => ?_) (fun _ => ?_)) <;> conv => whnf))
  exact rfl
 by_cases hab : a = b
 ·rw [touchV_no (.inr (.inr hab))]
  ((conv => whnf); repeat' ((first | refine odw ?_ | refine ify ?_ | refine ifn ?_ | refine i6 ?_ | refine ati ?_ | refine mst ?_ | refine rmd ?_ | refine ibo (fun _ => ?_) (fun _ => ?_)) <;> conv => whnf))
  exact rfl
 obtain ⟨m, rfl⟩ := Int.eq_ofNat_of_zero_le (show 0 ≤ a by omega)
 obtain ⟨n, rfl⟩ := Int.eq_ofNat_of_zero_le (show 0 ≤ b by omega)
 have hx := List.getElem?_eq_getElem (show m < S.length by omega)
 have hy := List.getElem?_eq_getElem (show n < S.length by omega)
 generalize S[m] = x at hx
 generalize S[n] = y at hy
 obtain ⟨xa, xb⟩ := x
 obtain ⟨ya, yb⟩ := y
 have hxd : (S.map dE)[m]? = some (.agg [.int .i64 xa, .int .i64 xb]) := by rw [List.getElem?_map, hx]; rfl
 have hyd : (S.map dE)[n]? = some (.agg [.int .i64 ya, .int .i64 yb]) := by rw [List.getElem?_map, hy]; rfl
 rw [touchV_at hx hy (by omega)]
 by_cases h1 : xa = ya
 ·(conv => whnf)
  (repeat' ((first | refine ord_ok ?_ ?_ | refine at_da hxd rfl ?_ | refine at_da hyd rfl ?_ | refine ify ?_ | refine ifn ?_ | refine i6 ?_ | refine ati ?_ | refine mst ?_ | refine rmd ?_ | refine ibo (fun _ => ?_) (fun _ => ?_) | exact oend) <;> conv => whnf))
  exact Eq.trans (b := Da.bool true) rfl (by simp [h1])
 by_cases h2 : xa = yb
 ·(conv => whnf)
  (repeat' ((first | refine ord_ok ?_ ?_ | refine at_da hxd rfl ?_ | refine at_da hyd rfl ?_ | refine ify ?_ | refine ifn ?_ | refine i6 ?_ | refine ati ?_ | refine mst ?_ | refine rmd ?_ | refine ibo (fun _ => ?_) (fun _ => ?_) | exact oend) <;> conv => whnf))
  exact Eq.trans (b := Da.bool true) rfl (by simp [h2])
 by_cases h3 : xb = ya
 ·(conv => whnf)
  (repeat' ((first | refine ord_ok ?_ ?_ | refine at_da hxd rfl ?_ | refine at_da hyd rfl ?_ | refine ify ?_ | refine ifn ?_ | refine i6 ?_ | refine ati ?_ | refine mst ?_ | refine rmd ?_ | refine ibo (fun _ => ?_) (fun _ => ?_) | exact oend) <;> conv => whnf))
  exact Eq.trans (b := Da.bool true) rfl (by simp [h3])
 ·(conv => whnf)
  (repeat' ((first | refine ord_ok ?_ ?_ | refine at_da hxd rfl ?_ | refine at_da hyd rfl ?_ | refine ify ?_ | refine ifn ?_ | refine i6 ?_ | refine ati ?_ | refine mst ?_ | refine rmd ?_ | refine ibo (fun _ => ?_) (fun _ => ?_) | exact oend) <;> conv => whnf))
  show Da.plain _ = _
  simp [Da.plain, h1, h2, h3]
theorem rowW_len (E : List Edg) (a k : Nat) : (rowW E a k).length ≤ k := by
 unfold rowW
 rw [List.length_map]
 have := List.length_filter_le (fun b => decide (a < b) && tch E a b) (List.range k)
 rwa [List.length_range] at this
theorem wantW_len (E : List Edg) (k : Nat) : (wantW E k).length ≤ k * E.length := by
 induction k with
 | zero => simp [wantW]
 | succ k ih =>
   rw [wantW_step, List.length_append, Nat.succ_mul]
   have := rowW_len E k E.length
   omega
def pl_rof : List (Nat × Plan) := []
def G_rof : List FuncId := []
theorem cok_rof : codeOk Tryz.prog G_rof pl_rof (Tryz.f78.body.getD .skip) = true := by kernel_rfl
theorem run_rof (vs : Array Value) (w : World) : (callFunc 78 vs).run C1.P w = .ok (.enter 78 vs) w := by kernel_rfl
set_option maxHeartbeats 2000000 in
theorem rof_pure (labels : List Int) (S : List Edg) (hm : S.length ≤ 4096) : Pure C1 78 [dM labels S] (fun y => y = dM (List.replicate S.length 0) (wantW S S.length)) := by
 have hl : (S.map dE).length = S.length := List.length_map _
 have hz : Da.list 1 (List.replicate S.length (dI 0)) = dIs (List.replicate S.length 0) := by simp [dIs]
 refine pure_of c1_ok (pl := pl_rof) (G := G_rof) Tryz.func78 rfl Tryz.ntmps78 run_rof cok_rof (by simp) ?_
 (conv => whnf)
 (repeat' ((first | refine ord_ok ?_ ?_ | refine mk_ok S.length (by omega) (by omega) (by omega) ?_ | refine ify ?_ | refine ifn ?_ | refine i6 ?_ | refine ati ?_ | refine mst ?_ | refine rmd ?_ | refine ibo (fun _ => ?_) (fun _ => ?_) | exact oend) <;> conv => whnf))
 refine loop_lo (ι := Nat) (fun a => a ≤ S.length) (fun a => [(4, .d (.int .i64 a)), (3, .own 3), (2, .own 2), (1, .own 1)])
  (fun a => [(1, .cells 59 [.d (dIs labels), .d (dEs S)]), (2, .cells 59 [.d .nils, .d .nils]), (3, .cells 59 [.d (dIs (List.replicate S.length 0)), .own 301]), (301, .slice 137 2 ((wantW S a).map dE))])
  (fun a => S.length - a) 0 (fun _ => rfl) (Nat.zero_le _) (.frz 9 rfl (.laxc 3 rfl (.lax (.eq hz) (.same _ .nil)) (.ownc 3 301 137 2 rfl rfl (.there _ (.here _)) (.refl _ _)))) ⟨rfl, rfl, rfl, rfl, trivial⟩ ⟨rfl, rfl, rfl, rfl, trivial⟩ ?_
 intro a ha
 refine sxCode_sound c1_ok (G := G_rof) (pl := pl_rof) _ _ _ _ (by kernel_rfl) ?_
 by_cases hal : a < S.length
 ·((conv => whnf); repeat' ((first | refine odw ?_ | refine ify ?_ | refine ifn ?_ | refine i6 ?_ | refine ati ?_ | refine mst ?_ | refine rmd ?_ | refine ibo (fun _ => ?_) (fun _ => ?_)) <;> conv => whnf))
  refine loop_lo (ι := Nat) (fun b => b ≤ S.length ∧ a < b) (fun b => [(5, .d (.int .i64 b)), (4, .d (.int .i64 a)), (3, .own 3), (2, .own 2), (1, .own 1)])
   (fun b => [(1, .cells 59 [.d (dIs labels), .d (dEs S)]), (2, .cells 59 [.d .nils, .d .nils]), (3, .cells 59 [.d (dIs (List.replicate S.length 0)), .own 301]), (301, .slice 137 2 ((wantW S a ++ rowW S a b).map dE))])
   (fun b => S.length - b) (a + 1) (fun _ => rfl) ⟨hal, Nat.lt_succ_self a⟩ (.refl _ _) ⟨rfl, rfl, rfl, rfl, rfl, trivial⟩ ⟨rfl, rfl, rfl, slice_is (by rw [rowW_start, List.append_nil]), trivial⟩ ?_
  rintro b ⟨hb, hab⟩
  refine sxCode_sound c1_ok (G := G_rof) (pl := pl_rof) _ _ _ _ (by kernel_rfl) ?_
  by_cases hbl : b < S.length
  ·have hst := rowW_step S a b
   have hb1 := rowW_len S a b
   have hb2 := wantW_len S a
   have hb3 : a * S.length ≤ 4096 * 4096 := Nat.mul_le_mul (by omega) hm
   ((conv => whnf); repeat' ((first | refine odw ?_ | refine ify ?_ | refine ifn ?_ | refine i6 ?_ | refine ati ?_ | refine mst ?_ | refine rmd ?_ | refine ibo (fun _ => ?_) (fun _ => ?_)) <;> conv => whnf))
   refine call_pure rfl (rtouch_pure labels S a b) ?_; rintro y rfl
   rw [touchV_nat]
   cases ht : tch S a b with
   | true =>
     rw [if_pos ⟨hab, ht⟩] at hst
     have hfin : (wantW S a ++ rowW S a b).map dE ++ [.agg [.int .i64 (a : Int), .int .i64 (b : Int)]] = (wantW S a ++ rowW S a (b + 1)).map dE := by rw [hst]; simp [dE]
     ((conv => whnf); repeat' ((first | refine odw ?_ | refine ify ?_ | refine ifn ?_ | refine i6 ?_ | refine ati ?_ | refine mst ?_ | refine rmd ?_ | refine ibo (fun _ => ?_) (fun _ => ?_)) <;> conv => whnf))
     exact ⟨b + 1, _, _, ⟨hbl, by omega⟩, .refl _ _, ⟨rfl, rfl, rfl, rfl, rfl, trivial⟩, ⟨rfl, rfl, rfl, slice_is hfin, trivial⟩, by omega⟩
   | false =>
     rw [if_neg (by rw [ht]; simp), List.append_nil] at hst
     ((conv => whnf); repeat' ((first | refine odw ?_ | refine ify ?_ | refine ifn ?_ | refine i6 ?_ | refine ati ?_ | refine mst ?_ | refine rmd ?_ | refine ibo (fun _ => ?_) (fun _ => ?_)) <;> conv => whnf))
     exact ⟨b + 1, _, _, ⟨hbl, by omega⟩, .refl _ _, ⟨rfl, rfl, rfl, rfl, rfl, trivial⟩, ⟨rfl, rfl, rfl, slice_is (by rw [hst]), trivial⟩, by omega⟩
  ·have hbe : b = S.length := by omega
   subst hbe
   rw [← wantW_step]
   ((conv => whnf); repeat' ((first | refine odw ?_ | refine ify ?_ | refine ifn ?_ | refine i6 ?_ | refine ati ?_ | refine mst ?_ | refine rmd ?_ | refine ibo (fun _ => ?_) (fun _ => ?_)) <;> conv => whnf))
   exact ⟨a + 1, _, _, hal, .refl _ _, ⟨rfl, rfl, rfl, rfl, trivial⟩, ⟨rfl, rfl, rfl, rfl, trivial⟩, by omega⟩
 ·have hae : a = S.length := by omega
  subst hae
  ((conv => whnf); repeat' ((first | refine odw ?_ | refine ify ?_ | refine ifn ?_ | refine i6 ?_ | refine ati ?_ | refine mst ?_ | refine rmd ?_ | refine ibo (fun _ => ?_) (fun _ => ?_)) <;> conv => whnf))
  exact rfl
end Go.Proofs.YtjejpdfldmempaaGreatDoor
end
section
namespace Go.Proofs.YtjejpdfldmempaaGreatDoor
open Go.Sx Go.RowKit Go.Reg Go.Gr
set_option maxRecDepth 100000
theorem pairs_small {G : Gr} (_hG : G.Ok) (hn : G.labels.length ≤ 10) (hm : G.edges.length ≤ 30) : (pairsOf G.edges G.labels.length).length ≤ 16384 := by
 have key : ∀ v, (pairsOf G.edges v).length ≤ v * 900 := by
  intro v
  induction v with
  | zero => simp [pairsOf]
  | succ v ih =>
    rw [pairsOf_step, List.length_append, pairUp_len]
    have h0 : (atD G.edges v).length ≤ 30 := by
     unfold atD
     rw [List.length_map]
     have := List.length_filter_le (fun p : Edg × Nat => decide (p.1.a = (v : Int) ∨ p.1.b = (v : Int))) G.edges.zipIdx
     rw [List.length_zipIdx] at this
     omega
    have h1 := pairsN_le (atD G.edges v).length
    have h2 : (atD G.edges v).length * (atD G.edges v).length ≤ 30 * 30 := Nat.mul_le_mul h0 h0
    omega
 have := key G.labels.length
 omega
def lnG (G : Gr) : Gr := ⟨List.replicate G.edges.length 0, wantW G.edges G.edges.length⟩
theorem lofY_small {G : Gr} (hG : G.Ok) (hn : G.labels.length ≤ 10) (hm : G.edges.length ≤ 30) : lofY G = .tuple [dG (lnG G), .nili] := by
 unfold lofY
 have := pairs_small hG hn hm
 rw [if_neg (by omega)]
 rfl
end Go.Proofs.YtjejpdfldmempaaGreatDoor
end
